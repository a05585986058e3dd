/- What is proved here: what functions of the program compute, and what follows; no condition beyond each theorem's own. -/
import Derived.Conc.AppendEvents3
import Derived.Conc.AppendWalk
import Derived.Conc.CrowdSel
import Derived.Conc.CrowdSpec
import Derived.Conc.FxGenLone
import Derived.Conc.WgLib
import Derived.Great.BuildSlice
import Derived.KernelRfl
import Derived.Laws.CopyRow
import Derived.Laws.MakeOwn
import Derived.Test.YtfnijfdfhgpimaaGreatDoorWa
set_option linter.all false
noncomputable section
set_option maxHeartbeats 0
open Array renaming append_assoc->TS,ext'->T0,forIn_toList->aht,getD->my,getElem?_range->U5,range->MV,replicate->kx,size_append->ahe
open Bool renaming false->L,true->N
open Exists renaming imp->afw
open Go renaming Act->e7,Addr->gP,Event->hB,GoStatus->M1,Goroutine->dN,IntKind->pK,Oper->gC,Operand->fu,Program->el,Trace->j1,TypeId->eH,Value->dp,World->c',binOp->jo,invoke->ij,partners->A6,resolve->ii
open Go.Addr renaming add->oN
open Go.Builtin renaming append_->h9,firstCells->k_,growBy->Iy,lenOf->pZ,nextslicecap->wc,zeroCells->n6
open Go.CallKind renaming early->ze
open Go.Conc renaming Neutral->xE,crowd_waits->TZ,finishComm_parked->aft,finishPartner_at->afs,getElem?_stand->TR,offersAt_of_not_blocked->afx,runT_crowd_comm->afr,served->xi,ways_recv_none->afE,woken->Hl
open Go.ConcN renaming AsideCell->DY,AtD1->Hk,AtK1->Ts,AtR0->L5,PayAt->L9
open Go.ConcN.RelBy renaming new->aeW
open Go.ConcR renaming Payload->A1,WgAt->gu,again_blocked->aeX,mk->aeV
open Go.Deferred renaming ofValue->sd
open Go.Instr renaming alloc->agN,build->zc,buildSlice->HV,fill->Ue,loadAt->sc,makeFunc->ahi,slice->xu,sliceAt->m1,sliceBounds->pT,sureAddr->lA
open Go.IntKind renaming i64->sj,wrap->kU
open Go.MemAct renaming ofEvent->mq,touch?->k6
open Go.MemOp renaming ofEvents->gR
open Go.Op renaming equalIn->n2,intArith->ahu,intDiv->Ng,stringOp->Ut,unary->E1
open Go.Question renaming cut->Iz,forced->un
open Go.Region renaming noSelect->M6,ready->ms,wanted->jf
open Go.Sem renaming run->Hr
open Go.World renaming block_lt_of_cell?->agG,cell?->j3,setChan->D6
open List renaming forIn_cons->ahr,length->pY,replicate->eL
open List.cons renaming inj->M3
open Nat renaming add_sub_cancel_left->ahg,beq->d2,ble->hn,mul_add_mod->Ip,mul_comm->Io,mul_eq_zero->U7,rec->HZ,strongRecOn->s6,zero_sub->Vq
open Option renaming none->cM,some->U
open Prod.mk renaming injEq->IA
open _root_ renaming Array->ea,Bool->dh,False->dA,Fin->eK,Int->I,List->J,Nat->V,Option->dB,absurd->dQ,rfl->Z,trivial->dU
namespace Go.Lk
def um:=@Array.getD_eq_getD_getElem?
def ER:=@Array.getElem?_toList
def BP:=@Conc.events_askRoom
def Bu:=@Conc.seen_none
def kE:=@Result.evThen_ok
def Iq:=@events_load
def Ij:=@events_store
def Ii:=@run_store
def BM:=@List.drop_drop
def rk:=@List.drop_eq_getElem_cons
def IB:=@List.eq_nil_of_length_eq_zero
def EP:=@List.ext_getElem?
def Hv:=@List.getElem?_drop
def In:=@List.getElem?_range
def zo:=@List.getElem?_replicate
def wa:=@List.getElem?_take
def hS:=@List.getElem_mem
def EU:=@List.length_nil
def EY:=@List.length_pos_iff
def uO:=@List.length_replicate
def kg:=@List.mem_iff_getElem
def lE:=@List.mem_singleton
def BO:=@Nat.add_zero
def nq:=@Nat.mod_eq_of_lt
def ES:=@Nat.one_mul
def e3:=@Nat.zero_le
def uN:=@Option.map_none
def eR:=@congrArg
open Go.RowKit
def hE{α:Type}(P:el)(s:Sem α):Prop:=∀(w:c') (es:ea hB),s.events P w es=es
section
variable {α xt:Type} {P:el}
theorem ed.at{s:Sem α}(h:ed s):hE P s:=h P
theorem hE.bind{s}{f:α->Sem xt}(h:hE P s)(k:∀w a w',s.run P w=.ok a w'->hE P (f a)):hE P (s>>=f):=λw es=>by
 rw[jn,h w es]
 cases dI:s.run P w with|ok a w'=>exact k w a w' dI w' es|halt x w'=>rfl
theorem hE.Vu{c f}(h:∀(a) (b:c),hE P (f a b)):∀(l:J α) (b),hE P (forIn l b f)
 | [],b=>SZ
 |a::l,b=>by
  rw[ahr];refine .bind (h a b) λ_ s _ _=>?_
  cases s with|done b=>exact ed.at (.pure _)|yield b=>exact hE.Vu h l b
theorem hE.ahs{c f}(h:∀(a) (b:c),hE P (f a b))(l:ea α)(b):hE P (forIn l b f):=by rw[<-aht];exact .Vu h _ _
end
def Vv:dp->Prop
 | .pointer _=>dA
 | .agg cs=>∀c∈cs,∀p,c≠.pointer p
 |_=>True
section
variable {P:el} {T:fL} (cS:jB P T)
include cS
omit cS in
theorem E0{t u}(b:P.underlying t=U u)(a:(∃k,u=.int k) \/u=.string\/u=.bool)(d){x y}(c:Vv x)(e:Vv y):hE P (n2 (d+1) t x y):=by
 unfold n2;refine .bind (ed.at (.underlying _)) λw v w' h=>?_;rw[fv b]at h
 cases h
 rcases a with⟨k,rfl⟩|rfl|rfl
 all_goals
  split
  all_goals first
   |exact ed.at (.pure _)
   |exact ed.at (.stuck _)
   |exact ed.at (.ite (.pure _) (.stuck _))
   |exact c.elim
   |exact e.elim
   |(exfalso;rename_i c_;first|(cases c_;done)|simp at c_)
   |skip
omit cS in
theorem hE.Vw{α c:Type}{f}:∀(l:J α) (b:c),(∀a∈l,∀b,hE P (f a b))->hE P (forIn l b f)
 | [],b,_=>SZ
 |a::l,b,h=>by
  rw[ahr];refine .bind (h a (mz ..) b) λ_ s _ _=>?_
  cases s with|done b=>exact ed.at (.pure _)|yield b=>exact hE.Vw l b λa dq=>h a (lD _ dq)
omit cS in
theorem hE.ite{α c}[Decidable c]{x y:Sem α}(h:c->hE P x)(k:¬c->hE P y):hE P (if c then x else y):=by grind
include cS in
theorem Vx:∀ (n) (t) (x y) (K),oF T n t x y K->
  ∀ (M) (D) (vs us),vs.size=x.length->us.size=y.length->(∀ (i:V) (a) (v),x[i]?=U a->vs[i]?=U v->dV M D a v)->
   (∀ (i:V) (a) (v),y[i]?=U a->us[i]?=U v->dV M D a v)->∀ (d),n<=d->
   hE P (n2 (d+1) t (if (T t).k.agg then .agg vs else vs.getD 0 undef) (if (T t).k.agg then .agg us else us.getD 0 undef))
 |0,t,x,y,K,h=>by simp [oF] at h
 |n+1,t,x,y,K,h=>by
  simp only [oF] at h
  split at h
  ·rename_i k c6;have j:=vB cS c6
   split at h
   ·rename_i k1 a
    split at h
    ·rename_i eF b;intro M D vs us dw c cP l d _;have s:=kr (cP 0 _ (vs.getD 0 undef) Z (by simp [my,dw]));have u:=kr (l 0 _ (us.getD 0 undef) Z (by simp [my,c]));simp only [c6,nU.agg,rh,qp];rw [s,u];exact E0 j (.inl ⟨_,Z⟩) d dU dU
    ·exact h.elim
   ·exact h.elim
  ·rename_i c6;have j:=v5 cS c6
   split at h
   ·rename_i a
    split at h
    ·rename_i b;intro M D vs us dw c cP l d _;have s:=sg (cP 0 _ (vs.getD 0 undef) Z (by simp [my,dw]));have u:=sg (l 0 _ (us.getD 0 undef) Z (by simp [my,c]));simp only [c6,nU.agg,rh,qp];rw [s,u];exact E0 j (.inr (.inl Z)) d dU dU
    ·exact h.elim
   ·exact h.elim
  ·rename_i c6;have j:=xw cS c6
   split at h
   ·rename_i a
    split at h
    ·rename_i b;obtain ⟨p,h,O⟩:=uK h;obtain ⟨q,h,C⟩:=uK h;intro M D vs us dw c cP l d _;have s:=O M D _ (cP 0 _ (vs.getD 0 undef) Z (by simp [my,dw]));have u:=C M D _ (l 0 _ (us.getD 0 undef) Z (by simp [my,c]));simp only [c6,nU.agg,rh,qp];rw [s,u];exact E0 j (.inr (.inr Z)) d dU dU
    ·exact h.elim
   ·exact h.elim
  ·rename_i ir c6;obtain ⟨F,j,E,aa,ab⟩:=By cS c6;intro M D vs us dw c cP l d ac
   have A:∀ (G:J Field) (K:dh->Prop),oF.fields T (fun t x y K=>oF T n t x y K) (G.map fun f=>(f.offset,f.type)) x y K->
     ∀ f∈G,(T f.type).k.known=N/\f.offset+(T f.type).size<=x.length/\f.offset+(T f.type).size<=y.length/\
      hE P (n2 d f.type (if (T f.type).k.agg then .agg (vs.extract f.offset (f.offset+(T f.type).size)) else (vs.extract f.offset (f.offset+(T f.type).size)).getD 0 undef)
       (if (T f.type).k.agg then .agg (us.extract f.offset (f.offset+(T f.type).size)) else (us.extract f.offset (f.offset+(T f.type).size)).getD 0 undef)):=by
    intro G
    induction G with
    |nil=>intro K h f ee;cases ee
    |cons g G H=>
     intro K h f ee;simp only [kD,oF.fields] at h
     cases hb:(hn (g.offset+(T g.type).size) x.length&&hn (g.offset+(T g.type).size) y.length) with
     |false=>simp [hb] at h
     |true=>
      simp only [hb,fE] at h;simp only [lB,Nat.ble_eq] at hb;obtain ⟨z,b,c5,ad⟩:=H5 cS n _ _ _ _ h
      rcases m3.1 ee with rfl|ee
      ·obtain ⟨s1,d1⟩:=H4 dw cP f.offset (T f.type).size hb.1;obtain ⟨s2,I⟩:=H4 c l f.offset (T f.type).size hb.2;obtain ⟨d,rfl⟩:∃ e,d=e+1:=⟨d-1,by omega⟩;exact ⟨z,hb.1,hb.2,Vx n _ _ _ _ h M D _ _ s1 s2 d1 I d (by omega)⟩
      ·exact H _ c5 f ee
   have A:=A F.toList K (by rw [E];exact h);simp only [c6,nU.agg,ni];unfold n2
   refine .bind (ed.at (.underlying _)) fun w v w' dI=>?_
   rw [fv j] at dI
   cases dI
   simp only
   refine .bind (ed.at .program) fun _ p _ _=>?_
   refine .ite (fun _=>?_) (fun _=>?_)
   ·exact .bind (ed.at (.unsupported _)) fun w a w' dI=>by cases dI
   ·refine .bind ?_ fun _ r _ _=>?_
    ·rw [<-aht]
     refine hE.Vw _ _ fun f ee b=>?_
     obtain ⟨z,R,S,W⟩:=A f ee
     have B:∀ (w:c') (o:ea dp) (m:V),o.size=m->f.offset+(T f.type).size<=m->
       (part f.type o f.offset).run P w=.ok (if (T f.type).k.agg then .agg (o.extract f.offset (f.offset+(T f.type).size)) else (o.extract f.offset (f.offset+(T f.type).size)).getD 0 undef) w:=by
      intro w o m ae af;simp only [part,g2,Bz cS w z,g7]
      cases X:(T f.type).k.agg with
      |true=>simp [iu cS w z]
      |false=>
       have:=xx cS z X;simp only [rh,qp]
       have Y:f.offset<o.size:=by omega
       simp [yU Y,this,my,show min (f.offset+1) o.size-f.offset=1 by omega]
     refine .ite (fun _=>?_) (fun _=>ed.at (.pure _))
     refine .bind (ed.at (.part _ _ _)) fun w ag w1 Q=>?_
     rw [B w vs _ dw R] at Q
     cases Q
     refine .bind (ed.at (.part _ _ _)) fun w ah w2 c5=>?_
     rw [B w us _ c S] at c5
     cases c5
     exact .bind W fun _ r _ _=>ed.at (.ite (.pure _) (.pure _))
    ·split<;>exact ed.at (.pure _)
  ·exact h.elim
end
theorem Vy(o k a b):ed (ahu o k a b):=by unfold ahu;split<;>first|exact .pure _|exact .stuck _
theorem ahv(o k a b):ed (Ng o k a b):=by
 unfold Ng;split
 .exact .runtimePanic _
 .split<;>first|exact .pure _|exact .stuck _
theorem Vz(o k a b):ed (Op.intBits o k a b):=by unfold Op.intBits;dsimp only;split<;>first|exact .pure _|exact .stuck _
theorem ahw(o a b):ed (Op.intCmp o a b):=by unfold Op.intCmp;split<;>first|exact .pure _|exact .stuck _
theorem ahx(o k fr a b):ed (Op.shift o k a fr b):=by
 unfold Op.shift;split
 .exact .runtimePanic _
 .dsimp only;split<;>first|exact .pure _|exact .stuck _
theorem ahy(o a b):ed (Ut o a b):=by
 unfold Ut;dsimp only
 split
 .exact .ite (.unsupported _) (.pure _)
 all_goals first|exact .pure _|exact .stuck _
theorem ahz(o t k fr a b):ed (jo o t (.int k a) (.int fr b)):=by
 cases o<;>simp only[jo]<;>first
  |exact ahx _ _ _ _ _
  |exact .ite (.stuck _) (Vy _ _ _ _)
  |exact .ite (.stuck _) (ahv _ _ _ _)
  |exact .ite (.stuck _) (Vz _ _ _ _)
  |exact .ite (.stuck _) (ahw _ _ _)
theorem ahA(o t a b):ed (jo o t (.string a) (.string b)):=by cases o<;>(unfold jo;exact ahy _ _ _)
theorem zs(o t X Y a b)(h:a≠.nilIface)(d:∀c,a≠.agg c):ed (eqGuard o t X Y a b):=by
 unfold eqGuard;refine .ite (.pure _) ?_;split
 .simp_all
 .simp_all
 .exact .pure _
theorem IC(o x):ed (E1 o x):=by
 unfold E1
 split<;>first|exact .pure _|exact Vy _ _ _ _|exact Vz _ _ _ _|exact .unsupported _|exact .stuck _
section
variable {P:el} {T:fL} (cS:jB P T)
theorem hE.bind'{α xt s}{f:α->Sem xt}(h:hE P s)(k:∀a,hE P (f a)):hE P (s>>=f):=h.bind λ_ a _ _=>k a
theorem NO{t}(u:P.underlying t=U .bool)(o)(c:o=.eql\/o=.neq)(X Y a b):hE P (do eqGuard o t X Y (.bool a) (.bool b);jo o t (.bool a) (.bool b):Sem dp):=by
 refine .bind' (ed.at (zs _ _ _ _ _ _ dt dt)) λ_=>?_;rcases c with rfl|rfl
 .exact .bind' (E0 u (.inr (.inr Z)) 9999 dU dU) λ_=>ed.at (.pure _)
 .exact .bind' (E0 u (.inr (.inr Z)) 9999 dU dU) λ_=>ed.at (.pure _)
theorem ahB{t}(g:P.eqGuardType P.depth t=L)(o X Y vs u):hE P (eqGuard o t X Y (.agg vs) (.agg u)):=by
 unfold eqGuard;refine .ite (λ_=>ed.at (.pure _)) λ_=>.bind (ed.at .program) λw p w' h=>?_
 cases h
 refine .bind (ed.at .program) λw p w' h=>?_
 cases h
 simp[g,Bool.not_false,ni];exact ed.at (.pure _)
include cS in
theorem ahC{t op x y K}(h:Ef T t op x y K):∀M D v u,dV M D x v->dV M D y u->∀X Y,hE P (do eqGuard op t X Y v u;jo op t v u:Sem dp):=by
 have i:∀ {a b:dh} {K:dn->Prop},Be op a b K->op=.eql\/op=.neq:=λh=>by
  have⟨r,m,dI⟩:=H3 h;grind
 unfold Ef at h;split at h
 .rename_i k a;split at h
  .rename_i fr b;intro M D v u cU d X Y;rw[kr cU,kr d];exact .bind' (ed.at (zs _ _ _ _ _ _ dt dt)) λ_=>ed.at (ahz _ _ _ _ _ _)
  simp_all
 .rename_i a;split at h
  .rename_i b;intro M D v u cU d X Y;rw[sg cU,sg d];exact .bind' (ed.at (zs _ _ _ _ _ _ dt dt)) λ_=>ed.at (ahA _ _ _ _)
  simp_all
 .rename_i a;split at h
  .rename_i f;have⟨b,h,g⟩:=uK h;intro M D v u cU d X Y;rw[n1 cU,g M D u d];exact NO (xw cS f) op (i h) X Y _ _
  simp_all
 .split at h
  .rename_i f;have⟨b,h,g⟩:=uK h;intro M D v u cU d X Y
   cases cU with|e4=>rw[g M D u d];exact NO (xw cS f) op (i h) X Y _ _
  simp_all
 .split at h
  .rename_i f;have⟨b,h,g⟩:=uK h;intro M D v u cU d X Y
   cases cU with|fd=>rw[g M D u d];exact NO (xw cS f) op (i h) X Y _ _
  simp_all
 .rename_i c;split at h
  .rename_i mX
   have fin:∀(j:dh->Prop),(bif (T t).k.agg then oF T 9999 t c mX j else dA)->∀(M:eE) (D:gr) (v u:dp),dV M D (.agg c) v->dV M D (.agg mX) u->∀(X Y:fu),
     hE P (eqGuard op t X Y v u) /\ ∃vs us,v=.agg vs/\u=.agg us/\hE P (Op.equal t (.agg vs) (.agg us)):=by
    intro j h
    have l:(T t).k.agg=N:=by
     cases e:(T t).k.agg with|true=>rfl|false=>simp_all
    simp[l,fE]at h;have⟨c6,b,m,cP⟩:=H5 cS _ _ _ _ _ h;intro M D v u cU d X Y;obtain⟨vs,rfl,s1,d1⟩:=xz cU;obtain⟨us,rfl,s2,n⟩:=xz d;have:=Vx cS _ _ _ _ _ h M D vs us s1 s2 d1 n 9999 (fB _);simp[l,ni]at this;have⟨_,_,_,_,_,_,_,_,_,_,_,_,e,_⟩:=(lC cS c6).desc;exact⟨ahB e op X Y vs us,vs,us,Z,Z,this⟩
   split at h
   .intro M D v u cU d X Y;obtain⟨e,vs,us,rfl,rfl,he⟩:=fin _ h M D v u cU d X Y;exact .bind' e λ_=>.bind' he λ_=>ed.at (.pure _)
   .intro M D v u cU d X Y;obtain⟨e,vs,us,rfl,rfl,he⟩:=fin _ h M D v u cU d X Y;exact .bind' e λ_=>.bind' he λ_=>ed.at (.pure _)
   simp_all
  simp_all
 simp_all
end
open Go.Proofs
abbrev eY:Go.Conc.Lib.WgLink:={add:=17,done:=19,wait:=16,relMerge:=36,disable:=26,enable:=28,inBubble:=34,associate:=37,fatal:=38,uOr:=39,uAdd:=40,raceRead:=41,uLoad:=27,uStore:=42,disassociate:=32,semrelease:=43,acquire:=29,isAssociated:=30,uCas:=31,raceWrite:=33,semacquire:=35,orU64:=60,addU64:=61,loadU64:=58,storeU64:=62,casU64:=59,tWgP:=74,tUP:=78,tAssoc:=84,tWg:=64,tAU:=61,tU64:=59,tUint:=76,tU32:=62,tPU32:=82,tPAU:=105,tPU64:=107,tNoCopy:=56,tANoCopy:=57,tAlign64:=58}
def kf:Go.Conc.Lib.WgLib Tryz.prog eY:=
 ⟨Tryz.func17,Tryz.func19,Tryz.func16,Tryz.func36,Tryz.func26,Tryz.func28,Tryz.func34,Tryz.func37,Tryz.func38,Tryz.func39,Tryz.func40,Tryz.func41,Tryz.func27,Tryz.func42,Tryz.func32,Tryz.func43,Tryz.func29,Tryz.func30,Tryz.func31,Tryz.func33,Tryz.func35,Tryz.func60,Tryz.func61,Tryz.func58,Tryz.func62,Tryz.func59,Tryz.underlying74,Tryz.runUnderlying74,Tryz.sizeOf74,Tryz.isAgg74,Tryz.zeroValue74,Tryz.underlying78,Tryz.runUnderlying78,Tryz.sizeOf78,Tryz.isAgg78,Tryz.zeroValue78,Tryz.underlying84,Tryz.runUnderlying84,Tryz.sizeOf84,Tryz.isAgg84,Tryz.zeroValue84,Tryz.underlying64,Tryz.runUnderlying64,Tryz.sizeOf64,Tryz.isAgg64,Tryz.zeroValue64,Tryz.underlying61,Tryz.runUnderlying61,Tryz.sizeOf61,Tryz.isAgg61,Tryz.zeroValue61,Tryz.underlying59,Tryz.runUnderlying59,Tryz.sizeOf59,Tryz.isAgg59,Tryz.zeroValue59,Tryz.underlying76,Tryz.runUnderlying76,Tryz.sizeOf76,Tryz.isAgg76,Tryz.zeroValue76,Tryz.underlying62,Tryz.runUnderlying62,Tryz.sizeOf62,Tryz.isAgg62,Tryz.zeroValue62,Tryz.underlying82,Tryz.runUnderlying82,Tryz.sizeOf82,Tryz.isAgg82,Tryz.zeroValue82,Tryz.underlying105,Tryz.runUnderlying105,Tryz.sizeOf105,Tryz.isAgg105,Tryz.zeroValue105,Tryz.underlying107,Tryz.runUnderlying107,Tryz.sizeOf107,Tryz.isAgg107,Tryz.zeroValue107,Tryz.underlying0,Tryz.runUnderlying0,Tryz.sizeOf0,Tryz.isAgg0,Tryz.zeroValue0,Tryz.underlying3,Tryz.runUnderlying3,Tryz.sizeOf3,Tryz.isAgg3,Tryz.zeroValue3,Tryz.underlying4,Tryz.runUnderlying4,Tryz.sizeOf4,Tryz.isAgg4,Tryz.zeroValue4,Tryz.underlying9,Tryz.runUnderlying9,Tryz.sizeOf9,Tryz.isAgg9,Tryz.zeroValue9,Tryz.underlying20,Tryz.runUnderlying20,Tryz.sizeOf20,Tryz.isAgg20,Tryz.zeroValue20,Tryz.underlying21,Tryz.runUnderlying21,Tryz.sizeOf21,Tryz.isAgg21,Tryz.zeroValue21,c2,c2⟩
section
open Go.Conc
open Go.ConcN (sumTo upd sumTo_upd upd_ne upd_same RelBy WgLive AsideCell RW)
open Go.ConcR (KK wgBlock WgAt stA smA rd wr mk DC0 Payload)
section
variable [A1]
variable {P:el} {dm:eH} {Wg c C:V} {c4 Rd:V->Prop} {v:dp} {cX:c'->c'->Prop} {eK:dN->c'->Prop} {dM:dp->c'->Prop}
def Hj(c4:V->Prop)(Wg:V)(Rd:V->Prop)(C:V)(w w':c')(es:ea hB):Prop:=DY C 1 0 w w'/\ ∀e∈es,mo (vJ c4 Wg Rd) e
inductive nf(P:el)(dm:eH)(Wg C c:V)(c4 Rd:V->Prop)(v:dp)(eW:V)(T:j1):dN->c'->Prop
 |r0 {b w}:dO P L (RW dm Wg C 1 0 0) (Hj c4 Wg Rd C) (L5 P dm Wg C 1 0 1 v) b w->hm c4 Wg Rd c eW 0 T->nf P dm Wg C c c4 Rd v eW T b w
 |k1 {b w}:dO P L (RW dm Wg C 1 0 0) DC0 (Ts P dm Wg C 1 0 1) b w->hJ c4 Wg Rd c eW 0 T->nf P dm Wg C c c4 Rd v eW T b w
 |d1 {b w}:dO P L (RW dm Wg C 1 0 0) DC0 (Hk P dm Wg C 1 0 1) b w->hJ c4 Wg Rd c eW 1 T->nf P dm Wg C c c4 Rd v eW T b w
theorem lu:l0 (RW dm Wg C 1 0 0):=⟨λw=>⟨λ_ h=>dQ h R,id,id,Z⟩,λa b c h k=>⟨λ_ h=>dQ h R,λx=>k.live (h.live x),λx=>k.pay (h.pay x),k.cell.trans h.cell⟩,λw d=>⟨λ_ h=>dQ h R,id,id,Z⟩⟩
theorem hJ.Tt{eW T}(h:hJ c4 Wg Rd c eW 0 T)(b:c≠0)(fn pos):hJ c4 Wg Rd c eW 1 (T++gR c fn pos #[aeV .disable]):=by
 have m:∀e∈#[aeV .disable],Event.mute e=N:=λe a=>by simp at a;subst a;rfl
 have:=h.hY.Tm b fn pos m;exact⟨by assumption,h.rel.imp λr d=>L0 d _ _ _ m⟩
theorem hJ.still{eW d1 T}(h:hJ c4 Wg Rd c eW d1 T)(g fn pos):hJ c4 Wg Rd c eW d1 (T++gR g fn pos #[]):=by assumption
theorem r5{M T cZ w w' sl g g' es}(b:c≠0)(s:stepT P M=runT P (crowd cZ w sl) c)(cW:cZ[c]?=U g)(o:stepG P L g w=.go g' w' es)
  (k:fa P dM (crowd ((cZ.map (woken P g g' w')).setIfInBounds c g') w' sl) (T++gR c g.frame.fn g.frame.place es)):fa P dM M T:=by
 have a:(c==0)=L:=hd;exact fa.step (s.trans (vN (P:=P) (sl:=sl) (i:=c) cW (by grind))) k
theorem kc{cZ:ea dN}{g}(cW:cZ[c]?=U g):c<cZ.size:=(kv.1 cW).1
theorem DZ{c3 dv}{eU:c'->Prop}{eW}(dg:c≠0)(o:l0 cX)(gB:∀g w,dv g w->g.status=.running)
  (y:∀w d,eU w->eU (w.at d))(l:∀es w w',eU w->c3 w w' es->(∀e∈es,mo (nR c4 Wg Rd) e) /\eU w'/\RW dm Wg C 1 0 0 w w')(hC:∀w w',eU w->DY C 1 0 w w'->cX w w'/\eU w')
  (p:∀M T a b cZ w sl q,stepT P M=runT P (crowd cZ w sl) 0->cZ[0]?=U a->cZ[c]?=U b->e2 P c cZ T q->eU w->dv a w->nf P dm Wg C c c4 Rd v eW T b w->fa P dM M T)
  (G:∀M T a b cZ w sl q,stepT P M=runT P (crowd cZ w sl) c->cZ[0]?=U a->cZ[c]?=U b->e2 P c cZ T q->eU w->dO P N cX c3 dv a w->hJ c4 Wg Rd c eW 1 T->Hk P dm Wg C 1 0 1 b w->fa P dM M T)
  {a b w}(h:dO P N cX c3 dv a w)(cZ sl T q)(hb:nf P dm Wg C c c4 Rd v eW T b w)(cW:cZ[0]?=U a)(f:cZ[c]?=U b)(j:e2 P c cZ T q)(hw:eU w):fa P dM (crowd cZ w sl) T:=by
 have r:=AY dg;have z:∀d1,vL c (hJ c4 Wg Rd c eW d1) eU:=λd1=>⟨λT i fn pos es h cW cK d8=>h.xd cW cK fn pos d8,y⟩;have A:∀d1,s5 0 (hJ c4 Wg Rd c eW d1) eU c3:=λd1 T fn pos es w w' h hw cP=>⟨h.mU dg fn pos (l es w w' hw cP).1,(l es w w' hw cP).2.1⟩
 have B:∀d1,s5 c (hJ c4 Wg Rd c eW d1) eU DC0:=λd1 T fn pos es w w' h hw cP=>by
  obtain⟨rfl,rfl⟩:=cP;exact⟨h.still c fn pos,hw⟩
 have D:∀w w' es,eU w->DC0 w w' es->cX w w':=λw w' es _ cP=>by obtain⟨rfl,_⟩:=cP;exact o.refl _
 have E:∀ {a b:dN} {w:c'},dO P N cX c3 dv a w->∀cZ sl T q,dO P L (RW dm Wg C 1 0 0) DC0 (Hk P dm Wg C 1 0 1) b w->hJ c4 Wg Rd c eW 1 T->cZ[0]?=U a->cZ[c]?=U b->e2 P c cZ T q->eU w->fa P dM (crowd cZ w sl) T:=
  λh cZ sl T q hb cS cW f j hw=>DR r (z 1) o lu (A 1) (B 1) D (λw w' es hw cP=>(l es w w' hw cP).2.2) gB (λ_ _ h=>h.1)
   (λM T a b cZ w sl q k cW f j cS hw c7 hb=>p M T a b cZ w sl q k cW f j hw c7 (.d1 hb cS))
   (λM T a b cZ w sl q k cW f j cS hw c7 hb=>G M T a b cZ w sl q k cW f j hw c7 cS hb) h cZ sl T q hb cW f j cS hw
 have F:∀ {a b:dN} {w:c'},dO P N cX c3 dv a w->∀cZ sl T q,dO P L (RW dm Wg C 1 0 0) DC0 (Ts P dm Wg C 1 0 1) b w->hJ c4 Wg Rd c eW 0 T->cZ[0]?=U a->cZ[c]?=U b->e2 P c cZ T q->eU w->fa P dM (crowd cZ w sl) T:=
  λh cZ sl T q hb cS cW f j hw=>DR r (z 0) o lu (A 0) (B 0) D (λw w' es hw cP=>(l es w w' hw cP).2.2) gB (λ_ _ h=>h.1)
   (λM T a b cZ w sl q k cW f j cS hw c7 hb=>p M T a b cZ w sl q k cW f j hw c7 (.k1 hb cS))
   (λM T a b cZ w sl q k cW f j cS hw dq hb=>by
    have⟨_,d7,s,m,t⟩:=hb;have u:=dq.running gB o.refl;refine r5 dg k f s (E dq _ _ _ q (dO.r3 t) ?_ (nd dg cW (woken_run u)) (iU (kc f)) (j.own (.inr Z) (kc f) _ _ _) hw)
    exact cS.Tt dg _ _) h cZ sl T q hb cW f j cS hw
 cases hb with
 |d1 hb cS=>exact E h cZ sl T q hb cS cW f j hw
 |k1 hb cS=>exact F h cZ sl T q hb cS cW f j hw
 |r0 hb cS=>
  refine DR (cL:=hm c4 Wg Rd c eW 0) r ⟨λT i fn pos es h cW cK d8=>h.xd cW cK fn pos d8,y⟩ o lu
   (λT fn pos es w w' h hw cP=>⟨h.mU dg fn pos (l es w w' hw cP).1,(l es w w' hw cP).2.1⟩)
   (λT fn pos es w w' h hw cP=>⟨h.yE dg fn pos cP.2,(hC w w' hw cP.1).2⟩) (λw w' es hw cP=>(hC w w' hw cP.1).1) (λw w' es hw cP=>(l es w w' hw cP).2.2) gB (λ_ _ h=>h.1)
   (λM T a b cZ w sl q k cW f j cS hw c7 hb=>p M T a b cZ w sl q k cW f j hw c7 (.r0 hb cS))
   (λM T a b cZ w sl q k cW f j cS hw dq hb=>?_) h cZ sl T q hb cW f j cS hw
  have⟨_,_,d7,s,m,t⟩:=hb;have u:=dq.running gB o.refl;refine r5 dg k f s (F dq _ _ _ q (dO.r3 t) ⟨cS.Hd dg lq (λop n x H=>?_) (λop n a=>?_) ?_,_,aeW cS.q7 _ _⟩ (nd dg cW (woken_run u)) (iU (kc f)) (j.own (.inr Z) (kc f) _ _ _) hw)
  .rw[DX]at n;simp at n;subst n;simp[mk,mq,k6]at H
  .rw[DX]at n;simp at n;subst n;simp[mk,mq]
  .rw[uj,cS.q7];rfl
variable (P dm Wg cX eK) in
def l2(g:dN)(w:c'):Prop:=
 dO P N cX (hK Wg) (xe P dm Wg cX eK) g w\/ ∃a,g={a with status:=.blocked} /\a.offers=cM/\a.status=.running/\ ∀c0,cX w c0->xe P dm Wg cX eK a c0
theorem l2.rely(c:l0 cX){g w c0}(h:l2 P dm Wg cX eK g w)(hw:cX w c0):l2 P dm Wg cX eK g c0:=
 h.imp (λh=>h.rely c.trans hw) (λ⟨d,e,Q,f,i⟩=>⟨d,e,Q,f,λb a=>i b (c.trans _ _ _ hw a)⟩)
theorem l2.awake (a:l0 cX) {g:dN} {w:c'} (h:l2 P dm Wg cX eK g w):awake g:=by
 rcases h with h|⟨b,e,_⟩
 ·exact q9 (.inl (h.running (fun _ _ x=>x.1) a.refl))
 ·exact q9 (.inr (.inl (by rw [e])))
theorem l2.woken (b:l0 cX) {g x iz:dN} {w w':c'} (h:l2 P dm Wg cX eK g w):l2 P dm Wg cX eK (woken P x iz w' g) w:=by
 rcases h with h|⟨c,e,Q,c5,a⟩
 ·rw [woken_run (h.running (fun _ _ x=>x.1) b.refl)];exact .inl h
 ·unfold Hl
  split
  ·rw [e,aeX c5 Q];exact .inl (.stop a)
  ·exact .inr ⟨c,e,Q,c5,a⟩
theorem vO{cZ:ea dN}{k j}(h:k≠j){x iz y w'}(a:cZ[j]?=U y):((cZ.map (woken P x iz w')).setIfInBounds k iz)[j]?=U (woken P x iz w' y):=by simp_all
theorem A2{cL eU je q_ qo}(dg:c≠0)(A:vL c cL eU)(m:l0 cX)(u:l0 je)(Q:s5 0 cL eU (hK Wg))(S:∀T,cL T->∀fn pos,cL (T++gR 0 fn pos #[]))(W:s5 c cL eU q_)
  (X:∀w w' es,eU w->q_ w w' es->cX w w')(Y:∀w,eU w->∃st,gu dm Wg w st 0)(aa:∀g w,qo g w->g.status=.running)
  (ab:∀M T a b cZ w sl q,stepT P M=runT P (crowd cZ w sl) c->cZ[0]?=U a->cZ[c]?=U b->e2 P c cZ T q->cL T->eU w->l2 P dm Wg cX eK a w->qo b w->fa P dM M T)
  {b w}(h:dO P L je q_ qo b w):
  ∀cZ sl T q a,l2 P dm Wg cX eK a w->cZ[0]?=U a->cZ[c]?=U b->e2 P c cZ T q->cL T->eU w->fa P dM (crowd cZ w sl) T:=by
 have ap:=AY dg
 have core:∀(b:dN) (p:c'),b.status=.running->
   (∀(c0:c') (a:dN) (cZ:ea dN) (sl:dB (V×V)) (M:Machine) (T:j1) (q:V->V),je p c0->stepT P M=runT P (crowd cZ c0 sl) c->l2 P dm Wg cX eK a c0->cZ[0]?=U a->cZ[c]?=U b->e2 P c cZ T q->cL T->eU c0->fa P dM M T)->
   ∀(n:V) (cZ:ea dN) (w:c') (sl:dB (V×V)) (T:j1) (q:V->V) (a:dN),sumTo cZ.size q<=n->je p w->l2 P dm Wg cX eK a w->cZ[0]?=U a->cZ[c]?=U b->e2 P c cZ T q->cL T->eU w->fa P dM (crowd cZ w sl) T:=by
  intro b p s E n
  induction n using s6 with
  |_ n ac=>
   have F:∀(cZ:ea dN) (w:c') (sl t:dB (V×V)) (T:j1) (q:V->V) (a:dN) (i:V) (x:dN) (d:V),sumTo cZ.size q<=n->je p w->l2 P dm Wg cX eK a w->cZ[0]?=U a->cZ[c]?=U b->e2 P c cZ T q->cL T->eU w->
     i≠0->cZ[i]?=U x->x.status=.running->stepT P (crowd cZ w sl)=runT P (crowd cZ (w.at d) t) i->fa P dM (crowd cZ w sl) T:=by
    intro cZ w sl t T q a i x d cY r dq cW f j cS l y cK v o;have z:=(kv.1 cK).1;have J:=u.trans _ _ _ r (u.draw w d);have K:=dq.rely m (m.draw w d)
    by_cases D:i=c
    .subst D;exact E _ a cZ t _ _ q J o K cW f j cS (A.draw _ _ l)
    .have⟨k,g',es,ad,d8,ae,af⟩:=j.Hg R D cK v;have ag:(i==0)=L:=hd;have ah:=vN (P:=P) (sl:=t) (i:=i) cK (by rw[ag];exact ae (w.at d));refine fa.step (o.trans ah) (ac (sumTo cZ.size (upd q i k)) ?_ _ _ _ _ (upd q i k) _ ?_ J (K.woken m) (vO y cW) (nd D f (woken_run s)) (j.slip z _ _ af) (A.mute _ _ _ _ _ cS y D d8) (A.draw _ _ l))
     .have:=He z ad;omega
     .simp
   have blk:∀(cZ:ea dN) (w:c') (sl:dB (V×V)) (T:j1) (q:V->V) (a:dN),sumTo cZ.size q<=n->je p w->l2 P dm Wg cX eK a w->a.status=.blocked->cZ[0]?=U a->cZ[c]?=U b->e2 P c cZ T q->cL T->eU w->fa P dM (crowd cZ w sl) T:=by intro cZ w sl T q a cY r dq ai cW f j cS l;have⟨i,x,d,t,cK,v,o⟩:=DQ (P:=P) (w:=w) (sl:=sl) (j.AX cW (dq.awake m) λh=>⟨b,f,q9 (.inl s)⟩) ⟨c,b,f,s⟩;refine F cZ w sl t T q a i x d cY r dq cW f j cS l (λe=>?_) cK v o;subst e;rw[cW]at cK;obtain rfl:=pM cK;rw[ai]at v;cases v
   have aj:∀(a:dN) (B:c'),dO P N cX (hK Wg) (xe P dm Wg cX eK) a B->∀(cZ:ea dN) (w:c') (sl:dB (V×V)) (T:j1) (q:V->V),cX B w->sumTo cZ.size q<=n->je p w->cZ[0]?=U a->cZ[c]?=U b->e2 P c cZ T q->cL T->eU w->fa P dM (crowd cZ w sl) T:=by
    intro a B dq
    induction dq with
    | @stop g B h=>
     intro cZ w sl T q hw cY r cW f j cS l;have C:=(h w hw).1;have⟨i,x,d,t,cK,v,o⟩:=DQ (P:=P) (w:=w) (sl:=sl) (j.AX cW (q9 (.inl C)) λh=>⟨b,f,q9 (.inl s)⟩) ⟨c,b,f,s⟩
     by_cases y:i=0
     .subst y;obtain rfl:x=g:=SY;have⟨_,ak,al,_⟩:=h _ (m.trans _ _ _ hw (m.draw w d));have G:=al (Y _ (A.draw _ _ l));have z:=iq cW;refine oB o cW G (blk _ _ _ _ q _ (by simpa using cY) (u.trans _ _ _ r (u.draw w d)) (.inr ⟨x,Z,ak,C,λc0 h₁=>h c0 (m.trans _ _ _ (m.trans _ _ _ hw (m.draw w d)) h₁)⟩) Z (iU z) (nd R f (woken_run s)) (j.own (.inl Z) z _ _ _) (S _ cS _ _) (A.draw _ _ l))
     .exact F cZ w sl t T q g i x d cY r (.inl (.stop λc0 h₁=>h c0 (m.trans _ _ _ hw h₁))) cW f j cS l y cK v o
    | @step g B C fk h k am=>
     intro cZ w sl T q hw cY r cW f j cS l;have⟨i,x,d,t,cK,v,o⟩:=DQ (P:=P) (w:=w) (sl:=sl) (j.AX cW (q9 (.inl C)) λh=>⟨b,f,q9 (.inl s)⟩) ⟨c,b,f,s⟩
     by_cases y:i=0
     .subst y;obtain rfl:x=g:=SY;have O:=m.trans _ _ _ hw (m.draw w d);have⟨G,cP⟩:=h _ O;have z:=iq cW;have⟨H,I⟩:=Q T x.frame.fn x.frame.place _ _ _ cS (A.draw _ _ l) cP;refine oB o cW G (am _ O _ _ _ _ q (m.refl _) (by simpa using cY) ?_ (iU z) (nd R f (woken_run s)) (j.own (.inl Z) z _ _ _) H I);rw[cP.1];exact u.trans _ _ _ r (u.draw w d)
     .exact F cZ w sl t T q g i x d cY r (.inl (.step C fk (λc0 h₁=>h c0 (m.trans _ _ _ hw h₁)) (λc0 h₁=>k c0 (m.trans _ _ _ hw h₁)))) cW f j cS l y cK v o
   intro cZ w sl T q a cY r dq cW f j cS l;rcases id dq with an|⟨aq,e,_⟩
   .exact aj a w an cZ w sl T q (m.refl _) cY r cW f j cS l
   .exact blk cZ w sl T q a cY r dq AS cW f j cS l
 induction h with
 | @stop b p hb=>exact λcZ sl T q a dq cW f j cS l=>core b p (aa _ _ (hb p (u.refl _))) (λc0 a cZ sl M T q hw o dq cW f j cS l=>ab M T a b cZ c0 sl q o cW f j cS l dq (hb c0 hw)) _ cZ p sl T q a (fB _) (u.refl _) dq cW f j cS l| @step b p s fk hb c6 ao=>refine λcZ sl T q a dq cW f j cS l=>core b p s (λc0 a cZ sl M T q hw o dq cW f j cS l=>?_) _ cZ p sl T q a (fB _) (u.refl _) dq cW f j cS l;have⟨E,cP⟩:=hb _ hw;have⟨H,I⟩:=W T b.frame.fn b.frame.place _ _ _ cS l cP;exact r5 dg o f E (ao _ hw _ _ _ q _ ((dq.rely m (X _ _ _ l cP)).woken m) (vO dg cW) (iU (kc f)) (j.own (.inr Z) (kc f) _ _ _) H I)
end
end
section
open Go.Conc
open Go.ConcN (sumTo upd sumTo_upd upd_ne upd_same RelBy WgLive AsideCell RW)
open Go.ConcR (KK wgBlock WgAt stA smA rd wr mk DC0 Payload)
section
variable [A1]
variable {P:el} {dm:eH} {Wg c C:V} {c4 Rd:V->Prop} {v:dp} {cX:c'->c'->Prop} {eK:dN->c'->Prop} {dM:dp->c'->Prop} {eW d1:V} {T:j1}
theorem hJ.bookC(h:hJ c4 Wg Rd c eW d1 T)(b:c≠0)(fn pos){es}(t:∀o∈gR c fn pos es,∀x,o.act.touch? =U x->r2 (·=Wg) x.loc/\x.kind=.atomic)(dI:∀e∈es,∀a,e.loc≠.mark (.release a))
  (cP:∀j e,es[j]?=U e->(mq e).touch? =cM\/ ((∃eb w,e=⟨.cell eb,w,N⟩) /\0<deafBehind d1 (es.extract 0 j))):hJ c4 Wg Rd c eW (deafBehind d1 es) (T++gR c fn pos es):=
 ⟨h.hY.Hd b lq (λo w6 x eC=>.inl (t o w6 x eC)) (λo w6 a e=>GS) (by rw[uj,h.hY.q7]),
  h.rel.imp λr dI=>dI.appOwn fn pos es (by rwa[h.hY.q7])⟩
theorem L6{g fn pos es}(h:∀e∈es,∃b,e=⟨.cell (stA Wg),b,N⟩):∀op∈gR g fn pos es,∀x,op.act.touch? =U x->r2 (·=Wg) x.loc/\x.kind=.atomic:=by
 intro op c x a;obtain⟨e,he,rfl⟩:=yT c;obtain⟨b,rfl⟩:=h e he
 cases b<;>simp[mq,k6]at a<;>subst a<;>exact⟨⟨_,Z,Z⟩,Z⟩
theorem L7{es:ea hB}(h:∀e∈es,∃b,e=⟨.cell (stA Wg),b,N⟩):∀e∈es,∀a,e.loc≠.mark (.release a):=λe he a=>by grind
theorem Tu{es}(h:∀e∈es,∃b,e=⟨.cell (stA Wg),b,N⟩)(d):deafBehind d es=d:=deafBehind_still (λe he=>by grind) d
theorem hJ.Hm(h:hJ c4 Wg Rd c eW 1 T)(dg:c≠0)(fn pos){es}(he:∀e∈es,∃b,e=⟨.cell (stA Wg),b,N⟩):hJ c4 Wg Rd c eW 1 (T++gR c fn pos es):=by
 have:=h.bookC dg fn pos (es:=es) (L6 he) (L7 he) (λj e dL=>by
  obtain⟨b,rfl⟩:=he e (DU dL);refine .inr ⟨⟨_,_,Z⟩,?_⟩;rw[Tu λe a=>he e ?_]
  .omega
  .obtain⟨k,c6,rfl⟩:=Array.mem_iff_getElem.1 a
   simp_all)
 rwa[Tu he]at this
theorem Hn:∀e∈#[rd (stA Wg),wr (stA Wg)],∃b,e=⟨.cell (stA Wg),b,N⟩:=λe he=>by simp[rd,wr]at he;simp_all
theorem L8:∀e∈#[rd (stA Wg)],∃b,e=⟨.cell (stA Wg),b,N⟩:=λe he=>by simp[rd]at he;simp_all
theorem hJ.aeY(h:hJ c4 Wg Rd c eW 1 T)(dg:c≠0)(fn pos):hJ c4 Wg Rd c eW 1 (T++gR c fn pos (semEvents (smA Wg))):=by
 have:=h.bookC dg fn pos (es:=semEvents (smA Wg)) L1 Tn (λj e he=>by
  rcases j with _|_|_|_|j
  .simp[semEvents]at he;subst he;exact .inl Z
  .simp[semEvents]at he;subst he;exact .inr ⟨⟨_,_,Z⟩,by simp[deafBehind,semEvents]⟩
  .simp[semEvents]at he;subst he;exact .inr ⟨⟨_,_,Z⟩,by simp[deafBehind,semEvents]⟩
  .simp[semEvents]at he;subst he;exact .inl Z
  .simp[semEvents]at he)
 assumption
theorem e2.all{cZ q}(h:e2 P c cZ T q){b}(e:cZ[c]?=U b){k}(f:QuitsD P k (Deaf T c) b):e2 P 0 cZ T (upd q c k):=by
 refine⟨λi g cK _ a=>?_,h.above⟩
 by_cases d:i=c
 .subst d;rw[e]at a;obtain rfl:=pM a;rwa[upd_same]
 .rw[upd_ne q k d];exact h.old i g cK d a
theorem aeZ{k g}(h:QuitsD P k 1 g):g.status=.running:=by
 cases k with|zero=>exact dQ h.2 dt|succ k=>rcases h with⟨_,cW⟩|⟨Q,_⟩;exact dQ cW dt;exact Q
theorem D1(dg:c≠0){M cZ w sl q a b}(j:stepT P M=runT P (crowd cZ w sl) c)(cW:cZ[0]?=U a)(dq:a.status=.running)(d:cZ[c]?=U b)(l:e2 P c cZ T q)(cS:hJ c4 Wg Rd c eW 1 T)(hw:gu dm Wg w KK 0)(hb:Hk P dm Wg C 1 0 1 b w)
  (k:∀e f m,e[0]?=U a->e2 P 0 e f m->k5 c4 Wg Rd c eW f->fa P dM (crowd e (w.setCell (stA Wg) (.int .u64 0)) sl) f):fa P dM M T:=by
 have⟨_,hb⟩:=hb;have⟨d7,g,_,h⟩:=hb 0 0 R R (by simp_all);have⟨fr,h⟩:=h dt;have n:(((0:V):I)*KK+((0:V):I))=0:=dt;rw[n]at g;have i:=cS.Hm dg b.frame.fn b.frame.place Hn;refine r5 dg j d g (k _ _ (upd q c fr) (nd dg cW (woken_run dq)) ((l.own (.inr Z) (kc d) _ _ _).all (iU (kc d)) ?_) ⟨1,i⟩);rwa[i.hY.q7]
theorem A3{w:c'}{a}(h:a.block=Wg)(x b)(c:b≠Wg):(w.setCell a x).heap[b]?=w.heap[b]?:=by unfold World.setCell;grind
theorem ae0{w st}(c:C≠Wg)(h:gu dm Wg w st 0)(a)(dq:a=stA Wg\/a=smA Wg)(x)(d:∃st j2,gu dm Wg (w.setCell a x) st j2):RW dm Wg C 1 0 0 w (w.setCell a x):=by
 have hb:a.block=Wg:=by rcases dq with rfl|rfl<;>rfl
 have hC:=A3 hb x C c (w:=w);refine⟨λb hb=>dQ hb R,λ_=>d,λO=>?_,?_⟩
 .unfold L9 at O⊢;simp_all
 .unfold j3;simp_all
structure yX(P:el)(dm:eH)(Wg c C:V)(c4 Rd:V->Prop)(cX:c'->c'->Prop)(eK:dN->c'->Prop)(dM:dp->c'->Prop):Prop where
 gM:xf P dm Wg c c4 Rd cX eK dM
 vP:C≠Wg
 L_:∀w w',(∃st j2,gu dm Wg w st j2)->DY C 1 0 w w'->cX w w'
theorem AsideCell.wg{w w' st j2}(a:C≠Wg)(h:DY C 1 0 w w')(hw:gu dm Wg w st j2):gu dm Wg w' st j2:=hw.of_block (h.block Wg (Ne.symm a))
theorem L'(cX:¬Rd Wg){w w' es}(h:hK Wg w w' es):∀e∈es,mo (nR c4 Wg Rd) e:=λe a=>⟨λx b=>((h.2 e a).1 x b).fit cX,(h.2 e a).2⟩
theorem l2.tree(b:l0 cX){g x iz w w'}(m:mayWake P x=N)(d:iz.status=.running)(h:l2 P dm Wg cX eK g w):dO P N cX (hK Wg) (xe P dm Wg cX eK) (Hl P x iz w' g) w:=by
 rcases h with h|⟨c,e,Q,a,f⟩
 .rwa[woken_run (h.running (λ_ _ x=>x.1) b.refl)]
 .unfold Hl;rw[if_pos (by grind),e,aeX a Q];exact .stop f
theorem ae1 (dc : yX P dm Wg c C c4 Rd cX eK dM) {a b : dN} {w : c'} (dq : l2 P dm Wg cX eK a w) (cZ : ea dN) (sl : dB (V × V)) (T : j1) (q : V → V) (hb : nf P dm Wg C c c4 Rd v 1 T b w) (cW : cZ[0]? = U a) (d : cZ[c]? = U b) (f : e2 P c cZ T q) (hw : gu dm Wg w (KK + 1) 0) : fa P dM (crowd cZ w sl) T := by
  have dg := dc.gM.eT
  have g := dc.gM.mr
  have p : ∀ d1 st, vL c (hJ c4 Wg Rd c 1 d1) (fun w => gu dm Wg w st 0) := fun d1 st => ⟨fun T i fn pos es h cW cK d8 => h.xd cW cK fn pos d8, fun _ _ h => h⟩
  have r : ∀ d1 st, s5 0 (hJ c4 Wg Rd c 1 d1) (fun w => gu dm Wg w st 0) (hK Wg) := fun d1 st T fn pos es w w' h hw cP => ⟨h.mU dg fn pos (L' dc.gM.rd cP), cP.1 ▸ hw⟩
  have s : ∀ d1 st, s5 c (hJ c4 Wg Rd c 1 d1) (fun w => gu dm Wg w st 0) DC0 := fun d1 st T fn pos es w w' h hw cP => by
    obtain ⟨rfl, rfl⟩ := cP
    exact ⟨h.still c fn pos, hw⟩
  have t : ∀ st, ∀ w w' es, gu dm Wg w st 0 → DC0 w w' es → cX w w' := fun st w w' es _ cP => by obtain ⟨rfl, _⟩ := cP; exact g.refl _
  have E : ∀ (a b : dN) (w : c'), l2 P dm Wg cX eK a w → ∀ cZ sl T q, dO P L (RW dm Wg C 1 0 0) DC0 (ConcN.AtD4 P dm Wg) b w → hJ c4 Wg Rd c 1 1 T → cZ[0]? = U a → cZ[c]? = U b → e2 P c cZ T q → gu dm Wg w 0 0 → fa P dM (crowd cZ w sl) T :=
    fun a b w dq cZ sl T q hb cS cW d f hw => A2 dg (p 1 0) g lu (r 1 0) (fun T h fn pos => h.still 0 fn pos) (s 1 0) (t 0) (fun w h => ⟨0, h⟩) (fun _ _ h => h.1)
      (fun M T a b cZ w sl q l cW d f cS hw dq hb => by
        obtain ⟨_, F, hb⟩ := hb
        obtain ⟨d7, j, k, z⟩ := hb hw
        have A := cS.aeY dg b.frame.fn b.frame.place
        have u : gu dm Wg (w.setCell (smA Wg) (.int .u32 1)) 0 1 := hw.setSm 1
        have y := dq.rely g (dc.gM.Tp w 1 ⟨0, 0, hw⟩)
        refine r5 dg l d j (aeT dc.gM (y.tree g F (aeZ z)) _ _ _ (upd q c k) (vO dg cW) ((f.own (.inr Z) (kc d) _ _ _).all (iU (kc d)) (by rw [A.hY.q7]; exact z)) ⟨1, A⟩ u))
      hb cZ sl T q a dq cW d f cS hw
  have G : ∀ (a b : dN) (w : c'), l2 P dm Wg cX eK a w → ∀ cZ sl T q, dO P L (RW dm Wg C 1 0 0) DC0 (ConcN.AtD3 P dm Wg C 1 0 1) b w → hJ c4 Wg Rd c 1 1 T → cZ[0]? = U a → cZ[c]? = U b → e2 P c cZ T q → gu dm Wg w 1 0 → fa P dM (crowd cZ w sl) T :=
    fun a b w dq cZ sl T q hb cS cW d f hw => A2 dg (p 1 1) g lu (r 1 1) (fun T h fn pos => h.still 0 fn pos) (s 1 1) (t 1) (fun w h => ⟨1, h⟩) (fun _ _ h => h.1)
      (fun M T a b cZ w sl q l cW d f cS hw dq hb => by
        obtain ⟨_, hb⟩ := hb
        obtain ⟨d7, j, m, n⟩ := hb hw
        have u : gu dm Wg (w.setCell (stA Wg) (.int .u64 0)) 0 0 := hw.setSt 0
        have y := dq.rely g (dc.gM.set w 0 ⟨1, 0, hw⟩)
        exact r5 dg l d j (E _ _ _ (y.woken g) _ _ _ q (dO.r3 n) (cS.Hm dg _ _ (λe he=>by simp[wr]at he;simp_all)) (vO dg cW) (iU (kc d)) (f.own (.inr Z) (kc d) _ _ _) u))
      hb cZ sl T q a dq cW d f cS hw
  have H : ∀ (a b : dN) (w : c'), l2 P dm Wg cX eK a w → ∀ cZ sl T q, dO P L (RW dm Wg C 1 0 0) DC0 (ConcN.AtD2 P dm Wg C 1 0 1) b w → hJ c4 Wg Rd c 1 1 T → cZ[0]? = U a → cZ[c]? = U b → e2 P c cZ T q → gu dm Wg w 1 0 → fa P dM (crowd cZ w sl) T :=
    fun a b w dq cZ sl T q hb cS cW d f hw => A2 dg (p 1 1) g lu (r 1 1) (fun T h fn pos => h.still 0 fn pos) (s 1 1) (t 1) (fun w h => ⟨1, h⟩) (fun _ _ h => h.1)
      (fun M T a b cZ w sl q l cW d f cS hw dq hb => by
        obtain ⟨_, hb⟩ := hb
        obtain ⟨d7, j, m, n⟩ := hb hw
        exact r5 dg l d j (G _ _ _ (dq.woken g) _ _ _ q (dO.r3 n) (cS.Hm dg _ _ L8) (vO dg cW) (iU (kc d)) (f.own (.inr Z) (kc d) _ _ _) hw))
      hb cZ sl T q a dq cW d f cS hw
  have B : ∀ (a b : dN) (w : c'), l2 P dm Wg cX eK a w → ∀ cZ sl T q, dO P L (RW dm Wg C 1 0 0) DC0 (Hk P dm Wg C 1 0 1) b w → hJ c4 Wg Rd c 1 1 T → cZ[0]? = U a → cZ[c]? = U b → e2 P c cZ T q → gu dm Wg w (KK + 1) 0 → fa P dM (crowd cZ w sl) T :=
    fun a b w dq cZ sl T q hb cS cW d f hw => A2 dg (p 1 (KK + 1)) g lu (r 1 _) (fun T h fn pos => h.still 0 fn pos) (s 1 _) (t _) (fun w h => ⟨_, h⟩) (fun _ _ h => h.1)
      (fun M T a b cZ w sl q l cW d f cS hw dq hb => by
        obtain ⟨_, hb⟩ := hb
        obtain ⟨d7, j, cP, _⟩ := hb 0 1 R R (by simpa using hw)
        obtain ⟨m, n⟩ := cP ⟨Z, Z⟩
        have J : (((0 : V) : I) * KK + ((1 : V) : I)) = 1 := dt
        rw [J] at j n
        have u : gu dm Wg (w.setCell (stA Wg) (.int .u64 1)) 1 0 := hw.setSt 1
        have y := dq.rely g (dc.gM.set w 1 ⟨_, 0, hw⟩)
        exact r5 dg l d j (H _ _ _ (y.woken g) _ _ _ q (dO.r3 n) (cS.Hm dg _ _ Hn) (vO dg cW) (iU (kc d)) (f.own (.inr Z) (kc d) _ _ _) u))
      hb cZ sl T q a dq cW d f cS hw
  have D : ∀ (a b : dN) (w : c'), l2 P dm Wg cX eK a w → ∀ cZ sl T q, dO P L (RW dm Wg C 1 0 0) DC0 (Ts P dm Wg C 1 0 1) b w → hJ c4 Wg Rd c 1 0 T → cZ[0]? = U a → cZ[c]? = U b → e2 P c cZ T q → gu dm Wg w (KK + 1) 0 → fa P dM (crowd cZ w sl) T :=
    fun a b w dq cZ sl T q hb cS cW d f hw => A2 dg (p 0 (KK + 1)) g lu (r 0 _) (fun T h fn pos => h.still 0 fn pos) (s 0 _) (t _) (fun w h => ⟨_, h⟩) (fun _ _ h => h.1)
      (fun M T a b cZ w sl q l cW d f cS hw dq hb => by
        obtain ⟨_, d7, j, m, n⟩ := hb
        refine r5 dg l d j (B _ _ _ (dq.woken g) _ _ _ q (dO.r3 n) ?_ (vO dg cW) (iU (kc d)) (f.own (.inr Z) (kc d) _ _ _) hw)
        exact cS.Tt dg _ _)
      hb cZ sl T q a dq cW d f cS hw
  cases hb with
  | d1 hb cS => exact B _ _ _ dq cZ sl T q hb cS cW d f hw
  | k1 hb cS => exact D _ _ _ dq cZ sl T q hb cS cW d f hw
  | r0 hb cS =>
    refine A2 (cL := hm c4 Wg Rd c 1 0) (eU := fun w => gu dm Wg w (KK + 1) 0) dg ⟨fun T i fn pos es h cW cK d8 => h.xd cW cK fn pos d8, fun _ _ h => h⟩ g lu
      (fun T fn pos es w w' h hw cP => ⟨h.mU dg fn pos (L' dc.gM.rd cP), cP.1 ▸ hw⟩)
      (fun T h fn pos => by have : T ++ gR 0 fn pos #[] = T := by simp [gR]
                            rw [this]; exact h)
      (fun T fn pos es w w' h hw cP => ⟨h.yE dg fn pos cP.2, AsideCell.wg dc.vP cP.1 hw⟩) (fun w w' es hw cP => dc.L_ w w' ⟨_, _, hw⟩ cP.1) (fun w h => ⟨_, h⟩) (fun _ _ h => h.1)
      (fun M T a b cZ w sl q l cW d f cS hw dq hb => ?_) hb cZ sl T q a dq cW d f cS hw
    obtain ⟨_, _, d7, j, m, n⟩ := hb
    refine r5 dg l d j (D _ _ _ (dq.woken g) _ _ _ q (dO.r3 n) ?_ (vO dg cW) (iU (kc d)) (f.own (.inr Z) (kc d) _ _ _) hw)
    refine ⟨cS.Hd dg lq (fun op o x K => ?_) (fun op o a => ?_) ?_, _, aeW cS.q7 _ _⟩
    .rw [DX] at o; simp at o; subst o; simp [mk, mq, k6] at K
    .rw [DX] at o; simp at o; subst o; simp [mk, mq]
    .rw [uj, cS.q7]; rfl
variable {gq:dN->c'->Prop}
theorem nf.book(dg:c≠0){b w}(h:nf P dm Wg C c c4 Rd v eW T b w)(fn pos){es}(d:∀op∈gR 0 fn pos es,∀x,op.act.touch? =U x->nR c4 Wg Rd x)(dI:∀e∈es,∀a,e.loc≠.mark (.release a)){w'}(hw:RW dm Wg C 1 0 0 w w'):nf P dm Wg C c c4 Rd v (deafBehind eW es) (T++gR 0 fn pos es) b w':=by
 cases h with|r0 h cS=>exact .r0 (h.rely lu.trans hw) (cS.book dg fn pos d dI)|k1 h cS=>exact .k1 (h.rely lu.trans hw) (cS.book dg fn pos d dI)|d1 h cS=>exact .d1 (h.rely lu.trans hw) (cS.book dg fn pos d dI)
theorem nf.running{b w}(h:nf P dm Wg C c c4 Rd v eW T b w):b.status=.running:=by
 cases h with|r0 h _=>exact h.running (λ_ _ x=>x.1) lu.refl|k1 h _=>exact h.running (λ_ _ x=>x.1) lu.refl|d1 h _=>exact h.running (λ_ _ x=>x.1) lu.refl
theorem Tw(cX:¬Rd Wg){fn pos es}(h:∀o∈gR 0 fn pos es,∀x,o.act.touch? =U x->r2 (·=Wg) x.loc/\x.kind=.atomic):∀o∈gR 0 fn pos es,∀x,o.act.touch? =U x->nR c4 Wg Rd x:=
 λo b x a=>AZ.fit cX ⟨(h o b x a).1,by grind⟩
theorem Ma(dc:yX P dm Wg c C c4 Rd cX eK dM)(st):∀es w w',gu dm Wg w st 0->hK Wg w w' es->(∀e∈es,mo (nR c4 Wg Rd) e) /\gu dm Wg w' st 0/\RW dm Wg C 1 0 0 w w':=λes w w' hw cP=>⟨L' dc.gM.rd cP,cP.1▸hw,cP.1▸lu.refl _⟩
theorem Mb(dc:yX P dm Wg c C c4 Rd cX eK dM)(st):∀w w',gu dm Wg w st 0->DY C 1 0 w w'->cX w w'/\gu dm Wg w' st 0:=λw w' hw h=>⟨dc.L_ w w' ⟨_,_,hw⟩ h,AsideCell.wg dc.vP h hw⟩
theorem ae2 (dc:yX P dm Wg c C c4 Rd cX eK dM) (j:∀ g w,gq g w->dO P N cX (hK Wg) (r4 P dm Wg cX eK gq) g w) {a b} {w} (dq:dO P N cX (hK Wg) (L3 P dm Wg cX eK gq) a w) (cZ) (sl) (T) (q) (hb:nf P dm Wg C c c4 Rd v 1 T b w) (cW:cZ[0]?=U a) (d:cZ[c]?=U b) (e:e2 P c cZ T q) (hw:gu dm Wg w KK 0):fa P dM (crowd cZ w sl) T:=by
 refine DZ (eU:=fun w=>gu dm Wg w KK 0) dc.gM.eT dc.gM.mr (fun _ _ h=>h.1) (fun _ _ h=>h) (Ma dc _) (Mb dc _) (fun M T a b cZ w sl q f cW d e hw c7 hb=>?_) (fun M T a b cZ w sl q f cW d e hw dq cS hb=>?_) dq cZ sl T q hb cW d e hw
 .have⟨_,c7,_⟩:=c7;have⟨d9,k,l⟩:=c7 hw;have i:gu dm Wg (w.setCell (stA Wg) (.int .u64 (KK+1))) (KK+1) 0:=hw.setSt _;have:=hb.book dc.gM.eT a.frame.fn a.frame.place (es:=#[rd (stA Wg),wr (stA Wg)]) (Tw dc.gM.rd (L6 Hn)) (L7 Hn) (ae0 dc.vP hw (stA Wg) (.inl Z) (.int .u64 (KK+1)) ⟨_,_,i⟩);exact oB f cW k (ae1 dc (.inl l) _ _ _ q this (iU (iq cW)) (nd (Ne.symm dc.gM.eT) d (woken_run hb.running)) (e.own (.inl Z) (iq cW) _ _ _) i)
 .exact D1 dc.gM.eT f cW (dq.running (fun _ _ h=>h.1) dc.gM.mr.refl) d e cS hw hb fun m n o p r s=>aeU dc.gM j (dq.rely dc.gM.mr.trans (dc.gM.set w _ ⟨_,_,hw⟩)) m sl n o p r s (hw.setSt 0)
theorem ae3 (dc:yX P dm Wg c C c4 Rd cX eK dM) (i:∀ g w,gq g w->dO P N cX (hK Wg) (r4 P dm Wg cX eK gq) g w) {a b} {w} (dq:dO P N cX (hK Wg) (r4 P dm Wg cX eK gq) a w) (cZ) (sl) (T) (q) (hb:nf P dm Wg C c c4 Rd v 1 T b w) (cW:cZ[0]?=U a) (d:cZ[c]?=U b) (e:e2 P c cZ T q) (hw:gu dm Wg w KK 0):fa P dM (crowd cZ w sl) T:=by
 refine DZ (eU:=fun w=>gu dm Wg w KK 0) dc.gM.eT dc.gM.mr (fun _ _ h=>h.1) (fun _ _ h=>h) (Ma dc _) (Mb dc _) (fun M T a b cZ w sl q f cW d e hw c7 hb=>?_) (fun M T a b cZ w sl q f cW d e hw dq cS hb=>?_) dq cZ sl T q hb cW d e hw
 .have⟨_,c7,_⟩:=c7;have⟨d9,j,k⟩:=c7 hw;have:=hb.book dc.gM.eT a.frame.fn a.frame.place (es:=#[rd (stA Wg)]) (Tw dc.gM.rd (L6 L8)) (L7 L8) (lu.refl w);exact oB f cW j (ae2 dc i k _ _ _ q this (iU (iq cW)) (nd (Ne.symm dc.gM.eT) d (woken_run hb.running)) (e.own (.inl Z) (iq cW) _ _ _) hw)
 .exact D1 dc.gM.eT f cW (dq.running (fun _ _ h=>h.1) dc.gM.mr.refl) d e cS hw hb fun l m n o p r=>L4 dc.gM (dq.rely dc.gM.mr.trans (dc.gM.set w _ ⟨_,_,hw⟩)) l sl m n o p r (hw.setSt 0)
theorem ae4 (dc:yX P dm Wg c C c4 Rd cX eK dM) (f:∀ g w,gq g w->dO P N cX (hK Wg) (r4 P dm Wg cX eK gq) g w) {a b} {w} (dq:dO P N cX (hK Wg) (Hi P Wg cX gq) a w) (cZ) (sl) (T) (q) (hb:nf P dm Wg C c c4 Rd v 0 T b w) (cW:cZ[0]?=U a) (d:cZ[c]?=U b) (e:e2 P c cZ T q) (hw:gu dm Wg w KK 0):fa P dM (crowd cZ w sl) T:=by
 refine DZ (eU:=fun w=>gu dm Wg w KK 0) dc.gM.eT dc.gM.mr (fun _ _ h=>h.1) (fun _ _ h=>h) (Ma dc _) (Mb dc _) (fun M T a b cZ w sl q i cW d e hw c7 hb=>?_) (fun M T a b cZ w sl q i cW d e hw dq cS hb=>?_) dq cZ sl T q hb cW d e hw
 .have⟨_,d9,j,k⟩:=c7;have:=hb.book dc.gM.eT a.frame.fn a.frame.place (es:=#[mk .disable]) (DV Z) (DW dt) (lu.refl w);exact oB i cW j (ae3 dc f (k.bind dc.gM.mr.refl f) _ _ _ q this (iU (iq cW)) (nd (Ne.symm dc.gM.eT) d (woken_run hb.running)) (e.own (.inl Z) (iq cW) _ _ _) hw)
 .exact D1 dc.gM.eT i cW (dq.running (fun _ _ h=>h.1) dc.gM.mr.refl) d e cS hw hb fun l m n o p r=>Tr dc.gM f (dq.rely dc.gM.mr.trans (dc.gM.set w _ ⟨_,_,hw⟩)) l sl m n o p r (hw.setSt 0)
end
end
def zm{α}:∀(dD:J α) (c) (j),(iM c j dD).length=c.length
 | [],_,_=>rfl|x::r,c,j=>by simp[iM];rw[zm r];simp
def BK{α}:∀(dD:J α) (c) (j k),j+dD.length<=c.length->(iM c j dD)[k]?=if j<=k/\k<j+dD.length then dD[k-j]? else c[k]?
 | [],c,j,k,_=>by simp[iM];omega
 |x::r,c,j,k,h=>by
  simp[iM];rw[BK r _ _ _ (by grind)];grind
def UO{α}{c dD:J α}{j}(h:j+dD.length<=c.length):Bg c j dD=iM c j dD:=by apply EP;intro k;rw[BK _ _ _ _ h,Bg];grind
def Ic{M w}(h:fq M w)(o):M w.heap.size o=cM:=by
 cases cU:M w.heap.size o with|none=>rfl|some v=>have:=agG w _ (h _ _ _ cU);grind
def agH{M w}(h:fq M w)(a):fq M (w.alloc a):=λb o v cU=>by
 have:=agG w _ (h _ _ _ cU);rw[World.cell?_alloc_lt _ _ _ this];exact h _ _ _ cU
def UP(w:c')(o){c}(h:c<w.heap.size):(w.alloc o).heap[c]?=w.heap[c]?:=Below.heap_alloc w o c h
def Ie(w:c')(o):(w.alloc o).heap[w.heap.size]?=U o:=by show(w.heap.push o)[w.heap.size]?=_;simp
def agI{own w}(b:∀c,w.heap.size<=c->own c)(o):jM own w (w.alloc o):=
 ⟨rfl,rfl,rfl,dt,λc a=>by
  rcases jd c w.heap.size with h|h
  .exact UP w o h
  simp_all⟩
def If{own M a D O p w cO}(o:∀c,w.heap.size<=c->own c)(u:gJ M a)(cY:jl own M a)(n:fq a cO)(c_:er own a D p cO)
  (hw:cO.heap=w.heap)(f:cO.os=w.os)(g:cO.tape=w.tape)(i:cO.output=w.output)
  {e d B vs eQ cQ len v}
  (r:e.O O=eO (hL (U d) p) d (U B))(s:e.f2=U d)
  (m:jz a (eO D d (U (U ⟨w.heap.size,cQ,vs.size,len⟩))) (cO.alloc (.cells vs eQ)) B ⟨w.heap.size,cQ,vs.size,len⟩)
  (cP:dV a (eO D d (U (U ⟨w.heap.size,cQ,vs.size,len⟩))) e.fl v):dM own M D O w e v (cO.alloc (.cells vs eQ)):=by
 refine⟨a,eO D d (U (U ⟨w.heap.size,cQ,vs.size,len⟩)),?_,u,agH n _,cY,?_,λb q=>gf _ _ λk=>td (s▸q) k,cP⟩
 .have:=agI (w:=cO) (own:=own) (λc j=>o c (by simp_all)) (.cells vs eQ);exact⟨this.os.trans f,this.tape.trans g,this.output.trans i,by simp_all,λc j=>by rw[this.block c j,hw]⟩
 .rw[r];refine c_.new d B _ (.refl _) (o _ (fB _)) m λx ej t h=>have l:=c_.lt h;⟨?_,UP _ _ l,c_.closed h⟩;grind
def agJ{O}(dR d B a):(⟨a,f9 O dR++[(d,B)],U d⟩:ge).O O=eO (hL (U d) (gj O (f9 O dR))) d (U B):=by simp[ge.O,zl,gj,EO (U d) _ O (H9 dR)]
def zn:∀ {vs dx},pU vs dx=N->vs.length=dx.length/\ ∀(i:V) (d),dx[i]?=U d->∃v,vs[i]?=U v/\ (∀M,e1 M d v)/\ ∀a n c,v=.slice a n c->n=0/\c=0
 | [],[],_=>⟨Z,λi d h=>ql⟩
 | [],_::_,h=>by simp[pU]at h
 |_::_,[],h=>by simp[pU]at h
 |v::vs,d::dx,h=>by
  simp[pU,lB]at h;have⟨Q,c5⟩:=h;have⟨b,f⟩:=zn c5;refine⟨by simp[b],λi g cK=>?_⟩
  cases i with
  |succ i=>simp_all
  |zero=>
   simp only[uL,fx]at cK⊢;subst cK;refine⟨v,Z,λM=>?_,λa n c e=>?_⟩
   rotate_left
   .subst e
    cases a with
    |some a=>simp[Bv]at Q
    |none=>
     cases n with
     |succ n=>simp[Bv]at Q
     |zero=>
      cases c with
      |succ c=>simp[Bv]at Q
      |zero=>exact hg
   cases cU:Bv v with
   |none=>simp_all
   |some eW=>
    simp[cU]at Q;unfold Bv at cU;split at cU
    .simp at cU;subst cU
     cases d<;>simp[Bw]at Q
     obtain⟨a,rfl⟩:=Q;have:=Ez (by simpa using a);subst this;exact .int _ _
    .simp at cU;subst cU
     cases d<;>simp[Bw]at Q
     subst Q;exact .bool _
    .rename_i s
     cases c7:d2 s.size 0 with
     |false=>simp_all
     |true=>
      simp[c7,fE,fx]at cU;subst cU
      cases d<;>simp[Bw]at Q
      rename_i s'
      have b:s=.empty:=by
       have:=gs c7;have⟨⟨l⟩⟩:=s
       cases l with
       |nil=>rfl
       |cons a r=>simp_all
      have f:s'=.empty:=by
       have⟨⟨l⟩⟩:=s'
       cases l with
       |nil=>rfl
       |cons a r=>omega
      subst b f;exact .str _
    .simp at cU;subst cU
     cases d<;>simp[Bw]at Q
     rename_i l
     cases l with
     |nil=>exact .emp _ _
     |cons a r=>simp at Q
    .simp at cU;subst cU
     cases d<;>simp[Bw]at Q
     exact .ka
    .cases cU
def UQ{M D d v}(h:e1 M d v)(cU:∀a n c,v=.slice a n c->n=0/\c=0):dV M D (ra d) v:=by
 unfold ra;split
 .cases h with|emp a c=>obtain⟨_,rfl⟩:=cU a 0 c Z;exact .nil a|dk l b off cap cQ val dw Q c5 e=>obtain⟨_,rfl⟩:=cU _ _ _ Z;exact .nil _
 .exact .d _ _ h
theorem rj{P o dC O e}
  (h:∀(own M D) (a:e7) (w),(∀c,w.heap.size<=c->own c)->fq M w->er own M D O w->(∀x,dV M D (dC x) (a.eval x))->
   ∃v w',(execOp a.eval o).run P w=.ok (.value v) w'/\ (∀e∈(execOp a.eval o).events P w #[],h0 own M e) /\dM own M D O w e v w'):hv P o dC O e:=
 Nf λown M D a w f d c_ b=>by
  have⟨v,w',Q,g,i⟩:=h own M D a w f d c_ b;grind
theorem UR{P o dC O e}
  (h:∀(own M D) (a:e7) (w),(∀c,w.heap.size<=c->own c)->fq M w->er own M D O w->(∀x,dV M D (dC x) (a.eval x))->
   ∃w',(execOp a.eval o).run P w=.ok .skip w'/\ (∀e∈(execOp a.eval o).events P w #[],h0 own M e) /\dM own M D O w e undef w'):hv P o dC O e:=
 Nf λown M D a w f d c_ b=>by
  have⟨w',Q,g,i⟩:=h own M D a w f d c_ b;simp_all
theorem Nr{P o dC O e}(f:∀(own M) (a:e7) (w),∀e∈(execOp a.eval o).events P w #[],h0 own M e)
  (h:∀(own M D) (a:e7) (w),(∀c,w.heap.size<=c->own c)->fq M w->er own M D O w->(∀x,dV M D (dC x) (a.eval x))->
   ∃v w',(execOp a.eval o).run P w=.ok (.value v) w'/\dM own M D O w e v w'):hv P o dC O e:=
 rj λown M D a w g d c_ b=>by
  have⟨v,w',Q,i⟩:=h own M D a w g d c_ b;grind
section
variable {P:el} {T:fL} (cS:jB P T)
include cS
omit cS in
theorem US(t v w):(newVar t v).run P w=.ok ⟨w.heap.size,0,cM⟩ (w.alloc (.cells v.cells t)):=by rfl
omit cS in
theorem UT{own M D O w}(j:∀c,w.heap.size<=c->own c)(g:fq M w)(c_:er own M D O w){d c vs eQ}
  (a:tc M D vs c)(i:∀x∈c,y4 d x):dM own M D O w ⟨.ptr d 0 0,[(d,.box c L)],U d⟩ (.pointer (U ⟨w.heap.size,0,cM⟩)) (w.alloc (.cells vs eQ)):=by
 have n:∀b,b≠d->eO D d (U (U (⟨w.heap.size,c.length,vs.size,0⟩:kR))) b=D b:=λb a=>gf _ _ a;refine If j (.refl M) (.refl _ _) g c_ Z Z Z Z (e:=⟨.ptr d 0 0,[(d,.box c L)],U d⟩) (d:=d) (B:=.box c L) (cQ:=c.length) (len:=0) Z Z ?_ ?_
 .refine⟨vs,eQ,Ie w _,Z,Z,a.size,have d:=λb f=>n b (Ed f);⟨a.size,λj x Q=>let ⟨v,h,e⟩:=a.den j x Q;⟨v,h,e.uk d (i x (jg Q))⟩⟩,rW,λ_ o=>Ic g o⟩
 .have:=dV.ptr (M:=M) (D:=eO D d (U (U (⟨w.heap.size,c.length,vs.size,0⟩:kR)))) d 0 0 ⟨w.heap.size,c.length,vs.size,0⟩ (gE _ _ _);simp_all
omit cS in
theorem agK(d b):y4 b (ra d):=by
 intro a _;unfold ra;split
 .exact .nil
 .exact .d _
omit cS in
theorem UU{t}{z:dp}(c:pU z.cells.toList (T t).zero=N)(M D):tc M D z.cells ((T t).zero.map ra):=by
 have⟨f,e⟩:=zn c;refine⟨by simp_all,λj x a=>?_⟩;rw[iO]at a
 cases cP:(T t).zero[j]? with|none=>simp_all|some d=>simp[cP,jp,fx]at a;subst a;have⟨v,dG,g,b⟩:=e j d cP;exact⟨v,yH,UQ (g M) b⟩
omit cS in
theorem UV{own M D O w}(c_:er own M D O w){x v}(dg:pO O x=N)(h:dV M D x v):v.oneCell'=N/\v.cells=#[v]:=by
 have g:∀(d:c3) (v:dp),pO.one d=N->e1 M d v->v.oneCell'=N/\v.cells=#[v]:=by
  intro d v dg h
  cases h<;>simp[pO.one]at dg<;>exact hg
 cases h with|agg c vs c7 e=>simp[pO]at dg|dP c vs c7 e=>simp[pO]at dg|dead v=>simp[pO]at dg|d y v l=>exact g y v dg l|e4=>exact hg|fd=>exact hg|own b cL cap h m dg=>exact hg|h7 b a h=>exact hg|ji b v h=>simp[pO,(c_.fD b).2 h]at dg|ptr b i j cL h=>exact hg|iV b i j v h=>simp[pO,(c_.fD b).2 h]at dg|win b dy n c cL k base o p q r s=>cases dg|jj b dy n c v h=>cases dg|nil a=>exact hg|fn f cap vs c7 e=>exact hg
omit cS in
theorem UW{O c}(h:r9 O c=N):∀x∈c,pO O x=N:=by
 induction c with
 |nil=>simp_all|cons y r i=>simp[r9]at h;simp_all
omit cS in
theorem Ig{own M D O w}(c_:er own M D O w){x v}(dg:r9 O (cellsOf x)=N)(h:dV M D x v):
  v.cells.size=(cellsOf x).length/\ (∀(i:V) (y) (u),(cellsOf x)[i]?=U y->v.cells[i]?=U u->dV M D y u) /\ ∀u∈v.cells.toList,u.oneCell'=N:=by
 have base:v.cells.size=(cellsOf x).length/\ (∀(i:V) (y:dn) (u:dp),(cellsOf x)[i]?=U y->v.cells[i]?=U u->dV M D y u):=by
  cases x with
  |agg c=>obtain⟨vs,rfl,c7,cP⟩:=xz h;exact⟨c7,cP⟩
  |_=>
   have Q:=UW dg _ (lE.2 Z);have c5:=(UV c_ Q h).2;rw[c5];refine⟨Z,λi y u dG b=>?_⟩
   cases i with
   |zero=>simp[cellsOf]at dG b;simp_all
   |succ i=>simp_all
 refine⟨base.1,base.2,λu d=>?_⟩;obtain⟨i,cK,rfl⟩:=List.getElem_of_mem d
 have a:i<(cellsOf x).length:=by rw[<-base.1];simpa using cK
 have cP:=base.2 i (cellsOf x)[i] v.cells[i] (fe a) (by simp_all);exact(UV c_ (UW dg _ (hS a)) cP).1
omit cS in
theorem agL{M D c vs}(h:vs.size=c.length)(cP:∀(i:V) (y u),c[i]?=U y->vs[i]?=U u->dV M D y u):tc M D vs c:=
 ⟨h,λj x a=>by
  have b:=(fM.1 a).1
  have:vs[j]?=U vs[j]:=dt
  grind⟩
theorem agM{o t}{d:Tmp}{dC O}{K:ge->Prop}(f:o.op=.alloc t)
  (h:bif (T t).k.known then qt ((T t).zero.map ra) λc=>K ⟨.ptr d 0 0,[(d,.box c L)],U d⟩ else dA):∃e,K e/\hv P o dC O e:=by
 cases k:(T t).k.known with
 |false=>simp_all
 |true=>
  simp[k,fE]at h;refine⟨_,EE h,rj λown M D a w n j c_ m=>have⟨z,g,b⟩:=Nb cS w k;⟨_,w.alloc (.cells z.cells t),?_,tk (by simp[execOp,f,agN,g,newVar,newRow]),UT n j c_ (UU b M D) λx l=>?_⟩⟩
  .simp[execOp,f,agN,g,US]
  .obtain⟨i,_,rfl⟩:=h4.1 l;exact agK i d
end
theorem agO(c:ea dp)(vs o k)(h:o+vs.length<=c.size):
  ((c.toList.take o++vs++c.toList.drop (o+vs.length)).toArray)[k]?=if o<=k/\k<o+vs.length then vs[k-o]? else c[k]?:=by
 grind
theorem agP{b dR}(h:kd b dR=L):b∉dR:=by
 induction dR with
 |nil=>simp
 |cons x r i=>
  simp only[kd]at h
  cases a:d2 b x with|true=>simp_all|false=>simp at h;intro m;simp_all
theorem EQ{hh b}:∀dR O,b∉dR->gj O (f9 hh dR) b=O b
 | [],_,_=>rfl
 |c::r,O,h=>by
  have dI:=λe=>h (lD _ e);have dg:b≠c:=λe=>h (by simp_all);simp[f9]
  cases hb:hh c with
  |none=>exact EQ r O dI
  |some B=>
   cases B with
   |box x cN=>exact EQ r O dI
   |row l cQ cN=>simp[gj];rw[EQ r _ dI,gf _ _ dg]
section
variable {P:el} {T:fL} (cS:jB P T)
theorem Ih(g o t):∀vs i c w es,w.heap[g]?=U (.cells c t (0,0))->o+i+vs.length<=c.size->(∀v∈vs,v.oneCell'=N)->
  ∀du∈(storeCells ⟨g,o,cM⟩ vs i).events P w es,du∈es\/du.sync=L/\ ∃eb,du.loc=.cell eb/\eb.block=g
 | [],_,_,_,_,_,_,_=>λdu h=>.inl (by assumption)
 |v::rest,i,c,w,es,b,l,Q=>λdu h=>by
  have cK:o+i<c.size:=by simp at l;omega
  have a:(⟨g,o,cM⟩:gP).add i=⟨g,o+i,cM⟩:=by unfold oN;split<;>simp_all
  have e:w.cell? ⟨g,o+i,cM⟩=U c[o+i]:=by simp[j3,b,cK]
  have f:w.frozen? ⟨g,o+i,cM⟩=L:=by simp[World.frozen?,b]
  have s:(store ((⟨g,o,cM⟩:gP).add i) v).run P w=.ok () (w.setRow g (c.setIfInBounds (o+i) v)):=by rw[a,Ii P w _ v _ (Q v dt),e];simp[f,setCell_eq_setRow w g (o+i) c t (0,0) v b]
  have d:(store ((⟨g,o,cM⟩:gP).add i) v).events P w es=es.push ⟨.cell ⟨g,o+i,cM⟩,N,L⟩:=by rw[a,Ij P w es _ v _ (Q v dt),e];simp[f,rh,qp];rfl
  simp[storeCells,jn,s,kE,d]at h;rcases Ih g o t rest (i+1) (c.setIfInBounds (o+i) v) (w.setRow g (c.setIfInBounds (o+i) v)) _ (setRow_heap w g c _ t _ b) (by grind) (λx eC=>Q x G7) du h with h|h
  .grind
  simp_all
theorem Ik{own M w l cs eQ}(i:fq M w)(n:own l)(f:∀o,M l o=cM)(a:w.heap[l]?=U (.cells cs eQ (0,0)))
  (vs o)(d:o+vs.length<=cs.size)(Q:∀u∈vs,u.oneCell'=N):
  ∃s,((storeCells ⟨l,o,cM⟩ vs).run P w=.ok () (w.setRow l s) /\ ∀du∈(storeCells ⟨l,o,cM⟩ vs).events P w #[],h0 own M du) /\fq M (w.setRow l s) /\jM own w (w.setRow l s) /\ (w.setRow l s).heap[l]?=U (.cells s eQ (0,0)) /\s.size=cs.size/\
   (∀k,s[k]?=if o<=k/\k<o+vs.length then vs[k-o]? else cs[k]?) /\ ∀b,b≠l->(w.setRow l s).heap[b]?=w.heap[b]?:=by
 have t:∀(s:ea dp) (b:V),b≠l->(w.setRow l s).heap[b]?=w.heap[b]?:=λs b j=>by
  simp[World.setRow,Array.getElem?_modify];grind
 have g:=agO cs vs o;refine⟨_,⟨run_storeCells_at (P:=P) l o eQ vs 0 cs w a d Q,λdu p=>?_⟩,?_,?_,setRow_heap w l cs _ eQ _ a,?_,?_,t _⟩
 .rcases Ih l o eQ vs 0 cs w #[] a d Q du p with h|⟨Q,eb,q,r⟩
  .simp at h
  .unfold h0;simp_all
 .intro b off v cU
  have j:b≠l:=by rintro rfl;rw[f]at cU;cases cU
  have:=i b off v cU;simp[j3]at this⊢;simp_all
 .refine⟨Z,Z,Z,by simp_all,λc m=>t _ _ λe=>m (e▸n)⟩
 .simp;omega
 simp_all
include cS in
theorem UY{t}(k:(T t).k.known=N){v a w w'}(s:v.cells.size=(T t).size)(h:(storeCells a v.cells.toList).run P w=.ok () w'):(storeVar t a v).run P w=.ok () w':=by simp[storeVar,iu cS w k,s,h]
include cS in
theorem UZ{t}(h:(T t).k.known=N){v a w}(s:v.cells.size=(T t).size):(storeVar t a v).events P w #[]=(storeCells a v.cells.toList).events P w #[]:=by simp[storeVar,iu cS w h,s]
theorem U0{α}{c l:J α}{j}(h:j+l.length<=c.length)(e:l.length=c.length):iM c j l=l:=by apply EP;intro k;rw[BK l c j k h];grind
theorem agR{c j v K}(a:j+(cellsOf v).length<=c.length)(h:HF c j v K):K (iM c j (cellsOf v)):=by
 cases v with
 |agg l=>
  simp only[HF,cellsOf]at h a⊢
  cases he:d2 l.length c.length with|true=>simp[he,fE]at h;rw[U0 a (gs he)];exact EE h|false=>rw[<-UO a];simp_all
 |_=>exact h
end
def U1(vs:ea dp)(off):∀(n:V) (l) (g) (c:ea dp),l=vs.toList.drop g->off+vs.size<=c.size->
  ∃cs,(l.zipIdx g).foldl (λcs (x)=>cs.setIfInBounds (off+x.2) x.1) c=cs/\cs.size=c.size/\ ∀k,cs[k]?=if off+g<=k/\k<off+vs.size then vs[k-off]? else c[k]?
 |_,[],g,c,a,h=>⟨c,Z,Z,λk=>by
   have:vs.size<=g:=by have:=eR pY a;simp at this;omega
   grind⟩
 |n,v::r,g,c,a,h=>by
  have f:g<vs.size:=by have:=eR pY a;simp at this;omega
  have cU:vs.toList.drop g=vs[g]::vs.toList.drop (g+1):=by rw[rk R];simp
  rw[cU]at a;simp at a;obtain⟨rfl,b⟩:=a;have⟨cs,i,e,d⟩:=U1 vs off n r (g+1) (c.setIfInBounds (off+g) vs[g]) b (by grind);refine⟨cs,by assumption,by simp_all,λk=>?_⟩;grind
def BL(M:eE)(D:gr)(c:J dn)(cs:ea dp):Prop:=cs.size=c.length/\ ∀(i:V) (y:dn) (u:dp),c[i]?=U y->cs[i]?=U u->dV M D y u
def Il{O dC off}:∀ {C c K},vZ O dC off c C K->
 ∃g,K g/\g.length=c.length/\ ∀(own) (M) (D) (a:e7) (w) (cs),er own M D O w->(∀x,dV M D (dC x) (a.eval x))->BL M D c cs->
  ∃b,Ue off cs (C.map λp=>(p.1,a.eval p.2))=U b/\BL M D g b
 | [],c,K,h=>⟨c,h,Z,λ_ M D a w cs _ _ cL=>⟨cs,Z,cL⟩⟩
 |(i,x)::r,c,K,h=>by
  simp only[vZ]at h
  cases A:off i with
  |none=>simp_all
  |some p=>
   have⟨o,s⟩:=p;simp only[A]at h;have h:=(tl h).1
   cases t:d2 (cellsOf (dC x)).length s&&hn (o+s) c.length with
   |false=>simp_all
   |true=>
    simp only[t,fE]at h;simp only[lB]at t;have B:=gs t.1;have m:=ta t.2
    cases j:r9 O (cellsOf (dC x)) with
    |false=>simp_all
    |true=>
     simp[j,fE]at h;rw[UO R]at h;have⟨g,cV,dj,cP⟩:=Il h;refine⟨g,cV,by rw[dj,zm],λown M D a w cs c_ q d=>?_⟩;have⟨I,J,_⟩:=Ig c_ j (q x);have⟨e,dG,G,H⟩:=U1 (a.eval x).cells o (a.eval x).cells.size (a.eval x).cells.toList 0 cs dt (by rw[I,B,d.1];exact m)
     have l:BL M D (iM c o (cellsOf (dC x))) e:=by
      refine⟨by rw[G,zm];exact d.1,λk y u v f=>?_⟩;rw[BK _ _ _ _ R]at v;rw[H]at f;rw[I]at f;simp at f;split at v
      .rename_i n;rw[if_pos n]at f;grind
      .rename_i n;rw[cT n]at f;exact d.2 k y u v f
     have⟨b,E,F⟩:=cP own M D a w e c_ q l;refine⟨b,?_,F⟩
     have z:¬((a.eval x).cells.size≠s||decide (o+(a.eval x).cells.size>cs.size))=N:=by rw[I,B,d.1];simp;exact m
     simp only[kD,Ue,A];rw[cT (by simpa using z)]
     have dr:(a.eval x).cells.zipIdx.foldl (λcs (x:dp×V)=>cs.setIfInBounds (o+x.2) x.1) cs=e:=by rw[<-dG,<-Array.foldl_toList];simp
     have:=dr;rwa[this]
section
open Go.Conc
open Go.ConcN (sumTo upd sumTo_upd upd_ne upd_same RelBy WgLive AsideCell RW)
open Go.ConcR (KK wgBlock WgAt stA smA rd wr mk DC0 Payload)
section
variable {P:el} {cZ:ea dN} {w c0:c'} {sl:dB (V×V)} {i j k:V} {g r6 qq:dN} {es:ea hB} {cases cs:ea CommCase} {shape xh:CommShape} {TE:dh} {c cap s r:V} {yY:ea dp} {db:dh} {v z D5:dp}
theorem afq(cK:cZ[i]?=U g)(h:stepG P (i==0) g w=.comm r6 #[rcase c z] TE shape c0 es)(n:c0.heap[c]?=U (.chan cap #[] L s r db))
  (e:j≠i)(q:cZ[j]?=U (parked qq cs xh))(m:cs[k]?=U (scase c v D5))(O:A6 (cZ.setIfInBounds i ph) c N=[(j,k)]):
  ∃ops,runT P (crowd cZ w sl) i=(.next (crowd ((cZ.setIfInBounds j (qq.finishComm P cs xh k undef L)).setIfInBounds i (r6.finishComm P #[rcase c z] shape 0 v N)) (c0.setChan c cap #[] L (s+1) (r+1) db) sl),gR i g.frame.fn g.frame.place es++ops) /\
   (∀o∈ops,o.act.touch? =cM/\o.act≠.mark .disable/\o.act≠.mark .enable/\ ∀a,o.act≠.mark (.release a)):=by
 rw[afr cK h];have b:=stand_get (i:=i) e q;have f:=afs P (cZ.setIfInBounds i ph) b (cs:=cs) (sh:=xh) Z k undef
 have d:(cZ.setIfInBounds i ph).getD j default=parked qq cs xh:=by rw[um,b];rfl
 have l:offeredValue (cZ.setIfInBounds i ph) j k=v:=by simp[offeredValue,b,parked,m,scase]
 refine⟨#[{g:=j,fn:=qq.frame.fn,pos:=qq.frame.place,act:=.send c s},{g:=i,fn:=r6.frame.fn,pos:=r6.frame.place,act:=.recv c r cap},{g:=j,fn:=qq.frame.fn,pos:=qq.frame.place,act:=.sendDone c s},{g:=i,fn:=r6.frame.fn,pos:=r6.frame.place,act:=.recvDone c r}],?_,?_⟩
 .simp[communicate,ways,rcase,n,O,choose,Hr,un,bind,Sem.bind,pure,D6,crowd,f,d,l,set_stand2,aft,scase,parked,m];rfl
 .intro o p;simp at p;rcases p with rfl|rfl|rfl|rfl<;>exact⟨Z,dt,dt,dt⟩
theorem afu(cK:cZ[i]?=U g)(h:stepG P (i==0) g w=.comm r6 cases TE shape c0 es)(q:cases[k]?=U (scase c v z))
  (t:∀m n,m≠k->cases[m]?=U n->NoWays c0 (cZ.setIfInBounds i ph) n)
  (d:c0.heap[c]?=U (.chan cap yY L s r db))(l:j≠i)(u:cZ[j]?=U (parked qq #[rcase c D5] xh))(O:A6 (cZ.setIfInBounds i ph) c L=[(j,0)]):
  ∃ops,runT P (crowd cZ w sl) i=(.next (crowd ((cZ.setIfInBounds j (qq.finishComm P #[rcase c D5] xh 0 v N)).setIfInBounds i (r6.finishComm P cases shape k undef L)) (c0.setChan c cap yY L (s+1) (r+1) db) sl),gR i g.frame.fn g.frame.place es++ops) /\
   (∀o∈ops,o.act.touch? =cM/\o.act≠.mark .disable/\o.act≠.mark .enable/\ ∀a,o.act≠.mark (.release a)):=by
 have hw:ways c0 (cZ.setIfInBounds i ph) (scase c v z)=[.partner j 0]:=by simp[ways,scase,d,O]
 have b:=stand_get (i:=i) l u;have f:=afs P (cZ.setIfInBounds i ph) b (cs:=#[rcase c D5]) (sh:=xh) Z 0 v
 have e:(cZ.setIfInBounds i ph).getD j default=parked qq #[rcase c D5] xh:=by rw[um,b];rfl
 refine⟨#[{g:=i,fn:=r6.frame.fn,pos:=r6.frame.place,act:=.send c s},{g:=j,fn:=qq.frame.fn,pos:=qq.frame.place,act:=.recv c r cap},{g:=i,fn:=r6.frame.fn,pos:=r6.frame.place,act:=.sendDone c s},{g:=j,fn:=qq.frame.fn,pos:=qq.frame.place,act:=.recvDone c r}],?_,?_⟩
 .rw[afr cK h];unfold communicate;simp only[ready_one q (by grind) t,hw];rw[cT]
  .simp[choose,Hr,un,bind,Sem.bind,pure,scase,crowd,d,f,e,set_stand2,aft,rcase,parked,D6];rfl
  .rw[Bool.not_eq_true];exact any_ill (made_of_one q (made_send v z d) t)
 .intro o p;simp at p;rcases p with rfl|rfl|rfl|rfl<;>exact⟨Z,dt,dt,dt⟩
end
theorem TF{w:c'}{c cap s r yY ds db}(h:c<w.heap.size):(w.setChan c cap yY ds s r db).heap[c]?=U (.chan cap yY ds s r db):=by simp[D6,h]
theorem q'{w:c'}{c cap s r b yY ds db}(h:b≠c):(w.setChan c cap yY ds s r db).heap[b]?=w.heap[b]?:=by simp[D6,q8 (Ne.symm h)]
theorem TG{w:c'}{c o}(h:w.heap[c]?=U o):c<w.heap.size:=(kv.1 h).1
def ds(g:dN):dN:={g with status:=.running,offers:=cM}
def A7(z:dp):dp:=.tuple #[goInt 0,.bool L,z]
structure kQ(F fg:V->Prop)(w w':c'):Prop where
 f:eX F w w'
 m:∀b,fg b->w'.heap[b]?=w.heap[b]?
def TH(fg:V->Prop)(e:hB):Prop:=∃a,e.loc=.cell a/\fg a.block/\e.sync=L/\e.write=L
structure mv(F fg:V->Prop)(w w':c')(es:ea hB):Prop where
 mV:oC F w w'
 du:∀e∈es,i2 F e\/TH fg e
theorem i3.x{F fg w w' es}(h:i3 F w w' es):mv F fg w w' es:=⟨h.mV,λe a=>.inl (h.du e a)⟩
section
variable (P:el) (c4:V->Prop) (Wg:V) (Rd:V->Prop) (fg:V->Prop) (F:V->Prop) (dm:eH) (d_ en:V) (z fY gY:dp)
def Mj(uo:dN->c'->Prop):J dp->dN->c'->Prop
 | [],g,w=>g.status=.running/\ ∃es,stepG P N g w=.comm (ds g) #[rcase d_ z] N (.recv N) w es/\ (∀e∈es,mo (nR c4 Wg Rd) e) /\
   dO P N (kQ F fg) (mv F fg) uo (xi (ds g) (.tuple #[z,.bool L])) w
 |v::vs,g,w=>g.status=.running/\ ∃es,stepG P N g w=.comm (ds g) #[rcase d_ z] N (.recv N) w es/\ (∀e∈es,mo (nR c4 Wg Rd) e) /\
   ∀w',kQ F fg w w'->dO P N (kQ F fg) (mv F fg) (Mj uo vs) (xi (ds g) (.tuple #[v,.bool N])) w'
def s9(w w':c')(es:ea hB):Prop:=AtRel w w'/\ ∀e∈es,mo (vJ c4 Wg Rd) e
def oD(w w':c'):Prop:=∀b,Rd b->w'.heap[b]?=w.heap[b]?
def TI(End:dN->c'->Prop):J dp->dN->c'->Prop
 | [],g,w=>g.status=.running/\mayWake P g=N/\ ∀s r,w.heap[d_]?=U (.chan 0 #[] L s r L)->(∃st j2,gu dm Wg w st j2)->∃g' es,g'.status=.running/\stepG P L g w=.go g' (w.setChan d_ 0 #[] N s r L) es/\ (∀e∈es,mo (vJ c4 Wg Rd) e) /\
   End g' (w.setChan d_ 0 #[] N s r L)
 |v::vs,g,w=>g.status=.running/\ ∃es,stepG P L g w=.comm (ds g) #[scase d_ v fY,rcase en gY] N .select w es/\ (∀e∈es,mo (vJ c4 Wg Rd) e) /\
   ∀w',oD Rd w w'->dO P L (oD Rd) (s9 c4 Wg Rd) (TI End vs) (xi (ds g) (A7 gY)) w'
def afv(C:V)(k7:c'->c'->Prop)(a:dN->c'->Prop)(g:dN)(w:c'):Prop:=
 g.status=.running/\ (w.heap[en]?=U (.chan 0 #[] L 0 0 L)->(∃st j2,gu dm Wg w st j2)->∃g' w' es,stepG P N g w=.go g' w' es/\ (∀e∈es,mo (nR c4 Wg Rd) e) /\w'.heap[Wg]?=w.heap[Wg]? /\w'.heap[C]?=w.heap[C]? /\dO P N k7 (hK Wg) a g' w')
end
section
variable [A1]
variable {P:el} {dm:eH} {Wg c C d_ en:V} {c4 Rd fg F:V->Prop} {v z fY gY:dp} {eK gq:dN->c'->Prop} {dM:dp->c'->Prop}
def k7(F:V->Prop)(dm:eH)(Wg:V)(w w':c'):Prop:=eX F w w'/\ (WgLive dm Wg w->WgLive dm Wg w')
theorem A8:l0 (k7 F dm Wg):=⟨λw=>⟨.refl _ _,id⟩,λa b c h k=>⟨h.1.trans k.1,k.2∘h.2⟩,λw d=>⟨.drawn _ _ _,id⟩⟩
theorem iT:l0 (kQ F fg):=⟨λw=>⟨.refl F w,λ_ _=>Z⟩,λ_ _ _ h k=>⟨h.f.trans k.f,λb a=>(k.m b a).trans (h.m b a)⟩,λw d=>⟨.drawn _ _ _,λ_ _=>Z⟩⟩
theorem A9:l0 (eX F):=⟨eX.refl F,λ_ _ _ h k=>h.trans k,λw d=>.drawn _ _ _⟩
theorem pb:l0 (oD Rd):=⟨λw b _=>Z,λa b c h k x e=>(k x e).trans (h x e),λw d b _=>Z⟩
structure qr(P:el)(dm:eH)(Wg c C d_ en:V)(c4 Rd fg F:V->Prop)(eK gq:dN->c'->Prop)(dM:dp->c'->Prop):Prop where
 eT:c≠0
 xj:F Wg
 Hs:F C
 D7:F d_
 Ht:F en
 D8:∀b,Rd b->F b
 Mk:∀b,c4 b->F b
 D9:¬Rd Wg
 yZ:¬Rd d_
 D_:∀b,fg b->Rd b
 TJ:¬fg C
 TK:∀b,fg b->¬c4 b
 vP:C≠Wg
 ds:C≠d_
 cs:C≠en
 lw:d_≠Wg
 ls:d_≠en
 anch:∀g w,gq g w->dO P N (k7 F dm Wg) (hK Wg) (r4 P dm Wg (k7 F dm Wg) eK gq) g w
 fin:∀cZ sl T q g w,cZ[0]?=U g->e2 P 0 cZ T q->ku (λb=>c4 b\/b=Wg) 0 T->eK g w->fa P dM (crowd cZ w sl) T
theorem D'{w}(c:F Wg){a}(d:a.block=Wg)(x):eX F w (w.setCell a x):=
 ⟨rfl,rfl,rfl,LM,λb f=>A3 d x b λe=>f (e▸c)⟩
theorem TL{w st j2}(a:F Wg)(hw:gu dm Wg w st j2)(x):k7 F dm Wg w (w.setCell (stA Wg) (.int .u64 x)):=⟨D' a Z _,λ_=>⟨_,_,hw.setSt x⟩⟩
theorem TM{w st j2}(a:F Wg)(hw:gu dm Wg w st j2)(x):k7 F dm Wg w (w.setCell (smA Wg) (.int .u32 x)):=⟨D' a Z _,λ_=>⟨_,_,hw.setSm x⟩⟩
theorem qr.TN(dc:qr P dm Wg c C d_ en c4 Rd fg F eK gq dM):yX P dm Wg c C c4 Rd (k7 F dm Wg) eK dM where
 gM:={eT:=dc.eT,rd:=dc.D9,mr:=A8,fin:=dc.fin,set:=λw x hw=>TL dc.xj hw.choose_spec.choose_spec x,Tp:=λw x hw=>TM dc.xj hw.choose_spec.choose_spec x}
 vP:=dc.vP
 L_:=λw w' hw h=>⟨⟨h.os,h.tape,h.output,h.size,λb hb=>h.block b λe=>hb (e▸dc.Hs)⟩,λdw=>by
  obtain⟨st,j2,dw⟩:=dw
  exact⟨st,j2,AsideCell.wg dc.vP h dw⟩⟩
structure jh(dm:eH)(Wg d_ en:V)(i4:dh)(st:I)(w:c'):Prop where
 wg:gu dm Wg w st 0
 lc:∃s r,w.heap[d_]?=U (.chan 0 #[] i4 s r L)
 qk:w.heap[en]?=U (.chan 0 #[] L 0 0 L)
theorem jh.block{i4 st w w'}(h:jh dm Wg d_ en i4 st w)(Q:w'.heap[Wg]?=w.heap[Wg]?)(a:w'.heap[d_]?=w.heap[d_]?)(b:w'.heap[en]?=w.heap[en]?):jh dm Wg d_ en i4 st w':=
 ⟨h.wg.of_block Q,h.lc.imp λs=>afw λr e=>a.trans e,b.trans h.qk⟩
theorem y0(dc:qr P dm Wg c C d_ en c4 Rd fg F eK gq dM){e}(h:i2 F e\/TH fg e):mo (nR c4 Wg Rd) e:=by
 rcases h with h|h
 .have⟨d,wr,Lt⟩:=e;unfold i2 at h
  cases d with
  |cell a=>
   obtain⟨rfl,cY⟩:=h;refine⟨λx eC=>?_,dt,dt,dt⟩;have:x=⟨.cell a,wr,.plain⟩:=SC;subst this;refine⟨λh=>?_,λh=>?_,λ_ h=>?_⟩
   all_goals try (rcases h with h|⟨r,h,_⟩;rotate_left;cases h)
   all_goals have⟨b,e,hb⟩:=h
   all_goals cases e
   .exact dQ (dc.Mk _ hb) cY
   .exact dQ (hb▸dc.xj) cY
   .exact dQ (dc.D8 _ hb) cY
  |mark m=>
   cases m with|extern g=>exact⟨λx eC=>GT,dt,dt,dt⟩|noRoom=>exact⟨λx eC=>GT,dt,dt,dt⟩|_=>grind
  |obj r=>
   obtain⟨rfl,cY⟩:=h;refine⟨λx eC=>?_,dt,dt,dt⟩;have:x=⟨.obj r,wr,.plain⟩:=SC;subst this;refine⟨λh=>?_,λ⟨b,e,hb⟩=>rZ,λ_ ⟨b,e,hb⟩=>rZ⟩;rcases h with⟨b,e,hb⟩|⟨q,e,hb⟩<;>cases e
   exact dQ (dc.Mk _ hb) cY
  |_=>grind
 .have⟨d,wr,Lt⟩:=e;obtain⟨a,rfl,d8,rfl,rfl⟩:=h;refine⟨λx eC=>?_,dt,dt,dt⟩
  have:x=⟨.cell a,L,.plain⟩:=by simp[mq,k6]at eC;exact eC.symm
  subst this;refine⟨λh=>?_,λh=>?_,λh=>g0⟩
  all_goals try (rcases h with h|⟨r,h,_⟩;rotate_left;cases h)
  all_goals have⟨b,e,hb⟩:=h
  all_goals cases e
  .exact dQ hb (dc.TK _ d8)
  .exact dQ (hb▸dc.D_ _ d8) dc.D9
theorem y1(dc:qr P dm Wg c C d_ en c4 Rd fg F eK gq dM){i4 st w w' es}(hw:jh dm Wg d_ en i4 st w)(h:mv F fg w w' es):jh dm Wg d_ en i4 st w':=
 hw.block (h.mV.block _ dc.xj) (h.mV.block _ dc.D7) (h.mV.block _ dc.Ht)
theorem TO(dc:qr P dm Wg c C d_ en c4 Rd fg F eK gq dM){w w' es}(h:mv F fg w w' es):RW dm Wg C 1 0 0 w w':=by
 have hC:=h.mV.block _ dc.Hs;have a:=h.mV.block _ dc.xj;refine⟨λb hb=>dQ hb R,λ⟨st,j2,x⟩=>⟨st,j2,x.of_block a⟩,λO=>?_,?_⟩
 .unfold L9 at O⊢;simp_all
 .unfold j3;simp_all
theorem TP(dc:qr P dm Wg c C d_ en c4 Rd fg F eK gq dM){i4 st w w'}(hw:jh dm Wg d_ en i4 st w)(h:DY C 1 0 w w'):kQ F fg w w'/\jh dm Wg d_ en i4 st w':=
 ⟨⟨⟨h.os,h.tape,h.output,h.size,λb hb=>h.block b λe=>hb (e▸dc.Hs)⟩,λb hb=>h.block b λe=>dc.TJ (e▸hb)⟩,hw.block (h.block _ (Ne.symm dc.vP)) (h.block _ (Ne.symm dc.ds)) (h.block _ (Ne.symm dc.cs))⟩
theorem TQ(dc:qr P dm Wg c C d_ en c4 Rd fg F eK gq dM)(c7:en≠Wg){i4 st w}(hw:jh dm Wg d_ en i4 st w)(x):jh dm Wg d_ en i4 x (w.setCell (stA Wg) (.int .u64 x)):=
 ⟨hw.wg.setSt x,hw.lc.imp λs=>afw λr e=>(A3 Z _ d_ dc.lw).trans e,(A3 Z _ en c7).trans hw.qk⟩
theorem Ml{k d g}(h:QuitsD P k d g)(r b):offersAt g r b=[]:=afx (by rcases h.status with e|e<;>rw[e]<;>simp) r b
theorem Ea{cZ T q}(O:e2 P c cZ T q){i}(cK:i=0\/i=c){x}(f:i=c->cZ[0]?=U x)(e:i=0->0<c->cZ[c]?=U x)(cY:∀r b,offersAt x r b=[])(r b):A6 (cZ.setIfInBounds i ph) r b=[]:=by
 refine partners_nil λj g h=>?_;rcases TR cZ i j g h with⟨_,rfl⟩|⟨n,h⟩
 .rfl
 .by_cases a:j=0
  .grind
  .by_cases d:j=c
   .grind
   .exact Ml (O.old j g (AY a) d h) r b
theorem Eb{g}(h:g.status=.running)(r b):offersAt g r b=[]:=afx (by rw[h];simp) r b
theorem recvClosed{cZ w sl M T a es}(t:stepT P M=runT P (crowd cZ w sl) 0)(cW:cZ[0]?=U a)(h:stepG P N a w=.comm (ds a) #[rcase d_ z] N (.recv N) w es)(hw:∃s r,w.heap[d_]?=U (.chan 0 #[] N s r L))(O:A6 (cZ.setIfInBounds 0 ph) d_ N=[])
  (k:∀o,o.g=0->o.act=.recvClosed d_->fa P dM (crowd (cZ.setIfInBounds 0 (xi (ds a) (.tuple #[z,.bool L]))) w sl) (T++gR 0 a.frame.fn a.frame.place es++#[o])):fa P dM M T:=by
 have⟨s,r,c⟩:=hw;have:=crowd_recv_closed (P:=P) (sl:=sl) (i:=0) cW (show stepG P (0==0) a w=_ from h) c O;apply fa.step (t.trans this);rw[<-TS];exact k {g:=0,fn:=(ds a).frame.fn,pos:=(ds a).frame.place,act:=.recvClosed d_} Z Z
theorem e2.TT{cZ T q}(O:e2 P c cZ T q)(x):e2 P c (cZ.setIfInBounds 0 x) T q:=
 ⟨λi g cK b a=>by rw[q8 R]at a;exact O.old i g cK b a,λj dL=>O.above j w8⟩
theorem Hu{T u}(b:∀o∈u,(o.act≠.mark .disable/\o.act≠.mark .enable))(g):Deaf (T++u) g=Deaf T g:=by
 have⟨l⟩:=u;rw[Deaf_append]
 have k:∀(l:J MemOp) (d:V),(∀o∈l,(o.act≠.mark .disable/\o.act≠.mark .enable))->l.foldl (deafStep g) d=d:=by
  intro l
  induction l with
  |nil=>grind
  |cons y l i=>
   intro d a;have c:=a y dt
   have e:deafStep g d y=d:=by
    unfold deafStep;split
    .simp_all
    .simp_all
    .rfl
   simp_all
 simp_all
theorem e2.trace{cZ T q}(h:e2 P c cZ T q){u}(a:∀o∈u,(o.act≠.mark .disable/\o.act≠.mark .enable)):e2 P c cZ (T++u) q:=
 ⟨λi g cK b d=>by rw[Hu a];exact h.old i g cK b d,λj e=>by rw[Hu a];exact h.above j e⟩
theorem xk{K g fn pos es}(h:∀e∈es,mo K e):∀o∈gR g fn pos es,(o.act≠.mark .disable/\o.act≠.mark .enable):=by intro o b;obtain⟨x,a,rfl⟩:=yT b;exact⟨λe=>(h x a).2.1 (Du e),λe=>(h x a).2.2.1 (Du e)⟩
def Ec(u:j1):Prop:=∀op∈u,op.act.touch? =cM/\op.act≠.mark .disable/\op.act≠.mark .enable/\ ∀a,op.act≠.mark (.release a)
theorem hm.comm{eW d1 T u}(h:hm c4 Wg Rd c eW d1 T)(a:Ec u):hm c4 Wg Rd c eW d1 (T++u):=
 h.idle (λo b=>(a o b).1) (λo b=>(a o b).2.2.2) (by rw[Hu λo b=>⟨(a o b).2.1,(a o b).2.2.1⟩,h.xa]) (by rw[Hu λo b=>⟨(a o b).2.1,(a o b).2.2.1⟩,h.q7])
theorem e2.quiet{cZ T u q}(O:e2 P c cZ T q)(h:Ec u):e2 P c cZ (T++u) q:=O.trace λo a=>⟨(h o a).2.1,(h o a).2.2.1⟩
variable (P dm Wg c C d_ en c4 Rd fg F z eK gq) in
abbrev uo:dN->c'->Prop:=afv P c4 Wg Rd dm en C (k7 F dm Wg) (Hi P Wg (k7 F dm Wg) gq)
variable (P dm Wg c C d_ en c4 Rd fg F z eK gq) in
abbrev y2(ls:J dp):dN->c'->Prop:=Mj P c4 Wg Rd fg F d_ z (uo P dm Wg C en c4 Rd F gq) ls
theorem TU (dc:qr P dm Wg c C d_ en c4 Rd fg F eK gq dM) {a} {w} (d:dO P N (kQ F fg) (mv F fg) (uo P dm Wg C en c4 Rd F gq) a w) (cZ) (sl) (T) (q) (cW:cZ[0]?=U a) (O:e2 P 0 cZ T q) (cS:k5 c4 Wg Rd c 0 T) (hw:jh dm Wg d_ en N 0 w):fa P dM (crowd cZ w sl) T:=by
 refine s7 (l1:=default) (c:=0) (cL:=k5 c4 Wg Rd c 0) (eU:=jh dm Wg d_ en N 0) (nS dc.eT fun _ _ h=>⟨h.wg,h.lc,h.qk⟩) iT
  (fun T fn pos es w w' h hw cP=>⟨h.imp fun d1 h=>h.mU dc.eT fn pos fun e f=>y0 dc (cP.du e f),y1 dc hw cP⟩) (fun _ _ h=>h.1) (fun M T g cZ w sl q t cW O _ cS hw b=>?_) d cZ sl T q cW O (fun h=>dQ h R) cS hw
 have⟨_,b⟩:=b;have⟨g',w',es,o,s,W,i,k⟩:=b hw.qk ⟨_,_,hw.wg⟩;exact oB t cW o (Tr dc.TN.gM dc.anch k _ _ _ q (iU (iq cW)) (O.own (.inl Z) (iq cW) _ _ _) (cS.imp fun d1 h=>h.mU dc.eT _ _ s) (hw.wg.of_block W))
theorem afy (dc:qr P dm Wg c C d_ en c4 Rd fg F eK gq dM) (c7:en≠Wg) {a b} {w} (dq:dO P N (kQ F fg) (mv F fg) (uo P dm Wg C en c4 Rd F gq) a w) (cZ) (sl) (T) (q) (hb:nf P dm Wg C c c4 Rd v 0 T b w) (cW:cZ[0]?=U a) (d:cZ[c]?=U b) (f:e2 P c cZ T q) (hw:jh dm Wg d_ en N KK w):fa P dM (crowd cZ w sl) T:=by
 refine DZ (eU:=jh dm Wg d_ en N KK) dc.eT iT (fun _ _ h=>h.1) (fun _ _ h=>⟨h.wg,h.lc,h.qk⟩) (fun es w w' hw cP=>⟨fun e he=>y0 dc (cP.du e he),y1 dc hw cP,TO dc cP⟩) (fun w w' hw h=>TP dc hw h)
  (fun M T a b cZ w sl q g cW d f hw i hb=>?_) (fun M T a b cZ w sl q g cW d f hw dq cS hb=>?_) dq cZ sl T q hb cW d f hw
 .have⟨_,i⟩:=i;have⟨g',w',es,l,j,k,hC,c6⟩:=i hw.qk ⟨_,_,hw.wg⟩
  have m:RW dm Wg C 1 0 0 w w':=by
   refine ⟨fun b hb=>dQ hb R,fun ⟨st,j2,x⟩=>⟨st,j2,x.of_block k⟩,fun O=>?_,?_⟩
   .unfold L9 at O⊢;simp_all
   .unfold j3;simp [hC]
  have:=hb.book dc.eT a.frame.fn a.frame.place (es:=es) (DS j) (fun e he=>(j e he).2.2.2) m;rw [DT j] at this;exact oB g cW l (ae4 dc.TN dc.anch c6 _ _ _ q this (iU (iq cW)) (nd (Ne.symm dc.eT) d (woken_run hb.running)) (f.own (.inl Z) (iq cW) _ _ _) (hw.wg.of_block k))
 .exact D1 dc.eT g cW (dq.running (fun _ _ h=>h.1) iT.refl) d f cS hw.wg hb fun n o p r s t=>TU dc (dq.rely iT.trans ⟨D' dc.xj Z _,fun b hb=>A3 f0 _ b fun e=>dc.D9 ((show b=Wg from e)▸dc.D_ b hb)⟩) n sl o p r s t (TQ dc c7 hw 0)
theorem afz (dc:qr P dm Wg c C d_ en c4 Rd fg F eK gq dM) {a} {w} (dq:dO P N (kQ F fg) (mv F fg) (y2 P dm Wg C d_ en c4 Rd fg F z gq []) a w) (cZ) (sl) (T) (q) (cW:cZ[0]?=U a) (O:e2 P 0 cZ T q) (cS:k5 c4 Wg Rd c 0 T) (hw:jh dm Wg d_ en N 0 w):fa P dM (crowd cZ w sl) T:=by
 refine s7 (l1:=default) (c:=0) (cL:=k5 c4 Wg Rd c 0) (eU:=jh dm Wg d_ en N 0) (nS dc.eT fun _ _ h=>⟨h.wg,h.lc,h.qk⟩) iT
  (fun T fn pos es w w' h hw cP=>⟨h.imp fun d1 h=>h.mU dc.eT fn pos fun e f=>y0 dc (cP.du e f),y1 dc hw cP⟩) (fun _ _ h=>h.1) (fun M T g cZ w sl q t cW O _ cS hw j=>?_) dq cZ sl T q cW O (fun h=>dQ h R) cS hw
 have⟨d,es,o,s,k⟩:=j
 refine recvClosed t cW o hw.lc (Ea O (.inl Z) (x:=g) (fun _=>cW) (fun _ h=>dQ h R) (Eb d) d_ N) fun l qn dq=>?_
 have b:Ec #[l]:=fun x eC=>SE
 exact TU dc k _ _ _ q (by grind) (((O.TT _).trace (xk s)).quiet b) (have⟨d1,cS⟩:=cS;have Q:=cS.mU dc.eT g.frame.fn g.frame.place s;⟨d1,Q.hY.comm b,Q.rel.imp fun r i=>i.appNot fun x eC=>SS⟩) hw
theorem nf.quiet(e:c≠0){eW T u b w}(h:nf P dm Wg C c c4 Rd v eW T b w)(d:Ec u)(g:∀o∈u,o.g≠c):nf P dm Wg C c c4 Rd v eW (T++u) b w:=by
 cases h with|r0 h cS=>exact .r0 h (cS.comm d)|k1 h cS=>exact .k1 h ⟨cS.hY.comm d,cS.rel.imp λr a=>a.appNot g⟩|d1 h cS=>exact .d1 h ⟨cS.hY.comm d,cS.rel.imp λr a=>a.appNot g⟩
theorem TV (dc:qr P dm Wg c C d_ en c4 Rd fg F eK gq dM) (c7:en≠Wg) {a b} {w} (dq:dO P N (kQ F fg) (mv F fg) (y2 P dm Wg C d_ en c4 Rd fg F z gq []) a w) (cZ) (sl) (T) (q) (hb:nf P dm Wg C c c4 Rd v 0 T b w) (cW:cZ[0]?=U a) (d:cZ[c]?=U b) (f:e2 P c cZ T q) (hw:jh dm Wg d_ en N KK w):fa P dM (crowd cZ w sl) T:=by
 refine DZ (eU:=jh dm Wg d_ en N KK) dc.eT iT (fun _ _ h=>h.1) (fun _ _ h=>⟨h.wg,h.lc,h.qk⟩) (fun es w w' hw cP=>⟨fun e he=>y0 dc (cP.du e he),y1 dc hw cP,TO dc cP⟩) (fun w w' hw h=>TP dc hw h)
  (fun M T a b cZ w sl q i cW d f hw k hb=>?_) (fun M T a b cZ w sl q i cW d f hw dq cS hb=>?_) dq cZ sl T q hb cW d f hw
 .have⟨_,es,l,g,c6⟩:=k
  refine recvClosed i cW l hw.lc (Ea f (.inl Z) (x:=b) (fun e=>dQ e.symm dc.eT) (fun _ _=>d) (Eb hb.running) d_ N) fun op qn dq=>?_
  have j:Ec #[op]:=fun x eC=>SE
  have Q:=hb.book dc.eT a.frame.fn a.frame.place (es:=es) (DS g) (fun e he=>(g e he).2.2.2) (lu.refl w);rw [DT g] at Q;exact afy dc c7 c6 _ _ _ q (Q.quiet dc.eT j fun x eC=>SS) (by grind) (by rw [q8 (Ne.symm dc.eT)];exact d) (((f.TT _).trace (xk g)).quiet j) hw
 .exact D1 dc.eT i cW (dq.running (fun _ _ h=>h.1) iT.refl) d f cS hw.wg hb fun m n o p r s=>afz dc (dq.rely iT.trans ⟨D' dc.xj Z _,fun b hb=>A3 f0 _ b fun e=>dc.D9 ((show b=Wg from e)▸dc.D_ b hb)⟩) m sl n o p r s (TQ dc c7 hw 0)
end
end
section
open Go.Conc
open Go.ConcN (sumTo upd sumTo_upd upd_ne upd_same RelBy WgLive AsideCell RW)
open Go.ConcR (KK wgBlock WgAt stA smA rd wr mk DC0 Payload)
theorem dO.afA{P main cX c3 dv}(d:∀a b c,cX a b->cX b c->cX a c){g w}(h:dO P main cX c3 dv g w):dO P main cX c3 (λg w=>∀c0,cX w c0->dv g c0) g w:=by
 induction h with
 |stop h=>exact .stop λc0 h₁ e f=>h e (d _ _ _ h₁ f)|step c7 fk h _ i=>exact .step c7 fk h i
section
variable [A1]
variable {P:el} {dm:eH} {Wg c C d_ en:V} {c4 Rd fg F:V->Prop} {s_ z fY gY:dp} {eK gq:dN->c'->Prop} {dM:dp->c'->Prop}
variable (P dm Wg C d_ en c4 Rd s_ fY gY) in
abbrev A_(ls:J dp):dN->c'->Prop:=TI P c4 Wg Rd dm d_ en fY gY (λg w=>dO P L (RW dm Wg C 1 0 0) (Hj c4 Wg Rd C) (L5 P dm Wg C 1 0 1 s_) g w) ls
def qs(d_ en:V)(v fY gY:dp):ea CommCase:=#[scase d_ v fY,rcase en gY]
theorem afB(v):commResult (qs d_ en v fY gY) .select 0 undef L=A7 gY:=by simp[commResult,qs,scase,rcase,A7]
theorem TW(g v):(ds g).finishComm P (qs d_ en v fY gY) .select ((0:V):I) undef L=xi (ds g) (A7 gY):=by unfold Goroutine.finishComm;have:=afB (d_:=d_) (en:=en) (fY:=fY) (gY:=gY) v;rw[show(((0:V):I))=0 from Z,this];rfl
theorem afC{g v}(h:d_≠en):offersAt (parked g (qs d_ en v fY gY) .select) d_ N=[0]:=by simp[offersAt,parked,qs,scase,rcase,List.zipIdx]
theorem e2.TX{cZ T q}(O:e2 P c cZ T q){i j}(cK:i=0\/i=c)(d:j=0\/j=c)(x y):e2 P c ((cZ.setIfInBounds j x).setIfInBounds i y) T q:=
 ⟨λk g c6 a b=>by
  rw[q8 (by rcases cK with rfl|rfl<;>omega),q8 R]at b
  exact O.old k g c6 a b,λk c6=>O.above k uc⟩
theorem e2.Mm{cZ T q}(O:e2 P c cZ T q){i}(cK:i=0\/i=c)(x):e2 P c (cZ.setIfInBounds i x) T q:=
 ⟨λk g c6 a b=>by
  rw[q8 (by rcases cK with rfl|rfl<;>omega)]at b
  exact O.old k g c6 a b,λk c6=>O.above k uc⟩
theorem TY{cZ T q}(O:e2 P c cZ T q){i j k}(a:(i=0/\j=c) \/ (i=c/\j=0))(l:c≠0){x}(f:cZ[j]?=U x){r b}(g:offersAt x r b=[k]):A6 (cZ.setIfInBounds i ph) r b=[(j,k)]:=by
 have n:j≠i:=by rcases a with hg|hg<;>omega
 rw[partners_one (j:=j) (stand_get n f) λm y o d=>?_,g]
 .rfl
 .rcases TR cZ i m y d with⟨_,rfl⟩|⟨e,d⟩
  .rfl
  .refine Ml (O.old m y ?_ ?_ d) r b
   .omega
   omega
theorem afD(dc:qr P dm Wg c C d_ en c4 Rd fg F eK gq dM)(c7:en≠Wg):∀ls a b w cZ sl T q,
 dO P N (kQ F fg) (mv F fg) (y2 P dm Wg C d_ en c4 Rd fg F z gq ls) a w->dO P L (oD Rd) (s9 c4 Wg Rd) (A_ P dm Wg C d_ en c4 Rd s_ fY gY ls) b w->cZ[0]?=U a->cZ[c]?=U b->e2 P c cZ T q->hm c4 Wg Rd c 0 0 T->jh dm Wg d_ en L KK w->fa P dM (crowd cZ w sl) T:=by
 have dg:=dc.eT;have u:=AY dg;have Y:(c==0)=L:=hd;have y:∀(K:c'->Prop),(∀w d,K w->K (w.at d))->vL c (hm c4 Wg Rd c 0 0) (λw=>jh dm Wg d_ en L KK w/\K w):=λK ai=>⟨λT i fn pos es h cW cK d8=>h.xd cW cK fn pos d8,λw d h=>⟨⟨h.1.wg,h.1.lc,h.1.qk⟩,ai w d h.2⟩⟩
 have I:∀ {w:c'} {s r s' hZ:V} {i4:dh},jh dm Wg d_ en L KK w->w.heap[d_]?=U (.chan 0 #[] L s r L)->jh dm Wg d_ en i4 KK (w.setChan d_ 0 #[] i4 s' hZ L):=fun {w s r s' hZ i4} hw dw=>⟨hw.wg.of_block (q' (Ne.symm dc.lw)),⟨s',hZ,TF (TG dw)⟩,(q' (Ne.symm dc.ls)).trans hw.qk⟩
 have J:∀ {w:c'} {s r:V} {i4:dh},kQ F fg w (w.setChan d_ 0 #[] i4 s r L):=fun {w s r i4}=>⟨⟨Z,Z,Z,by simp[D6],λb hb=>q' λe=>hb (e▸dc.D7)⟩,λb hb=>q' λe=>dc.yZ (dc.D_ _ (e▸hb))⟩;have aa:∀ {w:c'} {s r:V} {i4:dh},oD Rd w (w.setChan d_ 0 #[] i4 s r L):=fun {w s r i4} b hb=>q' λe=>dc.yZ (e▸hb)
 have au:∀ {w:c'} {s r:V} {i4:dh},jh dm Wg d_ en L KK w->RW dm Wg C 1 0 0 w (w.setChan d_ 0 #[] i4 s r L):=fun {w s r i4} hw=>by
  have hC:(w.setChan d_ 0 #[] i4 s r L).heap[C]?=w.heap[C]?:=q' dc.ds;refine⟨λb hb=>dQ hb R,λ_=>⟨_,_,hw.wg.of_block (q' (Ne.symm dc.lw))⟩,λO=>?_,?_⟩
  .unfold L9 at O⊢;simp_all
  .unfold j3;simp_all
 intro ls
 induction ls with
 |nil=>
  intro a b w cZ sl T q dq hb cW l f cS hw
  have B:∀(a b:dN) (w:c') (cZ:ea dN) (sl:dB (V×V)) (T:j1) (q:V->V),(∀c0,kQ F fg w c0->y2 P dm Wg C d_ en c4 Rd fg F z gq [] a c0)->dO P L (oD Rd) (s9 c4 Wg Rd) (A_ P dm Wg C d_ en c4 Rd s_ fY gY []) b w->cZ[0]?=U (parked (ds a) #[rcase d_ z] (.recv N))->cZ[c]?=U b->e2 P c cZ T q->hm c4 Wg Rd c 0 0 T->jh dm Wg d_ en L KK w->fa P dM (crowd cZ w sl) T:=by
   intro a b A cZ sl T q dq hb cW l f cS hw;refine Tl (a:=parked (ds a) #[rcase d_ z] (.recv N)) (cL:=hm c4 Wg Rd c 0 0) (eU:=λw=>jh dm Wg d_ en L KK w/\kQ F fg A w) ⟨q9 (.inr (.inl Z)),by simp[parked],λx iz w' Dz=>SI⟩ u (y _ λw d h=>iT.trans _ _ _ h (iT.draw _ _)) pb (λT fn pos es w w' h hw cP=>GQ) (λ_ _ h=>h.1)
    (λM T b cZ w sl q o t l f cS hw hb=>?_) hb cZ sl T q cW l f cS ⟨hw,iT.refl _⟩
   have⟨_,ab,hb⟩:=hb;have⟨s,r,dw⟩:=hw.1.lc;have⟨d7,es,ac,p,n,c6⟩:=hb s r dw ⟨_,_,hw.1.wg⟩;have aj:=I (i4:=N) (s':=s) (hZ:=r) hw.1 dw
   have ak:woken P b d7 (w.setChan d_ 0 #[] N s r L) (parked (ds a) #[rcase d_ z] (.recv N))={parked (ds a) #[rcase d_ z] (.recv N) with status:=.running}:=by unfold Hl;rw[if_pos (by simp[ab,ac])];exact again_recv_closed (TF (TG dw))
   exact r5 dg o l p (TV (z:=z) dc c7 (a:={parked (ds a) #[rcase d_ z] (.recv N) with status:=.running}) (.stop λc0 h₁=>have⟨_,al,am,an,ao⟩:=dq c0 (iT.trans _ _ _ hw.2 (iT.trans _ _ _ J h₁));⟨Z,al,(stepG_same Z Z Z c0).trans am,an,ao⟩) _ _ _ q (.r0 c6 (cS.yE dg _ _ n)) (by rw[<-ak];exact vO dg t) (iU (kc l)) (f.own (.inr Z) (kc l) _ _ _) aj)
  refine DR (cL:=hm c4 Wg Rd c 0 0) (eU:=λw=>jh dm Wg d_ en L KK w/\True) u (y _ λ_ _ _=>dU) iT pb (λT fn pos es w w' h hw cP=>⟨h.mU dg fn pos λe he=>y0 dc (cP.du e he),y1 dc hw.1 cP,dU⟩) (λT fn pos es w w' h hw cP=>GQ)
   (λw w' es _ cP=>S4) (λw w' es _ cP b hb=>cP.mV.block b (dc.D8 b hb)) (λ_ _ h=>(h _ (iT.refl _)).1) (λ_ _ h=>h.1)
   (λM T a b cZ w sl q o cW l f cS hw dq hb=>?_) (λM T a b cZ w sl q o cW l f cS hw dq hb=>?_) (dq.afA iT.trans) cZ sl T q hb cW l f cS ⟨hw,dU⟩
  .
   have⟨ad,es,p,n,c6⟩:=dq w (iT.refl _);have D:=hb.running (λ_ _ h=>h.1) pb.refl;have⟨s,r,dw⟩:=hw.1.lc;have DH:=Ea f (i:=0) (.inl Z) (x:=b) (λe=>dQ e.symm dg) (λ_ _=>l) (Eb D) d_ N;have E:=TZ (P:=P) (sl:=sl) (i:=0) cW (show stepG P (0==0) a w=_ from p) (λae AO=>SM);exact fa.step (o.trans E) (B a b w _ _ _ q dq hb (by simp[iq cW]) (by rw[q8 (Ne.symm dg)];exact l) ((f.Mm (.inl Z) _).trace (xk n)) (cS.mU dg _ _ n) hw.1)
  .
   have⟨_,ab,hb⟩:=hb;have⟨s,r,dw⟩:=hw.1.lc;have⟨d7,es,ac,p,n,c6⟩:=hb s r dw ⟨_,_,hw.1.wg⟩;have S:=dq.running (λ_ _ h=>(h _ (iT.refl _)).1) iT.refl;have ap:=dq.mono (λ_ _ h=>h) (λ_ _ _ h=>h) (λ_ _ h=>h _ (iT.refl _));exact r5 dg o l p (TV dc c7 (ap.rely iT.trans J) _ _ _ q (.r0 c6 (cS.yE dg _ _ n)) (nd dg cW (woken_run S)) (iU (kc l)) (f.own (.inr Z) (kc l) _ _ _) (I hw.1 dw))
 |cons v vs af=>
  intro a b w cZ sl T q dq hb cW l f cS hw
  have B:∀(a b:dN) (w:c') (cZ:ea dN) (sl:dB (V×V)) (T:j1) (q:V->V),(∀w',kQ F fg w w'->dO P N (kQ F fg) (mv F fg) (y2 P dm Wg C d_ en c4 Rd fg F z gq vs) (xi (ds a) (.tuple #[v,.bool N])) w')->dO P L (oD Rd) (s9 c4 Wg Rd) (A_ P dm Wg C d_ en c4 Rd s_ fY gY (v::vs)) b w->cZ[0]?=U (parked (ds a) #[rcase d_ z] (.recv N))->cZ[c]?=U b->e2 P c cZ T q->hm c4 Wg Rd c 0 0 T->jh dm Wg d_ en L KK w->fa P dM (crowd cZ w sl) T:=by
   intro a b A cZ sl T q dq hb cW l f cS hw;refine Tl (a:=parked (ds a) #[rcase d_ z] (.recv N)) (cL:=hm c4 Wg Rd c 0 0) (eU:=λw=>jh dm Wg d_ en L KK w/\kQ F fg A w) ⟨q9 (.inr (.inl Z)),by simp[parked],λx iz w' Dz=>SI⟩ u (y _ λw d h=>iT.trans _ _ _ h (iT.draw _ _)) pb (λT fn pos es w w' h hw cP=>GQ) (λ_ _ h=>h.1)
    (λM T b cZ w sl q o t l f cS hw hb=>?_) hb cZ sl T q cW l f cS ⟨hw,iT.refl _⟩
   have⟨D,es,p,n,c6⟩:=hb;have⟨s,r,dw⟩:=hw.1.lc;have W:A6 (cZ.setIfInBounds c ph) d_ L=[(0,0)]:=TY f (.inr hg) dg t (by rw[offersAt_parked_recv];simp)
   have aq:A6 (cZ.setIfInBounds c ph) en N=[]:=by
    refine partners_nil λj g dL=>?_;rcases TR cZ c j g dL with⟨_,rfl⟩|⟨ar,dL⟩
    .exact offersAt_ph _ _
    .by_cases ag:j=0
     .subst ag;rw[t]at dL
      rw[<-pM dL];exact offersAt_parked_recv' ..
     .exact Ml (f.old j g (AY ag) ar dL) _ _
   obtain⟨ops,G,H⟩:=afu (P:=P) (sl:=sl) (i:=c) (k:=0) (cases:=qs d_ en v fY gY) (c0:=w) l (show stepG P (c==0) b w=_ by rw[Y];exact p) Z (λm mX d8 ah=>by
    have:m=1:=by
     rcases m with _|_|m
     .exact dQ Z d8
     .rfl
     .simp[qs]at ah
    subst this
    have:mX=rcase en gY:=by simpa[qs]using ah.symm
    subst this
    exact afE hw.1.qk aq) dw (Ne.symm dg) t W
   rw[TW]at G;apply fa.step (o.trans G);rw[<-TS];have o':=kc l;exact af _ _ _ _ _ _ q (dq _ (iT.trans _ _ _ hw.2 J)) (c6 _ aa) (by rw[q8 dg];simp[iq t];rfl) uf (((f.TX (.inr Z) (.inl Z) _ _).trace (xk n)).quiet H) ((cS.yE dg _ _ n).comm H) (I hw.1 dw)
  have K:∀(a b:dN) (w:c') (cZ:ea dN) (sl:dB (V×V)) (T:j1) (q:V->V),dO P N (kQ F fg) (mv F fg) (y2 P dm Wg C d_ en c4 Rd fg F z gq (v::vs)) a w->(∀w',oD Rd w w'->dO P L (oD Rd) (s9 c4 Wg Rd) (A_ P dm Wg C d_ en c4 Rd s_ fY gY vs) (xi (ds b) (A7 gY)) w')->cZ[0]?=U a->cZ[c]?=U (parked (ds b) (qs d_ en v fY gY) .select)->e2 P c cZ T q->hm c4 Wg Rd c 0 0 T->jh dm Wg d_ en L KK w->fa P dM (crowd cZ w sl) T:=by
   intro a b A cZ sl T q dq hb cW l f cS hw;refine s7 (l1:=parked (ds b) (qs d_ en v fY gY) .select) (c:=c) (cL:=hm c4 Wg Rd c 0 0) (eU:=λw=>jh dm Wg d_ en L KK w/\oD Rd A w) (y _ λw d h b hb=>h b hb) iT
    (λT fn pos es w w' h hw cP=>⟨h.mU dg fn pos λe he=>y0 dc (cP.du e he),y1 dc hw.1 cP,λb hb=>(cP.mV.block b (dc.D8 b hb)).trans (hw.2 b hb)⟩) (λ_ _ h=>by exact h.1)
    (λM T g cZ w sl q o cW f O cS hw c7=>?_) dq cZ sl T q cW f (λ_=>⟨l,⟨q9 (.inr (.inl Z)),by simp[parked],λx iz w' Dz=>by
     unfold Hl;split
     .have Q:=Dz.1.lc;have h:=Dz.1.qk;have⟨s,r,Q⟩:=Q;simp[Goroutine.again,parked,qs,scase,rcase,Q,h]
     .rfl⟩⟩) cS ⟨hw,pb.refl _⟩
   have⟨ad,es,p,n,c6⟩:=c7;have⟨s,r,dw⟩:=hw.1.lc;have X:=(O u).1;have W:=TY f (.inl hg) dg X (afC dc.ls);have⟨ops,G,H⟩:=afq (P:=P) (sl:=sl) (i:=0) (k:=0) (cs:=qs d_ en v fY gY) cW (show stepG P (0==0) g w=_ from p) dw dg X Z W;rw[TW]at G;apply fa.step (o.trans G);rw[<-TS];have o':=kc X;exact af _ _ _ _ _ _ q (c6 _ J) (hb _ (pb.trans _ _ _ hw.2 aa)) (by simp[iq cW];rfl) (by rw[q8 (Ne.symm dg)];simp[o']) (((f.TX (.inl Z) (.inr Z) _ _).trace (xk n)).quiet H) ((cS.mU dg _ _ n).comm H) (I hw.1 dw)
  refine DR (cL:=hm c4 Wg Rd c 0 0) (eU:=λw=>jh dm Wg d_ en L KK w/\True) u (y _ λ_ _ _=>dU) iT pb (λT fn pos es w w' h hw cP=>⟨h.mU dg fn pos λe he=>y0 dc (cP.du e he),y1 dc hw.1 cP,dU⟩) (λT fn pos es w w' h hw cP=>GQ)
   (λw w' es _ cP=>S4) (λw w' es _ cP b hb=>cP.mV.block b (dc.D8 b hb)) (λ_ _ h=>by exact h.1) (λ_ _ h=>h.1)
   (λM T a b cZ w sl q o cW l f cS hw dq hb=>?_) (λM T a b cZ w sl q o cW l f cS hw dq hb=>?_) dq cZ sl T q hb cW l f cS ⟨hw,dU⟩
  .have⟨ad,es,p,n,c6⟩:=dq;have D:=hb.running (λ_ _ h=>h.1) pb.refl;have⟨s,r,dw⟩:=hw.1.lc;have DH:=Ea f (i:=0) (.inl Z) (x:=b) (λe=>dQ e.symm dg) (λ_ _=>l) (Eb D) d_ N;have E:=TZ (P:=P) (sl:=sl) (i:=0) cW (show stepG P (0==0) a w=_ from p) (λae AO=>SM);exact fa.step (o.trans E) (B a b w _ _ _ q c6 hb (by simp[iq cW]) (by rwa[q8 (Ne.symm dg)]) ((f.Mm (.inl Z) _).trace (xk n)) (cS.mU dg _ _ n) hw.1)
  .have⟨D,es,p,n,c6⟩:=hb;have S:=dq.running (λ_ _ h=>by exact h.1) iT.refl;have⟨s,r,dw⟩:=hw.1.lc;have DH:=Ea f (i:=c) (.inr Z) (x:=a) (λ_=>cW) (λe=>dQ e dg) (Eb S)
   have E:=TZ (P:=P) (sl:=sl) (i:=c) (cases:=qs d_ en v fY gY) l (show stepG P (c==0) b w=_ by rwa[Y]) (λae AO=>by
    simp[qs]at AO;rcases AO with rfl|rfl
    .exact ways_send_none dw (e3 _) (DH d_ L)
    .exact afE hw.1.qk (DH en N))
   exact fa.step (o.trans E) (K a b w _ _ _ q dq c6 (by rwa[q8 dg]) (by simp[kc l]) ((f.Mm (.inr Z) _).trace (xk n)) (cS.yE dg _ _ n) hw.1)
end
end
section
open Go.Conc
open Go.ConcN (sumTo upd sumTo_upd upd_ne upd_same RelBy WgLive AsideCell RW)
open Go.ConcR (KK wgBlock WgAt stA smA rd wr mk DC0 Payload)
def fR(P:el)(dM:dp->c'->Prop)(c4:V->Prop)(g:dN)(w:c'):Prop:=
 ∀cZ sl T q,cZ[0]?=U g->e2 P 0 cZ T q->ku c4 0 T->fa P dM (crowd cZ w sl) T
abbrev vS(c4:V->Prop):hB->Prop:=mo λx=>s4 c4 x.loc->x.kind≠.plain
theorem ku.du{c4 d t}(h:ku c4 d t)(fn pos){es}(a:∀e∈es,vS c4 e):ku c4 d (t++gR 0 fn pos es):=
 h.app0 (λo b=>⟨lq o b,DS a o b,LZ a o b⟩) (by rw[uj,DT a,h.hears])
theorem ku.book{c4 d t}(h:ku c4 d t)(fn pos){es}(b:∀o∈gR 0 fn pos es,∀x,o.act.touch? =U x->s4 c4 x.loc->x.kind≠.plain)(dI:∀e∈es,∀a,e.loc≠.mark (.release a)):ku c4 (deafBehind d es) (t++gR 0 fn pos es):=
 h.app0 (λo w6=>⟨lq o w6,b o w6,λa e=>GS⟩) (by rw[uj,h.hears])
section
variable {P:el} {dM:dp->c'->Prop} {c4:V->Prop} {cX:c'->c'->Prop} {c3:c'->c'->ea hB->Prop} {dv:dN->c'->Prop}
theorem fR.y3(b:l0 cX)(o:∀w w' es,c3 w w' es->∀e∈es,vS c4 e){g w}(h:dO P N cX c3 dv g w)(k:∀g w,dv g w->fR P dM c4 g w):fR P dM c4 g w:=by
 intro cZ sl T q cW a cS
 induction h generalizing cZ sl T q with
 | @stop g w h=>exact k g w (h w (b.refl w)) cZ sl T q cW a cS
 | @step g w f fk h _ p=>
  have r:∀(n:V) (cZ:ea dN) (c0:c') (sl:dB (V×V)) (T:j1) (q:V->V),sumTo cZ.size q<=n->cX w c0->cZ[0]?=U g->e2 P 0 cZ T q->ku c4 0 T->fa P dM (crowd cZ c0 sl) T:=by
   intro n
   induction n using s6 with
   |_ n s=>
    intro cZ c0 sl T q cY hw cW a cS;have⟨i,x,d,t,cK,u,l⟩:=DQ (P:=P) (w:=c0) (sl:=sl) (a.AX cW (q9 (.inl f)) λh=>dQ h R) ⟨0,g,cW,f⟩;have c:=(kv.1 cK).1;have j:=b.trans _ _ _ hw (b.draw c0 d);rcases Hf i with rfl|xb
    .obtain rfl:x=g:=by simp_all
     have⟨v,cP⟩:=h _ j;exact oB l cW v (p _ j _ _ _ q (iU c) (a.own (.inl Z) c _ _ _) (cS.du _ _ (o _ _ _ cP)))
    .have⟨fr,g',es,y,d8,z,A⟩:=a.Hg xb R cK u;have B:(i==0)=L:=hd;have C:=vN (P:=P) (sl:=t) (i:=i) cK (by rw[B];exact z (c0.at d));refine fa.step (l.trans C) (s (sumTo cZ.size (upd q i fr)) ?_ _ _ _ _ (upd q i fr) ?_ j (nd R cW (woken_run f)) (a.slip c _ _ A) (cS.mute R λop m=>⟨lq op m,yV d8 op m⟩))
     .have:=He c y;omega
     .simp
  exact r _ cZ w sl T q (fB _) (b.refl _) cW a cS
def afF(P:el)(dM:dp->c'->Prop)(c4:V->Prop)(g:dN)(w:c'):Prop:=
 g.status=.running/\ ∀c0,AtRel w c0->∃v es,stepG P N g c0=.ended (.done v) c0 es/\ (∀e∈es,vS c4 e) /\dM v c0
theorem A':l0 AtRel:=⟨λw=>⟨w.drawn,Z⟩,λa b c ⟨d,h⟩ ⟨e,f⟩=>⟨e,by subst h;subst f;rfl⟩,λw d=>⟨d,Z⟩⟩
theorem fR.finish{g w}(h:afF P dM c4 g w):fR P dM c4 g w:=by
 intro cZ sl T q cW a cS
 have r:∀(n:V) (cZ:ea dN) (c0:c') (sl:dB (V×V)) (T:j1) (q:V->V),sumTo cZ.size q<=n->AtRel w c0->cZ[0]?=U g->e2 P 0 cZ T q->ku c4 0 T->fa P dM (crowd cZ c0 sl) T:=by
  intro n
  induction n using s6 with
  |_ n s=>
   intro cZ c0 sl T q cY hw cW a cS;have⟨i,x,d,f,cK,t,k⟩:=DQ (P:=P) (w:=c0) (sl:=sl) (a.AX cW (q9 (.inl h.1)) λh=>dQ h R) ⟨0,g,cW,h.1⟩;have l:=(kv.1 cK).1;have m:=A'.trans _ _ _ hw (A'.draw c0 d);rcases Hf i with rfl|xb
   .obtain rfl:x=g:=by simp_all
    have⟨v,es,u,z,A⟩:=h.2 _ m;have b:=runT_many_ended (P:=P) (sl:=f) (i:=0) cW (show stepG P (0==0) x (c0.at d)=_ from u);have o:=cS.du x.frame.fn x.frame.place z;refine⟨0,crowd cZ c0 sl,_,c0.at d,T++gR 0 x.frame.fn x.frame.place es,?_,Z,?_,v,Z,A,o.clean,o.over,⟨λy c=>?_,Z⟩,λj y c dL=>?_⟩
    .rw[runNT,k,b]
    .unfold Go.step;simp_all
    .have⟨j,dL⟩:=List.mem_iff_getElem?.1 c;rw[Hv]at dL;exact⟨_,(a.old (1+j) y R R (by simpa[crowd]using dL)).leaves⟩
    .have B:=a.old j y R R c;refine⟨q j,?_⟩;have e:(T++gR 0 x.frame.fn x.frame.place es).deaf j (T++gR 0 x.frame.fn x.frame.place es).size=Deaf T j:=vI T (g:=j) (g':=0) R _ lq;rw[e];exact B.hears _
   .have⟨fr,g',es,C,d8,D,E⟩:=a.Hg xb R cK t;have F:(i==0)=L:=hd;have b:=vN (P:=P) (sl:=f) (i:=i) cK (by rw[F];exact D (c0.at d));refine fa.step (k.trans b) (s (sumTo cZ.size (upd q i fr)) ?_ _ _ _ _ (upd q i fr) ?_ m (nd R cW (woken_run h.1)) (a.slip l _ _ E) (cS.mute R λop p=>⟨lq op p,yV d8 op p⟩))
    .have:=He l C;omega
    .simp
 exact r _ cZ w sl T q (fB _) (A'.refl _) cW a cS
def Hw(P:el)(m:Mark)(Next:dN->c'->Prop)(a:dN)(w:c'):Prop:=a.status=.running/\ ∃d9,stepG P N a w=.go d9 w #[mk m] /\Next d9 w
variable [A1] {dm:eH} {Wg C d_ en:V} {Rd fg F:V->Prop} {s_ z fY gY:dp} {eK gq:dN->c'->Prop}
variable (P dm Wg C d_ en c4 Rd fg F s_ z fY gY eK gq) in
def afG(ls:J dp)(a:dN)(w:c'):Prop:=
 a.status=.running/\ ∃d9 d7 es,stepG P N a w=.spawn d9 d7 w es/\ (∀e∈es,vS c4 e) /\jh dm Wg d_ en L KK w/\
  dO P N (kQ F fg) (mv F fg) (y2 P dm Wg C d_ en c4 Rd fg F z gq ls) d9 w/\dO P L (oD Rd) (s9 c4 Wg Rd) (A_ P dm Wg C d_ en c4 Rd s_ fY gY ls) d7 w
theorem Mn{d}(f:l0 cX)(b:∀w w' es,c3 w w' es->∀e∈es,vS c4 e)(S:∀g w,dv g w->g.status=.running)
  (k:∀M T g cZ w sl q,stepT P M=runT P (crowd cZ w sl) 0->cZ[0]?=U g->e2 P 0 cZ T q->ku c4 d T->dv g w->fa P dM M T)
  {a w}(h:dO P N cX c3 dv a w)(cZ sl T q)(cW:cZ[0]?=U a)(O:e2 P 0 cZ T q)(cS:ku c4 d T):fa P dM (crowd cZ w sl) T:=
 s7 (l1:=default) (c:=0) (cL:=ku c4 d) (eU:=λ_=>True) (have W:=λ_ _ h=>h;⟨λT i fn pos es h cW _ m=>h.mute cW λo j=>⟨lq o j,yV m o j⟩,W⟩) f (λT fn pos es w w' h _ cP=>⟨h.du fn pos (b _ _ _ cP),dU⟩) S
  (λM T g cZ w sl q s cW O _ cS _ i=>k M T g cZ w sl q s cW O cS i) h cZ sl T q cW O (λh=>dQ h R) cS dU
theorem fR.run(H:l0 cX)(E:∀w w' es,c3 w w' es->∀e∈es,vS c4 e)
  (dc:∀c,c≠0->qr P dm Wg c C d_ en c4 Rd fg F eK gq dM)(c7:en≠Wg)(dj:∀b,Rd b->¬c4 b)(ls)
  {a w}(h:dO P N cX c3 (Hw P .disable λa w=>dO P N cX c3 (Hw P .enable λa w=>dO P N cX c3 (afG P c4 dm Wg C d_ en Rd fg F s_ z fY gY gq ls) a w) a w) a w):fR P dM c4 a w:=by
 intro cZ sl T q cW O cS;refine Mn H E (λ_ _ h=>h.1) (λM T g cZ w sl q t cW O cS s=>have⟨_,g',o,da⟩:=s;have dr:=cS.book g.frame.fn g.frame.place (es:=#[mk .disable]) (DV Z) (DW dt);oB t cW o (Mn (d:=1) H E (λ_ _ h=>h.1) (λM T g cZ w sl q t cW O cS s=>have⟨_,g',o,da⟩:=s;have cV:=cS.book g.frame.fn g.frame.place (es:=#[mk .enable]) (DV Z) (DW dt);oB t cW o (Mn (d:=0) H E (λ_ _ h=>h.1) (λM T g cZ w sl q t cW O cS s=>?_) da _ _ _ q (iU (iq cW)) (O.own (.inl Z) (iq cW) _ _ _) cV)) da _ _ _ q (iU (iq cW)) (O.own (.inl Z) (iq cW) _ _ _) dr)) h cZ sl T q cW O cS;have⟨_,d9,m,es,o,v,D,c8,I⟩:=s
 have f:cZ.size≠0:=by have:=iq cW;omega
 have S:=runT_crowd_spawn (P:=P) (sl:=sl) (i:=0) cW (show stepG P (0==0) g w=_ from o);apply fa.step (t.trans S);have K:=cS.du g.frame.fn g.frame.place v
 have cL:=hm.aeO (Wg:=Wg) (Rd:=Rd) (c:=cZ.size) K f (by rw[vI T (g':=0) (Ne.symm f) _ lq];exact O.above _ (fB _)) (λl ⟨x,e,k⟩ h=>by
   rcases h with⟨y,n,J⟩|⟨r,n,_⟩
   .rw[e]at n;cases n;exact dj _ k J
   .rw[e]at n;cases n)
  (x:={g:=0,fn:=g.frame.fn,pos:=g.frame.place,act:=.go cZ.size}) (y:={g:=cZ.size,fn:=m.frame.fn,pos:=g.frame.place,act:=.start}) hg hg
 have Y:T++((gR 0 g.frame.fn g.frame.place es).push {g:=0,fn:=g.frame.fn,pos:=g.frame.place,act:=.go cZ.size}).push {g:=cZ.size,fn:=m.frame.fn,pos:=g.frame.place,act:=.start}
   =T++gR 0 g.frame.fn g.frame.place es++#[{g:=0,fn:=g.frame.fn,pos:=g.frame.place,act:=.go cZ.size},{g:=cZ.size,fn:=m.frame.fn,pos:=g.frame.place,act:=.start}]:=by apply T0;simp
 rw[Y];have A:=iq cW;refine afD (dc cZ.size f) c7 ls d9 m w _ sl _ q c8 I ?_ ?_ ?_ cL D
 .rw[Array.getElem?_push_lt (by simpa using A)];simp
 .have e:cZ.size=(cZ.setIfInBounds 0 d9).size:=dt
  rw[e,Array.getElem?_push_size]
 .have B:=xk v (g:=0) (fn:=g.frame.fn) (pos:=g.frame.place);have G:e2 P cZ.size cZ T q:=⟨λi x cK X k=>O.old i x cK R k,O.above⟩;have W:=(G.trace B).trace (u:=#[{g:=0,fn:=g.frame.fn,pos:=g.frame.place,act:=.go cZ.size},{g:=cZ.size,fn:=m.frame.fn,pos:=g.frame.place,act:=.start}]) (λop p=>by simp at p;rcases p with rfl|rfl<;>simp);refine⟨λi x cK X k=>?_,λj dL=>W.above j (by simp at dL;omega)⟩;rw[Array.getElem?_push,cT hd,q8 R]at k;exact W.old i x cK X k
end
end
theorem qF{a A}(h:bif a then A else dA):a=N/\A:=by cases a<;>simp_all
section
variable {P:el} {T:fL} (cS:jB P T)
include cS
omit cS in
theorem U2{t}{z:dp}(b:pU z.cells.toList (T t).zero=N)(M D):BL M D ((T t).zero.map ra) z.cells:=by have h:=UU (T:=T) b M D;refine⟨h.size,λi y u a c=>?_⟩;have⟨v,d,e⟩:=h.den i y a;simp_all
theorem agS(F:J Field)(h:∀f∈F,(T f.type).k.known=N)(w):
  (F.mapM (m:=Sem) λf=>do pure (f.offset,<-sizeOf f.type)).run P w=.ok (F.map λf=>(f.offset,(T f.type).size)) w:=by
 induction F with
 |nil=>simp|cons f r i=>simp only[Br,g2,iu cS w (h f (mz ..)),g7,hM,i λg a=>h g (lD _ a),kD]
theorem agT{o:gC}{t:eH}{b:ea (V×fu)}{dC:fu->dn}{O:V->dB d4}{K:ge->Prop}(gQ:o.op=.build t b)
  (h:match (T t).k with
  | .struct y=>vZ O dC (HD T y) ((T t).zero.map ra) b.toList λc=>qt c λc=>K ⟨.agg c,[],cM⟩| .arr _ e=>vZ O dC (λi=>U (i*(T e).size,(T e).size)) ((T t).zero.map ra) b.toList λc=>K ⟨.agg c,[],cM⟩|_=>dA):∃e,K e/\hv P o dC O e:=by
 split at h
 .rename_i y c6;have⟨F,G,cV,C,_⟩:=By cS c6;have⟨dr,A,dj,cP⟩:=Il h;refine⟨_,EE A,uJ λown M D a w cL c_ k=>have⟨z,H,j⟩:=Nb cS (t:=t) w S8;have⟨d,u,l⟩:=cP own M D a w z.cells c_ k (U2 j M D);⟨.agg d,?_,Et (s:=zc t (b.map λ(x:V×fu)=>(x.1,a.eval x.2))) lW (Ud _ _),.agg _ _ l.1 l.2⟩⟩
  have E:(F.mapM (m:=Sem) λf=>do pure (f.offset,<-sizeOf f.type)).run P w=.ok (F.map λf=>(f.offset,(T f.type).size)) w:=by rw[Array.mapM_eq_mapM_toList,Sem.run_map,agS cS F.toList (λf I=>C (f.offset,f.type) (by grind)) w];simp;apply T0;simp
  have q:(λi=>(F.map λf=>(f.offset,(T f.type).size))[i]?)=HD T y:=by
   funext i;rw[<-cV];unfold HD;rw[iO,AW,ER]
   cases F[i]?<;>rfl
  have g:((b.map λ(x:V×fu)=>(x.1,a.eval x.2)).toList)=b.toList.map λp=>(p.1,a.eval p.2):=dt
  have r:(execOp a.eval o).run P w=((zc t (b.map λ(x:V×fu)=>(x.1,a.eval x.2))).run P w).andThen λv w=>.ok (.value v) w:=by simp[execOp,gQ]
  rw[r];simp only[zc,g2,H,g7,fv G,E,q,g,u,hM]
 .rename_i n e c6;have⟨G,B⟩:=Bx cS c6;have⟨dr,A,dj,cP⟩:=Il h;refine⟨_,A,uJ λown M D a w cL c_ k=>have⟨z,H,j⟩:=Nb cS (t:=t) w S8;have⟨d,u,l⟩:=cP own M D a w z.cells c_ k (U2 j M D);⟨.agg d,?_,Et (s:=zc t (b.map λ(x:V×fu)=>(x.1,a.eval x.2))) lW (Ud _ _),.agg _ _ l.1 l.2⟩⟩;have g:((b.map λ(x:V×fu)=>(x.1,a.eval x.2)).toList)=b.toList.map λp=>(p.1,a.eval p.2):=dt
  have r:(execOp a.eval o).run P w=((zc t (b.map λ(x:V×fu)=>(x.1,a.eval x.2))).run P w).andThen λv w=>.ok (.value v) w:=by simp[execOp,gQ]
  rw[r];simp[zc,g2,H,g7,fv G,iu cS w B,g,u,hM]
 simp_all
omit cS in
theorem Im(cQ):∀n dD,(hs.chunk cQ n dD).length=n
 |0,_=>rfl|n+1,dD=>by simp[hs.chunk,Im cQ n]
omit cS in
theorem U4(cQ):∀n dD i,i<n->(hs.chunk cQ n dD)[i]?=U ((dD.drop (i*cQ)).take cQ)
 |0,_,_,h=>R|n+1,dD,0,_=>by simp[hs.chunk]
 |n+1,dD,i+1,h=>by
  simp[hs.chunk,List.getElem?_cons_succ];rw[U4 cQ n (dD.drop cQ) i R,BM];grind
theorem agU{e}(k:(T e).k.known=N){z:dp}(m:pU z.cells.toList (T e).zero=N)(n M D):
  BL M D (Bj T e n) ((MV (n*(T e).size)).map (z.cells[·%z.cells.size]!)):=by
 have⟨h,f⟩:=zn m;have d:=EA cS k;have o:=pV cS k
 have s:z.cells.size=(T e).size:=by rw[<-d,<-h];simp
 refine⟨by simp[Bj],λi y u b a=>?_⟩;simp only[Bj,iO]at b;simp only[AW]at a
 by_cases cK:i<n*(T e).size
 .rw[In cK]at b;simp only[jp,fx]at b;rw[U5]at a;rw[if_pos cK]at a;simp at a;have q:i%(T e).size<(T e).size:=mu _ o;have cP:(T e).zero[i%(T e).size]?=U ((T e).zero[i%(T e).size]' R):=fe R;have⟨v,dG,g,j⟩:=f _ _ cP
  have c:u=v:=by rw[<-a,s];have:=yH;have l:i%(T e).size<z.cells.size:=R;rw[getElem!_pos z.cells _ l];rw[yU l]at this;simpa using this
  rw[<-b,c]
  have:(T e).zero.getD (i%(T e).size) .ka=(T e).zero[i%(T e).size]' R:=by simp[List.getD,cP]
  rw[this];exact UQ (g M) j
 simp_all
omit cS in
theorem agV{own M a D O h w}(Q:er own a D h w)(s1:gJ M a)(eD:oO O h){c dx cs}
  (j:∀b l cQ cN,b∈gU.cells O c->O b=U (.row l cQ cN)->h b=U (.row l cQ N))(i:conv.cells O c=U dx)(cP:BL M D c cs):
  dx.length=c.length/\ ∀(k:V) (d),dx[k]?=U d->∃u,cs[k]?=U u/\e1 a d u:=by
 have⟨x,o⟩:=BH i;refine⟨x,λk d m=>?_⟩;have⟨z,fY,gY,_⟩:=o k d m;have e:=(fM.1 fY).1
 have f:cs[k]?=U (cs[k]'(by rwa[cP.1])):=dt
 refine⟨_,f,v_ Q (by rwa[Nk eD]) ?_ ((cP.2 k z _ fY f).mono s1)⟩;have:=xA (hh:=O) j eD (.agg c) (λb p=>by assumption)
 have g:∀(c:J dn) (O:V->dB d4),gU.cells O c=[]->∀(k:V) (z:dn),c[k]?=U z->gU.one O z=[]:=by
  intro c O
  induction c with
  |nil=>simp_all|cons q r s=>intro n k z g;simp[gU.cells,zj]at n;grind
 exact g _ _ (by assumption) k z fY
omit cS in
theorem U6{own M b D O f w}(j:∀c,w.heap.size<=c->own c)(m:gJ M b)(cY:jl own M b)(g:fq b w)(c_:er own b D f w)
  {e d l cQ vs eQ cap}(i:e.O O=eO (hL (U d) f) d (U (.row l cQ L)))(k:e.f2=U d)(v:e.fl=.own d)
  (r:lz b vs l cQ)(a:l.length<=cap)(s:cap*cQ<=vs.size):
  dM own M D O w e (.slice (U ⟨w.heap.size,0,cM⟩) l.length cap) (w.alloc (.cells vs eQ)):=by
 refine If j m cY g c_ Z Z Z Z (d:=d) (B:=.row l cQ L) (cQ:=cQ) (len:=l.length) i k ?_ ?_
 .exact⟨vs,eQ,Ie w _,Z,Z,Z,fJ (l4 _ a) s,r,rW,λ_ o=>Ic g o⟩
 .rw[v];exact .own d ⟨w.heap.size,cQ,vs.size,l.length⟩ cap (gE _ _ _) a s
theorem agW{o:gC}{t:eH}{n:V}{A:ea (V×fu)}{d:Tmp}{dC:fu->dn}{O:V->dB d4}{K:ge->Prop}(gQ:o.op=.buildSlice t n A)
  (h:match (T t).k with
   | .slice e=>vZ O dC (λi=>U (i*(T e).size,(T e).size)) (Bj T e n) A.toList λc=>jL (n*(T e).size<=16777216) (match conv.cells O c with
    |some dD=>K ⟨.own d,f9 O (gU.cells O c)++[(d,.row (hs.chunk (T e).size n dD) (T e).size L)],U d⟩
    |none=>dA)
   |_=>dA):∃e,K e/\hv P o dC O e:=by
 split at h
 .rename_i e c6;have⟨W,m⟩:=kC cS c6;have⟨H,h,dw,cP⟩:=Il h;have⟨af,h⟩:=kT h
  cases C:conv.cells O H with
  |none=>simp_all
  |some dD=>
   simp[C]at h;refine⟨_,h,rj λown M D a w F dq c_ I=>?_⟩
   have⟨q,z,R,y,X,S⟩:∃q z,P.info? e=U q/\q.size=(T e).size/\q.zero=U z/\pU z.cells.toList (T e).zero=N:=by have⟨_,q,_,cK,_,c7,_,⟨z,X,dg⟩,_⟩:=(lC cS m).desc;simp_all
   have⟨Y,s1,aa,fh,Q,eD,ab⟩:=v8 (hh:=O) (gU.cells O H) M O dq c_ (.refl O);have⟨r,dG,dc⟩:=cP own M D a w _ c_ I (agU cS m S n M D);have da:((A.map λ(x:V×fu)=>(x.1,a.eval x.2)).toList)=A.toList.map λp=>(p.1,a.eval p.2):=dt;have⟨ac,ad⟩:=agV Q s1 eD (λb l cQ cN hb e=>ab b l cQ cN (.inl hb) e) C dc
   have B:H.length=n*(T e).size:=by rw[dw];simp[Bj]
   have G:lz Y r (hs.chunk (T e).size n dD) (T e).size:=by
    have E:∀(i:V) (u:J c3),(hs.chunk (T e).size n dD)[i]?=U u->i<n/\u=(dD.drop (i*(T e).size)).take (T e).size:=by
     intro i u f
     have cK:i<n:=by have:=(fM.1 f).1;rwa[Im]at this
     rw[U4 _ n dD i cK]at f;exact⟨cK,by simpa using f.symm⟩
    have cL:∀i,i<n->i*(T e).size+(T e).size<=dD.length:=by
     intro i cK;rw[ac,B]
     calc i*(T e).size+(T e).size=(i+1)*(T e).size:=by rw[qD,ES]
      _<=n*(T e).size:=l4 _ cK
    refine⟨λi u f=>?_,λi j u ag f g=>?_⟩
    .obtain⟨cK,rfl⟩:=E i u f;have:=cL i cK;simp;omega
    .obtain⟨cK,rfl⟩:=E i u f;rw[wa]at g;split at g
     .rw[Hv]at g;exact ad _ _ g
     .cases g
   have k:=U6 (d:=d) (eQ:=e) (cap:=n) F s1 fh aa Q (e:=⟨.own d,f9 O (gU.cells O H)++[(d,.row (hs.chunk (T e).size n dD) (T e).size L)],U d⟩) (vs:=r) (l:=hs.chunk (T e).size n dD) (cQ:=(T e).size) (agJ _ _ _ _) Z Z G (by rw[Im];exact fB _) (by rw[dc.1,B];exact fB _);rw[Im]at k;refine⟨_,_,?_,Et (s:=HV t n (A.map λ(x:V×fu)=>(x.1,a.eval x.2))) lW (af4 _ _ _),k⟩
   have ae:(execOp a.eval o).run P w=((HV t n (A.map λ(x:V×fu)=>(x.1,a.eval x.2))).run P w).andThen λv w=>.ok (.value v) w:=by simp[execOp,gQ]
   rw[ae]
   by_cases cY:n=0
   .subst cY;have dj:((MV (0*(T e).size)).map (z.cells[·%z.cells.size]!))=#[]:=dt;rw[dj]at dG;simp only[HV,g2,fv W,g7,iu cS w m];have cX:(MV 0).map (λ_=>(default:dp))=#[]:=dt;have dr:=dG;simp;rw[cX,dr];simp[newObj];rfl
   .have hh:¬n*q.size=0:=by
     rw[y];have:=pV cS m;intro cW;rcases U7.1 cW with h|h<;>omega
    have cV:¬n*q.size>2^24:=by rw[y];omega
    rw[run_buildSlice (P:=P) w t e n _ r q z W R X cV hh (by rwa[y,da])];rfl
 simp_all
theorem agX{o t x y}{d:Tmp}{dC O}{K:ge->Prop}{n c k1 eF}(p:o.op=.makeSlice t x y)(J:dC x=.d (.int k1 n))(Q:dC y=.d (.int eF c)){e}(V:(T t).k=.slice e)
 (h:jL (0<=n/\n<=c) (r8 c.toNat (T e).bytes (K ⟨.own d,[(d,.row (eL n.toNat (T e).zero) (T e).size L)],U d⟩))):∃e,K e/\hv P o dC O e:=by
 have⟨cX,k⟩:=kC cS V;have⟨⟨cW,m⟩,h⟩:=kT h;have⟨ab,ac,h⟩:=BB h;refine⟨_,h,rj λown M D a w q W c_ B=>?_⟩;have cV:=kr (J▸B x);have cL:=kr (Q▸B y)
 have⟨b,z,g,u,X,G,H⟩:∃b z,P.info? e=U b/\b.size=(T e).size/\b.bytes=(T e).bytes/\b.zero=U z/\pU z.cells.toList (T e).zero=N:=by have⟨_,b,_,cK,_,c7,hb,⟨z,G,dg⟩,_⟩:=(lC cS k).desc;simp_all
 have⟨fY,gY⟩:=zn H;have A:=EA cS k;have da:=pV cS k
 have dr:z.cells.size=(T e).size:=by rw[<-A,<-fY];simp
 have Y:(c.toNat:I)=c:=R
 have r:=run_make (P:=P) w t e b z cX g G k1 eF n c cW m (by grind) R
 have s:lz M (madeCells z.cells (c.toNat*b.size)) (eL n.toNat (T e).zero) (T e).size:=by
  refine⟨λi aa l=>?_,λi j aa S l f=>?_⟩
  .grind
  .rw[zo]at l;split at l
   .rename_i cK
    cases l
    have dj:=(fM.1 f).1;rw[A]at dj;have⟨v,dG,dc,_⟩:=gY j S f;refine⟨v,?_,dc M⟩
    have E:i*(T e).size+j<c.toNat*b.size:=by
     rw[u]
     calc i*(T e).size+j<i*(T e).size+(T e).size:=R
      _=(i+1)*(T e).size:=Lx
      _<=c.toNat*(T e).size:=l4 _ R
    simp[madeCells,AW,U5,if_pos E,jp,fx];rw[dr,Io,Ip,nq dj];grind
   .cases l
 have F:=U6 (d:=d) (eQ:=e) (cap:=c.toNat) (O:=O) q (.refl M) (.refl own M) W c_ (e:=⟨.own d,[(d,.row (eL n.toNat (T e).zero) (T e).size L)],U d⟩) Z Z Z s hd (by rw[size_madeCells,u];omega)
 have C:=Conc.events_make (P:=P) w t e b z cX g G k1 eF n c cW m (by grind) R (by grind) #[]
 refine⟨_,_,?_,tk (by simp[execOp,p,cV,cL,r,C]),by omega⟩;simp[execOp,p,cV,cL,r]
end
def U8{M d v}(h:pO.one d=N)(cP:e1 M d v):v.oneCell'=N:=by cases cP<;>simp[pO.one]at h<;>rfl
def ET{cQ l}(h:gN cQ l=N):∀(i:V) (e),l[i]?=U e->e.length=cQ/\ ∀d∈e,pO.one d=N:=by intro i e a;simp[gN,n0]at h;have:=h e (jg a);simp[Bh,lB,n0]at this;simp_all
def Nt{P}(w a es){u}(b:w.cell? a=U u):∀du∈(load a).events P w es,du∈es\/du.sync=L/\du.loc=.cell a:=by intro du h;rw[Iq,b]at h;grind
def U9(a:gP)(n):(a.add n).block=a.block:=by unfold oN;split<;>rfl
def Ir{P}(a):∀n i c w es,(∀j,j<n->(w.cell? (a.add (i+j))).isSome)->
  ∀du∈(loadCellsFrom a i n c).events P w es,du∈es\/du.sync=L/\ ∃eb,du.loc=.cell eb/\eb.block=a.block
 |0,_,_,_,_,_=>λdu h=>.inl (by assumption)
 |n+1,i,c,w,es,e=>λdu h=>by
  simp only[loadCellsFrom,jn]at h;have⟨u,b⟩:=Option.isSome_iff_exists.1 (e 0 R);simp at b
  have r:(load (a.add i)).run P w=.ok u w:=by simp[b]
  rw[r]at h;rcases Ir a n (i+1) (c.push u) w _ (λj f=>by grind) du h with h|h
  .rcases Nt w _ es b du h with h|⟨Q,d⟩
   .grind
   .exact .inr ⟨Q,_,d,U9 a i⟩
  simp_all
structure tn(P:el)(own:V->Prop)(M:eE)(w:c')(u:dp)(l:J (J c3))(cQ:V)(vs:ea dp):Prop where
 size:vs.size=l.length*cQ
 row:lz M vs l cQ
 one:gN cQ l=N->∀v∈vs.toList,v.oneCell'=N
 run:∀w':c',(∀a,(w.cell? a).isSome->w'.cell? a=w.cell? a)->(k_ cQ l.length u).run P w'=.ok vs w'
 rd:∀(w':c') (es:ea hB),(∀a,(w.cell? a).isSome->w'.cell? a=w.cell? a)->∀du∈(k_ cQ l.length u).events P w' es,du∈es\/h0 own M du
def zp{i j n cQ:V}(cK:i<n)(a:j<cQ):i*cQ+j<n*cQ:=by
 calc i*cQ+j<i*cQ+cQ:=R
  _=(i+1)*cQ:=Lx
  _<=n*cQ:=l4 _ cK
def U'{k n cQ:V}(a:k<n*cQ):∃i j,k=i*cQ+j/\i<n/\j<cQ:=by
 have s:0<cQ:=by
  rcases Hf cQ with h|h
  .simp_all
  .exact h
 refine⟨k/cQ,k%cQ,?_,?_,mu _ s⟩
 .have:=Nat.div_add_mod k cQ;grind
 .exact Nat.div_lt_of_lt_mul (by grind)
def BN{P own M w l cQ}(f off cap)(val:V->V->dp)(n:∀(i:V) (e),l[i]?=U e->e.length=cQ)
  (x:∀i j e d,l[i]?=U e->e[j]?=U d->w.cell? ⟨f,off+i*cQ+j,cM⟩=U (val i j))
  (cP:∀i j e d,l[i]?=U e->e[j]?=U d->e1 M d (val i j))(t:∀(i j:V) (e d),l[i]?=U e->e[j]?=U d->own f\/ ∃o v,M f o=U v):
  ∃vs,tn P own M w (.slice (U ⟨f,off,cM⟩) l.length cap) l cQ vs:=by
 have y:∀k,k<l.length*cQ->∃i j e d,k=i*cQ+j/\l[i]?=U e/\e[j]?=U d:=by intro k m;have⟨i,j,q,cK,c⟩:=U' m;have b:=fe cK;have A:=n i _ b;exact⟨i,j,l[i],l[i][j],q,b,fe R⟩
 have s:∀i j,j<cQ->(i*cQ+j)/cQ=i/\ (i*cQ+j)%cQ=j:=by
  intro i j c
  have:0<cQ:=R
  rw[Io i cQ];exact⟨by rw[Nat.mul_add_div this,Nat.div_eq_of_lt c,BO],by rw[Ip,nq c]⟩
 refine⟨((List.range (l.length*cQ)).map λk=>val (k/cQ) (k%cQ)).toArray,by simp,⟨n,λi j e d b c=>?_⟩,λr v cU=>?_,λw' p=>?_,λw' es p du g=>?_⟩
 .have cK:=(fM.1 b).1;have a:=(fM.1 c).1;rw[n i e b]at a;refine⟨val i j,?_,cP i j e d b c⟩;simp[List.getElem?_toArray,iO,In (zp cK a),jp,(s i j a).1,(s i j a).2]
 .simp at cU;obtain⟨k,m,rfl⟩:=cU;obtain⟨i,j,e,d,rfl,b,c⟩:=y k m;have a:=(fM.1 c).1;rw[n i e b]at a;rw[(s i j a).1,(s i j a).2];exact U8 ((ET r i e b).2 d (jg c)) (cP i j e d b c)
 .simp[k_];rw[run_loadCells w' ⟨f,off,cM⟩ (l.length*cQ) (λk=>val (k/cQ) (k%cQ)) λk m=>?_];obtain⟨i,j,e,d,rfl,b,c⟩:=y k m;have a:=(fM.1 c).1;rw[n i e b]at a;rw[(s i j a).1,(s i j a).2,mA,p _ (by grind)];grind
 .simp[k_]at g
  rcases Ir (P:=P) ⟨f,off,cM⟩ (l.length*cQ) 0 #[] w' es (λk m=>by
   obtain⟨i,j,e,d,rfl,b,c⟩:=y k m;have u:=x i j e d b c
   rw[np,mA,show off+(i*cQ+j)=off+i*cQ+j by omega,p _ (by rw[u];rfl),u];rfl) du g with h|⟨Q,eb,z,B⟩
  .grind
  .rcases Hf (l.length*cQ) with cW|cW
   .rw[cW]at g;exact .inl (by assumption)
   .have⟨i,j,e,d,_,b,c⟩:=y 0 cW;refine .inr ?_;unfold h0;grind
def wb{P own M w cQ}(a c):tn P own M w (.slice a 0 c) [] cQ #[]:=by
 refine⟨dt,⟨λi e h=>ql,λi j e d h=>ql⟩,λ_ v cU=>yO,λw' _=>?_,λw' es _ du b=>.inl ?_⟩
 .cases a with|none=>rfl|some a=>simp[k_,EU,Nat.zero_mul];rfl
 .cases a with|none=>assumption|some a=>simpa[k_,loadCells,loadCellsFrom]using b
def Is{P own M D O w}(c_:er own M D O w){b dy n c l cQ cN}(hb:O b=U (.row l cQ cN)){u}(cP:dV M D (.win b dy n c) u)(y:dy+n<=l.length):
  ∃vs k base cL,u=.slice (U ⟨cL,base,cM⟩) ((l.drop dy).take n).length k/\tn P own M w u ((l.drop dy).take n) cQ vs:=by
 have o:((l.drop dy).take n).length=n:=hd
 cases cP with
 |jj _ _ _ _ _ a=>rw[(c_.fD b).2 a]at hb;cases hb
 |win _ _ _ _ cL k base a cY dg c6 p=>
  have⟨q,cs,eQ,r,z,s,A,B,f,C⟩:=c_.at_ b _ cL hb a;rw[o]
  by_cases cW:n=0
  .subst cW;exact⟨#[],k,base,cL.blk,Z,by rw[List.take_zero];exact wb _ k⟩
  .have t:base=dy*cL.cQ:=by
    rcases p with h|h
    .exact h
    .omega
   subst t
   have g:∀(i:V) (e:J c3),((l.drop dy).take n)[i]?=U e->l[dy+i]?=U e:=by
    intro i e he;rw[wa]at he;split at he
    .simp_all
    .cases he
   have⟨vs,E⟩:=BN (P:=P) (M:=M) (w:=w) (l:=(l.drop dy).take n) (cQ:=cQ) cL.blk (dy*cL.cQ) k (λi j=>(cs[(dy+i)*cQ+j]?).getD undef) (λi e he=>f.len _ e (g i e he)) (λi j e d he dL=>by
     have⟨v,m,x⟩:=f.den _ j e d (g i e he) dL
     rw[si r,<-s,show dy*cQ+i*cQ+j=(dy+i)*cQ+j by grind,m];rfl) (λi j e d he dL=>by
     have⟨v,m,x⟩:=f.den _ j e d (g i e he) dL
     simp_all) (λ_ _ _ _ _ _=>.inl q)
   grind
def Nu{P cQ v O K}(h:Bi cQ v O K):
 ∃l,K l/\ ∀own M D w u,fq M w->er own M D O w->dV M D v u->∃a c vs,u=.slice a l.length c/\tn P own M w u l cQ vs/\ ∀v∈vs.toList,v.oneCell'=N:=by
 unfold Bi at h;split at h
 .rename_i l;have⟨f,h⟩:=kT h;refine⟨l,h,λown M D w u dq c_ cP=>?_⟩
  cases cP with
  |d _ _ cP=>
   cases cP with
   |emp a c=>exact⟨a,c,#[],Z,wb a c,λv cU=>yO⟩
   |dk _ b off cap g val dw c7 d8 t=>
    have s:=λi e he=>(c7 i e he).symm.trans (ET f i e he).1
    have⟨vs,m⟩:=BN (P:=P) (own:=own) (M:=M) (w:=w) b off cap val (λi e he=>(ET f i e he).1) (λi j e d he dL=>by
     have:=s i e he;subst this
     exact dq _ _ _ (d8 i j e d he dL)) t (λi j e d he dL=>.inr ⟨_,_,d8 i j e d he dL⟩)
    exact⟨_,_,vs,Z,m,m.one f⟩
 .refine⟨[],h,λown M D w u dq c_ cP=>?_⟩
  cases cP with
  |nil a=>exact⟨a,0,#[],Z,wb a 0,λv cU=>yO⟩
 .rename_i b;split at h
  .rename_i l g cN hb
   cases c7:d2 g cQ with
   |false=>simp_all
   |true=>
    simp[c7,fE]at h;have:=gs c7;subst this;have⟨f,h⟩:=kT h;refine⟨l,h,λown M D w u dq c_ cP=>?_⟩
    cases cP with
    |own _ cL cap o cY dg=>
     have⟨x,cs,eQ,y,s,B,z,C,r,E⟩:=c_.at_ b _ cL hb o
     have⟨vs,m⟩:=BN (P:=P) (M:=M) (w:=w) cL.blk 0 cap (λi j=>(cs[i*g+j]?).getD undef) r.len (λi j e d he dL=>by
      have⟨v,p,q⟩:=r.den i j e d he dL
      rw[si y,np,p];rfl) (λi j e d he dL=>by
      have⟨v,p,q⟩:=r.den i j e d he dL
      simp_all) (λ_ _ _ _ _ _=>.inl x)
     rw[<-z];exact⟨_,_,vs,Z,m,m.one f⟩
    |h7 _ a o=>
     have⟨F,G,e⟩:=c_.iN b o;rw[hb]at e;cases e
     exact⟨a,0,#[],Z,wb a 0,λv cU=>yO⟩
    |ji _ _ o=>rw[(c_.fD b).2 o]at hb;cases hb
  simp_all
 .rename_i b dy n c;split at h
  .rename_i l g cN hb
   cases c7:d2 g cQ with
   |false=>simp_all
   |true=>simp[c7,fE]at h;have:=gs c7;subst this;have⟨⟨A,f⟩,h⟩:=kT h;exact⟨_,h,λown M D w u dq c_ cP=>have⟨vs,k,base,cL,p,q⟩:=Is (P:=P) c_ hb cP A;⟨_,_,vs,p,q,q.one f⟩⟩
  simp_all
 simp_all
def Nv{M cs vs c l r cQ}(Q:lz M cs l cQ)(f:lz M vs r cQ)
  (h:∀k,k<l.length*cQ->c[k]?=cs[k]?)(n:∀k,k<r.length*cQ->c[l.length*cQ+k]?=vs[k]?):lz M c (l++r) cQ:=by
 refine⟨λi e a=>?_,λi j e d a g=>?_⟩
 .by_cases cK:i<l.length
  .rw[v' cK]at a;exact Q.len i e a
  .rw[xD R]at a;exact f.len _ e a
 .have b:=(fM.1 g).1
  by_cases cK:i<l.length
  .rw[v' cK]at a;rw[Q.len i e a]at b;rw[h _ (zp cK b)];exact Q.den i j e d a g
  .rw[xD R]at a;rw[f.len _ e a]at b;obtain⟨m,rfl⟩:∃m,i=l.length+m:=⟨i-l.length,R⟩;simp at a;have o:=(fM.1 a).1;rw[qD,EH,n _ (zp o b)];exact f.den m j e d a g
section
open Go.Conc Go.Conc.Lib
open Go.ConcR (KK WgAt stA mk)
open Go.ConcX.Gen
def Ci(c4:V->Prop)(_ _:c')(es:ea hB):Prop:=∀e∈es,vS c4 e
@[reducible] def alv(c4:V->Prop)(Wg C:V)(hC:¬c4 C):Go.ConcX.Shy Wg C where
 ok:=λact=>(∀x,act.touch? =U x->s4 c4 x.loc->x.kind≠.plain) /\ ∀a,act≠.mark (.release a)
 atomicWg:=λa wr h=>⟨λx c _=>by simp[k6]at c;subst c;simp,by simp⟩
 readWg:=λa h=>⟨λx c _=>by simp[k6]at c;subst c;simp,by simp⟩
 writeWg:=λa h=>⟨λx c _=>by simp[k6]at c;subst c;simp,by simp⟩
 theirs:=λa wr h=>⟨λx c hb=>by
  simp[k6]at c;subst c
  rcases hb with⟨b,hb,c7⟩|⟨r,hb,_⟩
  rotate_left
  ·cases hb
  have e:a=b:=by simpa using hb
  subst e
  exact dQ (h▸c7) hC,by simp⟩
 disable:=⟨by simp[k6],by simp⟩
 enable:=⟨by simp[k6],by simp⟩
 relMerge:=⟨by simp[k6],by simp⟩
 acquire:=⟨by simp[k6],by simp⟩
 go1:=⟨by simp[k6],by simp⟩
 start:=⟨by simp[k6],by simp⟩
 stop:=λ_ _=>True
section
variable {P:el} {c4:V->Prop} {Wg C:V} [Go.ConcX.Payload] {cL:WgLink}
theorem alx(Wg):(#[.pointer (U ⟨Wg,0,cM⟩),.int .i64 1]:ea dp)++kx 115 undef=#[.pointer (U ⟨Wg,0,cM⟩),.int .i64 1,undef,undef,undef,undef,undef,undef,undef,undef,undef,undef,undef,undef,undef,undef,undef,undef,undef,undef,undef,undef,undef,undef,undef,undef,undef,undef,undef,undef,undef,undef,undef,undef,undef,undef,undef,undef,undef,undef,undef,undef,undef,undef,undef,undef,undef,undef,undef,undef,undef,undef,undef,undef,undef,undef,undef,undef,undef,undef,undef,undef,undef,undef,undef,undef,undef,undef,undef,undef,undef,undef,undef,undef,undef,undef,undef,undef,undef,undef,undef,undef,undef,undef,undef,undef,undef,undef,undef,undef,undef,undef,undef,undef,undef,undef,undef,undef,undef,undef,undef,undef,undef,undef,undef,undef,undef,undef,undef,undef,undef,undef,undef,undef,undef,undef,undef]:=c2
set_option maxRecDepth 100000 in
theorem aly(H:WgLib P cL)(hC:¬c4 C){b₀:Frame}{a₀ ops₀ i₀ rest₀ k₀ cs dv w}(hw:gu cL.tWg Wg w 0 0)
  (cS:∀d,dO P N AtRel (Ci c4) dv (G (b₀.at (a₀.put ((ops₀[i₀]?).bind (·.dst)) (.tuple #[])) (.inRegion ops₀ rest₀::k₀)) cs) ((w.setCell (stA Wg) (.int .u64 KK)).at d)):
  dO P N AtRel (Ci c4) (Hw P .disable λa w=>dO P N AtRel (Ci c4) (Hw P .enable λa w=>dO P N AtRel (Ci c4) dv a w) a w)
   (G ((base cL.add).at ⟨#[.pointer (U ⟨Wg,0,cM⟩),.int .i64 1]++kx 115 undef,[]⟩ [.code (body_add cL)]) (b₀.at a₀ (.inRegion ops₀ (i₀::rest₀)::k₀)::cs)) w:=by
 rw[alx]
 letI:=alv c4 Wg C hC
 have i:∀a b es,Go.Conc.DE (ConcX.EvS Wg C) a b es->Ci c4 a b es:=λa b es h e he=>by have h:=h e he;have⟨_,Q,c,f,j,dz,dW⟩:=h;refine⟨dz,λm=>f ?_,λm=>j ?_,λa m=>dW a ?_⟩<;>have⟨l,w,s⟩:=e<;>simp only at m<;>subst m<;>cases w<;>cases s<;>rfl
 have k:=ConcX.Gen.addPos (Wg:=Wg) (C:=C) (b₀:=b₀) (a₀:=a₀) (ops₀:=ops₀) (i₀:=i₀) (rest₀:=rest₀) (k₀:=k₀) (cs:=cs) (mT:=0)
  (StopG:=λg c0=>g=G (b₀.at (a₀.put ((ops₀[i₀]?).bind (·.dst)) (.tuple #[])) (.inRegion ops₀ rest₀::k₀)) cs/\ ∃d,c0=(w.setCell (stA Wg) (.int .u64 KK)).at d) H w hw (Goes.stop λc0 ⟨d,h⟩=>⟨Z,d,h⟩)
 refine(dO.r3 k).mono (λ_ _ h=>h) i λg c0 h=>have⟨Q,d9,c5,n,f⟩:=h;⟨Q,d9,c5,(dO.r3 f).mono (λ_ _ h=>h) i λg c0 h=>have⟨Q,d9,c5,n,f⟩:=h;⟨Q,d9,c5,((dO.r3 f).mono (λ_ _ h=>h) i λg c0 h=>h).bind A'.refl λg c0 h=>?_⟩⟩;obtain⟨rfl,d,rfl⟩:=h;exact cS d
end
end
theorem Vk(n):∀r c,c<=n->Iy n r c<=2*n+192
 |0,c,h=>by simp[Iy];omega
 |r+1,c,h=>by
  simp[Iy];split
  .omega
  .by_cases a:c+(c+768)/4<=n
   .exact Vk n r _ a
   .have s:∀(r c:V),n<=c->Iy n r c=c:=by
     intro r c b
     cases r with|zero=>rfl|succ r=>simp[Iy,b]
    grind
theorem Vl{need old}(h:old<need):wc need old<=2*need+192:=by
 unfold wc;split
 .omega
 .split
  .omega
  .exact Vk _ _ _ R
section
variable {P:el} {T:fL} (cS:jB P T)
include cS
theorem NC{t t2 e g dm:eH}(i:(T t).k=.slice e)(k:(T t2).k=.slice g){w w':c'}{base:dB gP}{fZ ik n c:V}{a:dB gP}{vs:ea dp}
  (cY:fZ+n<=ik)(f:(k_ (T e).size n (.slice a n c)).run P w=.ok vs w)
  (s:match base with|none=>w'=w|some b=>(storeCells (b.add (fZ*(T e).size)) vs.toList).run P w=.ok () w'):
  (h9 #[t,t2] dm #[.slice base fZ ik,.slice a n c]).run P w=.ok (.slice base (fZ+n) ik) w':=by
 have⟨d,h⟩:=kC cS i;have⟨u,_⟩:=kC cS k;have j:(#[t,t2]:ea eH)[1]?=U t2:=rfl
 cases base with|none=>subst s;simp[h9,fv d,fv u,iu cS,h,pZ,cY,f]|some b=>simp[h9,fv d,fv u,iu cS,h,pZ,cY,f,s]
theorem ND{t t2 e i dm}(j:(T t).k=.slice e)(d:(T t2).k=.slice i){w base fZ ik n c a vs}{E:hB->Prop}
  (cY:fZ+n<=ik)(f:(k_ (T e).size n (.slice a n c)).run P w=.ok vs w)
  (r:∀es,∀du∈(k_ (T e).size n (.slice a n c)).events P w es,du∈es\/E du)
  (l:∀b,base=U b->∀es,∀du∈(storeCells (b.add (fZ*(T e).size)) vs.toList).events P w es,du∈es\/E du):
  ∀du∈(h9 #[t,t2] dm #[.slice base fZ ik,.slice a n c]).events P w #[],E du:=by
 have⟨g,k⟩:=kC cS j;have⟨u,_⟩:=kC cS d;intro du v;have cW:=λdu h=>(r #[] du h).elim (λq=>by simp at q) id
 cases base with
 |none=>simp[h9,fv g,fv u,iu cS,k,pZ,cY,f]at v;simp_all
 |some b=>
  cases s:(storeCells (b.add (fZ*(T e).size)) vs.toList).run P w<;>
  simp[h9,fv g,fv u,iu cS,k,pZ,cY,f,s]at v<;>
  grind
theorem NE{t t2 e K dm}(da:(T t).k=.slice e)(s:(T t2).k=.slice K){w base fZ ik n c a vs old}
  (cY:ik<fZ+n)(y:(fZ+n)*(T e).bytes<=35184372088832)(i:fZ+n<=35184372088832)
  (O:∀w',(∀x,(w.cell? x).isSome->w'.cell? x=w.cell? x)->(k_ (T e).size n (.slice a n c)).run P w'=.ok vs w')
  (cX:∀w',(∀x,(w.cell? x).isSome->w'.cell? x=w.cell? x)->(k_ (T e).size fZ (.slice base fZ ik)).run P w'=.ok old w'){E:hB->Prop}(r:∀m,xE m->E ⟨.mark m,L,N⟩)
  (q:∀w' es,(∀x,(w.cell? x).isSome->w'.cell? x=w.cell? x)->∀du∈(k_ (T e).size n (.slice a n c)).events P w' es,du∈es\/E du)
  (l:∀w' es,(∀x,(w.cell? x).isSome->w'.cell? x=w.cell? x)->∀du∈(k_ (T e).size fZ (.slice base fZ ik)).events P w' es,du∈es\/E du):
  ∃(C:V) (z:dp),fZ+n<=C/\z.cells.size=(T e).size/\ (h9 #[t,t2] dm #[.slice base fZ ik,.slice a n c]).run P w=
   .ok (.slice (U ⟨w.heap.size,0,cM⟩) (fZ+n) C) (w.drew.alloc (.cells (old++vs++n6 z.cells (C-(fZ+n))) e)) /\
   ∀du∈(h9 #[t,t2] dm #[.slice base fZ ik,.slice a n c]).events P w #[],E du:=by
 have⟨dr,k⟩:=kC cS da;have⟨u,_⟩:=kC cS s;have⟨_,cV,_,yM,_,S,cL,⟨z,LH,A⟩,_,M,B,_⟩:=(lC cS k).desc
 have F:z.cells.size=(T e).size:=by have⟨fY,_⟩:=zn A;rw[<-B,<-fY];simp
 have Q:¬(fZ+n<=ik):=R;have d:=Vl cY
 have G:¬(wc (fZ+n) ik*cV.bytes>2^48):=by
  rw[cL];have H:wc (fZ+n) ik*(T e).bytes<= (2*(fZ+n)+192)*(T e).bytes:=l4 _ d
  have:(2*(fZ+n)+192)*(T e).bytes=2*((fZ+n)*(T e).bytes)+192*(T e).bytes:=by grind
  have j:(2:V)^48=281474976710656:=c1;rw[j];omega
 have p:¬(((fZ+n:V):I)>sj.max):=by have:sj.max=9223372036854775807:=c1;rw[this];omega
 have cP:∀x,(w.cell? x).isSome->w.drew.cell? x=w.cell? x:=λx _=>Z;refine⟨fZ+n+w.tape w.drawn (.appendCap (fZ+n) ik e)%(2^63-(fZ+n)),z,R,F,?_⟩;have f:=O w.drew cP;have o:=cX w.drew cP
 have dj:(choose (.appendCap (fZ+n) ik e)).run P w=.ok (fZ+n+w.tape w.drawn (.appendCap (fZ+n) ik e)%(2^63-(fZ+n))) w.drew:=by simp[run_choose,un,Iz]
 have b:¬(9223372036854775807<(fZ:I)+(n:I) /\cV.bytes=0):=by rintro⟨h,_⟩;omega
 have g:(zeroValue e).run P w.drew=.ok z w.drew:=LG;refine⟨by simp[h9,fv dr,fv u,iu cS,k,pZ,Q,typeInfo,yM,b,G,un,Iz,o,f,g,newRow],λdu v=>?_⟩;simp[h9,fv dr,fv u,iu cS,k,pZ,Q,typeInfo,yM,b,G,un,Iz,o,f,g,newRow,ed.zeroValue e P]at v;refine(q w.drew _ cP du v).elim (λh=>(l w.drew _ cP du h).elim (λh=>?_) id) id;rcases BP _ _ _ du h with h|⟨m,rfl,H⟩
 .simp at h
 .exact r m H
end
theorem EX{own M}(m)(h:xE m):h0 own M ⟨.mark m,L,N⟩:=by unfold xE at h;subst h;exact dU
section
variable {P:el} {T:fL} (cS:jB P T)
include cS
theorem Vm{own M D O w}(m:∀c,w.heap.size<=c->own c)(g:fq M w)(c_:er own M D O w){x l r cQ old vs rest eQ cap}
  (Q:lz M old l cQ)(s1:old.size=l.length*cQ)(i:lz M vs r cQ)(s2:vs.size=r.length*cQ)(a:l.length+r.length<=cap)(n:rest.size=(cap-(l.length+r.length))*cQ):
  dM own M D O w ⟨.own x,[(x,.row (l++r) cQ L)],U x⟩ (.slice (U ⟨w.heap.size,0,cM⟩) (l.length+r.length) cap) (w.drew.alloc (.cells (old++vs++rest) eQ)):=by
 have b:lz M (old++vs++rest) (l++r) cQ:=by
  refine Nv Q i (λk j=>?_) λk j=>?_
  .grind
  .grind
 have s:(old++vs++rest).size=cap*cQ:=by
  simp[ahe,s1,s2,n,<-qD]
  congr 1;omega
 have f:er own M D O w.drew:=c_.h2 (.refl M) λq ej cL=>⟨Z,c_.closed cL⟩;refine If (w:=w) (cO:=w.drew) m (.refl M) (.refl _ _) g f Z Z Z Z (e:=⟨.own x,[(x,.row (l++r) cQ L)],U x⟩) (d:=x) (B:=.row (l++r) cQ L) (cQ:=cQ) (len:=l.length+r.length) Z Z ?_ ?_
 .refine⟨_,eQ,Ie w.drew _,Z,Z,dt,?_,b,rW,λ_ o=>Ic g o⟩;rw[s];simp;grind
 .exact .own x ⟨w.heap.size,cQ,(old++vs++rest).size,l.length+r.length⟩ cap (gE _ _ _) a (by simp_all)
theorem Vn{t t2 e B dm}(g:(T t).k=.slice e)(k:(T t2).k=.slice B){own M D O w}(H:∀c,w.heap.size<=c->own c)(u:fq M w)(c_:er own M D O w)
  {x base r a c vs}(s:tn P own M w (.slice a r.length c) r (T e).size vs)(dr:r.length*(T e).bytes<=35184372088832)(cV:r.length<=35184372088832):
  ∃v w',(h9 #[t,t2] dm #[.slice base 0 0,.slice a r.length c]).run P w=.ok v w'/\ (∀du∈(h9 #[t,t2] dm #[.slice base 0 0,.slice a r.length c]).events P w #[],h0 own M du) /\dM own M D O w ⟨.own x,[(x,.row r (T e).size L)],U x⟩ v w':=by
 by_cases A:r=[]
 .subst A
  have m:vs=#[]:=by have:=s.size;simpa using this
  subst m;refine⟨.slice base 0 0,w,?_,?_,M,eO D x (U cM),.refl _ _,.refl M,u,.refl _ _,c_.BG x _ _,λb F=>gf _ _ λe=>td F e,.h7 x base (gE _ _ _)⟩
  have:=NC cS (dm:=dm) g k (w:=w) (w':=w) (base:=base) (fZ:=0) (ik:=0) (n:=0) (c:=c) (a:=a) (vs:=#[]) (fB _) (s.run w λ_ _=>Z) (by
   cases base with|none=>rfl|some b=>rfl)
  .omega
  .have:=ND cS (dm:=dm) g k (w:=w) (base:=base) (fZ:=0) (ik:=0) (n:=0) (c:=c) (a:=a) (vs:=#[]) (E:=h0 own M) (fB _) (s.run w λ_ _=>Z) (λes=>s.rd w es λ_ _=>Z) (λb _ es du G=>.inl (by assumption));omega
 .have y:=EY.2 A
  have o:=λw' f=>(wb (P:=P) (own:=own) (M:=M) (w:=w) (cQ:=(T e).size) base 0).run w' f
  have⟨C,z,dG,vD,q⟩:=NE cS (dm:=dm) g k (w:=w) (base:=base) (fZ:=0) (ik:=0) (n:=r.length) (c:=c) (a:=a) R (by simp_all) R s.run o EX s.rd (λw' es f=>(wb (P:=P) (own:=own) (M:=M) (w:=w) (cQ:=(T e).size) base 0).rd w' es f);refine⟨_,_,q.1,q.2,?_⟩;have:=Vm cS (x:=x) (eQ:=e) (l:=[]) (r:=r) (cQ:=(T e).size) (old:=#[]) (vs:=vs) (rest:=n6 z.cells (C-(0+r.length))) (cap:=C) H u c_
   ⟨λi e h=>ql,λi j e d h=>ql⟩ dt s.row s.size yH Dx
  assumption
theorem ahf{t t2 e S dm}(H:(T t).k=.slice e)(y:(T t2).k=.slice S){own M D O w}(ab:∀c,w.heap.size<=c->own c)(V:fq M w)(c_:er own M D O w)
  {x l r}(F:O x=U (.row l (T e).size L)){s}(cP:dV M D (.own x) s){a c vs}(u:tn P own M w (.slice a r.length c) r (T e).size vs)(B:∀v∈vs.toList,v.oneCell'=N)
  (ag:(l.length+r.length)*(T e).bytes<=35184372088832)(ah:l.length+r.length<=35184372088832):
  ∃v w',(h9 #[t,t2] dm #[s,.slice a r.length c]).run P w=.ok v w'/\ (∀du∈(h9 #[t,t2] dm #[s,.slice a r.length c]).events P w #[],h0 own M du) /\dM own M D O w ⟨.own x,[(x,.row (l++r) (T e).size L)],U x⟩ v w':=by
 cases cP with
 |ji _ _ p=>rw[(c_.fD x).2 p]at F;cases F
 |h7 _ am p=>
  have⟨an,ao,ac⟩:=c_.iN x p;rw[F]at ac;cases ac
  exact Vn cS H y ab V c_ u (by simp_all) R
 |own _ cL cap p cY da=>
  have⟨o,cs,eQ,m,G,ai,aa,ap,I,aq⟩:=c_.at_ x _ cL F p;have dr:=c_.closed p _ F Z;rw[<-ai]at da
  by_cases f:l.length+r.length<=cap
  .have A:l.length*(T e).size+vs.toList.length<=cs.size:=by
    have:vs.toList.length=r.length*(T e).size:=by simpa using u.size
    rw[this,<-qD,G];exact fJ (l4 _ f) da
   have⟨g,dG,vD,J,aj,ad,ae,ak⟩:=Ik (P:=P) (own:=own) V o dr m vs.toList (l.length*(T e).size) A B
   have Y:vs.toList.length=r.length*(T e).size:=by simpa using u.size
   refine⟨.slice (U ⟨cL.blk,0,cM⟩) (l.length+r.length) cap,w.setRow cL.blk g,?_,?_,M,eO D x (U (U ⟨cL.blk,(T e).size,g.size,l.length+r.length⟩)),J,.refl M,vD,.refl _ _,?_,λb F=>gf _ _ λe=>td F e,
    .own x ⟨cL.blk,(T e).size,g.size,l.length+r.length⟩ cap (gE _ _ _) f (by rwa[ad,G])⟩
   .rw[<-aa]
    exact NC cS (dm:=dm) H y (w:=w) (w':=w.setRow cL.blk g) (base:=U ⟨cL.blk,0,cM⟩) (fZ:=l.length) (ik:=cap) (n:=r.length) (c:=c) (a:=a) (vs:=vs) f (u.run w λ_ _=>Z) (by
     show(storeCells ((⟨cL.blk,0,cM⟩:gP).add (l.length*(T e).size)) vs.toList).run P w=.ok () (w.setRow cL.blk g)
     rw[mA,np];exact dG.1)
   .rw[<-aa];refine ND cS (dm:=dm) H y (w:=w) (base:=U ⟨cL.blk,0,cM⟩) (fZ:=l.length) (ik:=cap) (n:=r.length) (c:=c) (a:=a) (vs:=vs) (E:=h0 own M) f (u.run w λ_ _=>Z) (λes=>u.rd w es λ_ _=>Z) (λb dc es du cV=>?_)
    cases dc
    rw[mA,np]at cV;rcases Ih (P:=P) cL.blk (l.length*(T e).size) eQ vs.toList 0 cs w es m A B du cV with h|⟨Q,eb,c5,al⟩
    .exact .inl h
    .refine .inr ?_;unfold h0;rw[c5];exact⟨Q,.inl (al▸o)⟩
   .refine c_.new x _ ⟨cL.blk,(T e).size,g.size,l.length+r.length⟩ (.refl M) o ⟨g,eQ,aj,Z,Z,dt,?_,?_,rW,λ_=>dr⟩ λd7 ej K C=>⟨λe=>K (c_.inj d7 x ej cL C p e),ak _ λe=>K (c_.inj d7 x ej cL C p e),c_.closed C⟩
    .simp;rw[ad,G];exact fJ (l4 _ f) da
    .refine Nv I u.row (λk H=>?_) λk H=>?_
     .rw[ae,cT R]
     .rw[ae,Y,if_pos ⟨R,R⟩,ahg];simp
  .have dj:=BN (P:=P) (own:=own) (M:=M) (w:=w) cL.blk 0 cap (λi j=>(cs[i*(T e).size+j]?).getD undef) I.len (λi j e d W X=>by
    have⟨v,af,S⟩:=I.den i j e d W X
    rw[si m,np,af];rfl) (λi j e d W X=>by
    have⟨v,af,S⟩:=I.den i j e d W X
    simp_all) (λ_ _ _ _ _ _=>.inl o)
   have⟨old,q⟩:=dj;have⟨cX,z,dG,vD,J⟩:=NE cS (dm:=dm) H y (w:=w) (base:=U ⟨cL.blk,0,cM⟩) (fZ:=l.length) (ik:=cap) (n:=r.length) (c:=c) (a:=a) R ag ah u.run q.run EX u.rd q.rd;rw[<-aa];exact⟨_,_,J.1,J.2,Vm cS ab V c_ q.row q.size u.row u.size dG Dx⟩
end
def Vo(O a:V->dB d4):Prop:=∀b,a b=O b\/ ∃c cN,O b=U (.box c cN) /\a b=U (.box c N)
theorem NF{own:V->Prop}{D:gr}{w:c'}{O:V->dB d4}:∀ {qw:J dn} {cs:J c3} {ws:J (V×d4)},hs.mZ O qw=U (cs,ws)->∀(M:eE) (g:V->dB d4),Vo O g->fq M w->er own M D g w->
 ∃a,gJ M a/\fq a w/\jl own M a/\er own a D (gj g ws) w/\cs.length=qw.length/\ ∀(i:V) (x:dn) (d:c3) (v:dp),qw[i]?=U x->cs[i]?=U d->dV M D x v->e1 a d v
 | [],cs,ws,h,M,g,dw,dq,c_=>by
  simp[hs.mZ,fx,IA]at h;obtain⟨rfl,rfl⟩:=h;exact⟨M,.refl M,dq,.refl _ _,c_,Z,λi x d v Q=>by simp at Q⟩
 |x::r,cs,ws,h,M,g,dw,dq,c_=>by
  have K:∀eW m o,conv.nj x=U eW->hs.mZ O r=U (m,o)->cs=eW::m->ws=o->
   ∃a,gJ M a/\fq a w/\jl own M a/\er own a D (gj g ws) w/\cs.length=(x::r).length/\ ∀(i:V) (y:dn) (d:c3) (v:dp),(x::r)[i]?=U y->cs[i]?=U d->dV M D y v->e1 a d v:=by
   intro eW m o Q c5 u z;subst u z;have⟨a,s1,p,fh,dG,eD,d1⟩:=NF c5 M g dw dq c_;refine⟨a,s1,p,fh,dG,by simp[eD],λi y d v k cP cU=>?_⟩
   cases i with
   |zero=>simp at k cP;subst k cP;exact(UA Q cU).mono s1
   |succ i=>grind
  cases x with
  |ptr b i j=>
   simp[hs.mZ]at h
   cases hb:O b with
   |none=>simp_all
   |some B=>
    cases B with
    |row l cQ cN=>simp_all
    |box c cN=>
     simp[hb]at h
     cases cK:d2 i 0 with
     |false=>simp_all
     |true=>
      have C:=gs cK;subst C
      cases A:conv.vY c with
      |none=>simp_all
      |some dx=>
       cases dI:hs.mZ O r with
       |none=>simp_all
       |some q=>
        have⟨m,o⟩:=q;simp[cK,A,dI,fE,fx,IA]at h;obtain⟨rfl,rfl⟩:=h
        have s:∃t,g b=U (.box c t):=by
         rcases dw b with e|⟨mX,t,u,z⟩
         .simp_all
         .simp_all
        have⟨t,s⟩:=s;have⟨E,s1,p,fh,dG⟩:=freeze dq c_ s (gv:=.box c N) (.inr ⟨_,_,Z,Z⟩)
        have F:Vo O (eO g b (U (.box c N))):=by
         intro d7
         by_cases e:d7=b
         .subst e;rw[gE];simp_all
         .rw[gf _ _ e];exact dw d7
        have⟨a,s2,fb,G,H,eo,I⟩:=NF dI E _ F p dG;refine⟨a,s1.trans s2,fb,fh.trans G,H,by simp[eo],λi y d v k cP cU=>?_⟩
        cases i with
        |succ i=>exact I i y d v (by simp_all) (by simp_all) (cU.mono s1)
        |zero=>simp at k cP;subst k cP;refine e1.mono s2 (UB dG (x:=.ptr b 0 j) ?_ (cU.mono s1));simp[conv.nV,gE,A]
  |d P=>simp[hs.mZ]at h;grind
  |e4=>simp[hs.mZ]at h;grind
  |fd=>simp[hs.mZ]at h;grind
  |nil=>simp[hs.mZ]at h;grind
  |agg c=>simp[hs.mZ,conv.nj]at h
  |dP c=>simp[hs.mZ,conv.nj]at h
  |own b=>simp[hs.mZ,conv.nj]at h
  |win b dy n c=>simp[hs.mZ,conv.nj]at h
  |fn f c=>simp[hs.mZ,conv.nj]at h
  |dead=>simp[hs.mZ,conv.nj]at h
theorem NG{dC:fu->dn}:∀(l:J fu) (i:V),(j7 dC l)[i]?=(l[i]?).map dC
 | [],i=>by simp[j7]|x::r,0=>by simp[j7]|x::r,i+1=>by simpa[j7]using NG r i
theorem NH{dC:fu->dn}:∀(l:J fu),(j7 dC l).length=l.length
 | []=>rfl|x::r=>by simp[j7,NH r]
section
variable {P:el} {T:fL} (cS:jB P T)
theorem ahh{o:gC}{f:FuncId}{first cap:ea fu}{dC:fu->dn}{O:V->dB d4}{K:ge->Prop}(gQ:o.op=.makeFunc (.func f) first cap)
  (h:bif d2 first.size 0 then(match hs.mZ O (j7 dC cap.toList) with
   |some (cs,ws)=>K ⟨.d (.fn f cs),ws,cM⟩
   |none=>dA) else dA):∃e,K e/\hv P o dC O e:=by
 have⟨m,h⟩:=qF h
 have b:first=#[]:=by have:=gs m;simpa using this
 cases g:hs.mZ O (j7 dC cap.toList) with
 |none=>simp_all
 |some q=>
  have⟨cs,ws⟩:=q;simp[g]at h;refine⟨_,h,Nr (λown M a w=>Et (s:=ahi (.func f) (first.map a.eval) (cap.map a.eval)) lW (ed.pure _)) λown M D a w n l c_ c=>have⟨k,s1,p,r,dG,eD,d1⟩:=NF g M O (λ_=>.inl Z) l c_;⟨.func (.func f) #[] (cap.map a.eval),w,by simp[execOp,gQ,b,ahi],k,D,.refl _ _,s1,p,r,dG,λ_ _=>Z,.d _ _ (.fn f cs _ ?_ λi d v cP cU=>?_)⟩⟩
  .rw[eD,NH];simp
  .simp only[AW]at cU
   cases j:cap[i]? with
   |none=>simp_all
   |some x=>simp[j,jp,fx]at cU;subst cU;exact d1 i (dC x) d _ (by rw[NG];simp[j]) cP (c x)
theorem NI{dy cK:dB I}(cW:0<=dy.getD 0)(Q:dy.getD 0<=cK.getD ((0:V):I))(h:cK.getD ((0:V):I) <= ((0:V):I)):(cK.getD ((0:V):I)).toNat=0/\ (dy.getD 0).toNat=0:=R
theorem NJ{dC:fu->dn}{o:dB fu}{K:dB I->Prop}(h:xn dC o K):
  ∃b,K b/\ ((o=cM/\b=cM) \/ ∃x k n,o=U x/\b=U n/\dC x=.d (.int k n)):=by
 unfold xn at h;grind
theorem n7{M:eE}{D:gr}{dC:fu->dn}{a:e7}(c:∀x,dV M D (dC x) (a.eval x)){o:dB fu}{b:dB I}(h:(o=cM/\b=cM) \/ ∃x k n,o=U x/\b=U n/\dC x=.d (.int k n)):
  ∃k,o.map a.eval=b.map (.int k):=by
 rcases h with⟨rfl,rfl⟩|⟨x,k,n,rfl,rfl,d⟩
 .simp_all
 .exact⟨k,by simp[kr (d▸c x)]⟩
include cS in
theorem EZ{t e:eH}(k:(T t).k=.slice e){w:c'}{base:dB gP}{len cap:V}{dy cK:dB I}{k1 eF:pK}(cW:0<=dy.getD 0)(Q:dy.getD 0<=cK.getD len)(a:cK.getD len<=len)(c:len<=cap):
  (m1 t (.slice base len cap) (dy.map (.int k1)) (cK.map (.int eF)) cM).run P w=
   .ok (.slice (if cap=(dy.getD 0).toNat then base else base.map (·.add ((dy.getD 0).toNat*(T e).size))) ((cK.getD len).toNat-(dy.getD 0).toNat) (cap-(dy.getD 0).toNat)) w:=by
 have⟨u,h⟩:=kC cS k;simp[m1,xu,fv u,H6 (P:=P) w cW Q a c,iu cS w h]
theorem NK{M:eE}{r:J (J c3)}{b off cap cQ:V}{val:V->V->dp}(k:r.length<=cap)(s:∀(i:V) (e:J c3),r[i]?=U e->e.length=cQ)
  (m:∀(i j:V) (e:J c3) (d:c3),r[i]?=U e->e[j]?=U d->M b (off+i*cQ+j)=U (val i j))(cP:∀(i j:V) (e:J c3) (d:c3),r[i]?=U e->e[j]?=U d->e1 M d (val i j))
  (l h:V)(Q:l<=h)(f:h<=r.length):
  e1 M (.dk ((r.take h).drop l)) (.slice (if cap=l then U ⟨b,off,cM⟩ else U ⟨b,off+l*cQ,cM⟩) (h-l) (cap-l)):=by
 have n:((r.take h).drop l).length=h-l:=by simp;omega
 by_cases c:h-l=0
 .have:(r.take h).drop l=[]:=IB R;rw[this,c];exact .emp _ _
 .rw[cT R,<-n]
  have g:∀(i:V) (e:J c3),((r.take h).drop l)[i]?=U e->r[l+i]?=U e:=by
   intro i e cK;rw[Hv,wa]at cK;split at cK
   .exact cK
   .cases cK
  refine .dk _ b (off+l*cQ) (cap-l) cQ (λi j=>val (l+i) j) R (λi e cK=>s _ e (g i e cK)) (λi j e d cK a=>?_) λi j e d cK a=>cP _ j e d (g i e cK) a;grind
include cS in
theorem ahj{t c:eH}(f:(T t).k=.slice c){w:c'}{a:gP}{len cap:V}{dy cK:dB I}{k1 eF:pK}(cW:0<=dy.getD 0)(Q:dy.getD 0<=cK.getD len)(b:cK.getD len<=cap)(g:len<=cap):
  (m1 t (.slice (U a) len cap) (dy.map (.int k1)) (cK.map (.int eF)) cM).run P w=
   .ok (.slice (if cap=(dy.getD 0).toNat then U a else U (a.add ((dy.getD 0).toNat*(T c).size))) ((cK.getD len).toNat-(dy.getD 0).toNat) (cap-(dy.getD 0).toNat)) w:=by
 have⟨u,e⟩:=kC cS f
 have d:(pT N len cap (dy.map (.int k1)) (cK.map (.int eF)) cM).run P w=.ok ((dy.getD 0).toNat,(cK.getD len).toNat,cap) w:=by
  cases dy with
  |none=>
   cases cK with|none=>rfl|some h=>simp at cW Q b;simp[pT,ri (P:=P) w (x:=h) (y:=cap) (k:=eF) Q R]
  |some l=>
   cases cK with|none=>simp at cW Q b;simp[pT,ri (P:=P) w (x:=l) (y:=len) (k:=k1) cW R]|some h=>simp at cW Q b;simp[pT,ri (P:=P) w (x:=h) (y:=cap) (k:=eF) R R,ri (P:=P) w (x:=l) (y:=h.toNat) (k:=k1) cW R]
 simp[m1,xu,fv u,d,iu cS w e]
include cS in
theorem ahk{t c:eH}(i:(T t).k=.slice c){w:c'}{a:gP}{len cap:V}{dy cK:dB I}{m:I}{k1 eF j:pK}(s:cK≠cM)(b:0<=m)(f:m<=cap)(cW:0<=dy.getD 0)(Q:dy.getD 0<=cK.getD len)(d:cK.getD len<=m.toNat):
  (m1 t (.slice (U a) len cap) (dy.map (.int k1)) (cK.map (.int eF)) (U (.int j m))).run P w=
   .ok (.slice (if m.toNat=(dy.getD 0).toNat then U a else U (a.add ((dy.getD 0).toNat*(T c).size))) ((cK.getD len).toNat-(dy.getD 0).toNat) (m.toNat-(dy.getD 0).toNat)) w:=by
 have⟨u,e⟩:=kC cS i
 have g:(pT N len cap (dy.map (.int k1)) (cK.map (.int eF)) (U (.int j m))).run P w=.ok ((dy.getD 0).toNat,(cK.getD len).toNat,m.toNat) w:=by
  cases cK with
  |none=>simp_all
  |some h=>
   cases dy with
   |none=>simp at cW Q d;simp[pT,ri (P:=P) w (x:=m) (y:=cap) (k:=j) b f,ri (P:=P) w (x:=h) (y:=m.toNat) (k:=eF) Q R]
   |some l=>simp at cW Q d;simp[pT,ri (P:=P) w (x:=m) (y:=cap) (k:=j) b f,ri (P:=P) w (x:=h) (y:=m.toNat) (k:=eF) R R,ri (P:=P) w (x:=l) (y:=h.toNat) (k:=k1) cW R]
 simp[m1,xu,fv u,g,iu cS w e]
theorem Vp{M:eE}{D:gr}{b dy n k base:V}{cL:kR}(h:D b=U (U cL))(f:(dy+k)*cL.cQ<=cL.size)(i:base=dy*cL.cQ\/ (k=0/\0<dy)){l a kk:V}(Q:l<=a)(g:a<=kk)(j:kk<=k){c:dB V}(d:∀x,c=U x->kk-l=x):
  dV M D (.win b (dy+l) (a-l) c) (.slice (if kk=l then U ⟨cL.blk,base,cM⟩ else U ((⟨cL.blk,base,cM⟩:gP).add (l*cL.cQ))) (a-l) (kk-l)):=by
 have s:(dy+l+(kk-l))*cL.cQ<=cL.size:=fJ (l4 _ R) f
 by_cases e:kk=l
 .rw[if_pos e];refine .win b _ _ c cL _ base h R d s ?_;grind
 .rw[cT e,mA];refine .win b _ _ c cL _ _ h R d s (.inl ?_);grind
include cS in
theorem ahl{o:gC}{t:eH}{x:fu}{dy cK nW:dB fu}{dC:fu->dn}{O:V->dB d4}{K:ge->Prop}(au:o.op=.slice t x dy cK nW)
  (h:xn dC dy λdy=>xn dC cK λcK=>xn dC nW λnW=>My T t (dC x) O dy cK nW K):∃e,K e/\hv P o dC O e:=by
 have⟨g,Y,cV⟩:=NJ h;clear h;have⟨q,ag,H⟩:=NJ Y;clear Y;have⟨a0,h,aj⟩:=NJ ag;clear ag
 have G:∀a:e7,(∀w:c',(execOp a.eval o).run P w=((m1 t (a.eval x) (dy.map a.eval) (cK.map a.eval) (nW.map a.eval)).run P w).andThen λv w=>.ok (.value v) w):=by intro a w;simp[execOp,au]
 have E:∀(own:V->Prop) (M:eE) (a:e7) (w:c'),∀e∈(execOp a.eval o).events P w #[],h0 own M e:=λown M a w=>Et (s:=m1 t (a.eval x) (dy.map a.eval) (cK.map a.eval) (nW.map a.eval)) (by simp[execOp,au]) (HW _ _ _ _ _)
 unfold My at h;split at h
 .have ak:nW=cM:=by
   rcases aj with⟨Q,_⟩|⟨_,_,_,_,B,_⟩
   .exact Q
   .cases B
  subst ak;split at h
  .rename_i s y;split at h
   .rename_i dr;have ae:=v5 cS dr;have⟨cW,Q,B,h⟩:=ED h;refine⟨_,h,zg E λown M D a w X c_ f=>have⟨k1,ab⟩:=n7 f cV;have⟨eF,da⟩:=n7 f H;have ex:=sg (y▸f x);⟨_,?_,.d _ _ (.str _)⟩⟩;rw[G,ab,da,ex];simp[m1,xu,fv ae,H6 (P:=P) w cW Q B (fB _)]
   simp_all
  .rename_i r y;split at h
   .rename_i ac dr;have⟨z,h⟩:=kT h;have⟨cW,Q,B,h⟩:=ED h;refine⟨_,h,zg E λown M D a w X c_ f=>?_⟩;have⟨k1,ab⟩:=n7 f cV;have⟨eF,da⟩:=n7 f H;have cP:=f x;rw[y]at cP;generalize cU:a.eval x=v at cP
    cases cP with
    |d _ _ cP=>
     cases cP with
     |emp ad c=>
      have cX:(q.getD 0).toNat-(g.getD 0).toNat=0:=by simp at B;omega
      refine⟨_,by rw[G,ab,da,cU,uN,EZ cS dr (len:=0) cW Q B (e3 _)];rfl,?_⟩
      simp only[EU]at*
      rw[show((q.getD ((0:V):I)).toNat-(g.getD 0).toNat)=0 from cX]
      have:((([]:J (J c3)).take (q.getD ((0:V):I)).toNat).drop (g.getD 0).toNat)=[]:=dt
      rw[this];exact .d _ _ (.emp _ _)
     |dk _ b off cap cQ val dw c7 d8 C=>
      refine⟨_,by rw[G,ab,da,cU,uN,EZ cS dr cW Q B dw];rfl,?_⟩;have dj:=NK (M:=M) (b:=b) (off:=off) dw c7 d8 C (g.getD 0).toNat (q.getD r.length).toNat R R
      have dc:(if cap=(g.getD 0).toNat then U (⟨b,off,cM⟩:gP) else(U (⟨b,off,cM⟩:gP)).map (·.add ((g.getD 0).toNat*(T ac).size)))=(if cap=(g.getD 0).toNat then U (⟨b,off,cM⟩:gP) else U ⟨b,off+(g.getD 0).toNat*(T ac).size,cM⟩):=by
       split
       .rfl
       .simp[mA]
      by_cases dI:r=[]
      .subst dI
       have cX:(q.getD ((([]:J (J c3)).length:V):I)).toNat-(g.getD 0).toNat=0:=by have:=NI cW Q B;show(q.getD ((0:V):I)).toNat-(g.getD 0).toNat=0;rw[this.1];exact Vq _
       rw[cX]
       have:((([]:J (J c3)).take (q.getD ((([]:J (J c3)).length:V):I)).toNat).drop (g.getD 0).toNat)=[]:=dt
       rw[this];exact .d _ _ (.emp _ _)
      .have⟨e,aa⟩:∃e,r[0]?=U e:=by
        cases r with
        |nil=>exact dQ Z dI
        |cons e r=>exact⟨e,Z⟩
       have:=(c7 0 e aa).symm.trans (z e (jg aa));subst this;rw[dc];exact .d _ _ dj
   simp_all
  .rename_i b y;split at h
   .rename_i r cQ cN A;split at h
    .rename_i ac dr;have⟨z,h⟩:=qF h;have z:=gs z;have⟨cW,Q,B,h⟩:=ED h;refine⟨_,h,Nr E λown M D a w aD X c_ f=>?_⟩;have⟨k1,ab⟩:=n7 f cV;have⟨eF,da⟩:=n7 f H;have⟨ah,s1,al,fh,dG⟩:=freeze X c_ A (gv:=.row r cQ N) (.inl ⟨_,_,_,Z,Z⟩);have cP:=f x;rw[y]at cP;have C:=H8 dG (gE _ _ _) (cP.mono s1);generalize cU:a.eval x=v at cP C
     have W:∃u,(m1 t v (g.map (.int k1)) (q.map (.int eF)) cM).run P w=.ok u w/\dV ah D (.d (.dk ((r.take (q.getD r.length).toNat).drop (g.getD 0).toNat))) u:=by
      cases C with
      |emp ad c=>
       simp only[EU]at*
       have cX:(q.getD ((0:V):I)).toNat-(g.getD 0).toNat=0:=by rw[(NI cW Q B).1];exact Vq _
       refine⟨_,EZ cS dr (len:=0) cW Q B (e3 _),?_⟩;rw[cX]
       have:((([]:J (J c3)).take (q.getD ((0:V):I)).toNat).drop (g.getD 0).toNat)=[]:=dt
       rw[this];exact .d _ _ (.emp _ _)
      |dk _ d7 off cap a1 val dw c7 d8 C=>
       refine⟨_,EZ cS dr cW Q B dw,?_⟩;have dj:=NK (M:=ah) (b:=d7) (off:=off) dw c7 d8 C (g.getD 0).toNat (q.getD r.length).toNat R R
       have dc:(if cap=(g.getD 0).toNat then U (⟨d7,off,cM⟩:gP) else(U (⟨d7,off,cM⟩:gP)).map (·.add ((g.getD 0).toNat*(T ac).size)))=(if cap=(g.getD 0).toNat then U (⟨d7,off,cM⟩:gP) else U ⟨d7,off+(g.getD 0).toNat*(T ac).size,cM⟩):=by
        split
        .rfl
        .simp[mA]
       by_cases dI:r=[]
       .subst dI
        have cX:(q.getD ((([]:J (J c3)).length:V):I)).toNat-(g.getD 0).toNat=0:=by have:=NI cW Q B;show(q.getD ((0:V):I)).toNat-(g.getD 0).toNat=0;rw[this.1];exact Vq _
        rw[cX]
        have:((([]:J (J c3)).take (q.getD ((([]:J (J c3)).length:V):I)).toNat).drop (g.getD 0).toNat)=[]:=dt
        rw[this];exact .d _ _ (.emp _ _)
       .have⟨e,aa⟩:∃e,r[0]?=U e:=by
         cases r with
         |nil=>exact dQ Z dI
         |cons e r=>exact⟨e,Z⟩
        have aE:e.length=cQ:=by
         cases p:D b with
         |none=>rw[(c_.fD b).2 p]at A;cases A
         |some aF=>
          cases aF with
          |none=>
           have⟨a2,a3,av⟩:=c_.iN b p;rw[A]at av;cases av
           exact dQ Z dI
          |some cL=>have⟨_,cs,eQ,_,_,_,_,_,aG,_⟩:=c_.at_ b _ cL A p;exact aG.len 0 e aa
        have:=(c7 0 e aa).symm.trans (aE.trans z);subst this;rw[dc];exact .d _ _ dj
     have⟨u,a4,aH⟩:=W;exact⟨u,w,by simp_all,ah,D,.refl _ _,s1,al,fh,dG,λ_ _=>Z,aH⟩
    simp_all
   simp_all
  .rename_i y;split at h
   .rename_i ac dr;have⟨cW,Q,B,h⟩:=ED h;refine⟨_,h,zg E λown M D a w X c_ f=>?_⟩;have⟨k1,ab⟩:=n7 f cV;have⟨eF,da⟩:=n7 f H;have cP:=f x;rw[y]at cP;generalize cU:a.eval x=v at cP
    cases cP with
    |nil ad=>refine⟨_,by rw[G,cU,ab,da,uN,EZ cS dr (len:=0) (cap:=0) cW Q B (fB _)];rfl,?_⟩;grind
   simp_all
  .rename_i b aI n c y;split at h
   .rename_i r cQ A;split at h
    .rename_i ac dr;have⟨z,h⟩:=qF h;have z:=gs z;have⟨cW,Q,B,h⟩:=Ur h;refine⟨_,h,zg E λown M D a w X c_ f=>?_⟩;have⟨k1,ab⟩:=n7 f cV;have⟨eF,da⟩:=n7 f H;have cP:=f x;rw[y]at cP;generalize cU:a.eval x=v at cP
     cases cP with
     |jj _ _ _ _ _ p=>rw[(c_.fD b).2 p]at A;cases A
     |win _ _ _ _ cL k base p cY dg am an=>
      have⟨_,cs,eQ,_,_,Y,_⟩:=c_.at_ b _ cL A p
      have aJ:c.getD n<=k:=by
       cases c with
       |none=>exact cY
       |some m=>exact xy (dg m Z).symm
      refine⟨_,by rw[G,cU,ab,da,uN,ahj cS dr (len:=n) (cap:=k) cW Q R cY];rfl,?_⟩;rw[<-z,Y];apply Vp (n:=n) p am an R R (fB _);intro x y
      cases c with
      |none=>cases y
      |some m=>rw[dg m Z];simpa[T3]using y
    simp_all
   simp_all
  .rename_i b i j y;split at h
   .rename_i c cN A;split at h
    .rename_i n ac dr;have⟨F,aw⟩:=qF h;clear h;have h:=aw;clear aw;simp only[lB]at F;have aK:=gs F.1;have aL:=gs F.2.1;have aM:=gs F.2.2.1;have cY:=gs F.2.2.2;subst aK aL;split at h
     .rename_i dx aN;have⟨cW,Q,B,h⟩:=ED h;refine⟨_,h,Nr E λown M D a w aD X c_ f=>?_⟩;have⟨k1,ab⟩:=n7 f cV;have⟨eF,da⟩:=n7 f H;have⟨ah,s1,al,fh,dG,eD,aO⟩:=v8 (hh:=O) (gU.cells O c) M O X c_ (.refl O)
      have ax:gj O (f9 O (gU.cells O c)) b=U (.box c cN):=by
       rcases eD b with e|⟨l,cQ,a5,Y,ag⟩
       .simp_all
       .rw[A]at Y;cases Y
      have⟨ao,s2,fb,aP,ay⟩:=freeze al dG ax (gv:=.box c N) (.inr ⟨_,_,Z,Z⟩);have cP:=f x;rw[y]at cP;generalize cU:a.eval x=v at cP
      cases cP with
      |iV _ _ _ _ p=>rw[(c_.fD b).2 p]at A;cases A
      |ptr _ _ _ cL p=>
       have⟨_,cs,eQ,aQ,z,Y,ag,az,aR⟩:=ay.at_ b _ cL (gE _ _ _) p;have⟨g6,a6⟩:=BH aN
       have aS:conv.cells (gj O (f9 O (gU.cells O c))) c=U dx:=by rwa[H7 eD]
       have⟨a7,aA⟩:=BH aS;have aT:=xA (dR:=gU.cells O c) (λb l cQ cN A aa=>aO b l cQ cN (.inl A) aa) eD (.agg c) (λb A=>A)
       have a8:(y9 dx).length=c.length:=by simp[y9,g6]
       have tr:∀(i:V) (e:J c3),(y9 dx)[i]?=U e->∃d,dx[i]?=U d/\e=[d]:=λi e aa=>by
        simp[y9,iO,vH]at aa;obtain⟨d,cP,rfl⟩:=aa;exact⟨d,cP,Z⟩
       have dj:=NK (M:=ao) (r:=y9 dx) (b:=cL.blk) (off:=0) (cap:=c.length) (cQ:=1) (val:=λi _=>(cs[i]?).getD undef) R (λi e aa=>by obtain⟨d,_,rfl⟩:=tr i e aa;rfl)
        (λi j e d aa cP=>by
         obtain⟨ai,ap,rfl⟩:=tr i e aa
         have dL:j=0:=by
          cases j with
          |zero=>rfl
          |succ j=>simp at cP
         subst dL;have⟨x,fY,_⟩:=aA i ai ap;have⟨u,af,_⟩:=az.den i x fY;simp[af,v9];have aU:=(fM.1 fY).1;have:=aR.1 Z i u aU af
         simpa using this)
        (λi j e d aa cP=>by
         obtain⟨ai,ap,rfl⟩:=tr i e aa
         have dL:j=0:=by
          cases j with
          |zero=>rfl
          |succ j=>simp at cP
         subst dL
         have C:ai=d:=by simpa using cP
         subst C;have⟨x,fY,gY,aV⟩:=aA i ai ap;have⟨u,af,a9⟩:=az.den i x fY;simp[af,v9]
         exact(v_ dG gY (aV aT) (by
          have⟨_,a_,a',S,_,_,_,aW,_⟩:=dG.at_ b _ cL ax p;rw[aQ]at S
          cases S
          have⟨pX,aB,aX⟩:=aW.den i x fY;rw[af]at aB;cases aB
          exact aX)).mono s2)
        (g.getD 0).toNat (q.getD c.length).toNat R R
       have⟨ae,aq⟩:=Bx cS dr
       have W:(m1 t (.pointer (U ⟨cL.blk,0*cL.cQ+0,cM⟩)) (g.map (.int k1)) (q.map (.int eF)) cM).run P w=
         .ok (.slice (if c.length=(g.getD 0).toNat then U ⟨cL.blk,0,cM⟩ else U ⟨cL.blk,0+(g.getD 0).toNat*1,cM⟩) ((q.getD c.length).toNat-(g.getD 0).toNat) (c.length-(g.getD 0).toNat)) w:=by
        have aY:=H6 (P:=P) (Ni:=L) (len:=c.length) (cap:=c.length) (k1:=k1) (eF:=eF) w cW Q B (fB _);simp[m1,fv ae,g2,g7,lA,hM,cY,aY,iu cS w aq,aM]
        congr 2
        split
        .simp
        .simp[mA]
       refine⟨_,w,by rw[G,cU,ab,da,uN,W];rfl,ao,D,.refl _ _,s1.trans s2,fb,fh.trans aP,?_,λ_ _=>Z,.d _ _ dj⟩;show er own ao D (gj O (f9 O (gU.cells O c)++[(b,.box c N)])) w;rw[zl];exact ay
     simp_all
    simp_all
   simp_all
  simp_all
 .rename_i m;split at h
  .rename_i b aI n c y;split at h
   .rename_i r cQ A;split at h
    .rename_i ac dr;have⟨z,h⟩:=qF h;have z:=gs z;have⟨⟨c7,ak,d8⟩,h⟩:=kT h;have⟨cW,Q,B,h⟩:=Ur h;refine⟨_,h,zg E λown M D a w X c_ f=>?_⟩;have⟨k1,ab⟩:=n7 f cV;have⟨eF,da⟩:=n7 f H;have⟨aZ,ar⟩:=n7 f aj;have cP:=f x;rw[y]at cP;generalize cU:a.eval x=v at cP
     cases cP with
     |jj _ _ _ _ _ p=>rw[(c_.fD b).2 p]at A;cases A
     |win _ _ _ _ cL k base p cY dg am an=>
      have⟨_,cs,eQ,_,_,Y,_⟩:=c_.at_ b _ cL A p
      have aJ:c.getD n<=k:=by
       cases c with
       |none=>exact cY
       |some m=>exact xy (dg m Z).symm
      refine⟨_,by rw[G,cU,ab,da,ar,jp,ahk cS dr (len:=n) (cap:=k) c7 ak R cW Q B];rfl,?_⟩;rw[<-z,Y];exact Vp (n:=n) p am an R R R (λx y=>by simpa using y)
    simp_all
   simp_all
  .split at h
   .rename_i ac dr;have dg:=(kT h).1;have aC:=(kT h).2;clear h;obtain⟨rfl,rfl,rfl⟩:=dg;have h:=aC;clear aC;have⟨ae,aq⟩:=kC cS dr
    have mk:∀(own:V->Prop) (M:eE) (D:gr) (a:e7) (w:c'),(∀x,dV M D (dC x) (a.eval x))->∀ad n c,n<=c->a.eval x=.slice ad n c->∃v,(execOp a.eval o).run P w=.ok (.value v) w/\dV M D .nil v:=by intro own M D a w f ad n c ba cU;have⟨k1,ab⟩:=n7 f cV;have⟨eF,da⟩:=n7 f H;have⟨aZ,ar⟩:=n7 f aj;refine⟨.slice (if 0=0 then ad else ad.map (·.add (0*(T ac).size))) (0-0) (0-0),?_,.nil _⟩;rw[G,cU,ab,da,ar];simp[m1,xu,fv ae,pT,Instr.sliceBound,asIntOf,iu cS w aq]
    split at h
    .rename_i r y;refine⟨_,h,zg E λown M D a w X c_ f=>?_⟩;have cP:=f x;rw[y]at cP;generalize cU:a.eval x=v at cP
     cases cP with
     |d _ _ cP=>
      cases cP with
      |emp ad c=>simp_all
      |dk _ b off cap cQ val dw c7 d8 C=>simp_all
    .rename_i y;refine⟨_,h,zg E λown M D a w X c_ f=>?_⟩;have cP:=f x;rw[y]at cP;generalize cU:a.eval x=v at cP
     cases cP with
     |nil ad=>simp_all
    simp_all
   simp_all
end
theorem ahm{P cQ v O K}(h:Mz cQ v O K):
  ∃l,K l/\ ∀n,gN cQ (l.take n)=N->∀own M D w u,fq M w->er own M D O w->dV M D v u->
   ∃a c vs,u=.slice a l.length c/\tn P own M w (.slice a (l.take n).length c) (l.take n) cQ vs/\ ∀v∈vs.toList,v.oneCell'=N:=by
 have m:∀(l:J (J c3)) (n i:V) (e:J c3),(l.take n)[i]?=U e->l[i]?=U e:=by
  intro l n i e he;rw[wa]at he;split at he
  .exact he
  .cases he
 unfold Mz at h;split at h
 .rename_i l;refine⟨l,h,λn f own M D w u dq c_ cP=>?_⟩
  cases cP with
  |d _ _ cP=>
   cases cP with
   |emp a c=>exact⟨a,c,#[],Z,by simpa using wb a c,λv cU=>yO⟩
   |dk _ b off cap p val dw c7 d8 x=>
    have t:=λi e he=>(c7 i e (m l n i e he)).symm.trans (ET f i e he).1
    have⟨vs,o⟩:=BN (P:=P) (own:=own) (M:=M) (w:=w) (l:=l.take n) (cQ:=cQ) b off cap val (λi e he=>(ET f i e he).1) (λi j e d he dL=>by
     have:=t i e he;subst this
     exact dq _ _ _ (d8 i j e d (m l n i e he) dL)) (λi j e d he dL=>x i j e d (m l n i e he) dL) (λi j e d he dL=>by
     grind)
    exact⟨_,_,vs,Z,o,o.one f⟩
 .refine⟨[],h,λn f own M D w u dq c_ cP=>?_⟩
  cases cP with
  |nil a=>exact⟨a,0,#[],Z,by simpa using wb a 0,λv cU=>yO⟩
 .rename_i b;split at h
  .rename_i l p cN hb;have⟨c7,c5⟩:=qF h;clear h;have:=gs c7;subst this;refine⟨l,c5,λn f own M D w u dq c_ cP=>?_⟩
   cases cP with
   |own _ cL cap g cY dg=>
    have⟨y,cs,eQ,z,t,H,A,I,r,Q⟩:=c_.at_ b _ cL hb g
    have⟨vs,o⟩:=BN (P:=P) (own:=own) (M:=M) (w:=w) (l:=l.take n) (cQ:=p) cL.blk 0 cap (λi j=>(cs[i*p+j]?).getD undef) (λi e he=>r.len i e (m l n i e he)) (λi j e d he dL=>by
     have⟨v,s,q⟩:=r.den i j e d (m l n i e he) dL
     rw[si z,np,s];rfl) (λi j e d he dL=>by
     have⟨v,s,q⟩:=r.den i j e d (m l n i e he) dL
     simp_all) (λ_ _ _ _ _ _=>.inl y)
    rw[<-A];exact⟨_,_,vs,Z,o,o.one f⟩
   |h7 _ a g=>
    have⟨S,T,e⟩:=c_.iN b g;rw[hb]at e;cases e
    exact⟨a,0,#[],Z,by simpa using wb a 0,λv cU=>yO⟩
   |ji _ _ g=>rw[(c_.fD b).2 g]at hb;cases hb
  simp_all
 .rename_i b dy l6 c;split at h
  .rename_i l p cN hb;have⟨c7,c5⟩:=qF h;clear h;have:=gs c7;subst this;have⟨W,h⟩:=kT c5;refine⟨_,h,λn f own M D w u dq c_ cP=>?_⟩;have B:((l.drop dy).take l6).length=l6:=hd;rw[B]
   have C:((l.drop dy).take l6).take n=(l.drop dy).take (min n l6):=by grind
   rw[C]at f⊢
   cases cP with
   |jj _ _ _ _ _ g=>rw[(c_.fD b).2 g]at hb;cases hb
   |win _ _ _ _ cL k base g cY dg c6 E=>have F:dV M D (.win b dy (min n l6) cM) (.slice (U ⟨cL.blk,base,cM⟩) (min n l6) k):=.win b dy _ cM cL k base g R (λ_ h=>g0) c6 E;have⟨vs,fr,X,ej,s,q⟩:=Is (P:=P) c_ hb F R;have G:((l.drop dy).take (min n l6)).length=min n l6:=hd;rw[G];exact⟨_,_,vs,Z,q,q.one f⟩
  simp_all
 simp_all
theorem Vr{α:Type}(r l:J α)(dy i)(h:dy+l.length<=r.length):(r.take dy++(l++r.drop (dy+l.length)))[i]?=if dy<=i/\i<dy+l.length then l[i-dy]? else r[i]?:=by grind
theorem ahn{α:Type}(r l:J α)(dy)(h:dy+l.length<=r.length):(r.take dy++(l++r.drop (dy+l.length))).length=r.length:=by simp;omega
section
variable {P:el} {T:fL} (cS:jB P T)
theorem NL{own M D O w}(T:fq M w)(c_:er own M D O w){b dy base r l cQ}(hb:O b=U (.row r cQ L)){cL}(p:D b=U (U cL))
  {vs}(t:lz M vs l cQ)(c7:vs.size=l.length*cQ)(q:∀v∈vs.toList,v.oneCell'=N)(k:dy+l.length<=r.length)(s:base=dy*cQ\/l=[]):
  ∃w',(storeCells ⟨cL.blk,base,cM⟩ vs.toList).run P w=.ok () w'/\ (∀es,∀du∈(storeCells ⟨cL.blk,base,cM⟩ vs.toList).events P w es,du∈es\/h0 own M du) /\ ∀G v,dV M D G v->dM own M D O w ⟨G,[(b,.row (r.take dy++(l++r.drop (dy+l.length))) cQ L)],cM⟩ v w':=by
 by_cases B:l=[]
 .subst B;have K:=S9;subst K;refine⟨w,by rfl,λes du z=>.inl (by assumption),λG v cP=>⟨M,D,.refl _ _,.refl M,T,.refl _ _,?_,λ_ _=>Z,cP⟩⟩
  have:eO O b (U (.row (r.take dy++([]++r.drop (dy+([]:J (J c3)).length))) cQ L))=O:=by
   funext x
   by_cases e:x=b
   .subst e;rw[gE,hb];simp
   .rw[gf _ _ e]
  show er own M D (eO O b (U (.row (r.take dy++([]++r.drop (dy+([]:J (J c3)).length))) cQ L))) w;simp_all
 .have s:=s.resolve_right B;subst s;have⟨o,cs,eQ,f,E,Y,ag,ab,aa,ah⟩:=c_.at_ b _ cL hb p;have y:=c_.closed p _ hb Z;have F:vs.toList.length=l.length*cQ:=S9
  have m:dy*cQ+vs.toList.length<=cs.size:=by rw[F,<-qD,E];exact fJ (l4 _ k) ab
  have⟨u,dG,cX,S,ac,dc,W,X⟩:=Ik (P:=P) (own:=own) T o y f vs.toList (dy*cQ) m q;refine⟨w.setRow cL.blk u,dG.1,λes du z=>?_,λG v cP=>⟨M,D,S,.refl M,cX,.refl _ _,?_,λ_ _=>Z,cP⟩⟩
  .rcases Ih (P:=P) cL.blk (dy*cQ) eQ vs.toList 0 cs w es f m q du z with h|⟨Q,eb,dj,I⟩
   .grind
   .refine .inr ?_;unfold h0;rw[dj];exact⟨Q,.inl (I▸o)⟩
  refine c_.set b _ LP (.refl M) (λe=>by rw[p]at e;cases e) (λej c=>?_) λda ej cV c=>⟨X _ λe=>cV (c_.inj da b ej cL c p e),c_.closed c⟩;rw[p]at c;cases c
  have C:=ahn r l dy k
  have n:∀(i:V) (e:J c3),(r.take dy++(l++r.drop (dy+l.length)))[i]?=U e->e.length=cQ:=by
   intro i e g;rw[Vr r l dy i k]at g;split at g
   .exact t.len _ e g
   .exact aa.len _ e g
  refine⟨u,eQ,ac,by rwa[dc],Y,by rwa[C],by rwa[C],⟨n,λi j e d g dr=>?_⟩,rW,λ_=>y⟩
  have A:j<cQ:=by rw[<-n i e g];exact(fM.1 dr).1
  rw[W,F];rw[Vr r l dy i k]at g;split at g
  .rename_i H;have⟨x,ad,ae⟩:=t.den _ j e d g dr
   have af:i*cQ+j=dy*cQ+((i-dy)*cQ+j):=by rw[<-EH,<-qD];congr 2;omega
   have dj:(i-dy)*cQ+j<l.length*cQ:=zp R A;rw[if_pos ⟨R,R⟩];refine⟨x,?_,ae⟩;rw[af,ahg];simpa using ad
  .rename_i H
   have:¬(dy*cQ<=i*cQ+j/\i*cQ+j<dy*cQ+l.length*cQ):=by
    rintro⟨fA,ai⟩
    by_cases a:i<dy
    .have:=zp (cQ:=cQ) a A;omega
    .have I:dy+l.length<=i:=R
     have:=l4 cQ I;rw[qD]at this;omega
   rw[cT this];exact aa.den i j e d g dr
theorem NM{e}{z:dp}(u:pU z.cells.toList (T e).zero=N)(c:(T e).zero.length=(T e).size)(x:0<(T e).size)(n M):lz M (n6 z.cells n) (eL n (T e).zero) (T e).size/\ (n6 z.cells n).size=n*(T e).size/\
  (Bh (T e).size (T e).zero=N->∀v∈(n6 z.cells n).toList,v.oneCell'=N):=by
 have⟨fY,gY⟩:=zn u
 have a:z.cells.size=(T e).size:=by rw[<-c,<-fY];simp
 have g:∀j b,(T e).zero[j]?=U b->∀i,i<n->∃v,(n6 z.cells n)[i*(T e).size+j]?=U v/\ ∀M,e1 M b v:=by
  intro j b d i cK;have f:=(fM.1 d).1;rw[c]at f;have⟨v,dG,m,_⟩:=gY j b d;refine⟨v,?_,m⟩
  have t:i*(T e).size+j<n*z.cells.size:=by rw[a];exact zp cK f
  simp[n6,AW,U5,if_pos t,jp,fx];rw[a,Io,Ip,nq f];have l:j<z.cells.size:=R;rw[getElem!_pos z.cells _ l];have:=yH;rw[yU l]at this;simpa using this
 have s:(n6 z.cells n).size=n*(T e).size:=by simp[n6,a]
 refine⟨⟨λi y q=>?_,λi j y b q d=>?_⟩,s,λo v cU=>?_⟩
 .grind
 .grind
 .obtain⟨k,w,rfl⟩:=kg.1 cU
  have r:k<n*(T e).size:=by rw[<-s];simpa using w
  obtain⟨i,j,rfl,cK,f⟩:=U' r;have cP:(T e).zero[j]?=U ((T e).zero[j]' R):=fe R;have⟨v,dG,m⟩:=g j _ cP i cK
  have:(n6 z.cells n).toList[i*(T e).size+j]=v:=by have h:=dG;rw[<-ER,fe w]at h;simpa using h
  rw[this];simp[Bh,lB,n0]at o;exact U8 (o.2 _ (jg cP)) (m (λ_ _=>cM))
omit cS in
theorem Vs(s w es):(do pure (Next.value (<-s)):Sem Next).events P w es=s.events P w es:=by simp_all
omit cS in
theorem BS{o c x y t t2}(f:o.op=.call c)(e:c.callee=.builtin .append)(dq:c.args.toList=[x,y])(s0:c.argTypes.toList=[t,t2])(a:e7)(w es):
  (execOp a.eval o).events P w es=(h9 #[t,t2] o.type #[a.eval x,a.eval y]).events P w es:=by
 have b:c.args=#[x,y]:=w7;have d:c.argTypes=#[t,t2]:=yF;rw[<-Vs];simp[execOp,f,ii,e,ij,builtin,b,d]
theorem NN{own M D O w}(m:∀c,w.heap.size<=c->own c)(g:fq M w)(c_:er own M D O w){x l r cQ old vs rest eQ cap}
  (Q:lz M old l cQ)(s1:old.size=l.length*cQ)(i:lz M vs r cQ)(s2:vs.size=r.length*cQ)(a:l.length+r.length<=cap)(n:rest.size=(cap-(l.length+r.length))*cQ):
  dM own M D O w ⟨.win x 0 (l.length+r.length) cM,[(x,.row (l++r) cQ L)],U x⟩ (.slice (U ⟨w.heap.size,0,cM⟩) (l.length+r.length) cap) (w.drew.alloc (.cells (old++vs++rest) eQ)):=by
 have b:lz M (old++vs++rest) (l++r) cQ:=by
  refine Nv Q i (λk j=>?_) λk j=>?_
  .grind
  .grind
 have s:(old++vs++rest).size=cap*cQ:=by
  simp[ahe,s1,s2,n,<-qD]
  congr 1;omega
 have f:er own M D O w.drew:=c_.h2 (.refl M) λq ej cL=>⟨Z,c_.closed cL⟩;refine If (w:=w) (cO:=w.drew) m (.refl M) (.refl _ _) g f Z Z Z Z (e:=⟨.win x 0 (l.length+r.length) cM,[(x,.row (l++r) cQ L)],U x⟩) (d:=x) (B:=.row (l++r) cQ L) (cQ:=cQ) (len:=l.length+r.length) Z Z ?_ ?_
 .refine⟨_,eQ,Ie w.drew _,Z,Z,dt,?_,b,rW,λ_ o=>Ic g o⟩;rw[s];simp;grind
 .exact .win x 0 _ cM ⟨w.heap.size,cQ,(old++vs++rest).size,l.length+r.length⟩ cap 0 (gE _ _ _) a (λ_ h=>g0) (by simp_all) (.inl dt)
include cS in
theorem aho{o c x y t t2 e f dC O K}(F:o.op=.call c)(dg:c.callee=.builtin .append)(dq:c.args.toList=[x,y])(s0:c.argTypes.toList=[t,t2])(c6:(T t).k=.slice e)(G:(T t2).k=.slice f)
 {b dy n g}(Q:dC x=.win b dy n (U g)){fS}(S:∀own M D w u,fq M w->er own M D O w->dV M D (dC y) u->∃a c vs,u=.slice a fS.length c/\tn P own M w u fS (T e).size vs/\ ∀v∈vs.toList,v.oneCell'=N)
 (h:HC T e b dy n g fS O o.dst K):∃e,K e/\hv P o dC O e:=by
 have af:c.args=#[x,y]:=w7;have ag:c.argTypes=#[t,t2]:=yF
 have V:∀(a:e7) (w w':c') (v:dp),(h9 #[t,t2] o.type #[a.eval x,a.eval y]).run P w=.ok v w'->(execOp a.eval o).run P w=.ok (.value v) w':=by intro a w w' v dI;simp[execOp,F,ii,dg,ij,builtin,af,ag,dI]
 unfold HC at h;split at h
 .rename_i r cQ hb;have⟨H,h⟩:=qF h;have H:=gs H;subst H
  by_cases ee:n+fS.length<=g
  .have⟨W,h⟩:=kT (h.yes ee);refine⟨_,h,rj λown M D a w X c8 c_ q=>?_⟩;have⟨Y,eT,vs,i,f,aa⟩:=S own M D w _ c8 c_ (q y);have cU:=q x;rw[Q]at cU;generalize ab:a.eval x=v at cU
   cases cU with
   |jj _ _ _ _ _ j=>rw[(c_.fD b).2 j]at hb;cases hb
   |win _ _ _ _ cL k base j cY I ah ac=>
    have:=I g Z;subst this;have⟨_,_,_,_,_,ai,_⟩:=c_.at_ b _ cL hb j
    have⟨w',dG,aj,vD⟩:=NL (P:=P) c8 c_ hb j (dy:=dy+n) (base:=base+n*(T e).size) f.row f.size aa R (by
     rcases ac with h|h
     .exact .inl (by rw[h,ai,qD])
     .right;apply IB
      omega)
    rw[i]at f;refine⟨.slice (U ⟨cL.blk,base,cM⟩) (n+fS.length) k,w',V a w w' _ ?_,λdu p=>?_,vD _ _ ?_⟩
    rotate_left
    .rw[BS F dg dq s0,ab,i]at p;refine ND cS c6 G (E:=h0 own M) ee (f.run w λ_ _=>Z) (λes=>f.rd w es λ_ _=>Z) (λe8 ak es du p=>?_) du p
     cases ak
     rw[mA]at p;exact aj es du p
    rotate_left
    .rw[ab,i]
     exact NC cS c6 G ee (f.run w λ_ _=>Z) (by
      show(storeCells ((⟨cL.blk,base,cM⟩:gP).add (n*(T e).size)) vs.toList).run P w=.ok () w'
      rwa[mA])
    .exact .win b dy _ (U k) cL k base j ee (λm d8=>by cases d8;rfl) ah ac
  .have h:=h.no ee;split at h
   .rename_i d cP;have⟨W,h⟩:=kT h;have⟨am,an,h⟩:=BB h;refine⟨_,h,rj λown M D a w X c8 c_ q=>?_⟩;have⟨Y,eT,vs,i,f,aa⟩:=S own M D w _ c8 c_ (q y);have B:=q x;rw[Q]at B;have⟨old,k,base,cL,s,A⟩:=Is (P:=P) c_ hb B W;have C:((r.drop dy).take n).length=n:=hd
    have al:g=k:=by
     rw[s,C]at B
     cases B with
     |win _ _ _ _ _ _ _ _ _ I _ _=>exact(I g Z).symm
     |jj _ _ _ _ _ j=>rw[(c_.fD b).2 j]at hb;cases hb
    subst al;rw[s]at A;rw[i]at f;have⟨ad,z,dG,vD,J⟩:=NE cS (dm:=o.type) c6 G (w:=w) (base:=U ⟨cL,base,cM⟩) (fZ:=((r.drop dy).take n).length) (ik:=g) (n:=fS.length) (c:=eT) (a:=Y) R (by rwa[C]) R f.run A.run EX f.rd A.rd;have ae:=NN (x:=d) (eQ:=e) (l:=(r.drop dy).take n) (r:=fS) (cQ:=(T e).size) (old:=old) (vs:=vs) (rest:=n6 z.cells (ad-(((r.drop dy).take n).length+fS.length))) (cap:=ad) X c8 c_ A.row A.size f.row f.size dG Dx;rw[C]at J ae;rw[C]at s;exact⟨_,_,V a w _ _ (by rw[s,i];exact J.1),λdu p=>J.2 du (by rwa[BS F dg dq s0,s,i]at p),ae⟩
   .exact h.elim
 simp_all
include cS in
theorem Vt{t t2 e dm Y}(p:(T t).k=.slice e)(G:(T t2).k=.int Y){w base fZ ik k kk old}
  (cW:0<=k)(cY:ik<fZ+k.toNat)(W:0<k.toNat)(o:(fZ+k.toNat)*(T e).bytes<=35184372088832)(C:fZ+k.toNat<=35184372088832)
  (X:∀w',(∀x,(w.cell? x).isSome->w'.cell? x=w.cell? x)->(k_ (T e).size fZ (.slice base fZ ik)).run P w'=.ok old w'){E:hB->Prop}(d:∀m,xE m->E ⟨.mark m,L,N⟩)
  (F:∀w' es,(∀x,(w.cell? x).isSome->w'.cell? x=w.cell? x)->∀du∈(k_ (T e).size fZ (.slice base fZ ik)).events P w' es,du∈es\/E du):
  ∃(n:V) (z:dp),fZ+k.toNat<=n/\z.cells.size=(T e).size/\pU z.cells.toList (T e).zero=N/\ (h9 #[t,t2] dm #[.slice base fZ ik,.int kk k]).run P w=
   .ok (.slice (U ⟨w.heap.size,0,cM⟩) (fZ+k.toNat) n) (w.drew.alloc (.cells (old++n6 z.cells k.toNat++n6 z.cells (n-(fZ+k.toNat))) e)) /\ ∀du∈(h9 #[t,t2] dm #[.slice base fZ ik,.int kk k]).events P w #[],E du:=by
 have⟨O,a⟩:=kC cS p;have y:=vB cS G;have⟨_,K,_,yM,_,J,M,⟨z,LH,A⟩,_,S,dr,_⟩:=(lC cS a).desc
 have cV:z.cells.size=(T e).size:=by have⟨fY,_⟩:=zn A;rw[<-dr,<-fY];simp
 have Q:¬(fZ+k.toNat<=ik):=R;have q:=Vl cY
 have cL:¬(wc (fZ+k.toNat) ik*K.bytes>2^48):=by
  rw[M];have dj:wc (fZ+k.toNat) ik*(T e).bytes<= (2*(fZ+k.toNat)+192)*(T e).bytes:=l4 _ q
  have:(2*(fZ+k.toNat)+192)*(T e).bytes=2*((fZ+k.toNat)*(T e).bytes)+192*(T e).bytes:=by grind
  have c:(2:V)^48=281474976710656:=c1;rw[c];omega
 have dc:k.toNat*(T e).bytes<=35184372088832:=fJ (l4 _ R) o;have H:(k.toNat:I)=k:=R
 have r:sj.wrap k=k:=by simp[kU];have D:sj.signed=N:=Z;have da:sj.bits=64:=Z;rw[D,da];have:=R;simp;omega
 have g:¬k<0:=R
 have l:¬(k*(K.bytes:I)>2^48):=by rw[M,<-H];have:((k.toNat*(T e).bytes:V):I) <=35184372088832:=R;rw[Int.natCast_mul]at this;omega
 have i:=R;have cP:∀x,(w.cell? x).isSome->w.drew.cell? x=w.cell? x:=λx _=>Z;refine⟨fZ+k.toNat+w.tape w.drawn (.appendCap (fZ+k.toNat) ik e)%(2^63-(fZ+k.toNat)),z,R,cV,A,?_⟩;have u:=X w.drew cP;have B:(zeroValue e).run P w.drew=.ok z w.drew:=LG
 have f:¬(k.toNat*(T e).size=0):=by have:=pV cS a;intro h;rcases U7.1 h with h|h<;>omega
 have s:=λh=>f (U7.2 h);have c:(2:I)^48=281474976710656:=c1;have b:¬((281474976710656:I)<k*(K.bytes:I)):=λh=>l (by rwa[c]);have j:¬((9223372036854775807:I)<(fZ:I)+max k 0):=R;have cX:=R;refine⟨by simp[h9,fv O,fv y,iu cS,a,asInt,asIntOf,r,g,b,j,Q,typeInfo,yM,i,cL,un,Iz,u,B,newRow,s,f],λdu v=>?_⟩;simp[h9,fv O,fv y,iu cS,a,asInt,asIntOf,r,g,b,j,Q,typeInfo,yM,i,cL,un,Iz,u,B,newRow,s,f,ed.zeroValue e P]at v;refine(F w.drew _ cP du v).elim (λh=>?_) id;rcases BP _ _ _ du h with h|⟨m,rfl,dj⟩
 .simp at h
 .exact d m dj
include cS in
theorem ahp{o c x y t t2 e J p q dC O K}(I:o.op=.call c)(X:c.callee=.builtin .append)(dq:c.args.toList=[x,y])(s0:c.argTypes.toList=[t,t2])(Y:(T t).k=.slice e)(cX:(T t2).k=.int J)
  {b dy n m}(Q:dC x=.win b dy n (U m))(V:dC y=.d (.int p q))
  (h:MA T e b dy n m q O o.dst K):∃e,K e/\hv P o dC O e:=by
 have dr:c.args=#[x,y]:=w7;have aa:c.argTypes=#[t,t2]:=yF
 have da:∀(a:e7) (w w':c') (v:dp),(h9 #[t,t2] o.type #[a.eval x,a.eval y]).run P w=.ok v w'->(execOp a.eval o).run P w=.ok (.value v) w':=by intro a w w' v dI;simp[execOp,I,ii,X,ij,builtin,dr,aa,dI]
 have⟨ad,E⟩:=kC cS Y;unfold MA at h;split at h
 .rename_i r cQ cV;have⟨s,h⟩:=qF h;have s:=gs s;subst s;have⟨⟨cW,ae,S⟩,h⟩:=kT h;split at h
  .rename_i d cP;have⟨af,ag,h⟩:=BB h;refine⟨_,h,rj λown M D a w F c8 c_ G=>?_⟩;have W:=kr (V▸G y);have g:=G x;rw[Q]at g;have⟨old,k,base,cL,u,A⟩:=Is (P:=P) c_ cV g S;have f:((r.drop dy).take n).length=n:=hd
   have ab:m=k/\n<=k:=by
    rw[u,f]at g
    cases g with|win _ _ _ _ _ _ _ _ cY dj _ _=>exact⟨(dj m Z).symm,cY⟩|jj _ _ _ _ _ ac=>rw[(c_.fD b).2 ac]at cV;cases cV
   obtain⟨rfl,ah⟩:=ab;rw[u]at A;have⟨C,z,dG,vD,dc,H⟩:=Vt cS (dm:=o.type) Y cX (w:=w) (base:=U ⟨cL,base,cM⟩) (fZ:=((r.drop dy).take n).length) (ik:=m) (k:=q) (kk:=p) cW R R (by rwa[f]) R A.run EX A.rd;have⟨fY,gY,_⟩:=NM dc (EA cS E) (pV cS E) q.toNat M
   have i:(eL q.toNat (T e).zero).length=q.toNat:=uO ..
   have j:=NN (x:=d) (eQ:=e) (l:=(r.drop dy).take n) (r:=eL q.toNat (T e).zero) (cQ:=(T e).size) (old:=old) (vs:=n6 z.cells q.toNat) (rest:=n6 z.cells (C-(((r.drop dy).take n).length+q.toNat))) (cap:=C) F c8 c_ A.row A.size fY (by rwa[i]) (by rwa[i]) Dx;rw[f]at H j;rw[i]at j;rw[f]at u;exact⟨_,_,da a w _ _ (by rw[u,W];exact H.1),λdu B=>H.2 du (by rwa[BS I X dq s0,u,W]at B),j⟩
  simp_all
 simp_all
include cS in
theorem ahq{o c x y t t2 e dc da q dC O K}(p:o.op=.call c)(cL:c.callee=.builtin .append)(dq:c.args.toList=[x,y])(s0:c.argTypes.toList=[t,t2])(dj:(T t).k=.slice e)(G:(T t2).k=.int dc)
  (S:dC x=.nil)(I:dC y=.d (.int da q))(h:MB T e q o.dst K):∃e,K e/\hv P o dC O e:=by
 have E:c.args=#[x,y]:=w7;have H:c.argTypes=#[t,t2]:=yF
 have F:∀(a:e7) (w w':c') (v:dp),(h9 #[t,t2] o.type #[a.eval x,a.eval y]).run P w=.ok v w'->(execOp a.eval o).run P w=.ok (.value v) w':=by intro a w w' v cX;simp[execOp,p,ii,cL,ij,builtin,E,H,cX]
 have⟨W,s⟩:=kC cS dj;unfold MB at h;have⟨cW,h⟩:=kT h;split at h
 .rename_i d cP;have⟨X,Y,h⟩:=BB h;refine⟨_,h,rj λown M D a w u c8 c_ B=>?_⟩;have cV:=kr (I▸B y);have f:=B x;rw[S]at f;generalize A:a.eval x=v at f
  cases f with
  |nil base=>
   obtain⟨n,z,dG,vD,dr,C⟩:=Vt cS (dm:=o.type) dj G (w:=w) (base:=base) (fZ:=0) (ik:=0) (k:=q) (kk:=da) (old:=#[]) R R R (by simp_all) R (λw' _=>by cases base<;>simp[k_,loadCells,loadCellsFrom]) EX (λw' es _ du b=>.inl (by cases base<;>simpa[k_,loadCells,loadCellsFrom]using b));obtain⟨fY,gY,_⟩:=NM dr (EA cS s) (pV cS s) q.toNat M
   have g:(eL q.toNat (T e).zero).length=q.toNat:=uO ..
   have m:=NN (x:=d) (eQ:=e) (l:=[]) (r:=eL q.toNat (T e).zero) (cQ:=(T e).size) (old:=#[]) (vs:=n6 z.cells q.toNat) (rest:=n6 z.cells (n-(0+q.toNat))) (cap:=n) u c8 c_ ⟨λi x h=>ql,λi j x d h=>ql⟩ dt fY (by rwa[g]) (by rwa[g]) Dx;rw[g]at m;simp at m C;exact⟨_,_,F a w _ _ (by rw[cV,A];exact C.1),λdu b=>C.2 du (by rwa[BS p cL dq s0,cV,A]at b),m⟩
 simp_all
end
open Go.Conc
def fk(P:el)(main:dh)(g:dN):dN:=match stepG P main g default with
 | .go g' _ _=>g'
 |_=>g
inductive jN(P:el)(main:dh):dN->dN->Prop
 |nil (g:dN):jN P main g g
 |cons (g g':dN) (c7:g.status=.running) (h:∀w,stepG P main g w=.go (fk P main g) w #[]) (k:jN P main (fk P main g) g'):jN P main g g'
def zd(P:el)(main:dh):V->dN->dN
 |0,g=>g
 |n+1,g=>zd P main n (fk P main g)
def MY(P:el)(main:dh)(n:V):dN->c'->J GStep:=
 HZ (motive:=λ_=>dN->c'->J GStep) (λ_ _=>[]) (λ_ a g w=>stepG P main g w::a (fk P main g) w) n
def MZ(P:el)(main:dh)(n:V):dN->c'->J GStep:=
 HZ (motive:=λ_=>dN->c'->J GStep) (λ_ _=>[]) (λ_ a g w=>.go (fk P main g) w #[]::a (fk P main g) w) n
def M0(P:el)(main:dh)(n:V):dN->J M1:=
 HZ (motive:=λ_=>dN->J M1) (λ_=>[]) (λ_ a g=>g.status::a (fk P main g)) n
def M2(n:V):J M1:=HZ (motive:=λ_=>J M1) [] (λ_ a=>.running::a) n
theorem jN.Ew{P main}:∀(n) {g},(∀w,MY P main n g w=MZ P main n g w)->M0 P main n g=M2 n->jN P main g (zd P main n g)
 |0,g,_,_=>.nil g|n+1,g,Q,h=>.cons g _ (M3 h).1 (λw=>(M3 (Q w)).1) (jN.Ew n (λw=>(M3 (Q w)).2) (M3 h).2)
theorem qB{P:el}{main:dh}{g g':dN}(n:V)(cW:zd P main n g=g':=by kernel_rfl)(Q:∀w,MY P main n g w=MZ P main n g w:=by intro w;kernel_rfl)(h:M0 P main n g=M2 n:=by kernel_rfl):jN P main g g':=
 cW▸jN.Ew n Q h
section
variable {P:el} {main:dh} {cX:c'->c'->Prop} {c3:c'->c'->ea hB->Prop} {dv:dN->c'->Prop}
theorem dO.ng{g w}(s:g.status=.running)(h:∀c0,cX w c0->∃g' w' es,stepG P main g c0=.go g' w' es/\c3 c0 w' es/\dO P main cX c3 dv g' w'):dO P main cX c3 dv g w:=by
 refine .step s (A4 P main g) (λc0 a=>?_) (λc0 a=>?_)
 .have⟨g',w',es,e,d,_⟩:=h c0 a;simp[A4,e];simp_all
 .have⟨g',w',es,e,_,k⟩:=h c0 a;simp[A4,e];exact k
theorem dO.pure(f:∀a b c,cX a b->cX b c->cX a c)(e:∀w,c3 w w #[]){g g' w}(h:jN P main g g')(k:dO P main cX c3 dv g' w):dO P main cX c3 dv g w:=by
 induction h with
 |nil g=>exact k|cons g g' s h _ i=>exact .step s (λw=>(fk P main g,w,#[])) (λc0 d=>⟨h c0,e c0⟩) λc0 d=>(i k).rely f d
theorem QuitsD.pure{d n g g'}(h:jN P L g g')(k:QuitsD P n d g'):∃m,QuitsD P m d g:=by
 induction h with
 |nil g=>grind|cons g g' s h _ i=>have⟨m,a⟩:=i k;exact⟨m+1,QuitsD.ctl s h a⟩
end
def i6(g:dN):ea gC:=match g.frame.todo with
 | .inRegion ops _::_=>ops
 |_=>#[]
def k8(g:dN):V:=match g.frame.todo with
 | .inRegion _ (i::_)::_=>i
 |_=>0
def k9(g:dN):J V:=match g.frame.todo with
 | .inRegion _ (_::r)::_=>r
 |_=>[]
def eA(g:dN):e7:=⟨g.frame.tmps,g.frame.defers⟩
def e5(g:dN):gC:=(i6 g)[k8 g]?.getD default
def put(g:dN)(v:dp):dN:=G (g.frame.at ((eA g).put (e5 g).dst v) (.inRegion (i6 g) (k9 g)::g.frame.todo.tail)) g.callers
structure it(g:dN):Prop where
 eq:g=G (g.frame.at (eA g) (.inRegion (i6 g) (k8 g::k9 g)::g.frame.todo.tail)) g.callers
 op:(i6 g)[k8 g]?=U (e5 g)
 wanted:jf (e5 g) (yielded (i6 g) (eA g).tmps)=N
 kind:(g.frame.kind==ze)=L
theorem kA {g:dN} (Q:g=G (g.frame.at (eA g) (.inRegion (i6 g) (k8 g::k9 g)::g.frame.todo.tail)) g.callers:=by kernel_rfl) (h:(i6 g)[k8 g]?=U (e5 g):=by kernel_rfl)
  (a:jf (e5 g) (yielded (i6 g) (eA g).tmps)=N:=by kernel_rfl) (b:(g.frame.kind==ze)=L:=by kernel_rfl):it g:=⟨Q,h,a,b⟩
section
variable {P:el} {main:dh} {cX:c'->c'->Prop} {c3:c'->c'->ea hB->Prop} {dv:dN->c'->Prop} {g:dN} {w:c'}
theorem it.run(h:it g):g.status=.running:=by rw[h.eq];rfl
theorem it.ne(h:it g):g.frame.kind≠.early:=by have:=h.kind;simp_all
theorem it.value(h:it g){v w'}(r:(execOp (eA g).eval (e5 g)).run P w=.ok (.value v) w'):stepG P main g w=.go (put g v) w' (listed P g.frame.fn (eA g) (e5 g) w):=by
 conv=>lhs;rw[h.eq]
 exact stepG_value h.op h.wanted h.ne r
theorem dO.val (h:it g) (dI:∀ c0,cX w c0->∃ v w',(execOp (eA g).eval (e5 g)).run P c0=.ok (.value v) w'/\c3 c0 w' (listed P g.frame.fn (eA g) (e5 g) c0) /\dO P main cX c3 dv (put g v) w'):dO P main cX c3 dv g w:=
 dO.ng h.run fun c0 h₁=>SH
theorem M4{a:e7}{o t x eb v}(b:o.op=.load t x)(c:a.eval x=.pointer (U eb))(d:∀w,(isAgg t).run P w=.ok L w)(dg:w.cell? eb=U v):
  (execOp a.eval o).run P w=.ok (.value v) w/\ ∀e∈(execOp a.eval o).events P w #[],e=⟨.cell eb,L,L⟩:=by
 have dI:(execOp a.eval o).run P w=.ok (.value v) w:=by unfold execOp;simp[b,c,sc,lA,loadVar,g2,hM,g7,d];simp[go_sem,dg]
 have he:(execOp a.eval o).events P w #[]=(load eb).events P w #[]:=by unfold execOp;simp[b,c,sc,lA,loadVar];simp[go_sem,d,ed.isAgg t P w]
 simp_all
theorem dO.load(h:it g){t x eb v}(o:(e5 g).op=.load t x)(j:(eA g).eval x=.pointer (U eb))(i:∀w,(isAgg t).run P w=.ok L w)(d:∀c0,cX w c0->c0.cell? eb=U v)
  (c:∀c0 es,cX w c0->(∀e∈es,e=⟨.cell eb,L,L⟩)->c3 c0 c0 es)(k:∀c0,cX w c0->dO P main cX c3 dv (put g v) c0):dO P main cX c3 dv g w:=
 dO.val h λc0 a=>by
  have⟨Q,b⟩:=M4 o j i (d c0 a);exact⟨v,c0,Q,c c0 _ a λe f=>b e (mem_listed f),k c0 a⟩
def th(g:dN)(t:V)(v:dp):dN:={g with frame:={g.frame with tmps:=g.frame.tmps.set! t v}}
inductive uG(P:el)(ops:ea gC):V->ea dh->e7->e7->Prop
 |done (n:V) (l:ea dh) (a:e7) (h:ms .any ops l=[]):uG P ops n l a a
 |take (n i:V) (o:gC) (v:dp) (l:ea dh) (a d9:e7) (cK:ops[i]?=U o) (ee:Region.free .any ops l i=N) (dI:(ms .any ops l).contains i=N)
   (hw:jf o (yielded ops a.tmps)=N) (cU:∀w,(execOp a.eval o).run P w=.ok (.value v) w/\ (execOp a.eval o).events P w #[]=#[]) (k:uG P ops n (l.setIfInBounds i N) (a.put o.dst v) d9):uG P ops (n+1) l a d9
theorem uG.any(T:Terms cX c3)(g:∀w,cX w w){fn ops n l a d9 c w}(c7:M6 ops=N)(h:uG P ops n l a d9)(hw:cX c w):
  AnyCH P cX c3 fn .any ops (λe b x=>e=.normal/\b=d9/\cX c x) (cX c) n l a w:=by
 induction h generalizing w with
 |done n l a h=>exact anyCH_done h ⟨Z,Z,hw⟩ n|take n i o v l a d9 cK ee dI d cU k f=>refine anyCH_take T (λx y h k=>T.trans _ _ _ h k) (λb x y h k=>⟨h.1,h.2.1,T.trans _ _ _ h.2.2 k⟩) cK c7 ee dI (.inl ⟨d,λx j=>⟨(cU x).1,?_⟩⟩) hw (f hw);rw[listed_nil (cU x).2];exact T.idle x
def H0(g:dN):V:=match g.frame.todo with
 | .code (.region id _ _)::_=>id
 |_=>0
def jO(g:dN):ea gC:=match g.frame.todo with
 | .code (.region _ ops _)::_=>ops
 |_=>#[]
theorem dO.draw (T:Terms cX c3) (c:l0 cX) (cP:LetsDraw c3) (m:P.follows .mixedOrders=N) {d9} (d:g=G (g.frame.at (eA g) (.code (.region (H0 g) (jO g) N)::g.frame.todo.tail)) g.callers)
  (c6:(g.frame.kind==ze)=L) (s:M6 (jO g)=N) {n} (cY:(jO g).size=n) (f:uG P (jO g) n (kx n L) (eA g) d9)
  (k:∀ w',cX w w'->dO P main cX c3 dv (G (g.frame.at d9 g.frame.todo.tail) g.callers) w'):dO P main cX c3 dv g w:=by
 have y:(Code.region (H0 g) (jO g) N).wpC P main cX c3 g.frame.fn ((jO g).size+1+1) (fun e b x=>e=.normal/\b=d9/\cX w x) (eA g) w:=
  wpC_region_held T cP m fun c0 a=>(cY.symm▸f:uG P (jO g) (jO g).size (kx (jO g).size L) (eA g) d9).any T c.refl s (T.trans _ _ _ a (c.draw c0 _))
 rw [d]
 have:=y g.frame g.frame.todo.tail g.callers (fun g' w'=>g'=G (g.frame.at d9 g.frame.todo.tail) g.callers/\cX w w') 0 Z uc fun e b x h=>by
  obtain ⟨rfl,rfl,h⟩:=h
  exact .stop fun c0 a=>⟨Z,T.trans _ _ _ h a⟩
 exact (dO.r3 this).bind c.refl fun g' w' h=>by grind
end
section
variable {P:el} {main:dh} {F:V->Prop} {dv:dN->c'->Prop}
theorem iA.Uj {g} {w} (h:dO P main (eX F) (i3 F) dv g w):iA P main F dv g w:=by
 induction h with
 |stop h=>exact .stop h|step c7 fk h _ a=>exact .step c7 fk h a
theorem dO.M8{g w}(h:iA P main F dv g w):dO P main (eX F) (i3 F) dv g w:=by
 induction h with
 |stop h=>exact .stop h|step c7 fk h _ a=>exact .step c7 fk h a
theorem oJ(w):i3 F w w #[]:=.idle F w
theorem ti:Terms (eX F) (i3 F):=⟨λ_ _ _ h k=>h.trans k,oJ⟩
theorem agc:LetsDraw (i3 F):=λw=>⟨⟨Z,Z,Z,fB _,λ_ _=>Z⟩,dt⟩
theorem Uk {f} {fn} {c} {args} {w} {dM} (d:P.funcs[f]?=U fn) (cY:(fn.name== "runtime.NumGoroutine")=L) (b:fn.body=U c)
  (h:∀ (cs) (dv),(∀ (d9) (todo) (w'),d9.defers=[]->(∃ v,ul P F fn d9.tmps v w'/\dM v w')->dO P main (eX F) (i3 F) dv (G {(base f).at d9 todo with mode:=.returning} cs) w')->
   dO P main (eX F) (i3 F) dv (G ((base f).at {tmps:=args++kx (fn.ntmps-args.size) undef,defers:=[]} [.code c]) cs) w):gT P main F f args w dM:=
 ⟨fn,c,d,cY,b,fun cs dv a=>.Uj (h cs dv fun d9 todo w' cP cU=>.M8 (a .ret d9 w' ⟨cP,cU⟩ todo))⟩
theorem agd{fn tmps v w}(h:∀w,(results fn tmps).run P w=.ok v w/\ (results fn tmps).events P w #[]=#[]):ul P F fn tmps v w:=
 λc0 _=>⟨(h c0).1,by simp_all⟩
theorem dO.H1 {g} {w} (h:it g) {f} {dD} {ats} {vs} {dM} (H:(e5 g).op=.call {callee:=.value (.func f),args:=dD,argTypes:=ats})
  (cU:dD.map (eA g).eval=vs) (B:gT P main F f vs w dM) (E:∀ v w',dM v w'->dO P main (eX F) (i3 F) dv (put g v) w'):dO P main (eX F) (i3 F) dv g w:=by
 have⟨fn,c,t,m,o,z⟩:=B
 have A:∀ c0,(execOp (eA g).eval (e5 g)).run P c0=.ok (.enter f vs) c0/\ (execOp (eA g).eval (e5 g)).events P c0 #[]=#[]:=fun c0=>by
  have u:(eA g).eval (.func f)=.func (.func f) #[] #[]:=rfl
  have dr:fn.body.isSome=N:=by rw [o];rfl
  subst cU
  have e:execOp (eA g).eval (e5 g)=callFunc f (dD.map (eA g).eval):=by simp [execOp,H,ii,u,sd,ij]
  rw [e]
  have x:fn.name≠ "runtime.NumGoroutine":=by simpa using m
  simp [callFunc,t,x,o]
 have p:∀ v,(g.frame.at (eA g) (.inRegion (i6 g) (k8 g::k9 g)::g.frame.todo.tail)).finish v=g.frame.at ((eA g).put (e5 g).dst v) (.inRegion (i6 g) (k9 g)::g.frame.todo.tail):=fun v=>by
  rw [Frame.finish_at,h.op];rfl
 refine dO.ng h.run fun c0 s=>?_
 have y:stepG P main g c0=.go (G (Frame.enter P f vs .normal) (g.frame.at (eA g) (.inRegion (i6 g) (k8 g::k9 g)::g.frame.todo.tail)::g.callers)) c0 (listed P g.frame.fn (eA g) (e5 g) c0):=by
  conv=>lhs;rw [h.eq]
  exact Hp h.op h.wanted h.ne (A c0).1
 refine ⟨_,c0,_,y,?_,?_⟩
 .unfold listed;rw [(A c0).2,Bu];exact oJ c0
 .rw [D4 _ t o];refine (dO.M8 (z (g.frame.at (eA g) (.inRegion (i6 g) (k8 g::k9 g)::g.frame.todo.tail)::g.callers) dv fun e d9 a q=>?_)).rely (fun _ _ _ h k=>h.trans k) s
  have d:∀ (d9:e7) (a:c') (todo:J Item),(d9.defers=[] /\ ∃ v,ul P F fn d9.tmps v a/\dM v a)->
    iA P main F dv (G {(base f).at d9 todo with mode:=.returning} (g.frame.at (eA g) (.inRegion (i6 g) (k8 g::k9 g)::g.frame.todo.tail)::g.callers)) a:=by
   rintro d9 a todo ⟨cP,v,r,n⟩
   refine iA.ng Z fun j i=>?_
   rw [D3 (b:=base f) Z cP t (r j i).1,p];exact ⟨⟨.refl _ _,fun e C=>(r j i).2 e (mem_seen C)⟩,.Uj ((E v a n).rely (fun _ _ _ h k=>h.trans k) i)⟩
  cases e with|normal=>exact nh Z (fun _=>stepG_end) (d d9 a [] q)|ret=>exact fun todo=>d d9 a todo q|exit id=>exact q.elim|goto l=>exact q.elim|panic cV=>exact q.elim|outgrown=>exact q.elim
