/- What is proved here: what functions of the program compute, and what follows; no condition beyond each theorem's own. -/
import Derived.Conc.AppendEvents3
import Derived.Conc.AppendWalk
import Derived.Conc.CrowdSel
import Derived.Conc.CrowdSpec
import Derived.Conc.FxGenLone
import Derived.Conc.WgLib
import Derived.Great.BuildSlice
import Derived.KernelRfl
import Derived.Laws.CopyRow
import Derived.Laws.MakeOwn
import Derived.Test.YtfnijfdfhgpimaaGreatDoorGa
set_option linter.all false
noncomputable section
set_option maxHeartbeats 0
open Array renaming append_assoc->UU,ext'->U2,forIn_toList->aiO,getD->mJ,getElem?_range->V3,range->NU,replicate->kM,size_append->aiz
open Bool renaming false->L,true->N
open Exists renaming imp->agR
open Go renaming Act->e8,Addr->g3,Event->hJ,GoStatus->N0,Goroutine->dP,IntKind->pT,Oper->gL,Operand->fw,Program->en,TypeId->eF,Value->dr,World->da,binOp->jA,invoke->iq,partners->BL,resolve->ip
open Go.Addr renaming add->o0
open Go.Builtin renaming append_->ie,firstCells->lx,growBy->Jl,lenOf->p7,nextslicecap->wK,zeroCells->oo
open Go.CallKind renaming early->zP
open Go.Conc renaming Neutral->x8,crowd_waits->U1,finishComm_parked->agO,finishPartner_at->agN,getElem?_stand->UT,offersAt_of_not_blocked->agS,runT_crowd_comm->agM,served->xM,ways_recv_none->agZ,woken->H9
open Go.ConcN renaming AsideCell->ER,AtD1->H8,AtK1->Uu,AtR0->M4,PayAt->M8
open Go.ConcN.RelBy renaming new->agh
open Go.ConcR renaming Payload->BG,WgAt->gF,again_blocked->agi,mk->agf
open Go.Deferred renaming ofValue->sH
open Go.Instr renaming alloc->ah6,build->zN,buildSlice->IG,fill->Vg,loadAt->sG,makeFunc->aiD,slice->xZ,sliceAt->nf,sliceBounds->p2,sureAddr->lU
open Go.IntKind renaming i64->sN,wrap->la
open Go.MemAct renaming ofEvent->mD,touch?->lo
open Go.MemOp renaming ofEvents->g5
open Go.Op renaming equalIn->oh,intArith->aiP,intDiv->Oc,stringOp->Vs,unary->FV
open Go.Question renaming cut->Jm,forced->uN
open Go.Region renaming noSelect->N4,ready->mF,wanted->js
open Go.Sem renaming run->Ie
open Go.World renaming block_lt_of_cell?->ahZ,cell?->ke,setChan->EY
open List renaming forIn_cons->aiM,length->pt,replicate->eQ
open List.cons renaming inj->Fs
open Nat renaming add_sub_cancel_left->aiB,beq->d3,ble->hn,mul_add_mod->Jc,mul_comm->Jb,mul_eq_zero->V5,rec->IK,strongRecOn->to,zero_sub->Ws
open Option renaming none->cL,some->U
open Prod.mk renaming injEq->Jn
open _root_ renaming Array->d',Bool->di,False->dA,Fin->eP,Int->J,List->I,Nat->V,Option->dB,absurd->dN,rfl->Z,trivial->dM
namespace Go.Lk
def uM:=@Array.getD_eq_getD_getElem?
def FK:=@Array.getElem?_toList
def Cv:=@Conc.events_askRoom
def B_:=@Conc.seen_none
def Cw:=@Proofs.Tryz.underlying4
def kT:=@Result.evThen_ok
def Jd:=@events_load
def I8:=@events_store
def I7:=@run_store
def Cs:=@List.drop_drop
def qT:=@List.drop_eq_getElem_cons
def FT:=@List.eq_nil_of_length_eq_zero
def Cq:=@List.ext_getElem?
def Ii:=@List.getElem?_drop
def Ja:=@List.getElem?_range
def tI:=@List.getElem?_replicate
def u_:=@List.getElem?_take
def hF:=@List.getElem_mem
def wJ:=@List.length_nil
def Cz:=@List.length_pos_iff
def p8:=@List.length_replicate
def kr:=@List.mem_iff_getElem
def p6:=@List.mem_singleton
def Cu:=@Nat.add_zero
def nH:=@Nat.mod_eq_of_lt
def FL:=@Nat.one_mul
def eY:=@Nat.zero_le
def vb:=@Option.map_none
def eL:=@congrArg
open Go.RowKit
def hM{α:Type}(P:en)(s:Sem α):Prop:=∀(w:da) (es:d' hJ),s.events P w es=es
section
variable {α xY:Type} {P:en}
theorem ed.at{s:Sem α}(h:ed s):hM P s:=h P
theorem hM.bind{s}{f:α->Sem xY}(h:hM P s)(k:∀w a w',s.run P w=.ok a w'->hM P (f a)):hM P (s>>=f):=λw es=>by
 rw[jz,h w es]
 cases dQ:s.run P w with|ok a w'=>exact k w a w' dQ w' es|halt x w'=>rfl
theorem hM.Wx{c f}(h:∀(a) (b:c),hM P (f a b)):∀(l:I α) (b),hM P (forIn l b f)
 | [],b=>T6
 |a::l,b=>by
  rw[aiM];refine .bind (h a b) λ_ s _ _=>?_
  cases s with|done b=>exact ed.at (.pure _)|yield b=>exact hM.Wx h l b
theorem hM.aiN{c f}(h:∀(a) (b:c),hM P (f a b))(l:d' α)(b):hM P (forIn l b f):=by rw[<-aiO];exact .Wx h _ _
end
def Wy:dr->Prop
 | .pointer _=>dA
 | .agg cs=>∀c∈cs,∀p,c≠.pointer p
 |_=>True
section
variable {P:en} {T:fM} (cT:jL P T)
include cT
omit cT in
theorem FU{t u}(b:P.underlying t=U u)(a:(∃k,u=.int k) \/u=.string\/u=.bool)(d){x y}(c:Wy x)(e:Wy y):hM P (oh (d+1) t x y):=by
 unfold oh;refine .bind (ed.at (.underlying _)) λw v w' h=>?_;rw[fx b]at h
 cases h
 rcases a with⟨k,rfl⟩|rfl|rfl
 all_goals
  split
  all_goals first
   |exact ed.at (.pure _)
   |exact ed.at (.stuck _)
   |exact ed.at (.ite (.pure _) (.stuck _))
   |exact c.elim
   |exact e.elim
   |(exfalso;rename_i c9;first|(cases c9;done)|simp at c9)
   |skip
omit cT in
theorem hM.Wz{α c:Type}{f}:∀(l:I α) (b:c),(∀a∈l,∀b,hM P (f a b))->hM P (forIn l b f)
 | [],b,_=>T6
 |a::l,b,h=>by
  rw[aiM];refine .bind (h a (mK ..) b) λ_ s _ _=>?_
  cases s with|done b=>exact ed.at (.pure _)|yield b=>exact hM.Wz l b λa dt=>h a (lX _ dt)
omit cT in
theorem hM.ite{α c}[Decidable c]{x y:Sem α}(h:c->hM P x)(k:¬c->hM P y):hM P (if c then x else y):=by grind
include cT in
theorem WA:∀ (n) (t) (x y) (K),oW T n t x y K->
  ∀ (M) (D) (vs us),vs.size=x.length->us.size=y.length->(∀ (i:V) (a) (v),x[i]?=U a->vs[i]?=U v->dZ M D a v)->
   (∀ (i:V) (a) (v),y[i]?=U a->us[i]?=U v->dZ M D a v)->∀ (d),n<=d->
   hM P (oh (d+1) t (if (T t).k.agg then .agg vs else vs.getD 0 undef) (if (T t).k.agg then .agg us else us.getD 0 undef))
 |0,t,x,y,K,h=>by simp [oW] at h
 |n+1,t,x,y,K,h=>by
  simp only [oW] at h
  split at h
  ·rename_i k c_;have j:=v4 cT c_
   split at h
   ·rename_i k1 a
    split at h
    ·rename_i eK b;intro M D vs us dv c cP l d _;have s:=kH (cP 0 _ (vs.getD 0 undef) Z (by simp [mJ,dv]));have u:=kH (l 0 _ (us.getD 0 undef) Z (by simp [mJ,c]));simp only [c_,n_.agg,rG,qF];rw [s,u];exact FU j (.inl ⟨_,Z⟩) d dM dM
    ·exact h.elim
   ·exact h.elim
  ·rename_i c_;have j:=wC cT c_
   split at h
   ·rename_i a
    split at h
    ·rename_i b;intro M D vs us dv c cP l d _;have s:=sI (cP 0 _ (vs.getD 0 undef) Z (by simp [mJ,dv]));have u:=sI (l 0 _ (us.getD 0 undef) Z (by simp [mJ,c]));simp only [c_,n_.agg,rG,qF];rw [s,u];exact FU j (.inr (.inl Z)) d dM dM
    ·exact h.elim
   ·exact h.elim
  ·rename_i c_;have j:=x0 cT c_
   split at h
   ·rename_i a
    split at h
    ·rename_i b;obtain ⟨p,h,O⟩:=u7 h;obtain ⟨q,h,C⟩:=u7 h;intro M D vs us dv c cP l d _;have s:=O M D _ (cP 0 _ (vs.getD 0 undef) Z (by simp [mJ,dv]));have u:=C M D _ (l 0 _ (us.getD 0 undef) Z (by simp [mJ,c]));simp only [c_,n_.agg,rG,qF];rw [s,u];exact FU j (.inr (.inr Z)) d dM dM
    ·exact h.elim
   ·exact h.elim
  ·rename_i iA c_;obtain ⟨F,j,E,aa,ab⟩:=Cc cT c_;intro M D vs us dv c cP l d ac
   have A:∀ (G:I Field) (K:di->Prop),oW.fields T (fun t x y K=>oW T n t x y K) (G.map fun f=>(f.offset,f.type)) x y K->
     ∀ f∈G,(T f.type).k.known=N/\f.offset+(T f.type).size<=x.length/\f.offset+(T f.type).size<=y.length/\
      hM P (oh d f.type (if (T f.type).k.agg then .agg (vs.extract f.offset (f.offset+(T f.type).size)) else (vs.extract f.offset (f.offset+(T f.type).size)).getD 0 undef)
       (if (T f.type).k.agg then .agg (us.extract f.offset (f.offset+(T f.type).size)) else (us.extract f.offset (f.offset+(T f.type).size)).getD 0 undef)):=by
    intro G
    induction G with
    |nil=>intro K h f ee;cases ee
    |cons g G H=>
     intro K h f ee;simp only [kS,oW.fields] at h
     cases hb:(hn (g.offset+(T g.type).size) x.length&&hn (g.offset+(T g.type).size) y.length) with
     |false=>simp [hb] at h
     |true=>
      simp only [hb,fF] at h;simp only [lV,Nat.ble_eq] at hb;obtain ⟨z,b,c5,ad⟩:=IS cT n _ _ _ _ h
      rcases nG.1 ee with rfl|ee
      ·obtain ⟨s1,d1⟩:=IR dv cP f.offset (T f.type).size hb.1;obtain ⟨s2,J⟩:=IR c l f.offset (T f.type).size hb.2;obtain ⟨d,rfl⟩:∃ e,d=e+1:=⟨d-1,by omega⟩;exact ⟨z,hb.1,hb.2,WA n _ _ _ _ h M D _ _ s1 s2 d1 J d (by omega)⟩
      ·exact H _ c5 f ee
   have A:=A F.toList K (by rw [E];exact h);simp only [c_,n_.agg,nz];unfold oh
   refine .bind (ed.at (.underlying _)) fun w v w' dQ=>?_
   rw [fx j] at dQ
   cases dQ
   simp only
   refine .bind (ed.at .program) fun _ p _ _=>?_
   refine .ite (fun _=>?_) (fun _=>?_)
   ·exact .bind (ed.at (.unsupported _)) fun w a w' dQ=>by cases dQ
   ·refine .bind ?_ fun _ r _ _=>?_
    ·rw [<-aiO]
     refine hM.Wz _ _ fun f ee b=>?_
     obtain ⟨z,R,S,W⟩:=A f ee
     have B:∀ (w:da) (o:d' dr) (m:V),o.size=m->f.offset+(T f.type).size<=m->
       (part f.type o f.offset).run P w=.ok (if (T f.type).k.agg then .agg (o.extract f.offset (f.offset+(T f.type).size)) else (o.extract f.offset (f.offset+(T f.type).size)).getD 0 undef) w:=by
      intro w o m ae af;simp only [part,hc,Cd cT w z,hj]
      cases X:(T f.type).k.agg with
      |true=>simp [iE cT w z]
      |false=>
       have:=x1 cT z X;simp only [rG,qF]
       have Y:f.offset<o.size:=by omega
       simp [zt Y,this,mJ,show min (f.offset+1) o.size-f.offset=1 by omega]
     refine .ite (fun _=>?_) (fun _=>ed.at (.pure _))
     refine .bind (ed.at (.part _ _ _)) fun w ag fv Q=>?_
     rw [B w vs _ dv R] at Q
     cases Q
     refine .bind (ed.at (.part _ _ _)) fun w ah p9 c5=>?_
     rw [B w us _ c S] at c5
     cases c5
     exact .bind W fun _ r _ _=>ed.at (.ite (.pure _) (.pure _))
    ·split<;>exact ed.at (.pure _)
  ·exact h.elim
end
theorem WB(o k a b):ed (aiP o k a b):=by unfold aiP;split<;>first|exact .pure _|exact .stuck _
theorem aiQ(o k a b):ed (Oc o k a b):=by
 unfold Oc;split
 .exact .runtimePanic _
 .split<;>first|exact .pure _|exact .stuck _
theorem WC(o k a b):ed (Op.intBits o k a b):=by unfold Op.intBits;dsimp only;split<;>first|exact .pure _|exact .stuck _
theorem aiR(o a b):ed (Op.intCmp o a b):=by unfold Op.intCmp;split<;>first|exact .pure _|exact .stuck _
theorem aiS(o k fo a b):ed (Op.shift o k a fo b):=by
 unfold Op.shift;split
 .exact .runtimePanic _
 .dsimp only;split<;>first|exact .pure _|exact .stuck _
theorem aiT(o a b):ed (Vs o a b):=by
 unfold Vs;dsimp only
 split
 .exact .ite (.unsupported _) (.pure _)
 all_goals first|exact .pure _|exact .stuck _
theorem aiU(o t k fo a b):ed (jA o t (.int k a) (.int fo b)):=by
 cases o<;>simp only[jA]<;>first
  |exact aiS _ _ _ _ _
  |exact .ite (.stuck _) (WB _ _ _ _)
  |exact .ite (.stuck _) (aiQ _ _ _ _)
  |exact .ite (.stuck _) (WC _ _ _ _)
  |exact .ite (.stuck _) (aiR _ _ _)
theorem aiV(o t a b):ed (jA o t (.string a) (.string b)):=by cases o<;>(unfold jA;exact aiT _ _ _)
theorem z2(o t X Y a b)(h:a≠.nilIface)(d:∀c,a≠.agg c):ed (eqGuard o t X Y a b):=by
 unfold eqGuard;refine .ite (.pure _) ?_;split
 .simp_all
 .simp_all
 .exact .pure _
theorem Jp(o x):ed (FV o x):=by
 unfold FV
 split<;>first|exact .pure _|exact WB _ _ _ _|exact WC _ _ _ _|exact .unsupported _|exact .stuck _
section
variable {P:en} {T:fM} (cT:jL P T)
theorem hM.bind'{α xY s}{f:α->Sem xY}(h:hM P s)(k:∀a,hM P (f a)):hM P (s>>=f):=h.bind λ_ a _ _=>k a
theorem ON{t}(u:P.underlying t=U .bool)(o)(c:o=.eql\/o=.neq)(X Y a b):hM P (do eqGuard o t X Y (.bool a) (.bool b);jA o t (.bool a) (.bool b):Sem dr):=by
 refine .bind' (ed.at (z2 _ _ _ _ _ _ dw dw)) λ_=>?_;rcases c with rfl|rfl
 .exact .bind' (FU u (.inr (.inr Z)) 9999 dM dM) λ_=>ed.at (.pure _)
 .exact .bind' (FU u (.inr (.inr Z)) 9999 dM dM) λ_=>ed.at (.pure _)
theorem aiW{t}(g:P.eqGuardType P.depth t=L)(o X Y vs u):hM P (eqGuard o t X Y (.agg vs) (.agg u)):=by
 unfold eqGuard;refine .ite (λ_=>ed.at (.pure _)) λ_=>.bind (ed.at .program) λw p w' h=>?_
 cases h
 refine .bind (ed.at .program) λw p w' h=>?_
 cases h
 simp[g,Bool.not_false,nz];exact ed.at (.pure _)
include cT in
theorem aiX{t op x y K}(h:E9 T t op x y K):∀M D v u,dZ M D x v->dZ M D y u->∀X Y,hM P (do eqGuard op t X Y v u;jA op t v u:Sem dr):=by
 have i:∀ {a b:di} {K:dp->Prop},BV op a b K->op=.eql\/op=.neq:=λh=>by
  have⟨r,m,dQ⟩:=IQ h;grind
 unfold E9 at h;split at h
 .rename_i k a;split at h
  .rename_i fo b;intro M D v u cY d X Y;rw[kH cY,kH d];exact .bind' (ed.at (z2 _ _ _ _ _ _ dw dw)) λ_=>ed.at (aiU _ _ _ _ _ _)
  simp_all
 .rename_i a;split at h
  .rename_i b;intro M D v u cY d X Y;rw[sI cY,sI d];exact .bind' (ed.at (z2 _ _ _ _ _ _ dw dw)) λ_=>ed.at (aiV _ _ _ _)
  simp_all
 .rename_i a;split at h
  .rename_i f;have⟨b,h,g⟩:=u7 h;intro M D v u cY d X Y;rw[og cY,g M D u d];exact ON (x0 cT f) op (i h) X Y _ _
  simp_all
 .split at h
  .rename_i f;have⟨b,h,g⟩:=u7 h;intro M D v u cY d X Y
   cases cY with|eN=>rw[g M D u d];exact ON (x0 cT f) op (i h) X Y _ _
  simp_all
 .split at h
  .rename_i f;have⟨b,h,g⟩:=u7 h;intro M D v u cY d X Y
   cases cY with|fd=>rw[g M D u d];exact ON (x0 cT f) op (i h) X Y _ _
  simp_all
 .rename_i c;split at h
  .rename_i oU
   have fin:∀(j:di->Prop),(bif (T t).k.agg then oW T 9999 t c oU j else dA)->∀(M:eI) (D:gD) (v u:dr),dZ M D (.agg c) v->dZ M D (.agg oU) u->∀(X Y:fw),
     hM P (eqGuard op t X Y v u) /\ ∃vs us,v=.agg vs/\u=.agg us/\hM P (Op.equal t (.agg vs) (.agg us)):=by
    intro j h
    have l:(T t).k.agg=N:=by
     cases e:(T t).k.agg with|true=>rfl|false=>simp_all
    simp[l,fF]at h;have⟨c_,b,m,cP⟩:=IS cT _ _ _ _ _ h;intro M D v u cY d X Y;obtain⟨vs,rfl,s1,d1⟩:=x2 cY;obtain⟨us,rfl,s2,n⟩:=x2 d;have:=WA cT _ _ _ _ _ h M D vs us s1 s2 d1 n 9999 (fi _);simp[l,nz]at this;have⟨_,_,_,_,_,_,_,_,_,_,_,_,e,_⟩:=(lW cT c_).desc;exact⟨aiW e op X Y vs us,vs,us,Z,Z,this⟩
   split at h
   .intro M D v u cY d X Y;obtain⟨e,vs,us,rfl,rfl,he⟩:=fin _ h M D v u cY d X Y;exact .bind' e λ_=>.bind' he λ_=>ed.at (.pure _)
   .intro M D v u cY d X Y;obtain⟨e,vs,us,rfl,rfl,he⟩:=fin _ h M D v u cY d X Y;exact .bind' e λ_=>.bind' he λ_=>ed.at (.pure _)
   simp_all
  simp_all
 simp_all
end
open Go.Proofs
abbrev e2:Go.Conc.Lib.WgLink:={add:=17,done:=19,wait:=16,relMerge:=36,disable:=26,enable:=28,inBubble:=34,associate:=37,fatal:=38,uOr:=39,uAdd:=40,raceRead:=41,uLoad:=27,uStore:=42,disassociate:=32,semrelease:=43,acquire:=29,isAssociated:=30,uCas:=31,raceWrite:=33,semacquire:=35,orU64:=60,addU64:=61,loadU64:=58,storeU64:=62,casU64:=59,tWgP:=74,tUP:=78,tAssoc:=84,tWg:=64,tAU:=61,tU64:=59,tUint:=76,tU32:=62,tPU32:=82,tPAU:=105,tPU64:=107,tNoCopy:=56,tANoCopy:=57,tAlign64:=58}
def kq:Go.Conc.Lib.WgLib Tryz.prog e2:=
 ⟨Tryz.func17,Tryz.func19,Tryz.func16,Tryz.func36,Tryz.func26,Tryz.func28,Tryz.func34,Tryz.func37,Tryz.func38,Tryz.func39,Tryz.func40,Tryz.func41,Tryz.func27,Tryz.func42,Tryz.func32,Tryz.func43,Tryz.func29,Tryz.func30,Tryz.func31,Tryz.func33,Tryz.func35,Tryz.func60,Tryz.func61,Tryz.func58,Tryz.func62,Tryz.func59,Tryz.underlying74,Tryz.runUnderlying74,Tryz.sizeOf74,Tryz.isAgg74,Tryz.zeroValue74,Tryz.underlying78,Tryz.runUnderlying78,Tryz.sizeOf78,Tryz.isAgg78,Tryz.zeroValue78,Tryz.underlying84,Tryz.runUnderlying84,Tryz.sizeOf84,Tryz.isAgg84,Tryz.zeroValue84,Tryz.underlying64,Tryz.runUnderlying64,Tryz.sizeOf64,Tryz.isAgg64,Tryz.zeroValue64,Tryz.underlying61,Tryz.runUnderlying61,Tryz.sizeOf61,Tryz.isAgg61,Tryz.zeroValue61,Tryz.underlying59,Tryz.runUnderlying59,Tryz.sizeOf59,Tryz.isAgg59,Tryz.zeroValue59,Tryz.underlying76,Tryz.runUnderlying76,Tryz.sizeOf76,Tryz.isAgg76,Tryz.zeroValue76,Tryz.underlying62,Tryz.runUnderlying62,Tryz.sizeOf62,Tryz.isAgg62,Tryz.zeroValue62,Tryz.underlying82,Tryz.runUnderlying82,Tryz.sizeOf82,Tryz.isAgg82,Tryz.zeroValue82,Tryz.underlying105,Tryz.runUnderlying105,Tryz.sizeOf105,Tryz.isAgg105,Tryz.zeroValue105,Tryz.underlying107,Tryz.runUnderlying107,Tryz.sizeOf107,Tryz.isAgg107,Tryz.zeroValue107,Tryz.underlying0,Tryz.runUnderlying0,Tryz.sizeOf0,Tryz.isAgg0,Tryz.zeroValue0,Tryz.underlying3,Tryz.runUnderlying3,Tryz.sizeOf3,Tryz.isAgg3,Tryz.zeroValue3,Cw,Tryz.runUnderlying4,Tryz.sizeOf4,Tryz.isAgg4,Tryz.zeroValue4,Tryz.underlying9,Tryz.runUnderlying9,Tryz.sizeOf9,Tryz.isAgg9,Tryz.zeroValue9,Tryz.underlying20,Tryz.runUnderlying20,Tryz.sizeOf20,Tryz.isAgg20,Tryz.zeroValue20,Tryz.underlying21,Tryz.runUnderlying21,Tryz.sizeOf21,Tryz.isAgg21,Tryz.zeroValue21,cV,cV⟩
section
open Go.Conc
open Go.ConcN (sumTo upd sumTo_upd upd_ne upd_same RelBy WgLive AsideCell RW)
open Go.ConcR (KK wgBlock WgAt stA smA rd wr mk DC0 Payload)
section
variable [BG]
variable {P:en} {dn:eF} {Wg c C:V} {c4 Rd:V->Prop} {v:dr} {cU:da->da->Prop} {eP:dP->da->Prop} {dO:dr->da->Prop}
def H7(c4:V->Prop)(Wg:V)(Rd:V->Prop)(C:V)(w w':da)(es:d' hJ):Prop:=ER C 1 0 w w'/\ ∀e∈es,mC (wa c4 Wg Rd) e
inductive nw(P:en)(dn:eF)(Wg C c:V)(c4 Rd:V->Prop)(v:dr)(eU:V)(T:Trace):dP->da->Prop
 |r0 {b w}:dR P L (RW dn Wg C 1 0 0) (H7 c4 Wg Rd C) (M4 P dn Wg C 1 0 1 v) b w->hr c4 Wg Rd c eU 0 T->nw P dn Wg C c c4 Rd v eU T b w
 |k1 {b w}:dR P L (RW dn Wg C 1 0 0) DC0 (Uu P dn Wg C 1 0 1) b w->hR c4 Wg Rd c eU 0 T->nw P dn Wg C c c4 Rd v eU T b w
 |d1 {b w}:dR P L (RW dn Wg C 1 0 0) DC0 (H8 P dn Wg C 1 0 1) b w->hR c4 Wg Rd c eU 1 T->nw P dn Wg C c c4 Rd v eU T b w
theorem lQ:me (RW dn Wg C 1 0 0):=⟨λw=>⟨λ_ h=>dN h R,id,id,Z⟩,λa b c h k=>⟨λ_ h=>dN h R,λx=>k.live (h.live x),λx=>k.pay (h.pay x),k.cell.trans h.cell⟩,λw d=>⟨λ_ h=>dN h R,id,id,Z⟩⟩
theorem hR.Uv{eU T}(h:hR c4 Wg Rd c eU 0 T)(b:c≠0)(fn pos):hR c4 Wg Rd c eU 1 (T++g5 c fn pos #[agf .disable]):=by
 have m:∀e∈#[agf .disable],Event.mute e=N:=λe a=>by simp at a;subst a;rfl
 have:=h.h6.Uo b fn pos m;exact⟨by assumption,h.rel.imp λr d=>MZ d _ _ _ m⟩
theorem hR.still{eU d1 T}(h:hR c4 Wg Rd c eU d1 T)(g fn pos):hR c4 Wg Rd c eU d1 (T++g5 g fn pos #[]):=by assumption
theorem sy{M T c1 w w' sl g g' es}(b:c≠0)(s:stepT P M=runT P (crowd c1 w sl) c)(cW:c1[c]?=U g)(o:stepG P L g w=.go g' w' es)
  (k:fa P dO (crowd ((c1.map (woken P g g' w')).setIfInBounds c g') w' sl) (T++g5 c g.frame.fn g.frame.place es)):fa P dO M T:=by
 have a:(c==0)=L:=hy;exact fa.step (s.trans (wh (P:=P) (sl:=sl) (i:=c) cW (by grind))) k
theorem ko{c1:d' dP}{g}(cW:c1[c]?=U g):c<c1.size:=(kL.1 cW).1
theorem ES{c3 dy}{eX:da->Prop}{eU}(dj:c≠0)(o:me cU)(gJ:∀g w,dy g w->g.status=.running)
  (y:∀w d,eX w->eX (w.at d))(l:∀es w w',eX w->c3 w w' es->(∀e∈es,mC (n8 c4 Wg Rd) e) /\eX w'/\RW dn Wg C 1 0 0 w w')(hC:∀w w',eX w->ER C 1 0 w w'->cU w w'/\eX w')
  (p:∀M T a b c1 w sl q,stepT P M=runT P (crowd c1 w sl) 0->c1[0]?=U a->c1[c]?=U b->e5 P c c1 T q->eX w->dy a w->nw P dn Wg C c c4 Rd v eU T b w->fa P dO M T)
  (G:∀M T a b c1 w sl q,stepT P M=runT P (crowd c1 w sl) c->c1[0]?=U a->c1[c]?=U b->e5 P c c1 T q->eX w->dR P N cU c3 dy a w->hR c4 Wg Rd c eU 1 T->H8 P dn Wg C 1 0 1 b w->fa P dO M T)
  {a b w}(h:dR P N cU c3 dy a w)(c1 sl T q)(hb:nw P dn Wg C c c4 Rd v eU T b w)(cW:c1[0]?=U a)(f:c1[c]?=U b)(j:e5 P c c1 T q)(hw:eX w):fa P dO (crowd c1 w sl) T:=by
 have r:=BD dj;have z:∀d1,wc c (hR c4 Wg Rd c eU d1) eX:=λd1=>⟨λT i fn pos es h cW cK d6=>h.xH cW cK fn pos d6,y⟩;have A:∀d1,tn 0 (hR c4 Wg Rd c eU d1) eX c3:=λd1 T fn pos es w w' h hw cP=>⟨h.m9 dj fn pos (l es w w' hw cP).1,(l es w w' hw cP).2.1⟩
 have B:∀d1,tn c (hR c4 Wg Rd c eU d1) eX DC0:=λd1 T fn pos es w w' h hw cP=>by
  obtain⟨rfl,rfl⟩:=cP;exact⟨h.still c fn pos,hw⟩
 have D:∀w w' es,eX w->DC0 w w' es->cU w w':=λw w' es _ cP=>by obtain⟨rfl,_⟩:=cP;exact o.refl _
 have E:∀ {a b:dP} {w:da},dR P N cU c3 dy a w->∀c1 sl T q,dR P L (RW dn Wg C 1 0 0) DC0 (H8 P dn Wg C 1 0 1) b w->hR c4 Wg Rd c eU 1 T->c1[0]?=U a->c1[c]?=U b->e5 P c c1 T q->eX w->fa P dO (crowd c1 w sl) T:=
  λh c1 sl T q hb cT cW f j hw=>EK r (z 1) o lQ (A 1) (B 1) D (λw w' es hw cP=>(l es w w' hw cP).2.2) gJ (λ_ _ h=>h.1)
   (λM T a b c1 w sl q k cW f j cT hw c' hb=>p M T a b c1 w sl q k cW f j hw c' (.d1 hb cT))
   (λM T a b c1 w sl q k cW f j cT hw c' hb=>G M T a b c1 w sl q k cW f j hw c' cT hb) h c1 sl T q hb cW f j cT hw
 have F:∀ {a b:dP} {w:da},dR P N cU c3 dy a w->∀c1 sl T q,dR P L (RW dn Wg C 1 0 0) DC0 (Uu P dn Wg C 1 0 1) b w->hR c4 Wg Rd c eU 0 T->c1[0]?=U a->c1[c]?=U b->e5 P c c1 T q->eX w->fa P dO (crowd c1 w sl) T:=
  λh c1 sl T q hb cT cW f j hw=>EK r (z 0) o lQ (A 0) (B 0) D (λw w' es hw cP=>(l es w w' hw cP).2.2) gJ (λ_ _ h=>h.1)
   (λM T a b c1 w sl q k cW f j cT hw c' hb=>p M T a b c1 w sl q k cW f j hw c' (.k1 hb cT))
   (λM T a b c1 w sl q k cW f j cT hw dt hb=>by
    have⟨_,d7,s,m,t⟩:=hb;have u:=dt.running gJ o.refl;refine sy dj k f s (E dt _ _ _ q (dR.sw t) ?_ (nv dj cW (woken_run u)) (i4 (ko f)) (j.own (.inr Z) (ko f) _ _ _) hw)
    exact cT.Uv dj _ _) h c1 sl T q hb cW f j cT hw
 cases hb with
 |d1 hb cT=>exact E h c1 sl T q hb cT cW f j hw
 |k1 hb cT=>exact F h c1 sl T q hb cT cW f j hw
 |r0 hb cT=>
  refine EK (cM:=hr c4 Wg Rd c eU 0) r ⟨λT i fn pos es h cW cK d6=>h.xH cW cK fn pos d6,y⟩ o lQ
   (λT fn pos es w w' h hw cP=>⟨h.m9 dj fn pos (l es w w' hw cP).1,(l es w w' hw cP).2.1⟩)
   (λT fn pos es w w' h hw cP=>⟨h.zc dj fn pos cP.2,(hC w w' hw cP.1).2⟩) (λw w' es hw cP=>(hC w w' hw cP.1).1) (λw w' es hw cP=>(l es w w' hw cP).2.2) gJ (λ_ _ h=>h.1)
   (λM T a b c1 w sl q k cW f j cT hw c' hb=>p M T a b c1 w sl q k cW f j hw c' (.r0 hb cT))
   (λM T a b c1 w sl q k cW f j cT hw dt hb=>?_) h c1 sl T q hb cW f j cT hw
  have⟨_,_,d7,s,m,t⟩:=hb;have u:=dt.running gJ o.refl;refine sy dj k f s (F dt _ _ _ q (dR.sw t) ⟨cT.H1 dj lN (λop n x H=>?_) (λop n a=>?_) ?_,_,agh cT.rs _ _⟩ (nv dj cW (woken_run u)) (i4 (ko f)) (j.own (.inr Z) (ko f) _ _ _) hw)
  .rw[EQ]at n;simp at n;subst n;simp[mk,mD,lo]at H
  .rw[EQ]at n;simp at n;subst n;simp[mk,mD]
  .rw[uJ,cT.rs];rfl
variable (P dn Wg cU eP) in
def mg(g:dP)(w:da):Prop:=
 dR P N cU (hS Wg) (xI P dn Wg cU eP) g w\/ ∃a,g={a with status:=.blocked} /\a.offers=cL/\a.status=.running/\ ∀c2,cU w c2->xI P dn Wg cU eP a c2
theorem mg.rely(c:me cU){g w c2}(h:mg P dn Wg cU eP g w)(hw:cU w c2):mg P dn Wg cU eP g c2:=
 h.imp (λh=>h.rely c.trans hw) (λ⟨d,e,Q,f,i⟩=>⟨d,e,Q,f,λb a=>i b (c.trans _ _ _ hw a)⟩)
theorem mg.awake (a:me cU) {g:dP} {w:da} (h:mg P dn Wg cU eP g w):awake g:=by
 rcases h with h|⟨b,e,_⟩
 ·exact rv (.inl (h.running (fun _ _ x=>x.1) a.refl))
 ·exact rv (.inr (.inl (by rw [e])))
theorem mg.woken (b:me cU) {g x iK:dP} {w w':da} (h:mg P dn Wg cU eP g w):mg P dn Wg cU eP (woken P x iK w' g) w:=by
 rcases h with h|⟨c,e,Q,c5,a⟩
 ·rw [woken_run (h.running (fun _ _ x=>x.1) b.refl)];exact .inl h
 ·unfold H9
  split
  ·rw [e,agi c5 Q];exact .inl (.stop a)
  ·exact .inr ⟨c,e,Q,c5,a⟩
theorem wi{c1:d' dP}{k j}(h:k≠j){x iK y w'}(a:c1[j]?=U y):((c1.map (woken P x iK w')).setIfInBounds k iK)[j]?=U (woken P x iK w' y):=by simp_all
theorem BH{cM eX jW rx qE}(dj:c≠0)(A:wc c cM eX)(m:me cU)(u:me jW)(Q:tn 0 cM eX (hS Wg))(S:∀T,cM T->∀fn pos,cM (T++g5 0 fn pos #[]))(W:tn c cM eX rx)
  (X:∀w w' es,eX w->rx w w' es->cU w w')(Y:∀w,eX w->∃st,gF dn Wg w st 0)(aa:∀g w,qE g w->g.status=.running)
  (ab:∀M T a b c1 w sl q,stepT P M=runT P (crowd c1 w sl) c->c1[0]?=U a->c1[c]?=U b->e5 P c c1 T q->cM T->eX w->mg P dn Wg cU eP a w->qE b w->fa P dO M T)
  {b w}(h:dR P L jW rx qE b w):
  ∀c1 sl T q a,mg P dn Wg cU eP a w->c1[0]?=U a->c1[c]?=U b->e5 P c c1 T q->cM T->eX w->fa P dO (crowd c1 w sl) T:=by
 have ap:=BD dj
 have core:∀(b:dP) (p:da),b.status=.running->
   (∀(c2:da) (a:dP) (c1:d' dP) (sl:dB (V×V)) (M:Machine) (T:Trace) (q:V->V),jW p c2->stepT P M=runT P (crowd c1 c2 sl) c->mg P dn Wg cU eP a c2->c1[0]?=U a->c1[c]?=U b->e5 P c c1 T q->cM T->eX c2->fa P dO M T)->
   ∀(n:V) (c1:d' dP) (w:da) (sl:dB (V×V)) (T:Trace) (q:V->V) (a:dP),sumTo c1.size q<=n->jW p w->mg P dn Wg cU eP a w->c1[0]?=U a->c1[c]?=U b->e5 P c c1 T q->cM T->eX w->fa P dO (crowd c1 w sl) T:=by
  intro b p s E n
  induction n using to with
  |_ n ac=>
   have F:∀(c1:d' dP) (w:da) (sl t:dB (V×V)) (T:Trace) (q:V->V) (a:dP) (i:V) (x:dP) (d:V),sumTo c1.size q<=n->jW p w->mg P dn Wg cU eP a w->c1[0]?=U a->c1[c]?=U b->e5 P c c1 T q->cM T->eX w->
     i≠0->c1[i]?=U x->x.status=.running->stepT P (crowd c1 w sl)=runT P (crowd c1 (w.at d) t) i->fa P dO (crowd c1 w sl) T:=by
    intro c1 w sl t T q a i x d c0 r dt cW f j cT l y cK v o;have z:=(kL.1 cK).1;have J:=u.trans _ _ _ r (u.draw w d);have K:=dt.rely m (m.draw w d)
    by_cases D:i=c
    .subst D;exact E _ a c1 t _ _ q J o K cW f j cT (A.draw _ _ l)
    .have⟨k,g',es,ad,d6,ae,af⟩:=j.H4 R D cK v;have ag:(i==0)=L:=hy;have ah:=wh (P:=P) (sl:=t) (i:=i) cK (by rw[ag];exact ae (w.at d));refine fa.step (o.trans ah) (ac (sumTo c1.size (upd q i k)) ?_ _ _ _ _ (upd q i k) _ ?_ J (K.woken m) (wi y cW) (nv D f (woken_run s)) (j.slip z _ _ af) (A.mute _ _ _ _ _ cT y D d6) (A.draw _ _ l))
     .have:=H2 z ad;omega
     .simp
   have blk:∀(c1:d' dP) (w:da) (sl:dB (V×V)) (T:Trace) (q:V->V) (a:dP),sumTo c1.size q<=n->jW p w->mg P dn Wg cU eP a w->a.status=.blocked->c1[0]?=U a->c1[c]?=U b->e5 P c c1 T q->cM T->eX w->fa P dO (crowd c1 w sl) T:=by intro c1 w sl T q a c0 r dt ai cW f j cT l;have⟨i,x,d,t,cK,v,o⟩:=EJ (P:=P) (w:=w) (sl:=sl) (j.BC cW (dt.awake m) λh=>⟨b,f,rv (.inl s)⟩) ⟨c,b,f,s⟩;refine F c1 w sl t T q a i x d c0 r dt cW f j cT l (λe=>?_) cK v o;subst e;rw[cW]at cK;obtain rfl:=pV cK;rw[ai]at v;cases v
   have aj:∀(a:dP) (B:da),dR P N cU (hS Wg) (xI P dn Wg cU eP) a B->∀(c1:d' dP) (w:da) (sl:dB (V×V)) (T:Trace) (q:V->V),cU B w->sumTo c1.size q<=n->jW p w->c1[0]?=U a->c1[c]?=U b->e5 P c c1 T q->cM T->eX w->fa P dO (crowd c1 w sl) T:=by
    intro a B dt
    induction dt with
    | @stop g B h=>
     intro c1 w sl T q hw c0 r cW f j cT l;have C:=(h w hw).1;have⟨i,x,d,t,cK,v,o⟩:=EJ (P:=P) (w:=w) (sl:=sl) (j.BC cW (rv (.inl C)) λh=>⟨b,f,rv (.inl s)⟩) ⟨c,b,f,s⟩
     by_cases y:i=0
     .subst y;obtain rfl:x=g:=T5;have⟨_,ak,al,_⟩:=h _ (m.trans _ _ _ hw (m.draw w d));have G:=al (Y _ (A.draw _ _ l));have z:=iy cW;refine oR o cW G (blk _ _ _ _ q _ (by simpa using c0) (u.trans _ _ _ r (u.draw w d)) (.inr ⟨x,Z,ak,C,λc2 h₁=>h c2 (m.trans _ _ _ (m.trans _ _ _ hw (m.draw w d)) h₁)⟩) Z (i4 z) (nv R f (woken_run s)) (j.own (.inl Z) z _ _ _) (S _ cT _ _) (A.draw _ _ l))
     .exact F c1 w sl t T q g i x d c0 r (.inl (.stop λc2 h₁=>h c2 (m.trans _ _ _ hw h₁))) cW f j cT l y cK v o
    | @step g B C fr h k am=>
     intro c1 w sl T q hw c0 r cW f j cT l;have⟨i,x,d,t,cK,v,o⟩:=EJ (P:=P) (w:=w) (sl:=sl) (j.BC cW (rv (.inl C)) λh=>⟨b,f,rv (.inl s)⟩) ⟨c,b,f,s⟩
     by_cases y:i=0
     .subst y;obtain rfl:x=g:=T5;have O:=m.trans _ _ _ hw (m.draw w d);have⟨G,cP⟩:=h _ O;have z:=iy cW;have⟨H,I⟩:=Q T x.frame.fn x.frame.place _ _ _ cT (A.draw _ _ l) cP;refine oR o cW G (am _ O _ _ _ _ q (m.refl _) (by simpa using c0) ?_ (i4 z) (nv R f (woken_run s)) (j.own (.inl Z) z _ _ _) H I);rw[cP.1];exact u.trans _ _ _ r (u.draw w d)
     .exact F c1 w sl t T q g i x d c0 r (.inl (.step C fr (λc2 h₁=>h c2 (m.trans _ _ _ hw h₁)) (λc2 h₁=>k c2 (m.trans _ _ _ hw h₁)))) cW f j cT l y cK v o
   intro c1 w sl T q a c0 r dt cW f j cT l;rcases id dt with an|⟨aq,e,_⟩
   .exact aj a w an c1 w sl T q (m.refl _) c0 r cW f j cT l
   .exact blk c1 w sl T q a c0 r dt Bx cW f j cT l
 induction h with
 | @stop b p hb=>exact λc1 sl T q a dt cW f j cT l=>core b p (aa _ _ (hb p (u.refl _))) (λc2 a c1 sl M T q hw o dt cW f j cT l=>ab M T a b c1 c2 sl q o cW f j cT l dt (hb c2 hw)) _ c1 p sl T q a (fi _) (u.refl _) dt cW f j cT l| @step b p s fr hb c_ ao=>refine λc1 sl T q a dt cW f j cT l=>core b p s (λc2 a c1 sl M T q hw o dt cW f j cT l=>?_) _ c1 p sl T q a (fi _) (u.refl _) dt cW f j cT l;have⟨E,cP⟩:=hb _ hw;have⟨H,I⟩:=W T b.frame.fn b.frame.place _ _ _ cT l cP;exact sy dj o f E (ao _ hw _ _ _ q _ ((dt.rely m (X _ _ _ l cP)).woken m) (wi dj cW) (i4 (ko f)) (j.own (.inr Z) (ko f) _ _ _) H I)
end
end
section
open Go.Conc
open Go.ConcN (sumTo upd sumTo_upd upd_ne upd_same RelBy WgLive AsideCell RW)
open Go.ConcR (KK wgBlock WgAt stA smA rd wr mk DC0 Payload)
section
variable [BG]
variable {P:en} {dn:eF} {Wg c C:V} {c4 Rd:V->Prop} {v:dr} {cU:da->da->Prop} {eP:dP->da->Prop} {dO:dr->da->Prop} {eU d1:V} {T:Trace}
theorem hR.bookC(h:hR c4 Wg Rd c eU d1 T)(b:c≠0)(fn pos){es}(t:∀o∈g5 c fn pos es,∀x,o.act.touch? =U x->sv (·=Wg) x.loc/\x.kind=.atomic)(dQ:∀e∈es,∀a,e.loc≠.mark (.release a))
  (cP:∀j e,es[j]?=U e->(mD e).touch? =cL\/ ((∃eb w,e=⟨.cell eb,w,N⟩) /\0<deafBehind d1 (es.extract 0 j))):hR c4 Wg Rd c eU (deafBehind d1 es) (T++g5 c fn pos es):=
 ⟨h.h6.H1 b lN (λo xx x eE=>.inl (t o xx x eE)) (λo xx a e=>HE) (by rw[uJ,h.h6.rs]),
  h.rel.imp λr dQ=>dQ.appOwn fn pos es (by rwa[h.h6.rs])⟩
theorem M5{g fn pos es}(h:∀e∈es,∃b,e=⟨.cell (stA Wg),b,N⟩):∀op∈g5 g fn pos es,∀x,op.act.touch? =U x->sv (·=Wg) x.loc/\x.kind=.atomic:=by
 intro op c x a;obtain⟨e,he,rfl⟩:=zs c;obtain⟨b,rfl⟩:=h e he
 cases b<;>simp[mD,lo]at a<;>subst a<;>exact⟨⟨_,Z,Z⟩,Z⟩
theorem M6{es:d' hJ}(h:∀e∈es,∃b,e=⟨.cell (stA Wg),b,N⟩):∀e∈es,∀a,e.loc≠.mark (.release a):=λe he a=>by grind
theorem Uw{es}(h:∀e∈es,∃b,e=⟨.cell (stA Wg),b,N⟩)(d):deafBehind d es=d:=deafBehind_still (λe he=>by grind) d
theorem hR.H_(h:hR c4 Wg Rd c eU 1 T)(dj:c≠0)(fn pos){es}(he:∀e∈es,∃b,e=⟨.cell (stA Wg),b,N⟩):hR c4 Wg Rd c eU 1 (T++g5 c fn pos es):=by
 have:=h.bookC dj fn pos (es:=es) (M5 he) (M6 he) (λj e dU=>by
  obtain⟨b,rfl⟩:=he e (EN dU);refine .inr ⟨⟨_,_,Z⟩,?_⟩;rw[Uw λe a=>he e ?_]
  .omega
  .obtain⟨k,c_,rfl⟩:=Array.mem_iff_getElem.1 a
   simp_all)
 rwa[Uw he]at this
theorem H':∀e∈#[rd (stA Wg),wr (stA Wg)],∃b,e=⟨.cell (stA Wg),b,N⟩:=λe he=>by simp[rd,wr]at he;simp_all
theorem M7:∀e∈#[rd (stA Wg)],∃b,e=⟨.cell (stA Wg),b,N⟩:=λe he=>by simp[rd]at he;simp_all
theorem hR.agj(h:hR c4 Wg Rd c eU 1 T)(dj:c≠0)(fn pos):hR c4 Wg Rd c eU 1 (T++g5 c fn pos (semEvents (smA Wg))):=by
 have:=h.bookC dj fn pos (es:=semEvents (smA Wg)) M0 Up (λj e he=>by
  rcases j with _|_|_|_|j
  .simp[semEvents]at he;subst he;exact .inl Z
  .simp[semEvents]at he;subst he;exact .inr ⟨⟨_,_,Z⟩,by simp[deafBehind,semEvents]⟩
  .simp[semEvents]at he;subst he;exact .inr ⟨⟨_,_,Z⟩,by simp[deafBehind,semEvents]⟩
  .simp[semEvents]at he;subst he;exact .inl Z
  .simp[semEvents]at he)
 assumption
theorem e5.all{c1 q}(h:e5 P c c1 T q){b}(e:c1[c]?=U b){k}(f:QuitsD P k (Deaf T c) b):e5 P 0 c1 T (upd q c k):=by
 refine⟨λi g cK _ a=>?_,h.above⟩
 by_cases d:i=c
 .subst d;rw[e]at a;obtain rfl:=pV a;rwa[upd_same]
 .rw[upd_ne q k d];exact h.old i g cK d a
theorem agk{k g}(h:QuitsD P k 1 g):g.status=.running:=by
 cases k with|zero=>exact dN h.2 dw|succ k=>rcases h with⟨_,cW⟩|⟨Q,_⟩;exact dN cW dw;exact Q
theorem ET(dj:c≠0){M c1 w sl q a b}(j:stepT P M=runT P (crowd c1 w sl) c)(cW:c1[0]?=U a)(dt:a.status=.running)(d:c1[c]?=U b)(l:e5 P c c1 T q)(cT:hR c4 Wg Rd c eU 1 T)(hw:gF dn Wg w KK 0)(hb:H8 P dn Wg C 1 0 1 b w)
  (k:∀e f m,e[0]?=U a->e5 P 0 e f m->ln c4 Wg Rd c eU f->fa P dO (crowd e (w.setCell (stA Wg) (.int .u64 0)) sl) f):fa P dO M T:=by
 have⟨_,hb⟩:=hb;have⟨d7,g,_,h⟩:=hb 0 0 R R (by simp_all);have⟨fo,h⟩:=h dw;have n:(((0:V):J)*KK+((0:V):J))=0:=dw;rw[n]at g;have i:=cT.H_ dj b.frame.fn b.frame.place H';refine sy dj j d g (k _ _ (upd q c fo) (nv dj cW (woken_run dt)) ((l.own (.inr Z) (ko d) _ _ _).all (i4 (ko d)) ?_) ⟨1,i⟩);rwa[i.h6.rs]
theorem BI{w:da}{a}(h:a.block=Wg)(x b)(c:b≠Wg):(w.setCell a x).heap[b]?=w.heap[b]?:=by unfold World.setCell;grind
theorem agl{w st}(c:C≠Wg)(h:gF dn Wg w st 0)(a)(dt:a=stA Wg\/a=smA Wg)(x)(d:∃st kd,gF dn Wg (w.setCell a x) st kd):RW dn Wg C 1 0 0 w (w.setCell a x):=by
 have hb:a.block=Wg:=by rcases dt with rfl|rfl<;>rfl
 have hC:=BI hb x C c (w:=w);refine⟨λb hb=>dN hb R,λ_=>d,λO=>?_,?_⟩
 .unfold M8 at O⊢;simp_all
 .unfold ke;simp_all
structure zw(P:en)(dn:eF)(Wg c C:V)(c4 Rd:V->Prop)(cU:da->da->Prop)(eP:dP->da->Prop)(dO:dr->da->Prop):Prop where
 gX:xJ P dn Wg c c4 Rd cU eP dO
 wj:C≠Wg
 M9:∀w w',(∃st kd,gF dn Wg w st kd)->ER C 1 0 w w'->cU w w'
theorem AsideCell.wg{w w' st kd}(a:C≠Wg)(h:ER C 1 0 w w')(hw:gF dn Wg w st kd):gF dn Wg w' st kd:=hw.of_block (h.block Wg (Ne.symm a))
theorem M_(cU:¬Rd Wg){w w' es}(h:hS Wg w w' es):∀e∈es,mC (n8 c4 Wg Rd) e:=λe a=>⟨λx b=>((h.2 e a).1 x b).fit cU,(h.2 e a).2⟩
theorem mg.tree(b:me cU){g x iK w w'}(m:mayWake P x=N)(d:iK.status=.running)(h:mg P dn Wg cU eP g w):dR P N cU (hS Wg) (xI P dn Wg cU eP) (H9 P x iK w' g) w:=by
 rcases h with h|⟨c,e,Q,a,f⟩
 .rwa[woken_run (h.running (λ_ _ x=>x.1) b.refl)]
 .unfold H9;rw[if_pos (by grind),e,agi a Q];exact .stop f
theorem agm (de : zw P dn Wg c C c4 Rd cU eP dO) {a b : dP} {w : da} (dt : mg P dn Wg cU eP a w) (c1 : d' dP) (sl : dB (V × V)) (T : Trace) (q : V → V) (hb : nw P dn Wg C c c4 Rd v 1 T b w) (cW : c1[0]? = U a) (d : c1[c]? = U b) (f : e5 P c c1 T q) (hw : gF dn Wg w (KK + 1) 0) : fa P dO (crowd c1 w sl) T := by
  have dj := de.gX.e3
  have g := de.gX.mE
  have p : ∀ d1 st, wc c (hR c4 Wg Rd c 1 d1) (fun w => gF dn Wg w st 0) := fun d1 st => ⟨fun T i fn pos es h cW cK d6 => h.xH cW cK fn pos d6, fun _ _ h => h⟩
  have r : ∀ d1 st, tn 0 (hR c4 Wg Rd c 1 d1) (fun w => gF dn Wg w st 0) (hS Wg) := fun d1 st T fn pos es w w' h hw cP => ⟨h.m9 dj fn pos (M_ de.gX.rd cP), cP.1 ▸ hw⟩
  have s : ∀ d1 st, tn c (hR c4 Wg Rd c 1 d1) (fun w => gF dn Wg w st 0) DC0 := fun d1 st T fn pos es w w' h hw cP => by
    obtain ⟨rfl, rfl⟩ := cP
    exact ⟨h.still c fn pos, hw⟩
  have t : ∀ st, ∀ w w' es, gF dn Wg w st 0 → DC0 w w' es → cU w w' := fun st w w' es _ cP => by obtain ⟨rfl, _⟩ := cP; exact g.refl _
  have E : ∀ (a b : dP) (w : da), mg P dn Wg cU eP a w → ∀ c1 sl T q, dR P L (RW dn Wg C 1 0 0) DC0 (ConcN.AtD4 P dn Wg) b w → hR c4 Wg Rd c 1 1 T → c1[0]? = U a → c1[c]? = U b → e5 P c c1 T q → gF dn Wg w 0 0 → fa P dO (crowd c1 w sl) T :=
    fun a b w dt c1 sl T q hb cT cW d f hw => BH dj (p 1 0) g lQ (r 1 0) (fun T h fn pos => h.still 0 fn pos) (s 1 0) (t 0) (fun w h => ⟨0, h⟩) (fun _ _ h => h.1)
      (fun M T a b c1 w sl q l cW d f cT hw dt hb => by
        obtain ⟨_, F, hb⟩ := hb
        obtain ⟨d7, j, k, z⟩ := hb hw
        have A := cT.agj dj b.frame.fn b.frame.place
        have u : gF dn Wg (w.setCell (smA Wg) (.int .u32 1)) 0 1 := hw.setSm 1
        have y := dt.rely g (de.gX.Ur w 1 ⟨0, 0, hw⟩)
        refine sy dj l d j (agd de.gX (y.tree g F (agk z)) _ _ _ (upd q c k) (wi dj cW) ((f.own (.inr Z) (ko d) _ _ _).all (i4 (ko d)) (by rw [A.h6.rs]; exact z)) ⟨1, A⟩ u))
      hb c1 sl T q a dt cW d f cT hw
  have G : ∀ (a b : dP) (w : da), mg P dn Wg cU eP a w → ∀ c1 sl T q, dR P L (RW dn Wg C 1 0 0) DC0 (ConcN.AtD3 P dn Wg C 1 0 1) b w → hR c4 Wg Rd c 1 1 T → c1[0]? = U a → c1[c]? = U b → e5 P c c1 T q → gF dn Wg w 1 0 → fa P dO (crowd c1 w sl) T :=
    fun a b w dt c1 sl T q hb cT cW d f hw => BH dj (p 1 1) g lQ (r 1 1) (fun T h fn pos => h.still 0 fn pos) (s 1 1) (t 1) (fun w h => ⟨1, h⟩) (fun _ _ h => h.1)
      (fun M T a b c1 w sl q l cW d f cT hw dt hb => by
        obtain ⟨_, hb⟩ := hb
        obtain ⟨d7, j, m, n⟩ := hb hw
        have u : gF dn Wg (w.setCell (stA Wg) (.int .u64 0)) 0 0 := hw.setSt 0
        have y := dt.rely g (de.gX.set w 0 ⟨1, 0, hw⟩)
        exact sy dj l d j (E _ _ _ (y.woken g) _ _ _ q (dR.sw n) (cT.H_ dj _ _ (λe he=>by simp[wr]at he;simp_all)) (wi dj cW) (i4 (ko d)) (f.own (.inr Z) (ko d) _ _ _) u))
      hb c1 sl T q a dt cW d f cT hw
  have H : ∀ (a b : dP) (w : da), mg P dn Wg cU eP a w → ∀ c1 sl T q, dR P L (RW dn Wg C 1 0 0) DC0 (ConcN.AtD2 P dn Wg C 1 0 1) b w → hR c4 Wg Rd c 1 1 T → c1[0]? = U a → c1[c]? = U b → e5 P c c1 T q → gF dn Wg w 1 0 → fa P dO (crowd c1 w sl) T :=
    fun a b w dt c1 sl T q hb cT cW d f hw => BH dj (p 1 1) g lQ (r 1 1) (fun T h fn pos => h.still 0 fn pos) (s 1 1) (t 1) (fun w h => ⟨1, h⟩) (fun _ _ h => h.1)
      (fun M T a b c1 w sl q l cW d f cT hw dt hb => by
        obtain ⟨_, hb⟩ := hb
        obtain ⟨d7, j, m, n⟩ := hb hw
        exact sy dj l d j (G _ _ _ (dt.woken g) _ _ _ q (dR.sw n) (cT.H_ dj _ _ M7) (wi dj cW) (i4 (ko d)) (f.own (.inr Z) (ko d) _ _ _) hw))
      hb c1 sl T q a dt cW d f cT hw
  have B : ∀ (a b : dP) (w : da), mg P dn Wg cU eP a w → ∀ c1 sl T q, dR P L (RW dn Wg C 1 0 0) DC0 (H8 P dn Wg C 1 0 1) b w → hR c4 Wg Rd c 1 1 T → c1[0]? = U a → c1[c]? = U b → e5 P c c1 T q → gF dn Wg w (KK + 1) 0 → fa P dO (crowd c1 w sl) T :=
    fun a b w dt c1 sl T q hb cT cW d f hw => BH dj (p 1 (KK + 1)) g lQ (r 1 _) (fun T h fn pos => h.still 0 fn pos) (s 1 _) (t _) (fun w h => ⟨_, h⟩) (fun _ _ h => h.1)
      (fun M T a b c1 w sl q l cW d f cT hw dt hb => by
        obtain ⟨_, hb⟩ := hb
        obtain ⟨d7, j, cP, _⟩ := hb 0 1 R R (by simpa using hw)
        obtain ⟨m, n⟩ := cP ⟨Z, Z⟩
        have I : (((0 : V) : J) * KK + ((1 : V) : J)) = 1 := dw
        rw [I] at j n
        have u : gF dn Wg (w.setCell (stA Wg) (.int .u64 1)) 1 0 := hw.setSt 1
        have y := dt.rely g (de.gX.set w 1 ⟨_, 0, hw⟩)
        exact sy dj l d j (H _ _ _ (y.woken g) _ _ _ q (dR.sw n) (cT.H_ dj _ _ H') (wi dj cW) (i4 (ko d)) (f.own (.inr Z) (ko d) _ _ _) u))
      hb c1 sl T q a dt cW d f cT hw
  have D : ∀ (a b : dP) (w : da), mg P dn Wg cU eP a w → ∀ c1 sl T q, dR P L (RW dn Wg C 1 0 0) DC0 (Uu P dn Wg C 1 0 1) b w → hR c4 Wg Rd c 1 0 T → c1[0]? = U a → c1[c]? = U b → e5 P c c1 T q → gF dn Wg w (KK + 1) 0 → fa P dO (crowd c1 w sl) T :=
    fun a b w dt c1 sl T q hb cT cW d f hw => BH dj (p 0 (KK + 1)) g lQ (r 0 _) (fun T h fn pos => h.still 0 fn pos) (s 0 _) (t _) (fun w h => ⟨_, h⟩) (fun _ _ h => h.1)
      (fun M T a b c1 w sl q l cW d f cT hw dt hb => by
        obtain ⟨_, d7, j, m, n⟩ := hb
        refine sy dj l d j (B _ _ _ (dt.woken g) _ _ _ q (dR.sw n) ?_ (wi dj cW) (i4 (ko d)) (f.own (.inr Z) (ko d) _ _ _) hw)
        exact cT.Uv dj _ _)
      hb c1 sl T q a dt cW d f cT hw
  cases hb with
  | d1 hb cT => exact B _ _ _ dt c1 sl T q hb cT cW d f hw
  | k1 hb cT => exact D _ _ _ dt c1 sl T q hb cT cW d f hw
  | r0 hb cT =>
    refine BH (cM := hr c4 Wg Rd c 1 0) (eX := fun w => gF dn Wg w (KK + 1) 0) dj ⟨fun T i fn pos es h cW cK d6 => h.xH cW cK fn pos d6, fun _ _ h => h⟩ g lQ
      (fun T fn pos es w w' h hw cP => ⟨h.m9 dj fn pos (M_ de.gX.rd cP), cP.1 ▸ hw⟩)
      (fun T h fn pos => by have : T ++ g5 0 fn pos #[] = T := by simp [g5]
                            rw [this]; exact h)
      (fun T fn pos es w w' h hw cP => ⟨h.zc dj fn pos cP.2, AsideCell.wg de.wj cP.1 hw⟩) (fun w w' es hw cP => de.M9 w w' ⟨_, _, hw⟩ cP.1) (fun w h => ⟨_, h⟩) (fun _ _ h => h.1)
      (fun M T a b c1 w sl q l cW d f cT hw dt hb => ?_) hb c1 sl T q a dt cW d f cT hw
    obtain ⟨_, _, d7, j, m, n⟩ := hb
    refine sy dj l d j (D _ _ _ (dt.woken g) _ _ _ q (dR.sw n) ?_ (wi dj cW) (i4 (ko d)) (f.own (.inr Z) (ko d) _ _ _) hw)
    refine ⟨cT.H1 dj lN (fun op o x K => ?_) (fun op o a => ?_) ?_, _, agh cT.rs _ _⟩
    .rw [EQ] at o; simp at o; subst o; simp [mk, mD, lo] at K
    .rw [EQ] at o; simp at o; subst o; simp [mk, mD]
    .rw [uJ, cT.rs]; rfl
variable {gC:dP->da->Prop}
theorem nw.book(dj:c≠0){b w}(h:nw P dn Wg C c c4 Rd v eU T b w)(fn pos){es}(d:∀op∈g5 0 fn pos es,∀x,op.act.touch? =U x->n8 c4 Wg Rd x)(dQ:∀e∈es,∀a,e.loc≠.mark (.release a)){w'}(hw:RW dn Wg C 1 0 0 w w'):nw P dn Wg C c c4 Rd v (deafBehind eU es) (T++g5 0 fn pos es) b w':=by
 cases h with|r0 h cT=>exact .r0 (h.rely lQ.trans hw) (cT.book dj fn pos d dQ)|k1 h cT=>exact .k1 (h.rely lQ.trans hw) (cT.book dj fn pos d dQ)|d1 h cT=>exact .d1 (h.rely lQ.trans hw) (cT.book dj fn pos d dQ)
theorem nw.running{b w}(h:nw P dn Wg C c c4 Rd v eU T b w):b.status=.running:=by
 cases h with|r0 h _=>exact h.running (λ_ _ x=>x.1) lQ.refl|k1 h _=>exact h.running (λ_ _ x=>x.1) lQ.refl|d1 h _=>exact h.running (λ_ _ x=>x.1) lQ.refl
theorem Uy(cU:¬Rd Wg){fn pos es}(h:∀o∈g5 0 fn pos es,∀x,o.act.touch? =U x->sv (·=Wg) x.loc/\x.kind=.atomic):∀o∈g5 0 fn pos es,∀x,o.act.touch? =U x->n8 c4 Wg Rd x:=
 λo b x a=>BE.fit cU ⟨(h o b x a).1,by grind⟩
theorem M'(de:zw P dn Wg c C c4 Rd cU eP dO)(st):∀es w w',gF dn Wg w st 0->hS Wg w w' es->(∀e∈es,mC (n8 c4 Wg Rd) e) /\gF dn Wg w' st 0/\RW dn Wg C 1 0 0 w w':=λes w w' hw cP=>⟨M_ de.gX.rd cP,cP.1▸hw,cP.1▸lQ.refl _⟩
theorem Na(de:zw P dn Wg c C c4 Rd cU eP dO)(st):∀w w',gF dn Wg w st 0->ER C 1 0 w w'->cU w w'/\gF dn Wg w' st 0:=λw w' hw h=>⟨de.M9 w w' ⟨_,_,hw⟩ h,AsideCell.wg de.wj h hw⟩
theorem agn (de:zw P dn Wg c C c4 Rd cU eP dO) (j:∀ g w,gC g w->dR P N cU (hS Wg) (sx P dn Wg cU eP gC) g w) {a b} {w} (dt:dR P N cU (hS Wg) (M2 P dn Wg cU eP gC) a w) (c1) (sl) (T) (q) (hb:nw P dn Wg C c c4 Rd v 1 T b w) (cW:c1[0]?=U a) (d:c1[c]?=U b) (e:e5 P c c1 T q) (hw:gF dn Wg w KK 0):fa P dO (crowd c1 w sl) T:=by
 refine ES (eX:=fun w=>gF dn Wg w KK 0) de.gX.e3 de.gX.mE (fun _ _ h=>h.1) (fun _ _ h=>h) (M' de _) (Na de _) (fun M T a b c1 w sl q f cW d e hw c' hb=>?_) (fun M T a b c1 w sl q f cW d e hw dt cT hb=>?_) dt c1 sl T q hb cW d e hw
 .have⟨_,c',_⟩:=c';have⟨d8,k,l⟩:=c' hw;have i:gF dn Wg (w.setCell (stA Wg) (.int .u64 (KK+1))) (KK+1) 0:=hw.setSt _;have:=hb.book de.gX.e3 a.frame.fn a.frame.place (es:=#[rd (stA Wg),wr (stA Wg)]) (Uy de.gX.rd (M5 H')) (M6 H') (agl de.wj hw (stA Wg) (.inl Z) (.int .u64 (KK+1)) ⟨_,_,i⟩);exact oR f cW k (agm de (.inl l) _ _ _ q this (i4 (iy cW)) (nv (Ne.symm de.gX.e3) d (woken_run hb.running)) (e.own (.inl Z) (iy cW) _ _ _) i)
 .exact ET de.gX.e3 f cW (dt.running (fun _ _ h=>h.1) de.gX.mE.refl) d e cT hw hb fun m n o p r s=>age de.gX j (dt.rely de.gX.mE.trans (de.gX.set w _ ⟨_,_,hw⟩)) m sl n o p r s (hw.setSt 0)
theorem ago (de:zw P dn Wg c C c4 Rd cU eP dO) (i:∀ g w,gC g w->dR P N cU (hS Wg) (sx P dn Wg cU eP gC) g w) {a b} {w} (dt:dR P N cU (hS Wg) (sx P dn Wg cU eP gC) a w) (c1) (sl) (T) (q) (hb:nw P dn Wg C c c4 Rd v 1 T b w) (cW:c1[0]?=U a) (d:c1[c]?=U b) (e:e5 P c c1 T q) (hw:gF dn Wg w KK 0):fa P dO (crowd c1 w sl) T:=by
 refine ES (eX:=fun w=>gF dn Wg w KK 0) de.gX.e3 de.gX.mE (fun _ _ h=>h.1) (fun _ _ h=>h) (M' de _) (Na de _) (fun M T a b c1 w sl q f cW d e hw c' hb=>?_) (fun M T a b c1 w sl q f cW d e hw dt cT hb=>?_) dt c1 sl T q hb cW d e hw
 .have⟨_,c',_⟩:=c';have⟨d8,j,k⟩:=c' hw;have:=hb.book de.gX.e3 a.frame.fn a.frame.place (es:=#[rd (stA Wg)]) (Uy de.gX.rd (M5 M7)) (M6 M7) (lQ.refl w);exact oR f cW j (agn de i k _ _ _ q this (i4 (iy cW)) (nv (Ne.symm de.gX.e3) d (woken_run hb.running)) (e.own (.inl Z) (iy cW) _ _ _) hw)
 .exact ET de.gX.e3 f cW (dt.running (fun _ _ h=>h.1) de.gX.mE.refl) d e cT hw hb fun l m n o p r=>M3 de.gX (dt.rely de.gX.mE.trans (de.gX.set w _ ⟨_,_,hw⟩)) l sl m n o p r (hw.setSt 0)
theorem agp (de:zw P dn Wg c C c4 Rd cU eP dO) (f:∀ g w,gC g w->dR P N cU (hS Wg) (sx P dn Wg cU eP gC) g w) {a b} {w} (dt:dR P N cU (hS Wg) (H6 P Wg cU gC) a w) (c1) (sl) (T) (q) (hb:nw P dn Wg C c c4 Rd v 0 T b w) (cW:c1[0]?=U a) (d:c1[c]?=U b) (e:e5 P c c1 T q) (hw:gF dn Wg w KK 0):fa P dO (crowd c1 w sl) T:=by
 refine ES (eX:=fun w=>gF dn Wg w KK 0) de.gX.e3 de.gX.mE (fun _ _ h=>h.1) (fun _ _ h=>h) (M' de _) (Na de _) (fun M T a b c1 w sl q i cW d e hw c' hb=>?_) (fun M T a b c1 w sl q i cW d e hw dt cT hb=>?_) dt c1 sl T q hb cW d e hw
 .have⟨_,d8,j,k⟩:=c';have:=hb.book de.gX.e3 a.frame.fn a.frame.place (es:=#[mk .disable]) (EO Z) (EP dw) (lQ.refl w);exact oR i cW j (ago de f (k.bind de.gX.mE.refl f) _ _ _ q this (i4 (iy cW)) (nv (Ne.symm de.gX.e3) d (woken_run hb.running)) (e.own (.inl Z) (iy cW) _ _ _) hw)
 .exact ET de.gX.e3 i cW (dt.running (fun _ _ h=>h.1) de.gX.mE.refl) d e cT hw hb fun l m n o p r=>Ut de.gX f (dt.rely de.gX.mE.trans (de.gX.set w _ ⟨_,_,hw⟩)) l sl m n o p r (hw.setSt 0)
end
end
def zW{α}:∀(dD:I α) (c) (j),(iC c j dD).length=c.length
 | [],_,_=>rfl|x::r,c,j=>by simp[iC];rw[zW r];simp
def Cp{α}:∀(dD:I α) (c) (j k),j+dD.length<=c.length->(iC c j dD)[k]?=if j<=k/\k<j+dD.length then dD[k-j]? else c[k]?
 | [],c,j,k,_=>by simp[iC];omega
 |x::r,c,j,k,h=>by
  simp[iC];rw[Cp r _ _ _ (by grind)];grind
def VM{α}{c dD:I α}{j}(h:j+dD.length<=c.length):BW c j dD=iC c j dD:=by apply Cq;intro k;rw[Cp _ _ _ _ h,BW];grind
def I2{M w}(h:fp M w)(o):M w.heap.size o=cL:=by
 cases cY:M w.heap.size o with|none=>rfl|some v=>have:=ahZ w _ (h _ _ _ cY);grind
def ah0{M w}(h:fp M w)(a):fp M (w.alloc a):=λb o v cY=>by
 have:=ahZ w _ (h _ _ _ cY);rw[World.cell?_alloc_lt _ _ _ this];exact h _ _ _ cY
def VN(w:da)(o){c}(h:c<w.heap.size):(w.alloc o).heap[c]?=w.heap[c]?:=Below.heap_alloc w o c h
def I3(w:da)(o):(w.alloc o).heap[w.heap.size]?=U o:=by show(w.heap.push o)[w.heap.size]?=_;simp
def ah1{own w}(b:∀c,w.heap.size<=c->own c)(o):j0 own w (w.alloc o):=
 ⟨rfl,rfl,rfl,dw,λc a=>by
  rcases jr c w.heap.size with h|h
  .exact VN w o h
  simp_all⟩
def I4{own M a D O p w cO}(o:∀c,w.heap.size<=c->own c)(u:gS M a)(c0:jx own M a)(n:fp a cO)(c9:er own a D p cO)
  (hw:cO.heap=w.heap)(f:cO.os=w.os)(g:cO.tape=w.tape)(i:cO.output=w.output)
  {e d B vs eV cR len v}
  (r:e.O O=eS (hT (U d) p) d (U B))(s:e.f5=U d)
  (m:jJ a (eS D d (U (U ⟨w.heap.size,cR,vs.size,len⟩))) (cO.alloc (.cells vs eV)) B ⟨w.heap.size,cR,vs.size,len⟩)
  (cP:dZ a (eS D d (U (U ⟨w.heap.size,cR,vs.size,len⟩))) e.fj v):dO own M D O w e v (cO.alloc (.cells vs eV)):=by
 refine⟨a,eS D d (U (U ⟨w.heap.size,cR,vs.size,len⟩)),?_,u,ah0 n _,c0,?_,λb q=>gq _ _ λk=>tx (s▸q) k,cP⟩
 .have:=ah1 (w:=cO) (own:=own) (λc j=>o c (by simp_all)) (.cells vs eV);exact⟨this.os.trans f,this.tape.trans g,this.output.trans i,by simp_all,λc j=>by rw[this.block c j,hw]⟩
 .rw[r];refine c9.new d B _ (.refl _) (o _ (fi _)) m λx ek t h=>have l:=c9.lt h;⟨?_,VN _ _ l,c9.closed h⟩;grind
def ah2{O}(dW d B a):(⟨a,gh O dW++[(d,B)],U d⟩:gp).O O=eS (hT (U d) (gu O (gh O dW))) d (U B):=by simp[gp.O,zV,gu,FI (U d) _ O (IW dW)]
def zX:∀ {vs dx},p3 vs dx=N->vs.length=dx.length/\ ∀(i:V) (d),dx[i]?=U d->∃v,vs[i]?=U v/\ (∀M,e4 M d v)/\ ∀a n c,v=.slice a n c->n=0/\c=0
 | [],[],_=>⟨Z,λi d h=>qB⟩
 | [],_::_,h=>by simp[p3]at h
 |_::_,[],h=>by simp[p3]at h
 |v::vs,d::dx,h=>by
  simp[p3,lV]at h;have⟨Q,c5⟩:=h;have⟨b,f⟩:=zX c5;refine⟨by simp[b],λi g cK=>?_⟩
  cases i with
  |succ i=>simp_all
  |zero=>
   simp only[u9,fC]at cK⊢;subst cK;refine⟨v,Z,λM=>?_,λa n c e=>?_⟩
   rotate_left
   .subst e
    cases a with
    |some a=>simp[B']at Q
    |none=>
     cases n with
     |succ n=>simp[B']at Q
     |zero=>
      cases c with
      |succ c=>simp[B']at Q
      |zero=>exact g_
   cases cY:B' v with
   |none=>simp_all
   |some eU=>
    simp[cY]at Q;unfold B' at cY;split at cY
    .simp at cY;subst cY
     cases d<;>simp[Ca]at Q
     obtain⟨a,rfl⟩:=Q;have:=Ft (by simpa using a);subst this;exact .int _ _
    .simp at cY;subst cY
     cases d<;>simp[Ca]at Q
     subst Q;exact .bool _
    .rename_i s
     cases c':d3 s.size 0 with
     |false=>simp_all
     |true=>
      simp[c',fF,fC]at cY;subst cY
      cases d<;>simp[Ca]at Q
      rename_i s'
      have b:s=.empty:=by
       have:=gE c';have⟨⟨l⟩⟩:=s
       cases l with
       |nil=>rfl
       |cons a r=>simp_all
      have f:s'=.empty:=by
       have⟨⟨l⟩⟩:=s'
       cases l with
       |nil=>rfl
       |cons a r=>omega
      subst b f;exact .str _
    .simp at cY;subst cY
     cases d<;>simp[Ca]at Q
     rename_i l
     cases l with
     |nil=>exact .emp _ _
     |cons a r=>simp at Q
    .simp at cY;subst cY
     cases d<;>simp[Ca]at Q
     exact .km
    .cases cY
def VO{M D d v}(h:e4 M d v)(cY:∀a n c,v=.slice a n c->n=0/\c=0):dZ M D (rz d) v:=by
 unfold rz;split
 .cases h with|emp a c=>obtain⟨_,rfl⟩:=cY a 0 c Z;exact .nil a|dm l b off cap cR val dv Q c5 e=>obtain⟨_,rfl⟩:=cY _ _ _ Z;exact .nil _
 .exact .d _ _ h
theorem rI{P o dC O e}
  (h:∀(own M D) (a:e8) (w),(∀c,w.heap.size<=c->own c)->fp M w->er own M D O w->(∀x,dZ M D (dC x) (a.eval x))->
   ∃v w',(execOp a.eval o).run P w=.ok (.value v) w'/\ (∀e∈(execOp a.eval o).events P w #[],h7 own M e) /\dO own M D O w e v w'):hE P o dC O e:=
 Ob λown M D a w f d c9 b=>by
  have⟨v,w',Q,g,i⟩:=h own M D a w f d c9 b;grind
theorem VP{P o dC O e}
  (h:∀(own M D) (a:e8) (w),(∀c,w.heap.size<=c->own c)->fp M w->er own M D O w->(∀x,dZ M D (dC x) (a.eval x))->
   ∃w',(execOp a.eval o).run P w=.ok .skip w'/\ (∀e∈(execOp a.eval o).events P w #[],h7 own M e) /\dO own M D O w e undef w'):hE P o dC O e:=
 Ob λown M D a w f d c9 b=>by
  have⟨w',Q,g,i⟩:=h own M D a w f d c9 b;simp_all
theorem Om{P o dC O e}(f:∀(own M) (a:e8) (w),∀e∈(execOp a.eval o).events P w #[],h7 own M e)
  (h:∀(own M D) (a:e8) (w),(∀c,w.heap.size<=c->own c)->fp M w->er own M D O w->(∀x,dZ M D (dC x) (a.eval x))->
   ∃v w',(execOp a.eval o).run P w=.ok (.value v) w'/\dO own M D O w e v w'):hE P o dC O e:=
 rI λown M D a w g d c9 b=>by
  have⟨v,w',Q,i⟩:=h own M D a w g d c9 b;grind
section
variable {P:en} {T:fM} (cT:jL P T)
include cT
omit cT in
theorem VQ(t v w):(newVar t v).run P w=.ok ⟨w.heap.size,0,cL⟩ (w.alloc (.cells v.cells t)):=by rfl
omit cT in
theorem VR{own M D O w}(j:∀c,w.heap.size<=c->own c)(g:fp M w)(c9:er own M D O w){d c vs eV}
  (a:tw M D vs c)(i:∀x∈c,zD d x):dO own M D O w ⟨.ptr d 0 0,[(d,.box c L)],U d⟩ (.pointer (U ⟨w.heap.size,0,cL⟩)) (w.alloc (.cells vs eV)):=by
 have n:∀b,b≠d->eS D d (U (U (⟨w.heap.size,c.length,vs.size,0⟩:k6))) b=D b:=λb a=>gq _ _ a;refine I4 j (.refl M) (.refl _ _) g c9 Z Z Z Z (e:=⟨.ptr d 0 0,[(d,.box c L)],U d⟩) (d:=d) (B:=.box c L) (cR:=c.length) (len:=0) Z Z ?_ ?_
 .refine⟨vs,eV,I3 w _,Z,Z,a.size,have d:=λb f=>n b (E7 f);⟨a.size,λj x Q=>let ⟨v,h,e⟩:=a.den j x Q;⟨v,h,e.uK d (i x (jY Q))⟩⟩,sq,λ_ o=>I2 g o⟩
 .have:=dZ.ptr (M:=M) (D:=eS D d (U (U (⟨w.heap.size,c.length,vs.size,0⟩:k6)))) d 0 0 ⟨w.heap.size,c.length,vs.size,0⟩ (gP _ _ _);simp_all
omit cT in
theorem ah3(d b):zD b (rz d):=by
 intro a _;unfold rz;split
 .exact .nil
 .exact .d _
omit cT in
theorem VS{t}{z:dr}(c:p3 z.cells.toList (T t).zero=N)(M D):tw M D z.cells ((T t).zero.map rz):=by
 have⟨f,e⟩:=zX c;refine⟨by simp_all,λj x a=>?_⟩;rw[ir]at a
 cases cP:(T t).zero[j]? with|none=>simp_all|some d=>simp[cP,jB,fC]at a;subst a;have⟨v,dI,g,b⟩:=e j d cP;exact⟨v,zg,VO (g M) b⟩
omit cT in
theorem VT{own M D O w}(c9:er own M D O w){x v}(dj:pY O x=N)(h:dZ M D x v):v.oneCell'=N/\v.cells=#[v]:=by
 have g:∀(d:c3) (v:dr),pY.one d=N->e4 M d v->v.oneCell'=N/\v.cells=#[v]:=by
  intro d v dj h
  cases h<;>simp[pY.one]at dj<;>exact g_
 cases h with|agg c vs c' e=>simp[pY]at dj|dS c vs c' e=>simp[pY]at dj|dead v=>simp[pY]at dj|d y v l=>exact g y v dj l|eN=>exact g_|fd=>exact g_|own b cM cap h m dj=>exact g_|ib b a h=>exact g_|ju b v h=>simp[pY,(c9.fE b).2 h]at dj|ptr b i j cM h=>exact g_|i6 b i j v h=>simp[pY,(c9.fE b).2 h]at dj|win b dz n c cM k base o p q r s=>cases dj|jv b dz n c v h=>cases dj|nil a=>exact g_|fn f cap vs c' e=>exact g_
omit cT in
theorem VU{O c}(h:sC O c=N):∀x∈c,pY O x=N:=by
 induction c with
 |nil=>simp_all|cons y r i=>simp[sC]at h;simp_all
omit cT in
theorem I5{own M D O w}(c9:er own M D O w){x v}(dj:sC O (cellsOf x)=N)(h:dZ M D x v):
  v.cells.size=(cellsOf x).length/\ (∀(i:V) (y) (u),(cellsOf x)[i]?=U y->v.cells[i]?=U u->dZ M D y u) /\ ∀u∈v.cells.toList,u.oneCell'=N:=by
 have base:v.cells.size=(cellsOf x).length/\ (∀(i:V) (y:dp) (u:dr),(cellsOf x)[i]?=U y->v.cells[i]?=U u->dZ M D y u):=by
  cases x with
  |agg c=>obtain⟨vs,rfl,c',cP⟩:=x2 h;exact⟨c',cP⟩
  |_=>
   have Q:=VU dj _ (p6.2 Z);have c5:=(VT c9 Q h).2;rw[c5];refine⟨Z,λi y u dI b=>?_⟩
   cases i with
   |zero=>simp[cellsOf]at dI b;simp_all
   |succ i=>simp_all
 refine⟨base.1,base.2,λu d=>?_⟩;obtain⟨i,cK,rfl⟩:=List.getElem_of_mem d
 have a:i<(cellsOf x).length:=by rw[<-base.1];simpa using cK
 have cP:=base.2 i (cellsOf x)[i] v.cells[i] (fq a) (by simp_all);exact(VT c9 (VU dj _ (hF a)) cP).1
omit cT in
theorem ah4{M D c vs}(h:vs.size=c.length)(cP:∀(i:V) (y u),c[i]?=U y->vs[i]?=U u->dZ M D y u):tw M D vs c:=
 ⟨h,λj x a=>by
  have b:=(f_.1 a).1
  have:vs[j]?=U vs[j]:=dw
  grind⟩
theorem ah5{o t}{d:Tmp}{dC O}{K:gp->Prop}(f:o.op=.alloc t)
  (h:bif (T t).k.known then qJ ((T t).zero.map rz) λc=>K ⟨.ptr d 0 0,[(d,.box c L)],U d⟩ else dA):∃e,K e/\hE P o dC O e:=by
 cases k:(T t).k.known with
 |false=>simp_all
 |true=>
  simp[k,fF]at h;refine⟨_,Fy h,rI λown M D a w n j c9 m=>have⟨z,g,b⟩:=N_ cT w k;⟨_,w.alloc (.cells z.cells t),?_,tF (by simp[execOp,f,ah6,g,newVar,newRow]),VR n j c9 (VS b M D) λx l=>?_⟩⟩
  .simp[execOp,f,ah6,g,VQ]
  .obtain⟨i,_,rfl⟩:=is.1 l;exact ah3 i d
end
theorem ah7(c:d' dr)(vs o k)(h:o+vs.length<=c.size):
  ((c.toList.take o++vs++c.toList.drop (o+vs.length)).toArray)[k]?=if o<=k/\k<o+vs.length then vs[k-o]? else c[k]?:=by
 grind
theorem ah8{b dW}(h:kp b dW=L):b∉dW:=by
 induction dW with
 |nil=>simp
 |cons x r i=>
  simp only[kp]at h
  cases a:d3 b x with|true=>simp_all|false=>simp at h;intro m;simp_all
theorem FJ{ho b}:∀dW O,b∉dW->gu O (gh ho dW) b=O b
 | [],_,_=>rfl
 |c::r,O,h=>by
  have dQ:=λe=>h (lX _ e);have dj:b≠c:=λe=>h (by simp_all);simp[gh]
  cases hb:ho c with
  |none=>exact FJ r O dQ
  |some B=>
   cases B with
   |box x cN=>exact FJ r O dQ
   |row l cR cN=>simp[gu];rw[FJ r _ dQ,gq _ _ dj]
section
variable {P:en} {T:fM} (cT:jL P T)
theorem I6(g o t):∀vs i c w es,w.heap[g]?=U (.cells c t (0,0))->o+i+vs.length<=c.size->(∀v∈vs,v.oneCell'=N)->
  ∀dq∈(storeCells ⟨g,o,cL⟩ vs i).events P w es,dq∈es\/dq.sync=L/\ ∃eb,dq.loc=.cell eb/\eb.block=g
 | [],_,_,_,_,_,_,_=>λdq h=>.inl (by assumption)
 |v::rest,i,c,w,es,b,l,Q=>λdq h=>by
  have cK:o+i<c.size:=by simp at l;omega
  have a:(⟨g,o,cL⟩:g3).add i=⟨g,o+i,cL⟩:=by unfold o0;split<;>simp_all
  have e:w.cell? ⟨g,o+i,cL⟩=U c[o+i]:=by simp[ke,b,cK]
  have f:w.frozen? ⟨g,o+i,cL⟩=L:=by simp[World.frozen?,b]
  have s:(store ((⟨g,o,cL⟩:g3).add i) v).run P w=.ok () (w.setRow g (c.setIfInBounds (o+i) v)):=by rw[a,I7 P w _ v _ (Q v dw),e];simp[f,setCell_eq_setRow w g (o+i) c t (0,0) v b]
  have d:(store ((⟨g,o,cL⟩:g3).add i) v).events P w es=es.push ⟨.cell ⟨g,o+i,cL⟩,N,L⟩:=by rw[a,I8 P w es _ v _ (Q v dw),e];simp[f,rG,qF];rfl
  simp[storeCells,jz,s,kT,d]at h;rcases I6 g o t rest (i+1) (c.setIfInBounds (o+i) v) (w.setRow g (c.setIfInBounds (o+i) v)) _ (setRow_heap w g c _ t _ b) (by grind) (λx eE=>Q x HT) dq h with h|h
  .grind
  simp_all
theorem I9{own M w l cs eV}(i:fp M w)(n:own l)(f:∀o,M l o=cL)(a:w.heap[l]?=U (.cells cs eV (0,0)))
  (vs o)(d:o+vs.length<=cs.size)(Q:∀u∈vs,u.oneCell'=N):
  ∃s,((storeCells ⟨l,o,cL⟩ vs).run P w=.ok () (w.setRow l s) /\ ∀dq∈(storeCells ⟨l,o,cL⟩ vs).events P w #[],h7 own M dq) /\fp M (w.setRow l s) /\j0 own w (w.setRow l s) /\ (w.setRow l s).heap[l]?=U (.cells s eV (0,0)) /\s.size=cs.size/\
   (∀k,s[k]?=if o<=k/\k<o+vs.length then vs[k-o]? else cs[k]?) /\ ∀b,b≠l->(w.setRow l s).heap[b]?=w.heap[b]?:=by
 have t:∀(s:d' dr) (b:V),b≠l->(w.setRow l s).heap[b]?=w.heap[b]?:=λs b j=>by
  simp[World.setRow,Array.getElem?_modify];grind
 have g:=ah7 cs vs o;refine⟨_,⟨run_storeCells_at (P:=P) l o eV vs 0 cs w a d Q,λdq p=>?_⟩,?_,?_,setRow_heap w l cs _ eV _ a,?_,?_,t _⟩
 .rcases I6 l o eV vs 0 cs w #[] a d Q dq p with h|⟨Q,eb,q,r⟩
  .simp at h
  .unfold h7;simp_all
 .intro b off v cY
  have j:b≠l:=by rintro rfl;rw[f]at cY;cases cY
  have:=i b off v cY;simp[ke]at this⊢;simp_all
 .refine⟨Z,Z,Z,by simp_all,λc m=>t _ _ λe=>m (e▸n)⟩
 .simp;omega
 simp_all
include cT in
theorem VW{t}(k:(T t).k.known=N){v a w w'}(s:v.cells.size=(T t).size)(h:(storeCells a v.cells.toList).run P w=.ok () w'):(storeVar t a v).run P w=.ok () w':=by simp[storeVar,iE cT w k,s,h]
include cT in
theorem VX{t}(h:(T t).k.known=N){v a w}(s:v.cells.size=(T t).size):(storeVar t a v).events P w #[]=(storeCells a v.cells.toList).events P w #[]:=by simp[storeVar,iE cT w h,s]
theorem VY{α}{c l:I α}{j}(h:j+l.length<=c.length)(e:l.length=c.length):iC c j l=l:=by apply Cq;intro k;rw[Cp l c j k h];grind
theorem aia{c j v K}(a:j+(cellsOf v).length<=c.length)(h:Fe c j v K):K (iC c j (cellsOf v)):=by
 cases v with
 |agg l=>
  simp only[Fe,cellsOf]at h a⊢
  cases he:d3 l.length c.length with|true=>simp[he,fF]at h;rw[VY a (gE he)];exact Fy h|false=>rw[<-VM a];simp_all
 |_=>exact h
end
def VZ(vs:d' dr)(off):∀(n:V) (l) (g) (c:d' dr),l=vs.toList.drop g->off+vs.size<=c.size->
  ∃cs,(l.zipIdx g).foldl (λcs (x)=>cs.setIfInBounds (off+x.2) x.1) c=cs/\cs.size=c.size/\ ∀k,cs[k]?=if off+g<=k/\k<off+vs.size then vs[k-off]? else c[k]?
 |_,[],g,c,a,h=>⟨c,Z,Z,λk=>by
   have:vs.size<=g:=by have:=eL pt a;simp at this;omega
   grind⟩
 |n,v::r,g,c,a,h=>by
  have f:g<vs.size:=by have:=eL pt a;simp at this;omega
  have cY:vs.toList.drop g=vs[g]::vs.toList.drop (g+1):=by rw[qT R];simp
  rw[cY]at a;simp at a;obtain⟨rfl,b⟩:=a;have⟨cs,i,e,d⟩:=VZ vs off n r (g+1) (c.setIfInBounds (off+g) vs[g]) b (by grind);refine⟨cs,by assumption,by simp_all,λk=>?_⟩;grind
def Cr(M:eI)(D:gD)(c:I dp)(cs:d' dr):Prop:=cs.size=c.length/\ ∀(i:V) (y:dp) (u:dr),c[i]?=U y->cs[i]?=U u->dZ M D y u
def I_{O dC off}:∀ {C c K},ww O dC off c C K->
 ∃g,K g/\g.length=c.length/\ ∀(own) (M) (D) (a:e8) (w) (cs),er own M D O w->(∀x,dZ M D (dC x) (a.eval x))->Cr M D c cs->
  ∃b,Vg off cs (C.map λp=>(p.1,a.eval p.2))=U b/\Cr M D g b
 | [],c,K,h=>⟨c,h,Z,λ_ M D a w cs _ _ cM=>⟨cs,Z,cM⟩⟩
 |(i,x)::r,c,K,h=>by
  simp only[ww]at h
  cases A:off i with
  |none=>simp_all
  |some p=>
   have⟨o,s⟩:=p;simp only[A]at h;have h:=(tG h).1
   cases t:d3 (cellsOf (dC x)).length s&&hn (o+s) c.length with
   |false=>simp_all
   |true=>
    simp only[t,fF]at h;simp only[lV]at t;have B:=gE t.1;have m:=tt t.2
    cases j:sC O (cellsOf (dC x)) with
    |false=>simp_all
    |true=>
     simp[j,fF]at h;rw[VM R]at h;have⟨g,cX,dc,cP⟩:=I_ h;refine⟨g,cX,by rw[dc,zW],λown M D a w cs c9 q d=>?_⟩;have⟨I,J,_⟩:=I5 c9 j (q x);have⟨e,dI,G,H⟩:=VZ (a.eval x).cells o (a.eval x).cells.size (a.eval x).cells.toList 0 cs dw (by rw[I,B,d.1];exact m)
     have l:Cr M D (iC c o (cellsOf (dC x))) e:=by
      refine⟨by rw[G,zW];exact d.1,λk y u v f=>?_⟩;rw[Cp _ _ _ _ R]at v;rw[H]at f;rw[I]at f;simp at f;split at v
      .rename_i n;rw[if_pos n]at f;grind
      .rename_i n;rw[cS n]at f;exact d.2 k y u v f
     have⟨b,E,F⟩:=cP own M D a w e c9 q l;refine⟨b,?_,F⟩
     have z:¬((a.eval x).cells.size≠s||decide (o+(a.eval x).cells.size>cs.size))=N:=by rw[I,B,d.1];simp;exact m
     simp only[kS,Vg,A];rw[cS (by simpa using z)]
     have dh:(a.eval x).cells.zipIdx.foldl (λcs (x:dr×V)=>cs.setIfInBounds (o+x.2) x.1) cs=e:=by rw[<-dI,<-Array.foldl_toList];simp
     have:=dh;rwa[this]
section
open Go.Conc
open Go.ConcN (sumTo upd sumTo_upd upd_ne upd_same RelBy WgLive AsideCell RW)
open Go.ConcR (KK wgBlock WgAt stA smA rd wr mk DC0 Payload)
section
variable {P:en} {c1:d' dP} {w c2:da} {sl:dB (V×V)} {i j k:V} {g sz qG:dP} {es:d' hJ} {cases cs:d' CommCase} {shape xL:CommShape} {UG:di} {c cap s r:V} {zx:d' dr} {dd:di} {v z EX:dr}
theorem agL(cK:c1[i]?=U g)(h:stepG P (i==0) g w=.comm sz #[rcase c z] UG shape c2 es)(n:c2.heap[c]?=U (.chan cap #[] L s r dd))
  (e:j≠i)(q:c1[j]?=U (parked qG cs xL))(m:cs[k]?=U (scase c v EX))(O:BL (c1.setIfInBounds i ph) c N=[(j,k)]):
  ∃ops,runT P (crowd c1 w sl) i=(.next (crowd ((c1.setIfInBounds j (qG.finishComm P cs xL k undef L)).setIfInBounds i (sz.finishComm P #[rcase c z] shape 0 v N)) (c2.setChan c cap #[] L (s+1) (r+1) dd) sl),g5 i g.frame.fn g.frame.place es++ops) /\
   (∀o∈ops,o.act.touch? =cL/\o.act≠.mark .disable/\o.act≠.mark .enable/\ ∀a,o.act≠.mark (.release a)):=by
 rw[agM cK h];have b:=stand_get (i:=i) e q;have f:=agN P (c1.setIfInBounds i ph) b (cs:=cs) (sh:=xL) Z k undef
 have d:(c1.setIfInBounds i ph).getD j default=parked qG cs xL:=by rw[uM,b];rfl
 have l:offeredValue (c1.setIfInBounds i ph) j k=v:=by simp[offeredValue,b,parked,m,scase]
 refine⟨#[{g:=j,fn:=qG.frame.fn,pos:=qG.frame.place,act:=.send c s},{g:=i,fn:=sz.frame.fn,pos:=sz.frame.place,act:=.recv c r cap},{g:=j,fn:=qG.frame.fn,pos:=qG.frame.place,act:=.sendDone c s},{g:=i,fn:=sz.frame.fn,pos:=sz.frame.place,act:=.recvDone c r}],?_,?_⟩
 .simp[communicate,ways,rcase,n,O,choose,Ie,uN,bind,Sem.bind,pure,EY,crowd,f,d,l,set_stand2,agO,scase,parked,m];rfl
 .intro o p;simp at p;rcases p with rfl|rfl|rfl|rfl<;>exact⟨Z,dw,dw,dw⟩
theorem agP(cK:c1[i]?=U g)(h:stepG P (i==0) g w=.comm sz cases UG shape c2 es)(q:cases[k]?=U (scase c v z))
  (t:∀m n,m≠k->cases[m]?=U n->NoWays c2 (c1.setIfInBounds i ph) n)
  (d:c2.heap[c]?=U (.chan cap zx L s r dd))(l:j≠i)(u:c1[j]?=U (parked qG #[rcase c EX] xL))(O:BL (c1.setIfInBounds i ph) c L=[(j,0)]):
  ∃ops,runT P (crowd c1 w sl) i=(.next (crowd ((c1.setIfInBounds j (qG.finishComm P #[rcase c EX] xL 0 v N)).setIfInBounds i (sz.finishComm P cases shape k undef L)) (c2.setChan c cap zx L (s+1) (r+1) dd) sl),g5 i g.frame.fn g.frame.place es++ops) /\
   (∀o∈ops,o.act.touch? =cL/\o.act≠.mark .disable/\o.act≠.mark .enable/\ ∀a,o.act≠.mark (.release a)):=by
 have hw:ways c2 (c1.setIfInBounds i ph) (scase c v z)=[.partner j 0]:=by simp[ways,scase,d,O]
 have b:=stand_get (i:=i) l u;have f:=agN P (c1.setIfInBounds i ph) b (cs:=#[rcase c EX]) (sh:=xL) Z 0 v
 have e:(c1.setIfInBounds i ph).getD j default=parked qG #[rcase c EX] xL:=by rw[uM,b];rfl
 refine⟨#[{g:=i,fn:=sz.frame.fn,pos:=sz.frame.place,act:=.send c s},{g:=j,fn:=qG.frame.fn,pos:=qG.frame.place,act:=.recv c r cap},{g:=i,fn:=sz.frame.fn,pos:=sz.frame.place,act:=.sendDone c s},{g:=j,fn:=qG.frame.fn,pos:=qG.frame.place,act:=.recvDone c r}],?_,?_⟩
 .rw[agM cK h];unfold communicate;simp only[ready_one q (by grind) t,hw];rw[cS]
  .simp[choose,Ie,uN,bind,Sem.bind,pure,scase,crowd,d,f,e,set_stand2,agO,rcase,parked,EY];rfl
  .rw[Bool.not_eq_true];exact any_ill (made_of_one q (made_send v z d) t)
 .intro o p;simp at p;rcases p with rfl|rfl|rfl|rfl<;>exact⟨Z,dw,dw,dw⟩
end
theorem UH{w:da}{c cap s r zx ds dd}(h:c<w.heap.size):(w.setChan c cap zx ds s r dd).heap[c]?=U (.chan cap zx ds s r dd):=by simp[EY,h]
theorem ry{w:da}{c cap s r b zx ds dd}(h:b≠c):(w.setChan c cap zx ds s r dd).heap[b]?=w.heap[b]?:=by simp[EY,ru (Ne.symm h)]
theorem UI{w:da}{c o}(h:w.heap[c]?=U o):c<w.heap.size:=(kL.1 h).1
def ds(g:dP):dP:={g with status:=.running,offers:=cL}
def BM(z:dr):dr:=.tuple #[goInt 0,.bool L,z]
structure k5(F fg:V->Prop)(w w':da):Prop where
 f:e0 F w w'
 m:∀b,fg b->w'.heap[b]?=w.heap[b]?
def UJ(fg:V->Prop)(e:hJ):Prop:=∃a,e.loc=.cell a/\fg a.block/\e.sync=L/\e.write=L
structure mG(F fg:V->Prop)(w w':da)(es:d' hJ):Prop where
 m_:oS F w w'
 dq:∀e∈es,jc F e\/UJ fg e
theorem jd.x{F fg w w' es}(h:jd F w w' es):mG F fg w w' es:=⟨h.m_,λe a=>.inl (h.dq e a)⟩
section
variable (P:en) (c4:V->Prop) (Wg:V) (Rd:V->Prop) (fg:V->Prop) (F:V->Prop) (dn:eF) (d9 eo:V) (z fV gY:dr)
def Nj(uO:dP->da->Prop):I dr->dP->da->Prop
 | [],g,w=>g.status=.running/\ ∃es,stepG P N g w=.comm (ds g) #[rcase d9 z] N (.recv N) w es/\ (∀e∈es,mC (n8 c4 Wg Rd) e) /\
   dR P N (k5 F fg) (mG F fg) uO (xM (ds g) (.tuple #[z,.bool L])) w
 |v::vs,g,w=>g.status=.running/\ ∃es,stepG P N g w=.comm (ds g) #[rcase d9 z] N (.recv N) w es/\ (∀e∈es,mC (n8 c4 Wg Rd) e) /\
   ∀w',k5 F fg w w'->dR P N (k5 F fg) (mG F fg) (Nj uO vs) (xM (ds g) (.tuple #[v,.bool N])) w'
def tr(w w':da)(es:d' hJ):Prop:=AtRel w w'/\ ∀e∈es,mC (wa c4 Wg Rd) e
def oT(w w':da):Prop:=∀b,Rd b->w'.heap[b]?=w.heap[b]?
def UK(End:dP->da->Prop):I dr->dP->da->Prop
 | [],g,w=>g.status=.running/\mayWake P g=N/\ ∀s r,w.heap[d9]?=U (.chan 0 #[] L s r L)->(∃st kd,gF dn Wg w st kd)->∃g' es,g'.status=.running/\stepG P L g w=.go g' (w.setChan d9 0 #[] N s r L) es/\ (∀e∈es,mC (wa c4 Wg Rd) e) /\
   End g' (w.setChan d9 0 #[] N s r L)
 |v::vs,g,w=>g.status=.running/\ ∃es,stepG P L g w=.comm (ds g) #[scase d9 v fV,rcase eo gY] N .select w es/\ (∀e∈es,mC (wa c4 Wg Rd) e) /\
   ∀w',oT Rd w w'->dR P L (oT Rd) (tr c4 Wg Rd) (UK End vs) (xM (ds g) (BM gY)) w'
def agQ(C:V)(lr:da->da->Prop)(a:dP->da->Prop)(g:dP)(w:da):Prop:=
 g.status=.running/\ (w.heap[eo]?=U (.chan 0 #[] L 0 0 L)->(∃st kd,gF dn Wg w st kd)->∃g' w' es,stepG P N g w=.go g' w' es/\ (∀e∈es,mC (n8 c4 Wg Rd) e) /\w'.heap[Wg]?=w.heap[Wg]? /\w'.heap[C]?=w.heap[C]? /\dR P N lr (hS Wg) a g' w')
end
section
variable [BG]
variable {P:en} {dn:eF} {Wg c C d9 eo:V} {c4 Rd fg F:V->Prop} {v z fV gY:dr} {eP gC:dP->da->Prop} {dO:dr->da->Prop}
def lr(F:V->Prop)(dn:eF)(Wg:V)(w w':da):Prop:=e0 F w w'/\ (WgLive dn Wg w->WgLive dn Wg w')
theorem BN:me (lr F dn Wg):=⟨λw=>⟨.refl _ _,id⟩,λa b c h k=>⟨h.1.trans k.1,k.2∘h.2⟩,λw d=>⟨.drawn _ _ _,id⟩⟩
theorem i3:me (k5 F fg):=⟨λw=>⟨.refl F w,λ_ _=>Z⟩,λ_ _ _ h k=>⟨h.f.trans k.f,λb a=>(k.m b a).trans (h.m b a)⟩,λw d=>⟨.drawn _ _ _,λ_ _=>Z⟩⟩
theorem BO:me (e0 F):=⟨e0.refl F,λ_ _ _ h k=>h.trans k,λw d=>.drawn _ _ _⟩
theorem pp:me (oT Rd):=⟨λw b _=>Z,λa b c h k x e=>(k x e).trans (h x e),λw d b _=>Z⟩
structure qH(P:en)(dn:eF)(Wg c C d9 eo:V)(c4 Rd fg F:V->Prop)(eP gC:dP->da->Prop)(dO:dr->da->Prop):Prop where
 e3:c≠0
 xN:F Wg
 If:F C
 EZ:F d9
 Ig:F eo
 E0:∀b,Rd b->F b
 Nk:∀b,c4 b->F b
 E1:¬Rd Wg
 zy:¬Rd d9
 E2:∀b,fg b->Rd b
 UL:¬fg C
 UM:∀b,fg b->¬c4 b
 wj:C≠Wg
 ds:C≠d9
 cs:C≠eo
 lw:d9≠Wg
 ls:d9≠eo
 anch:∀g w,gC g w->dR P N (lr F dn Wg) (hS Wg) (sx P dn Wg (lr F dn Wg) eP gC) g w
 fin:∀c1 sl T q g w,c1[0]?=U g->e5 P 0 c1 T q->kK (λb=>c4 b\/b=Wg) 0 T->eP g w->fa P dO (crowd c1 w sl) T
theorem E3{w}(c:F Wg){a}(d:a.block=Wg)(x):e0 F w (w.setCell a x):=
 ⟨rfl,rfl,rfl,MM,λb f=>BI d x b λe=>f (e▸c)⟩
theorem UN{w st kd}(a:F Wg)(hw:gF dn Wg w st kd)(x):lr F dn Wg w (w.setCell (stA Wg) (.int .u64 x)):=⟨E3 a Z _,λ_=>⟨_,_,hw.setSt x⟩⟩
theorem UO{w st kd}(a:F Wg)(hw:gF dn Wg w st kd)(x):lr F dn Wg w (w.setCell (smA Wg) (.int .u32 x)):=⟨E3 a Z _,λ_=>⟨_,_,hw.setSm x⟩⟩
theorem qH.UP(de:qH P dn Wg c C d9 eo c4 Rd fg F eP gC dO):zw P dn Wg c C c4 Rd (lr F dn Wg) eP dO where
 gX:={e3:=de.e3,rd:=de.E1,mE:=BN,fin:=de.fin,set:=λw x hw=>UN de.xN hw.choose_spec.choose_spec x,Ur:=λw x hw=>UO de.xN hw.choose_spec.choose_spec x}
 wj:=de.wj
 M9:=λw w' hw h=>⟨⟨h.os,h.tape,h.output,h.size,λb hb=>h.block b λe=>hb (e▸de.If)⟩,λdv=>by
  obtain⟨st,kd,dv⟩:=dv
  exact⟨st,kd,AsideCell.wg de.wj h dv⟩⟩
structure jt(dn:eF)(Wg d9 eo:V)(je:di)(st:J)(w:da):Prop where
 wg:gF dn Wg w st 0
 lc:∃s r,w.heap[d9]?=U (.chan 0 #[] je s r L)
 qA:w.heap[eo]?=U (.chan 0 #[] L 0 0 L)
theorem jt.block{je st w w'}(h:jt dn Wg d9 eo je st w)(Q:w'.heap[Wg]?=w.heap[Wg]?)(a:w'.heap[d9]?=w.heap[d9]?)(b:w'.heap[eo]?=w.heap[eo]?):jt dn Wg d9 eo je st w':=
 ⟨h.wg.of_block Q,h.lc.imp λs=>agR λr e=>a.trans e,b.trans h.qA⟩
theorem zz(de:qH P dn Wg c C d9 eo c4 Rd fg F eP gC dO){e}(h:jc F e\/UJ fg e):mC (n8 c4 Wg Rd) e:=by
 rcases h with h|h
 .have⟨d,wr,Ms⟩:=e;unfold jc at h
  cases d with
  |cell a=>
   obtain⟨rfl,c0⟩:=h;refine⟨λx eE=>?_,dw,dw,dw⟩;have:x=⟨.cell a,wr,.plain⟩:=TJ;subst this;refine⟨λh=>?_,λh=>?_,λ_ h=>?_⟩
   all_goals try (rcases h with h|⟨r,h,_⟩;rotate_left;cases h)
   all_goals have⟨b,e,hb⟩:=h
   all_goals cases e
   .exact dN (de.Nk _ hb) c0
   .exact dN (hb▸de.xN) c0
   .exact dN (de.E0 _ hb) c0
  |mark m=>
   cases m with|extern g=>exact⟨λx eE=>HF,dw,dw,dw⟩|noRoom=>exact⟨λx eE=>HF,dw,dw,dw⟩|_=>grind
  |obj r=>
   obtain⟨rfl,c0⟩:=h;refine⟨λx eE=>?_,dw,dw,dw⟩;have:x=⟨.obj r,wr,.plain⟩:=TJ;subst this;refine⟨λh=>?_,λ⟨b,e,hb⟩=>ss,λ_ ⟨b,e,hb⟩=>ss⟩;rcases h with⟨b,e,hb⟩|⟨q,e,hb⟩<;>cases e
   exact dN (de.Nk _ hb) c0
  |_=>grind
 .have⟨d,wr,Ms⟩:=e;obtain⟨a,rfl,d6,rfl,rfl⟩:=h;refine⟨λx eE=>?_,dw,dw,dw⟩
  have:x=⟨.cell a,L,.plain⟩:=by simp[mD,lo]at eE;exact eE.symm
  subst this;refine⟨λh=>?_,λh=>?_,λh=>hh⟩
  all_goals try (rcases h with h|⟨r,h,_⟩;rotate_left;cases h)
  all_goals have⟨b,e,hb⟩:=h
  all_goals cases e
  .exact dN hb (de.UM _ d6)
  .exact dN (hb▸de.E2 _ d6) de.E1
theorem zA(de:qH P dn Wg c C d9 eo c4 Rd fg F eP gC dO){je st w w' es}(hw:jt dn Wg d9 eo je st w)(h:mG F fg w w' es):jt dn Wg d9 eo je st w':=
 hw.block (h.m_.block _ de.xN) (h.m_.block _ de.EZ) (h.m_.block _ de.Ig)
theorem UQ(de:qH P dn Wg c C d9 eo c4 Rd fg F eP gC dO){w w' es}(h:mG F fg w w' es):RW dn Wg C 1 0 0 w w':=by
 have hC:=h.m_.block _ de.If;have a:=h.m_.block _ de.xN;refine⟨λb hb=>dN hb R,λ⟨st,kd,x⟩=>⟨st,kd,x.of_block a⟩,λO=>?_,?_⟩
 .unfold M8 at O⊢;simp_all
 .unfold ke;simp_all
theorem UR(de:qH P dn Wg c C d9 eo c4 Rd fg F eP gC dO){je st w w'}(hw:jt dn Wg d9 eo je st w)(h:ER C 1 0 w w'):k5 F fg w w'/\jt dn Wg d9 eo je st w':=
 ⟨⟨⟨h.os,h.tape,h.output,h.size,λb hb=>h.block b λe=>hb (e▸de.If)⟩,λb hb=>h.block b λe=>de.UL (e▸hb)⟩,hw.block (h.block _ (Ne.symm de.wj)) (h.block _ (Ne.symm de.ds)) (h.block _ (Ne.symm de.cs))⟩
theorem US(de:qH P dn Wg c C d9 eo c4 Rd fg F eP gC dO)(c':eo≠Wg){je st w}(hw:jt dn Wg d9 eo je st w)(x):jt dn Wg d9 eo je x (w.setCell (stA Wg) (.int .u64 x)):=
 ⟨hw.wg.setSt x,hw.lc.imp λs=>agR λr e=>(BI Z _ d9 de.lw).trans e,(BI Z _ eo c').trans hw.qA⟩
theorem Nl{k d g}(h:QuitsD P k d g)(r b):offersAt g r b=[]:=agS (by rcases h.status with e|e<;>rw[e]<;>simp) r b
theorem E4{c1 T q}(O:e5 P c c1 T q){i}(cK:i=0\/i=c){x}(f:i=c->c1[0]?=U x)(e:i=0->0<c->c1[c]?=U x)(c0:∀r b,offersAt x r b=[])(r b):BL (c1.setIfInBounds i ph) r b=[]:=by
 refine partners_nil λj g h=>?_;rcases UT c1 i j g h with⟨_,rfl⟩|⟨n,h⟩
 .rfl
 .by_cases a:j=0
  .grind
  .by_cases d:j=c
   .grind
   .exact Nl (O.old j g (BD a) d h) r b
theorem E5{g}(h:g.status=.running)(r b):offersAt g r b=[]:=agS (by rw[h];simp) r b
theorem recvClosed{c1 w sl M T a es}(t:stepT P M=runT P (crowd c1 w sl) 0)(cW:c1[0]?=U a)(h:stepG P N a w=.comm (ds a) #[rcase d9 z] N (.recv N) w es)(hw:∃s r,w.heap[d9]?=U (.chan 0 #[] N s r L))(O:BL (c1.setIfInBounds 0 ph) d9 N=[])
  (k:∀o,o.g=0->o.act=.recvClosed d9->fa P dO (crowd (c1.setIfInBounds 0 (xM (ds a) (.tuple #[z,.bool L]))) w sl) (T++g5 0 a.frame.fn a.frame.place es++#[o])):fa P dO M T:=by
 have⟨s,r,c⟩:=hw;have:=crowd_recv_closed (P:=P) (sl:=sl) (i:=0) cW (show stepG P (0==0) a w=_ from h) c O;apply fa.step (t.trans this);rw[<-UU];exact k {g:=0,fn:=(ds a).frame.fn,pos:=(ds a).frame.place,act:=.recvClosed d9} Z Z
theorem e5.UV{c1 T q}(O:e5 P c c1 T q)(x):e5 P c (c1.setIfInBounds 0 x) T q:=
 ⟨λi g cK b a=>by rw[ru R]at a;exact O.old i g cK b a,λj dU=>O.above j xA⟩
theorem Ih{T u}(b:∀o∈u,(o.act≠.mark .disable/\o.act≠.mark .enable))(g):Deaf (T++u) g=Deaf T g:=by
 have⟨l⟩:=u;rw[Deaf_append]
 have k:∀(l:I MemOp) (d:V),(∀o∈l,(o.act≠.mark .disable/\o.act≠.mark .enable))->l.foldl (deafStep g) d=d:=by
  intro l
  induction l with
  |nil=>grind
  |cons y l i=>
   intro d a;have c:=a y dw
   have e:deafStep g d y=d:=by
    unfold deafStep;split
    .simp_all
    .simp_all
    .rfl
   simp_all
 simp_all
theorem e5.trace{c1 T q}(h:e5 P c c1 T q){u}(a:∀o∈u,(o.act≠.mark .disable/\o.act≠.mark .enable)):e5 P c c1 (T++u) q:=
 ⟨λi g cK b d=>by rw[Ih a];exact h.old i g cK b d,λj e=>by rw[Ih a];exact h.above j e⟩
theorem xO{K g fn pos es}(h:∀e∈es,mC K e):∀o∈g5 g fn pos es,(o.act≠.mark .disable/\o.act≠.mark .enable):=by intro o b;obtain⟨x,a,rfl⟩:=zs b;exact⟨λe=>(h x a).2.1 (Ep e),λe=>(h x a).2.2.1 (Ep e)⟩
def E6(u:Trace):Prop:=∀op∈u,op.act.touch? =cL/\op.act≠.mark .disable/\op.act≠.mark .enable/\ ∀a,op.act≠.mark (.release a)
theorem hr.comm{eU d1 T u}(h:hr c4 Wg Rd c eU d1 T)(a:E6 u):hr c4 Wg Rd c eU d1 (T++u):=
 h.idle (λo b=>(a o b).1) (λo b=>(a o b).2.2.2) (by rw[Ih λo b=>⟨(a o b).2.1,(a o b).2.2.1⟩,h.xE]) (by rw[Ih λo b=>⟨(a o b).2.1,(a o b).2.2.1⟩,h.rs])
theorem e5.quiet{c1 T u q}(O:e5 P c c1 T q)(h:E6 u):e5 P c c1 (T++u) q:=O.trace λo a=>⟨(h o a).2.1,(h o a).2.2.1⟩
variable (P dn Wg c C d9 eo c4 Rd fg F z eP gC) in
abbrev uO:dP->da->Prop:=agQ P c4 Wg Rd dn eo C (lr F dn Wg) (H6 P Wg (lr F dn Wg) gC)
variable (P dn Wg c C d9 eo c4 Rd fg F z eP gC) in
abbrev zB(ls:I dr):dP->da->Prop:=Nj P c4 Wg Rd fg F d9 z (uO P dn Wg C eo c4 Rd F gC) ls
theorem UW (de:qH P dn Wg c C d9 eo c4 Rd fg F eP gC dO) {a} {w} (d:dR P N (k5 F fg) (mG F fg) (uO P dn Wg C eo c4 Rd F gC) a w) (c1) (sl) (T) (q) (cW:c1[0]?=U a) (O:e5 P 0 c1 T q) (cT:ln c4 Wg Rd c 0 T) (hw:jt dn Wg d9 eo N 0 w):fa P dO (crowd c1 w sl) T:=by
 refine tp (mf:=default) (c:=0) (cM:=ln c4 Wg Rd c 0) (eX:=jt dn Wg d9 eo N 0) (kc de.e3 fun _ _ h=>⟨h.wg,h.lc,h.qA⟩) i3
  (fun T fn pos es w w' h hw cP=>⟨h.imp fun d1 h=>h.m9 de.e3 fn pos fun e f=>zz de (cP.dq e f),zA de hw cP⟩) (fun _ _ h=>h.1) (fun M T g c1 w sl q t cW O _ cT hw b=>?_) d c1 sl T q cW O (fun h=>dN h R) cT hw
 have⟨_,b⟩:=b;have⟨g',w',es,o,s,W,i,k⟩:=b hw.qA ⟨_,_,hw.wg⟩;exact oR t cW o (Ut de.UP.gX de.anch k _ _ _ q (i4 (iy cW)) (O.own (.inl Z) (iy cW) _ _ _) (cT.imp fun d1 h=>h.m9 de.e3 _ _ s) (hw.wg.of_block W))
theorem agT (de:qH P dn Wg c C d9 eo c4 Rd fg F eP gC dO) (c':eo≠Wg) {a b} {w} (dt:dR P N (k5 F fg) (mG F fg) (uO P dn Wg C eo c4 Rd F gC) a w) (c1) (sl) (T) (q) (hb:nw P dn Wg C c c4 Rd v 0 T b w) (cW:c1[0]?=U a) (d:c1[c]?=U b) (f:e5 P c c1 T q) (hw:jt dn Wg d9 eo N KK w):fa P dO (crowd c1 w sl) T:=by
 refine ES (eX:=jt dn Wg d9 eo N KK) de.e3 i3 (fun _ _ h=>h.1) (fun _ _ h=>⟨h.wg,h.lc,h.qA⟩) (fun es w w' hw cP=>⟨fun e he=>zz de (cP.dq e he),zA de hw cP,UQ de cP⟩) (fun w w' hw h=>UR de hw h)
  (fun M T a b c1 w sl q g cW d f hw i hb=>?_) (fun M T a b c1 w sl q g cW d f hw dt cT hb=>?_) dt c1 sl T q hb cW d f hw
 .have⟨_,i⟩:=i;have⟨g',w',es,l,j,k,hC,c_⟩:=i hw.qA ⟨_,_,hw.wg⟩
  have m:RW dn Wg C 1 0 0 w w':=by
   refine ⟨fun b hb=>dN hb R,fun ⟨st,kd,x⟩=>⟨st,kd,x.of_block k⟩,fun O=>?_,?_⟩
   .unfold M8 at O⊢;simp_all
   .unfold ke;simp [hC]
  have:=hb.book de.e3 a.frame.fn a.frame.place (es:=es) (EL j) (fun e he=>(j e he).2.2.2) m;rw [EM j] at this;exact oR g cW l (agp de.UP de.anch c_ _ _ _ q this (i4 (iy cW)) (nv (Ne.symm de.e3) d (woken_run hb.running)) (f.own (.inl Z) (iy cW) _ _ _) (hw.wg.of_block k))
 .exact ET de.e3 g cW (dt.running (fun _ _ h=>h.1) i3.refl) d f cT hw.wg hb fun n o p r s t=>UW de (dt.rely i3.trans ⟨E3 de.xN Z _,fun b hb=>BI f0 _ b fun e=>de.E1 ((show b=Wg from e)▸de.E2 b hb)⟩) n sl o p r s t (US de c' hw 0)
theorem agU (de:qH P dn Wg c C d9 eo c4 Rd fg F eP gC dO) {a} {w} (dt:dR P N (k5 F fg) (mG F fg) (zB P dn Wg C d9 eo c4 Rd fg F z gC []) a w) (c1) (sl) (T) (q) (cW:c1[0]?=U a) (O:e5 P 0 c1 T q) (cT:ln c4 Wg Rd c 0 T) (hw:jt dn Wg d9 eo N 0 w):fa P dO (crowd c1 w sl) T:=by
 refine tp (mf:=default) (c:=0) (cM:=ln c4 Wg Rd c 0) (eX:=jt dn Wg d9 eo N 0) (kc de.e3 fun _ _ h=>⟨h.wg,h.lc,h.qA⟩) i3
  (fun T fn pos es w w' h hw cP=>⟨h.imp fun d1 h=>h.m9 de.e3 fn pos fun e f=>zz de (cP.dq e f),zA de hw cP⟩) (fun _ _ h=>h.1) (fun M T g c1 w sl q t cW O _ cT hw j=>?_) dt c1 sl T q cW O (fun h=>dN h R) cT hw
 have⟨d,es,o,s,k⟩:=j
 refine recvClosed t cW o hw.lc (E4 O (.inl Z) (x:=g) (fun _=>cW) (fun _ h=>dN h R) (E5 d) d9 N) fun l qD dt=>?_
 have b:E6 #[l]:=fun x eE=>TL
 exact UW de k _ _ _ q (by grind) (((O.UV _).trace (xO s)).quiet b) (have⟨d1,cT⟩:=cT;have Q:=cT.m9 de.e3 g.frame.fn g.frame.place s;⟨d1,Q.h6.comm b,Q.rel.imp fun r i=>i.appNot fun x eE=>T0⟩) hw
theorem nw.quiet(e:c≠0){eU T u b w}(h:nw P dn Wg C c c4 Rd v eU T b w)(d:E6 u)(g:∀o∈u,o.g≠c):nw P dn Wg C c c4 Rd v eU (T++u) b w:=by
 cases h with|r0 h cT=>exact .r0 h (cT.comm d)|k1 h cT=>exact .k1 h ⟨cT.h6.comm d,cT.rel.imp λr a=>a.appNot g⟩|d1 h cT=>exact .d1 h ⟨cT.h6.comm d,cT.rel.imp λr a=>a.appNot g⟩
theorem UX (de:qH P dn Wg c C d9 eo c4 Rd fg F eP gC dO) (c':eo≠Wg) {a b} {w} (dt:dR P N (k5 F fg) (mG F fg) (zB P dn Wg C d9 eo c4 Rd fg F z gC []) a w) (c1) (sl) (T) (q) (hb:nw P dn Wg C c c4 Rd v 0 T b w) (cW:c1[0]?=U a) (d:c1[c]?=U b) (f:e5 P c c1 T q) (hw:jt dn Wg d9 eo N KK w):fa P dO (crowd c1 w sl) T:=by
 refine ES (eX:=jt dn Wg d9 eo N KK) de.e3 i3 (fun _ _ h=>h.1) (fun _ _ h=>⟨h.wg,h.lc,h.qA⟩) (fun es w w' hw cP=>⟨fun e he=>zz de (cP.dq e he),zA de hw cP,UQ de cP⟩) (fun w w' hw h=>UR de hw h)
  (fun M T a b c1 w sl q i cW d f hw k hb=>?_) (fun M T a b c1 w sl q i cW d f hw dt cT hb=>?_) dt c1 sl T q hb cW d f hw
 .have⟨_,es,l,g,c_⟩:=k
  refine recvClosed i cW l hw.lc (E4 f (.inl Z) (x:=b) (fun e=>dN e.symm de.e3) (fun _ _=>d) (E5 hb.running) d9 N) fun op qD dt=>?_
  have j:E6 #[op]:=fun x eE=>TL
  have Q:=hb.book de.e3 a.frame.fn a.frame.place (es:=es) (EL g) (fun e he=>(g e he).2.2.2) (lQ.refl w);rw [EM g] at Q;exact agT de c' c_ _ _ _ q (Q.quiet de.e3 j fun x eE=>T0) (by grind) (by rw [ru (Ne.symm de.e3)];exact d) (((f.UV _).trace (xO g)).quiet j) hw
 .exact ET de.e3 i cW (dt.running (fun _ _ h=>h.1) i3.refl) d f cT hw.wg hb fun m n o p r s=>agU de (dt.rely i3.trans ⟨E3 de.xN Z _,fun b hb=>BI f0 _ b fun e=>de.E1 ((show b=Wg from e)▸de.E2 b hb)⟩) m sl n o p r s (US de c' hw 0)
end
end
section
open Go.Conc
open Go.ConcN (sumTo upd sumTo_upd upd_ne upd_same RelBy WgLive AsideCell RW)
open Go.ConcR (KK wgBlock WgAt stA smA rd wr mk DC0 Payload)
theorem dR.agV{P main cU c3 dy}(d:∀a b c,cU a b->cU b c->cU a c){g w}(h:dR P main cU c3 dy g w):dR P main cU c3 (λg w=>∀c2,cU w c2->dy g c2) g w:=by
 induction h with
 |stop h=>exact .stop λc2 h₁ e f=>h e (d _ _ _ h₁ f)|step c' fr h _ i=>exact .step c' fr h i
section
variable [BG]
variable {P:en} {dn:eF} {Wg c C d9 eo:V} {c4 Rd fg F:V->Prop} {ts z fV gY:dr} {eP gC:dP->da->Prop} {dO:dr->da->Prop}
variable (P dn Wg C d9 eo c4 Rd ts fV gY) in
abbrev BP(ls:I dr):dP->da->Prop:=UK P c4 Wg Rd dn d9 eo fV gY (λg w=>dR P L (RW dn Wg C 1 0 0) (H7 c4 Wg Rd C) (M4 P dn Wg C 1 0 1 ts) g w) ls
def qI(d9 eo:V)(v fV gY:dr):d' CommCase:=#[scase d9 v fV,rcase eo gY]
theorem agW(v):commResult (qI d9 eo v fV gY) .select 0 undef L=BM gY:=by simp[commResult,qI,scase,rcase,BM]
theorem UY(g v):(ds g).finishComm P (qI d9 eo v fV gY) .select ((0:V):J) undef L=xM (ds g) (BM gY):=by unfold Goroutine.finishComm;have:=agW (d9:=d9) (eo:=eo) (fV:=fV) (gY:=gY) v;rw[show(((0:V):J))=0 from Z,this];rfl
theorem agX{g v}(h:d9≠eo):offersAt (parked g (qI d9 eo v fV gY) .select) d9 N=[0]:=by simp[offersAt,parked,qI,scase,rcase,List.zipIdx]
theorem e5.UZ{c1 T q}(O:e5 P c c1 T q){i j}(cK:i=0\/i=c)(d:j=0\/j=c)(x y):e5 P c ((c1.setIfInBounds j x).setIfInBounds i y) T q:=
 ⟨λk g c_ a b=>by
  rw[ru (by rcases cK with rfl|rfl<;>omega),ru R]at b
  exact O.old k g c_ a b,λk c_=>O.above k uB⟩
theorem e5.Nm{c1 T q}(O:e5 P c c1 T q){i}(cK:i=0\/i=c)(x):e5 P c (c1.setIfInBounds i x) T q:=
 ⟨λk g c_ a b=>by
  rw[ru (by rcases cK with rfl|rfl<;>omega)]at b
  exact O.old k g c_ a b,λk c_=>O.above k uB⟩
theorem U0{c1 T q}(O:e5 P c c1 T q){i j k}(a:(i=0/\j=c) \/ (i=c/\j=0))(l:c≠0){x}(f:c1[j]?=U x){r b}(g:offersAt x r b=[k]):BL (c1.setIfInBounds i ph) r b=[(j,k)]:=by
 have n:j≠i:=by rcases a with g_|g_<;>omega
 rw[partners_one (j:=j) (stand_get n f) λm y o d=>?_,g]
 .rfl
 .rcases UT c1 i m y d with⟨_,rfl⟩|⟨e,d⟩
  .rfl
  .refine Nl (O.old m y ?_ ?_ d) r b
   .omega
   omega
theorem agY(de:qH P dn Wg c C d9 eo c4 Rd fg F eP gC dO)(c':eo≠Wg):∀ls a b w c1 sl T q,
 dR P N (k5 F fg) (mG F fg) (zB P dn Wg C d9 eo c4 Rd fg F z gC ls) a w->dR P L (oT Rd) (tr c4 Wg Rd) (BP P dn Wg C d9 eo c4 Rd ts fV gY ls) b w->c1[0]?=U a->c1[c]?=U b->e5 P c c1 T q->hr c4 Wg Rd c 0 0 T->jt dn Wg d9 eo L KK w->fa P dO (crowd c1 w sl) T:=by
 have dj:=de.e3;have u:=BD dj;have Y:(c==0)=L:=hy;have y:∀(K:da->Prop),(∀w d,K w->K (w.at d))->wc c (hr c4 Wg Rd c 0 0) (λw=>jt dn Wg d9 eo L KK w/\K w):=λK ai=>⟨λT i fn pos es h cW cK d6=>h.xH cW cK fn pos d6,λw d h=>⟨⟨h.1.wg,h.1.lc,h.1.qA⟩,ai w d h.2⟩⟩
 have I:∀ {w:da} {s r s' io:V} {je:di},jt dn Wg d9 eo L KK w->w.heap[d9]?=U (.chan 0 #[] L s r L)->jt dn Wg d9 eo je KK (w.setChan d9 0 #[] je s' io L):=fun {w s r s' io je} hw dv=>⟨hw.wg.of_block (ry (Ne.symm de.lw)),⟨s',io,UH (UI dv)⟩,(ry (Ne.symm de.ls)).trans hw.qA⟩
 have J:∀ {w:da} {s r:V} {je:di},k5 F fg w (w.setChan d9 0 #[] je s r L):=fun {w s r je}=>⟨⟨Z,Z,Z,by simp[EY],λb hb=>ry λe=>hb (e▸de.EZ)⟩,λb hb=>ry λe=>de.zy (de.E2 _ (e▸hb))⟩;have aa:∀ {w:da} {s r:V} {je:di},oT Rd w (w.setChan d9 0 #[] je s r L):=fun {w s r je} b hb=>ry λe=>de.zy (e▸hb)
 have au:∀ {w:da} {s r:V} {je:di},jt dn Wg d9 eo L KK w->RW dn Wg C 1 0 0 w (w.setChan d9 0 #[] je s r L):=fun {w s r je} hw=>by
  have hC:(w.setChan d9 0 #[] je s r L).heap[C]?=w.heap[C]?:=ry de.ds;refine⟨λb hb=>dN hb R,λ_=>⟨_,_,hw.wg.of_block (ry (Ne.symm de.lw))⟩,λO=>?_,?_⟩
  .unfold M8 at O⊢;simp_all
  .unfold ke;simp_all
 intro ls
 induction ls with
 |nil=>
  intro a b w c1 sl T q dt hb cW l f cT hw
  have B:∀(a b:dP) (w:da) (c1:d' dP) (sl:dB (V×V)) (T:Trace) (q:V->V),(∀c2,k5 F fg w c2->zB P dn Wg C d9 eo c4 Rd fg F z gC [] a c2)->dR P L (oT Rd) (tr c4 Wg Rd) (BP P dn Wg C d9 eo c4 Rd ts fV gY []) b w->c1[0]?=U (parked (ds a) #[rcase d9 z] (.recv N))->c1[c]?=U b->e5 P c c1 T q->hr c4 Wg Rd c 0 0 T->jt dn Wg d9 eo L KK w->fa P dO (crowd c1 w sl) T:=by
   intro a b A c1 sl T q dt hb cW l f cT hw;refine Un (a:=parked (ds a) #[rcase d9 z] (.recv N)) (cM:=hr c4 Wg Rd c 0 0) (eX:=λw=>jt dn Wg d9 eo L KK w/\k5 F fg A w) ⟨rv (.inr (.inl Z)),by simp[parked],λx iK w' Ev=>TP⟩ u (y _ λw d h=>i3.trans _ _ _ h (i3.draw _ _)) pp (λT fn pos es w w' h hw cP=>HC) (λ_ _ h=>h.1)
    (λM T b c1 w sl q o t l f cT hw hb=>?_) hb c1 sl T q cW l f cT ⟨hw,i3.refl _⟩
   have⟨_,ab,hb⟩:=hb;have⟨s,r,dv⟩:=hw.1.lc;have⟨d7,es,ac,p,n,c_⟩:=hb s r dv ⟨_,_,hw.1.wg⟩;have aj:=I (je:=N) (s':=s) (io:=r) hw.1 dv
   have ak:woken P b d7 (w.setChan d9 0 #[] N s r L) (parked (ds a) #[rcase d9 z] (.recv N))={parked (ds a) #[rcase d9 z] (.recv N) with status:=.running}:=by unfold H9;rw[if_pos (by simp[ab,ac])];exact again_recv_closed (UH (UI dv))
   exact sy dj o l p (UX (z:=z) de c' (a:={parked (ds a) #[rcase d9 z] (.recv N) with status:=.running}) (.stop λc2 h₁=>have⟨_,al,am,an,ao⟩:=dt c2 (i3.trans _ _ _ hw.2 (i3.trans _ _ _ J h₁));⟨Z,al,(stepG_same Z Z Z c2).trans am,an,ao⟩) _ _ _ q (.r0 c_ (cT.zc dj _ _ n)) (by rw[<-ak];exact wi dj t) (i4 (ko l)) (f.own (.inr Z) (ko l) _ _ _) aj)
  refine EK (cM:=hr c4 Wg Rd c 0 0) (eX:=λw=>jt dn Wg d9 eo L KK w/\True) u (y _ λ_ _ _=>dM) i3 pp (λT fn pos es w w' h hw cP=>⟨h.m9 dj fn pos λe he=>zz de (cP.dq e he),zA de hw.1 cP,dM⟩) (λT fn pos es w w' h hw cP=>HC)
   (λw w' es _ cP=>T') (λw w' es _ cP b hb=>cP.m_.block b (de.E0 b hb)) (λ_ _ h=>(h _ (i3.refl _)).1) (λ_ _ h=>h.1)
   (λM T a b c1 w sl q o cW l f cT hw dt hb=>?_) (λM T a b c1 w sl q o cW l f cT hw dt hb=>?_) (dt.agV i3.trans) c1 sl T q hb cW l f cT ⟨hw,dM⟩
  .
   have⟨ad,es,p,n,c_⟩:=dt w (i3.refl _);have D:=hb.running (λ_ _ h=>h.1) pp.refl;have⟨s,r,dv⟩:=hw.1.lc;have Ez:=E4 f (i:=0) (.inl Z) (x:=b) (λe=>dN e.symm dj) (λ_ _=>l) (E5 D) d9 N;have E:=U1 (P:=P) (sl:=sl) (i:=0) cW (show stepG P (0==0) a w=_ from p) (λae Bt=>TT);exact fa.step (o.trans E) (B a b w _ _ _ q dt hb (by simp[iy cW]) (by rw[ru (Ne.symm dj)];exact l) ((f.Nm (.inl Z) _).trace (xO n)) (cT.m9 dj _ _ n) hw.1)
  .
   have⟨_,ab,hb⟩:=hb;have⟨s,r,dv⟩:=hw.1.lc;have⟨d7,es,ac,p,n,c_⟩:=hb s r dv ⟨_,_,hw.1.wg⟩;have S:=dt.running (λ_ _ h=>(h _ (i3.refl _)).1) i3.refl;have ap:=dt.mono (λ_ _ h=>h) (λ_ _ _ h=>h) (λ_ _ h=>h _ (i3.refl _));exact sy dj o l p (UX de c' (ap.rely i3.trans J) _ _ _ q (.r0 c_ (cT.zc dj _ _ n)) (nv dj cW (woken_run S)) (i4 (ko l)) (f.own (.inr Z) (ko l) _ _ _) (I hw.1 dv))
 |cons v vs af=>
  intro a b w c1 sl T q dt hb cW l f cT hw
  have B:∀(a b:dP) (w:da) (c1:d' dP) (sl:dB (V×V)) (T:Trace) (q:V->V),(∀w',k5 F fg w w'->dR P N (k5 F fg) (mG F fg) (zB P dn Wg C d9 eo c4 Rd fg F z gC vs) (xM (ds a) (.tuple #[v,.bool N])) w')->dR P L (oT Rd) (tr c4 Wg Rd) (BP P dn Wg C d9 eo c4 Rd ts fV gY (v::vs)) b w->c1[0]?=U (parked (ds a) #[rcase d9 z] (.recv N))->c1[c]?=U b->e5 P c c1 T q->hr c4 Wg Rd c 0 0 T->jt dn Wg d9 eo L KK w->fa P dO (crowd c1 w sl) T:=by
   intro a b A c1 sl T q dt hb cW l f cT hw;refine Un (a:=parked (ds a) #[rcase d9 z] (.recv N)) (cM:=hr c4 Wg Rd c 0 0) (eX:=λw=>jt dn Wg d9 eo L KK w/\k5 F fg A w) ⟨rv (.inr (.inl Z)),by simp[parked],λx iK w' Ev=>TP⟩ u (y _ λw d h=>i3.trans _ _ _ h (i3.draw _ _)) pp (λT fn pos es w w' h hw cP=>HC) (λ_ _ h=>h.1)
    (λM T b c1 w sl q o t l f cT hw hb=>?_) hb c1 sl T q cW l f cT ⟨hw,i3.refl _⟩
   have⟨D,es,p,n,c_⟩:=hb;have⟨s,r,dv⟩:=hw.1.lc;have W:BL (c1.setIfInBounds c ph) d9 L=[(0,0)]:=U0 f (.inr g_) dj t (by rw[offersAt_parked_recv];simp)
   have aq:BL (c1.setIfInBounds c ph) eo N=[]:=by
    refine partners_nil λj g dU=>?_;rcases UT c1 c j g dU with⟨_,rfl⟩|⟨ar,dU⟩
    .exact offersAt_ph _ _
    .by_cases ag:j=0
     .subst ag;rw[t]at dU
      rw[<-pV dU];exact offersAt_parked_recv' ..
     .exact Nl (f.old j g (BD ag) ar dU) _ _
   obtain⟨ops,G,H⟩:=agP (P:=P) (sl:=sl) (i:=c) (k:=0) (cases:=qI d9 eo v fV gY) (c2:=w) l (show stepG P (c==0) b w=_ by rw[Y];exact p) Z (λm oU d6 ah=>by
    have:m=1:=by
     rcases m with _|_|m
     .exact dN Z d6
     .rfl
     .simp[qI]at ah
    subst this
    have:oU=rcase eo gY:=by simpa[qI]using ah.symm
    subst this
    exact agZ hw.1.qA aq) dv (Ne.symm dj) t W
   rw[UY]at G;apply fa.step (o.trans G);rw[<-UU];have pn:=ko l;exact af _ _ _ _ _ _ q (dt _ (i3.trans _ _ _ hw.2 J)) (c_ _ aa) (by rw[ru dj];simp[iy t];rfl) uE (((f.UZ (.inr Z) (.inl Z) _ _).trace (xO n)).quiet H) ((cT.zc dj _ _ n).comm H) (I hw.1 dv)
  have K:∀(a b:dP) (w:da) (c1:d' dP) (sl:dB (V×V)) (T:Trace) (q:V->V),dR P N (k5 F fg) (mG F fg) (zB P dn Wg C d9 eo c4 Rd fg F z gC (v::vs)) a w->(∀w',oT Rd w w'->dR P L (oT Rd) (tr c4 Wg Rd) (BP P dn Wg C d9 eo c4 Rd ts fV gY vs) (xM (ds b) (BM gY)) w')->c1[0]?=U a->c1[c]?=U (parked (ds b) (qI d9 eo v fV gY) .select)->e5 P c c1 T q->hr c4 Wg Rd c 0 0 T->jt dn Wg d9 eo L KK w->fa P dO (crowd c1 w sl) T:=by
   intro a b A c1 sl T q dt hb cW l f cT hw;refine tp (mf:=parked (ds b) (qI d9 eo v fV gY) .select) (c:=c) (cM:=hr c4 Wg Rd c 0 0) (eX:=λw=>jt dn Wg d9 eo L KK w/\oT Rd A w) (y _ λw d h b hb=>h b hb) i3
    (λT fn pos es w w' h hw cP=>⟨h.m9 dj fn pos λe he=>zz de (cP.dq e he),zA de hw.1 cP,λb hb=>(cP.m_.block b (de.E0 b hb)).trans (hw.2 b hb)⟩) (λ_ _ h=>by exact h.1)
    (λM T g c1 w sl q o cW f O cT hw c'=>?_) dt c1 sl T q cW f (λ_=>⟨l,⟨rv (.inr (.inl Z)),by simp[parked],λx iK w' Ev=>by
     unfold H9;split
     .have Q:=Ev.1.lc;have h:=Ev.1.qA;have⟨s,r,Q⟩:=Q;simp[Goroutine.again,parked,qI,scase,rcase,Q,h]
     .rfl⟩⟩) cT ⟨hw,pp.refl _⟩
   have⟨ad,es,p,n,c_⟩:=c';have⟨s,r,dv⟩:=hw.1.lc;have X:=(O u).1;have W:=U0 f (.inl g_) dj X (agX de.ls);have⟨ops,G,H⟩:=agL (P:=P) (sl:=sl) (i:=0) (k:=0) (cs:=qI d9 eo v fV gY) cW (show stepG P (0==0) g w=_ from p) dv dj X Z W;rw[UY]at G;apply fa.step (o.trans G);rw[<-UU];have pn:=ko X;exact af _ _ _ _ _ _ q (c_ _ J) (hb _ (pp.trans _ _ _ hw.2 aa)) (by simp[iy cW];rfl) (by rw[ru (Ne.symm dj)];simp[pn]) (((f.UZ (.inl Z) (.inr Z) _ _).trace (xO n)).quiet H) ((cT.m9 dj _ _ n).comm H) (I hw.1 dv)
  refine EK (cM:=hr c4 Wg Rd c 0 0) (eX:=λw=>jt dn Wg d9 eo L KK w/\True) u (y _ λ_ _ _=>dM) i3 pp (λT fn pos es w w' h hw cP=>⟨h.m9 dj fn pos λe he=>zz de (cP.dq e he),zA de hw.1 cP,dM⟩) (λT fn pos es w w' h hw cP=>HC)
   (λw w' es _ cP=>T') (λw w' es _ cP b hb=>cP.m_.block b (de.E0 b hb)) (λ_ _ h=>by exact h.1) (λ_ _ h=>h.1)
   (λM T a b c1 w sl q o cW l f cT hw dt hb=>?_) (λM T a b c1 w sl q o cW l f cT hw dt hb=>?_) dt c1 sl T q hb cW l f cT ⟨hw,dM⟩
  .have⟨ad,es,p,n,c_⟩:=dt;have D:=hb.running (λ_ _ h=>h.1) pp.refl;have⟨s,r,dv⟩:=hw.1.lc;have Ez:=E4 f (i:=0) (.inl Z) (x:=b) (λe=>dN e.symm dj) (λ_ _=>l) (E5 D) d9 N;have E:=U1 (P:=P) (sl:=sl) (i:=0) cW (show stepG P (0==0) a w=_ from p) (λae Bt=>TT);exact fa.step (o.trans E) (B a b w _ _ _ q c_ hb (by simp[iy cW]) (by rwa[ru (Ne.symm dj)]) ((f.Nm (.inl Z) _).trace (xO n)) (cT.m9 dj _ _ n) hw.1)
  .have⟨D,es,p,n,c_⟩:=hb;have S:=dt.running (λ_ _ h=>by exact h.1) i3.refl;have⟨s,r,dv⟩:=hw.1.lc;have Ez:=E4 f (i:=c) (.inr Z) (x:=a) (λ_=>cW) (λe=>dN e dj) (E5 S)
   have E:=U1 (P:=P) (sl:=sl) (i:=c) (cases:=qI d9 eo v fV gY) l (show stepG P (c==0) b w=_ by rwa[Y]) (λae Bt=>by
    simp[qI]at Bt;rcases Bt with rfl|rfl
    .exact ways_send_none dv (eY _) (Ez d9 L)
    .exact agZ hw.1.qA (Ez eo N))
   exact fa.step (o.trans E) (K a b w _ _ _ q dt c_ (by rwa[ru dj]) (by simp[ko l]) ((f.Nm (.inr Z) _).trace (xO n)) (cT.zc dj _ _ n) hw.1)
end
end
section
open Go.Conc
open Go.ConcN (sumTo upd sumTo_upd upd_ne upd_same RelBy WgLive AsideCell RW)
open Go.ConcR (KK wgBlock WgAt stA smA rd wr mk DC0 Payload)
def fS(P:en)(dO:dr->da->Prop)(c4:V->Prop)(g:dP)(w:da):Prop:=
 ∀c1 sl T q,c1[0]?=U g->e5 P 0 c1 T q->kK c4 0 T->fa P dO (crowd c1 w sl) T
abbrev wn(c4:V->Prop):hJ->Prop:=mC λx=>tm c4 x.loc->x.kind≠.plain
theorem kK.dq{c4 d t}(h:kK c4 d t)(fn pos){es}(a:∀e∈es,wn c4 e):kK c4 d (t++g5 0 fn pos es):=
 h.app0 (λo b=>⟨lN o b,EL a o b,MY a o b⟩) (by rw[uJ,EM a,h.hears])
theorem kK.book{c4 d t}(h:kK c4 d t)(fn pos){es}(b:∀o∈g5 0 fn pos es,∀x,o.act.touch? =U x->tm c4 x.loc->x.kind≠.plain)(dQ:∀e∈es,∀a,e.loc≠.mark (.release a)):kK c4 (deafBehind d es) (t++g5 0 fn pos es):=
 h.app0 (λo xx=>⟨lN o xx,b o xx,λa e=>HE⟩) (by rw[uJ,h.hears])
section
variable {P:en} {dO:dr->da->Prop} {c4:V->Prop} {cU:da->da->Prop} {c3:da->da->d' hJ->Prop} {dy:dP->da->Prop}
theorem fS.zC(b:me cU)(o:∀w w' es,c3 w w' es->∀e∈es,wn c4 e){g w}(h:dR P N cU c3 dy g w)(k:∀g w,dy g w->fS P dO c4 g w):fS P dO c4 g w:=by
 intro c1 sl T q cW a cT
 induction h generalizing c1 sl T q with
 | @stop g w h=>exact k g w (h w (b.refl w)) c1 sl T q cW a cT
 | @step g w f fr h _ p=>
  have r:∀(n:V) (c1:d' dP) (c2:da) (sl:dB (V×V)) (T:Trace) (q:V->V),sumTo c1.size q<=n->cU w c2->c1[0]?=U g->e5 P 0 c1 T q->kK c4 0 T->fa P dO (crowd c1 c2 sl) T:=by
   intro n
   induction n using to with
   |_ n s=>
    intro c1 c2 sl T q c0 hw cW a cT;have⟨i,x,d,t,cK,u,l⟩:=EJ (P:=P) (w:=c2) (sl:=sl) (a.BC cW (rv (.inl f)) λh=>dN h R) ⟨0,g,cW,f⟩;have c:=(kL.1 cK).1;have j:=b.trans _ _ _ hw (b.draw c2 d);rcases H3 i with rfl|xF
    .obtain rfl:x=g:=by simp_all
     have⟨v,cP⟩:=h _ j;exact oR l cW v (p _ j _ _ _ q (i4 c) (a.own (.inl Z) c _ _ _) (cT.dq _ _ (o _ _ _ cP)))
    .have⟨fo,g',es,y,d6,z,A⟩:=a.H4 xF R cK u;have B:(i==0)=L:=hy;have C:=wh (P:=P) (sl:=t) (i:=i) cK (by rw[B];exact z (c2.at d));refine fa.step (l.trans C) (s (sumTo c1.size (upd q i fo)) ?_ _ _ _ _ (upd q i fo) ?_ j (nv R cW (woken_run f)) (a.slip c _ _ A) (cT.mute R λop m=>⟨lN op m,zu d6 op m⟩))
     .have:=H2 c y;omega
     .simp
  exact r _ c1 w sl T q (fi _) (b.refl _) cW a cT
def ag0(P:en)(dO:dr->da->Prop)(c4:V->Prop)(g:dP)(w:da):Prop:=
 g.status=.running/\ ∀c2,AtRel w c2->∃v es,stepG P N g c2=.ended (.done v) c2 es/\ (∀e∈es,wn c4 e) /\dO v c2
theorem BQ:me AtRel:=⟨λw=>⟨w.drawn,Z⟩,λa b c ⟨d,h⟩ ⟨e,f⟩=>⟨e,by subst h;subst f;rfl⟩,λw d=>⟨d,Z⟩⟩
theorem fS.finish{g w}(h:ag0 P dO c4 g w):fS P dO c4 g w:=by
 intro c1 sl T q cW a cT
 have r:∀(n:V) (c1:d' dP) (c2:da) (sl:dB (V×V)) (T:Trace) (q:V->V),sumTo c1.size q<=n->AtRel w c2->c1[0]?=U g->e5 P 0 c1 T q->kK c4 0 T->fa P dO (crowd c1 c2 sl) T:=by
  intro n
  induction n using to with
  |_ n s=>
   intro c1 c2 sl T q c0 hw cW a cT;have⟨i,x,d,f,cK,t,k⟩:=EJ (P:=P) (w:=c2) (sl:=sl) (a.BC cW (rv (.inl h.1)) λh=>dN h R) ⟨0,g,cW,h.1⟩;have l:=(kL.1 cK).1;have m:=BQ.trans _ _ _ hw (BQ.draw c2 d);rcases H3 i with rfl|xF
   .obtain rfl:x=g:=by simp_all
    have⟨v,es,u,z,A⟩:=h.2 _ m;have b:=runT_many_ended (P:=P) (sl:=f) (i:=0) cW (show stepG P (0==0) x (c2.at d)=_ from u);have o:=cT.dq x.frame.fn x.frame.place z;refine⟨0,crowd c1 c2 sl,_,c2.at d,T++g5 0 x.frame.fn x.frame.place es,?_,Z,?_,v,Z,A,o.clean,o.over,⟨λy c=>?_,Z⟩,λj y c dU=>?_⟩
    .rw[runNT,k,b]
    .unfold Go.step;simp_all
    .have⟨j,dU⟩:=List.mem_iff_getElem?.1 c;rw[Ii]at dU;exact⟨_,(a.old (1+j) y R R (by simpa[crowd]using dU)).leaves⟩
    .have B:=a.old j y R R c;refine⟨q j,?_⟩;have e:(T++g5 0 x.frame.fn x.frame.place es).deaf j (T++g5 0 x.frame.fn x.frame.place es).size=Deaf T j:=v' T (g:=j) (g':=0) R _ lN;rw[e];exact B.hears _
   .have⟨fo,g',es,C,d6,D,E⟩:=a.H4 xF R cK t;have F:(i==0)=L:=hy;have b:=wh (P:=P) (sl:=f) (i:=i) cK (by rw[F];exact D (c2.at d));refine fa.step (k.trans b) (s (sumTo c1.size (upd q i fo)) ?_ _ _ _ _ (upd q i fo) ?_ m (nv R cW (woken_run h.1)) (a.slip l _ _ E) (cT.mute R λop p=>⟨lN op p,zu d6 op p⟩))
    .have:=H2 l C;omega
    .simp
 exact r _ c1 w sl T q (fi _) (BQ.refl _) cW a cT
def Ij(P:en)(m:Mark)(Next:dP->da->Prop)(a:dP)(w:da):Prop:=a.status=.running/\ ∃d8,stepG P N a w=.go d8 w #[mk m] /\Next d8 w
variable [BG] {dn:eF} {Wg C d9 eo:V} {Rd fg F:V->Prop} {ts z fV gY:dr} {eP gC:dP->da->Prop}
variable (P dn Wg C d9 eo c4 Rd fg F ts z fV gY eP gC) in
def ag1(ls:I dr)(a:dP)(w:da):Prop:=
 a.status=.running/\ ∃d8 d7 es,stepG P N a w=.spawn d8 d7 w es/\ (∀e∈es,wn c4 e) /\jt dn Wg d9 eo L KK w/\
  dR P N (k5 F fg) (mG F fg) (zB P dn Wg C d9 eo c4 Rd fg F z gC ls) d8 w/\dR P L (oT Rd) (tr c4 Wg Rd) (BP P dn Wg C d9 eo c4 Rd ts fV gY ls) d7 w
theorem No{d}(f:me cU)(b:∀w w' es,c3 w w' es->∀e∈es,wn c4 e)(S:∀g w,dy g w->g.status=.running)
  (k:∀M T g c1 w sl q,stepT P M=runT P (crowd c1 w sl) 0->c1[0]?=U g->e5 P 0 c1 T q->kK c4 d T->dy g w->fa P dO M T)
  {a w}(h:dR P N cU c3 dy a w)(c1 sl T q)(cW:c1[0]?=U a)(O:e5 P 0 c1 T q)(cT:kK c4 d T):fa P dO (crowd c1 w sl) T:=
 tp (mf:=default) (c:=0) (cM:=kK c4 d) (eX:=λ_=>True) (have W:=λ_ _ h=>h;⟨λT i fn pos es h cW _ m=>h.mute cW λo j=>⟨lN o j,zu m o j⟩,W⟩) f (λT fn pos es w w' h _ cP=>⟨h.dq fn pos (b _ _ _ cP),dM⟩) S
  (λM T g c1 w sl q s cW O _ cT _ i=>k M T g c1 w sl q s cW O cT i) h c1 sl T q cW O (λh=>dN h R) cT dM
theorem fS.run(H:me cU)(E:∀w w' es,c3 w w' es->∀e∈es,wn c4 e)
  (de:∀c,c≠0->qH P dn Wg c C d9 eo c4 Rd fg F eP gC dO)(c':eo≠Wg)(dc:∀b,Rd b->¬c4 b)(ls)
  {a w}(h:dR P N cU c3 (Ij P .disable λa w=>dR P N cU c3 (Ij P .enable λa w=>dR P N cU c3 (ag1 P c4 dn Wg C d9 eo Rd fg F ts z fV gY gC ls) a w) a w) a w):fS P dO c4 a w:=by
 intro c1 sl T q cW O cT;refine No H E (λ_ _ h=>h.1) (λM T g c1 w sl q t cW O cT s=>have⟨_,g',o,db⟩:=s;have dh:=cT.book g.frame.fn g.frame.place (es:=#[mk .disable]) (EO Z) (EP dw);oR t cW o (No (d:=1) H E (λ_ _ h=>h.1) (λM T g c1 w sl q t cW O cT s=>have⟨_,g',o,db⟩:=s;have cX:=cT.book g.frame.fn g.frame.place (es:=#[mk .enable]) (EO Z) (EP dw);oR t cW o (No (d:=0) H E (λ_ _ h=>h.1) (λM T g c1 w sl q t cW O cT s=>?_) db _ _ _ q (i4 (iy cW)) (O.own (.inl Z) (iy cW) _ _ _) cX)) db _ _ _ q (i4 (iy cW)) (O.own (.inl Z) (iy cW) _ _ _) dh)) h c1 sl T q cW O cT;have⟨_,d8,m,es,o,v,D,c8,I⟩:=s
 have f:c1.size≠0:=by have:=iy cW;omega
 have S:=runT_crowd_spawn (P:=P) (sl:=sl) (i:=0) cW (show stepG P (0==0) g w=_ from o);apply fa.step (t.trans S);have K:=cT.dq g.frame.fn g.frame.place v
 have cM:=hr.af8 (Wg:=Wg) (Rd:=Rd) (c:=c1.size) K f (by rw[v' T (g':=0) (Ne.symm f) _ lN];exact O.above _ (fi _)) (λl ⟨x,e,k⟩ h=>by
   rcases h with⟨y,n,J⟩|⟨r,n,_⟩
   .rw[e]at n;cases n;exact dc _ k J
   .rw[e]at n;cases n)
  (x:={g:=0,fn:=g.frame.fn,pos:=g.frame.place,act:=.go c1.size}) (y:={g:=c1.size,fn:=m.frame.fn,pos:=g.frame.place,act:=.start}) g_ g_
 have Y:T++((g5 0 g.frame.fn g.frame.place es).push {g:=0,fn:=g.frame.fn,pos:=g.frame.place,act:=.go c1.size}).push {g:=c1.size,fn:=m.frame.fn,pos:=g.frame.place,act:=.start}
   =T++g5 0 g.frame.fn g.frame.place es++#[{g:=0,fn:=g.frame.fn,pos:=g.frame.place,act:=.go c1.size},{g:=c1.size,fn:=m.frame.fn,pos:=g.frame.place,act:=.start}]:=by apply U2;simp
 rw[Y];have A:=iy cW;refine agY (de c1.size f) c' ls d8 m w _ sl _ q c8 I ?_ ?_ ?_ cM D
 .rw[Array.getElem?_push_lt (by simpa using A)];simp
 .have e:c1.size=(c1.setIfInBounds 0 d8).size:=dw
  rw[e,Array.getElem?_push_size]
 .have B:=xO v (g:=0) (fn:=g.frame.fn) (pos:=g.frame.place);have G:e5 P c1.size c1 T q:=⟨λi x cK X k=>O.old i x cK R k,O.above⟩;have W:=(G.trace B).trace (u:=#[{g:=0,fn:=g.frame.fn,pos:=g.frame.place,act:=.go c1.size},{g:=c1.size,fn:=m.frame.fn,pos:=g.frame.place,act:=.start}]) (λop p=>by simp at p;rcases p with rfl|rfl<;>simp);refine⟨λi x cK X k=>?_,λj dU=>W.above j (by simp at dU;omega)⟩;rw[Array.getElem?_push,cS hy,ru R]at k;exact W.old i x cK X k
end
end
theorem qU{a A}(h:bif a then A else dA):a=N/\A:=by cases a<;>simp_all
section
variable {P:en} {T:fM} (cT:jL P T)
include cT
omit cT in
theorem V0{t}{z:dr}(b:p3 z.cells.toList (T t).zero=N)(M D):Cr M D ((T t).zero.map rz) z.cells:=by have h:=VS (T:=T) b M D;refine⟨h.size,λi y u a c=>?_⟩;have⟨v,d,e⟩:=h.den i y a;simp_all
theorem aib(F:I Field)(h:∀f∈F,(T f.type).k.known=N)(w):
  (F.mapM (m:=Sem) λf=>do pure (f.offset,<-sizeOf f.type)).run P w=.ok (F.map λf=>(f.offset,(T f.type).size)) w:=by
 induction F with
 |nil=>simp|cons f r i=>simp only[B7,hc,iE cT w (h f (mK ..)),hj,hU,i λg a=>h g (lX _ a),kS]
theorem aic{o:gL}{t:eF}{b:d' (V×fw)}{dC:fw->dp}{O:V->dB d4}{K:gp->Prop}(g4:o.op=.build t b)
  (h:match (T t).k with
  | .struct y=>ww O dC (Ip T y) ((T t).zero.map rz) b.toList λc=>qJ c λc=>K ⟨.agg c,[],cL⟩| .arr _ e=>ww O dC (λi=>U (i*(T e).size,(T e).size)) ((T t).zero.map rz) b.toList λc=>K ⟨.agg c,[],cL⟩|_=>dA):∃e,K e/\hE P o dC O e:=by
 split at h
 .rename_i y c_;have⟨F,G,cX,C,_⟩:=Cc cT c_;have⟨dh,A,dc,cP⟩:=I_ h;refine⟨_,Fy A,u6 λown M D a w cM c9 k=>have⟨z,H,j⟩:=N_ cT (t:=t) w Uc;have⟨d,u,l⟩:=cP own M D a w z.cells c9 k (V0 j M D);⟨.agg d,?_,Fp (s:=zN t (b.map λ(x:V×fw)=>(x.1,a.eval x.2))) ma (Vf _ _),.agg _ _ l.1 l.2⟩⟩
  have E:(F.mapM (m:=Sem) λf=>do pure (f.offset,<-sizeOf f.type)).run P w=.ok (F.map λf=>(f.offset,(T f.type).size)) w:=by rw[Array.mapM_eq_mapM_toList,Sem.run_map,aib cT F.toList (λf I=>C (f.offset,f.type) (by grind)) w];simp;apply U2;simp
  have q:(λi=>(F.map λf=>(f.offset,(T f.type).size))[i]?)=Ip T y:=by
   funext i;rw[<-cX];unfold Ip;rw[ir,BB,FK]
   cases F[i]?<;>rfl
  have g:((b.map λ(x:V×fw)=>(x.1,a.eval x.2)).toList)=b.toList.map λp=>(p.1,a.eval p.2):=dw
  have r:(execOp a.eval o).run P w=((zN t (b.map λ(x:V×fw)=>(x.1,a.eval x.2))).run P w).andThen λv w=>.ok (.value v) w:=by simp[execOp,g4]
  rw[r];simp only[zN,hc,H,hj,fx G,E,q,g,u,hU]
 .rename_i n e c_;have⟨G,B⟩:=Cb cT c_;have⟨dh,A,dc,cP⟩:=I_ h;refine⟨_,A,u6 λown M D a w cM c9 k=>have⟨z,H,j⟩:=N_ cT (t:=t) w Uc;have⟨d,u,l⟩:=cP own M D a w z.cells c9 k (V0 j M D);⟨.agg d,?_,Fp (s:=zN t (b.map λ(x:V×fw)=>(x.1,a.eval x.2))) ma (Vf _ _),.agg _ _ l.1 l.2⟩⟩;have g:((b.map λ(x:V×fw)=>(x.1,a.eval x.2)).toList)=b.toList.map λp=>(p.1,a.eval p.2):=dw
  have r:(execOp a.eval o).run P w=((zN t (b.map λ(x:V×fw)=>(x.1,a.eval x.2))).run P w).andThen λv w=>.ok (.value v) w:=by simp[execOp,g4]
  rw[r];simp[zN,hc,H,hj,fx G,iE cT w B,g,u,hU]
 simp_all
omit cT in
theorem I'(cR):∀n dD,(hz.chunk cR n dD).length=n
 |0,_=>rfl|n+1,dD=>by simp[hz.chunk,I' cR n]
omit cT in
theorem V2(cR):∀n dD i,i<n->(hz.chunk cR n dD)[i]?=U ((dD.drop (i*cR)).take cR)
 |0,_,_,h=>R|n+1,dD,0,_=>by simp[hz.chunk]
 |n+1,dD,i+1,h=>by
  simp[hz.chunk,I0];rw[V2 cR n (dD.drop cR) i R,Cs];grind
theorem aid{e}(k:(T e).k.known=N){z:dr}(m:p3 z.cells.toList (T e).zero=N)(n M D):
  Cr M D (BZ T e n) ((NU (n*(T e).size)).map (z.cells[·%z.cells.size]!)):=by
 have⟨h,f⟩:=zX m;have d:=Fu cT k;have o:=p4 cT k
 have s:z.cells.size=(T e).size:=by rw[<-d,<-h];simp
 refine⟨by simp[BZ],λi y u b a=>?_⟩;simp only[BZ,ir]at b;simp only[BB]at a
 by_cases cK:i<n*(T e).size
 .rw[Ja cK]at b;simp only[jB,fC]at b;rw[V3]at a;rw[if_pos cK]at a;simp at a;have q:i%(T e).size<(T e).size:=lp _ o;have cP:(T e).zero[i%(T e).size]?=U ((T e).zero[i%(T e).size]' R):=fq R;have⟨v,dI,g,j⟩:=f _ _ cP
  have c:u=v:=by rw[<-a,s];have:=zg;have l:i%(T e).size<z.cells.size:=R;rw[getElem!_pos z.cells _ l];rw[zt l]at this;simpa using this
  rw[<-b,c]
  have:(T e).zero.getD (i%(T e).size) .km=(T e).zero[i%(T e).size]' R:=by simp[List.getD,cP]
  rw[this];exact VO (g M) j
 simp_all
omit cT in
theorem aie{own M a D O h w}(Q:er own a D h w)(s1:gS M a)(eB:o1 O h){c dx cs}
  (j:∀b l cR cN,b∈g8.cells O c->O b=U (.row l cR cN)->h b=U (.row l cR N))(i:conv.cells O c=U dx)(cP:Cr M D c cs):
  dx.length=c.length/\ ∀(k:V) (d),dx[k]?=U d->∃u,cs[k]?=U u/\e4 a d u:=by
 have⟨x,o⟩:=Cm i;refine⟨x,λk d m=>?_⟩;have⟨z,fV,gY,_⟩:=o k d m;have e:=(f_.1 fV).1
 have f:cs[k]?=U (cs[k]'(by rwa[cP.1])):=dw
 refine⟨_,f,wG Q (by rwa[Og eB]) ?_ ((cP.2 k z _ fV f).mono s1)⟩;have:=x4 (ho:=O) j eB (.agg c) (λb p=>by assumption)
 have g:∀(c:I dp) (O:V->dB d4),g8.cells O c=[]->∀(k:V) (z:dp),c[k]?=U z->g8.one O z=[]:=by
  intro c O
  induction c with
  |nil=>simp_all|cons q r s=>intro n k z g;simp[g8.cells,zT]at n;grind
 exact g _ _ (by assumption) k z fV
omit cT in
theorem V4{own M b D O f w}(j:∀c,w.heap.size<=c->own c)(m:gS M b)(c0:jx own M b)(g:fp b w)(c9:er own b D f w)
  {e d l cR vs eV cap}(i:e.O O=eS (hT (U d) f) d (U (.row l cR L)))(k:e.f5=U d)(v:e.fj=.own d)
  (r:lT b vs l cR)(a:l.length<=cap)(s:cap*cR<=vs.size):
  dO own M D O w e (.slice (U ⟨w.heap.size,0,cL⟩) l.length cap) (w.alloc (.cells vs eV)):=by
 refine I4 j m c0 g c9 Z Z Z Z (d:=d) (B:=.row l cR L) (cR:=cR) (len:=l.length) i k ?_ ?_
 .exact⟨vs,eV,I3 w _,Z,Z,Z,fG (mh _ a) s,r,sq,λ_ o=>I2 g o⟩
 .rw[v];exact .own d ⟨w.heap.size,cR,vs.size,l.length⟩ cap (gP _ _ _) a s
theorem aif{o:gL}{t:eF}{n:V}{A:d' (V×fw)}{d:Tmp}{dC:fw->dp}{O:V->dB d4}{K:gp->Prop}(g4:o.op=.buildSlice t n A)
  (h:match (T t).k with
   | .slice e=>ww O dC (λi=>U (i*(T e).size,(T e).size)) (BZ T e n) A.toList λc=>jZ (n*(T e).size<=16777216) (match conv.cells O c with
    |some dD=>K ⟨.own d,gh O (g8.cells O c)++[(d,.row (hz.chunk (T e).size n dD) (T e).size L)],U d⟩
    |none=>dA)
   |_=>dA):∃e,K e/\hE P o dC O e:=by
 split at h
 .rename_i e c_;have⟨W,m⟩:=kR cT c_;have⟨H,h,dv,cP⟩:=I_ h;have⟨af,h⟩:=k_ h
  cases C:conv.cells O H with
  |none=>simp_all
  |some dD=>
   simp[C]at h;refine⟨_,h,rI λown M D a w F dt c9 J=>?_⟩
   have⟨q,z,R,y,X,S⟩:∃q z,P.info? e=U q/\q.size=(T e).size/\q.zero=U z/\p3 z.cells.toList (T e).zero=N:=by have⟨_,q,_,cK,_,c',_,⟨z,X,dj⟩,_⟩:=(lW cT m).desc;simp_all
   have⟨Y,s1,aa,fA,Q,eB,ab⟩:=wF (ho:=O) (g8.cells O H) M O dt c9 (.refl O);have⟨r,dI,de⟩:=cP own M D a w _ c9 J (aid cT m S n M D);have db:((A.map λ(x:V×fw)=>(x.1,a.eval x.2)).toList)=A.toList.map λp=>(p.1,a.eval p.2):=dw;have⟨ac,ad⟩:=aie Q s1 eB (λb l cR cN hb e=>ab b l cR cN (.inl hb) e) C de
   have B:H.length=n*(T e).size:=by rw[dv];simp[BZ]
   have G:lT Y r (hz.chunk (T e).size n dD) (T e).size:=by
    have E:∀(i:V) (u:I c3),(hz.chunk (T e).size n dD)[i]?=U u->i<n/\u=(dD.drop (i*(T e).size)).take (T e).size:=by
     intro i u f
     have cK:i<n:=by have:=(f_.1 f).1;rwa[I']at this
     rw[V2 _ n dD i cK]at f;exact⟨cK,by simpa using f.symm⟩
    have cM:∀i,i<n->i*(T e).size+(T e).size<=dD.length:=by
     intro i cK;rw[ac,B]
     calc i*(T e).size+(T e).size=(i+1)*(T e).size:=by rw[qR,FL]
      _<=n*(T e).size:=mh _ cK
    refine⟨λi u f=>?_,λi j u ag f g=>?_⟩
    .obtain⟨cK,rfl⟩:=E i u f;have:=cM i cK;simp;omega
    .obtain⟨cK,rfl⟩:=E i u f;rw[u_]at g;split at g
     .rw[Ii]at g;exact ad _ _ g
     .cases g
   have k:=V4 (d:=d) (eV:=e) (cap:=n) F s1 fA aa Q (e:=⟨.own d,gh O (g8.cells O H)++[(d,.row (hz.chunk (T e).size n dD) (T e).size L)],U d⟩) (vs:=r) (l:=hz.chunk (T e).size n dD) (cR:=(T e).size) (ah2 _ _ _ _) Z Z G (by rw[I'];exact fi _) (by rw[de.1,B];exact fi _);rw[I']at k;refine⟨_,_,?_,Fp (s:=IG t n (A.map λ(x:V×fw)=>(x.1,a.eval x.2))) ma (ahp _ _ _),k⟩
   have ae:(execOp a.eval o).run P w=((IG t n (A.map λ(x:V×fw)=>(x.1,a.eval x.2))).run P w).andThen λv w=>.ok (.value v) w:=by simp[execOp,g4]
   rw[ae]
   by_cases c0:n=0
   .subst c0;have dc:((NU (0*(T e).size)).map (z.cells[·%z.cells.size]!))=#[]:=dw;rw[dc]at dI;simp only[IG,hc,fx W,hj,iE cT w m];have cU:(NU 0).map (λ_=>(default:dr))=#[]:=dw;have dh:=dI;simp;rw[cU,dh];simp[newObj];rfl
   .have ho:¬n*q.size=0:=by
     rw[y];have:=p4 cT m;intro cW;rcases V5.1 cW with h|h<;>omega
    have cX:¬n*q.size>2^24:=by rw[y];omega
    rw[run_buildSlice (P:=P) w t e n _ r q z W R X cX ho (by rwa[y,db])];rfl
 simp_all
theorem aih{o t x y}{d:Tmp}{dC O}{K:gp->Prop}{n c k1 eK}(p:o.op=.makeSlice t x y)(I:dC x=.d (.int k1 n))(Q:dC y=.d (.int eK c)){e}(V:(T t).k=.slice e)
 (h:jZ (0<=n/\n<=c) (sB c.toNat (T e).bytes (K ⟨.own d,[(d,.row (eQ n.toNat (T e).zero) (T e).size L)],U d⟩))):∃e,K e/\hE P o dC O e:=by
 have⟨cU,k⟩:=kR cT V;have⟨⟨cW,m⟩,h⟩:=k_ h;have⟨ab,ac,h⟩:=Cf h;refine⟨_,h,rI λown M D a w q W c9 B=>?_⟩;have cX:=kH (I▸B x);have cM:=kH (Q▸B y)
 have⟨b,z,g,u,X,G,H⟩:∃b z,P.info? e=U b/\b.size=(T e).size/\b.bytes=(T e).bytes/\b.zero=U z/\p3 z.cells.toList (T e).zero=N:=by have⟨_,b,_,cK,_,c',hb,⟨z,G,dj⟩,_⟩:=(lW cT k).desc;simp_all
 have⟨fV,gY⟩:=zX H;have A:=Fu cT k;have db:=p4 cT k
 have dh:z.cells.size=(T e).size:=by rw[<-A,<-fV];simp
 have Y:(c.toNat:J)=c:=R
 have r:=run_make (P:=P) w t e b z cU g G k1 eK n c cW m (by grind) R
 have s:lT M (madeCells z.cells (c.toNat*b.size)) (eQ n.toNat (T e).zero) (T e).size:=by
  refine⟨λi aa l=>?_,λi j aa S l f=>?_⟩
  .grind
  .rw[tI]at l;split at l
   .rename_i cK
    cases l
    have dc:=(f_.1 f).1;rw[A]at dc;have⟨v,dI,de,_⟩:=gY j S f;refine⟨v,?_,de M⟩
    have E:i*(T e).size+j<c.toNat*b.size:=by
     rw[u]
     calc i*(T e).size+j<i*(T e).size+(T e).size:=R
      _=(i+1)*(T e).size:=Mw
      _<=c.toNat*(T e).size:=mh _ R
    simp[madeCells,BB,V3,if_pos E,jB,fC];rw[dh,Jb,Jc,nH dc];grind
   .cases l
 have F:=V4 (d:=d) (eV:=e) (cap:=c.toNat) (O:=O) q (.refl M) (.refl own M) W c9 (e:=⟨.own d,[(d,.row (eQ n.toNat (T e).zero) (T e).size L)],U d⟩) Z Z Z s hy (by rw[size_madeCells,u];omega)
 have C:=Conc.events_make (P:=P) w t e b z cU g G k1 eK n c cW m (by grind) R (by grind) #[]
 refine⟨_,_,?_,tF (by simp[execOp,p,cX,cM,r,C]),by omega⟩;simp[execOp,p,cX,cM,r]
end
def V6{M d v}(h:pY.one d=N)(cP:e4 M d v):v.oneCell'=N:=by cases cP<;>simp[pY.one]at h<;>rfl
def FM{cR l}(h:gZ cR l=N):∀(i:V) (e),l[i]?=U e->e.length=cR/\ ∀d∈e,pY.one d=N:=by intro i e a;simp[gZ,of]at h;have:=h e (jY a);simp[BX,lV,of]at this;simp_all
def Oo{P}(w a es){u}(b:w.cell? a=U u):∀dq∈(load a).events P w es,dq∈es\/dq.sync=L/\dq.loc=.cell a:=by intro dq h;rw[Jd,b]at h;grind
def V7(a:g3)(n):(a.add n).block=a.block:=by unfold o0;split<;>rfl
def Je{P}(a):∀n i c w es,(∀j,j<n->(w.cell? (a.add (i+j))).isSome)->
  ∀dq∈(loadCellsFrom a i n c).events P w es,dq∈es\/dq.sync=L/\ ∃eb,dq.loc=.cell eb/\eb.block=a.block
 |0,_,_,_,_,_=>λdq h=>.inl (by assumption)
 |n+1,i,c,w,es,e=>λdq h=>by
  simp only[loadCellsFrom,jz]at h;have⟨u,b⟩:=Option.isSome_iff_exists.1 (e 0 R);simp at b
  have r:(load (a.add i)).run P w=.ok u w:=by simp[b]
  rw[r]at h;rcases Je a n (i+1) (c.push u) w _ (λj f=>by grind) dq h with h|h
  .rcases Oo w _ es b dq h with h|⟨Q,d⟩
   .grind
   .exact .inr ⟨Q,_,d,V7 a i⟩
  simp_all
structure tJ(P:en)(own:V->Prop)(M:eI)(w:da)(u:dr)(l:I (I c3))(cR:V)(vs:d' dr):Prop where
 size:vs.size=l.length*cR
 row:lT M vs l cR
 one:gZ cR l=N->∀v∈vs.toList,v.oneCell'=N
 run:∀w':da,(∀a,(w.cell? a).isSome->w'.cell? a=w.cell? a)->(lx cR l.length u).run P w'=.ok vs w'
 rd:∀(w':da) (es:d' hJ),(∀a,(w.cell? a).isSome->w'.cell? a=w.cell? a)->∀dq∈(lx cR l.length u).events P w' es,dq∈es\/h7 own M dq
def zY{i j n cR:V}(cK:i<n)(a:j<cR):i*cR+j<n*cR:=by
 calc i*cR+j<i*cR+cR:=R
  _=(i+1)*cR:=Mw
  _<=n*cR:=mh _ cK
def V9{k n cR:V}(a:k<n*cR):∃i j,k=i*cR+j/\i<n/\j<cR:=by
 have s:0<cR:=by
  rcases H3 cR with h|h
  .simp_all
  .exact h
 refine⟨k/cR,k%cR,?_,?_,lp _ s⟩
 .have:=Nat.div_add_mod k cR;grind
 .exact Nat.div_lt_of_lt_mul (by grind)
def Ct{P own M w l cR}(f off cap)(val:V->V->dr)(n:∀(i:V) (e),l[i]?=U e->e.length=cR)
  (x:∀i j e d,l[i]?=U e->e[j]?=U d->w.cell? ⟨f,off+i*cR+j,cL⟩=U (val i j))
  (cP:∀i j e d,l[i]?=U e->e[j]?=U d->e4 M d (val i j))(t:∀(i j:V) (e d),l[i]?=U e->e[j]?=U d->own f\/ ∃o v,M f o=U v):
  ∃vs,tJ P own M w (.slice (U ⟨f,off,cL⟩) l.length cap) l cR vs:=by
 have y:∀k,k<l.length*cR->∃i j e d,k=i*cR+j/\l[i]?=U e/\e[j]?=U d:=by intro k m;have⟨i,j,q,cK,c⟩:=V9 m;have b:=fq cK;have A:=n i _ b;exact⟨i,j,l[i],l[i][j],q,b,fq R⟩
 have s:∀i j,j<cR->(i*cR+j)/cR=i/\ (i*cR+j)%cR=j:=by
  intro i j c
  have:0<cR:=R
  rw[Jb i cR];exact⟨by rw[Nat.mul_add_div this,Nat.div_eq_of_lt c,Cu],by rw[Jc,nH c]⟩
 refine⟨((List.range (l.length*cR)).map λk=>val (k/cR) (k%cR)).toArray,by simp,⟨n,λi j e d b c=>?_⟩,λr v cY=>?_,λw' p=>?_,λw' es p dq g=>?_⟩
 .have cK:=(f_.1 b).1;have a:=(f_.1 c).1;rw[n i e b]at a;refine⟨val i j,?_,cP i j e d b c⟩;simp[List.getElem?_toArray,ir,Ja (zY cK a),jB,(s i j a).1,(s i j a).2]
 .simp at cY;obtain⟨k,m,rfl⟩:=cY;obtain⟨i,j,e,d,rfl,b,c⟩:=y k m;have a:=(f_.1 c).1;rw[n i e b]at a;rw[(s i j a).1,(s i j a).2];exact V6 ((FM r i e b).2 d (jY c)) (cP i j e d b c)
 .simp[lx];rw[run_loadCells w' ⟨f,off,cL⟩ (l.length*cR) (λk=>val (k/cR) (k%cR)) λk m=>?_];obtain⟨i,j,e,d,rfl,b,c⟩:=y k m;have a:=(f_.1 c).1;rw[n i e b]at a;rw[(s i j a).1,(s i j a).2,mL,p _ (by grind)];grind
 .simp[lx]at g
  rcases Je (P:=P) ⟨f,off,cL⟩ (l.length*cR) 0 #[] w' es (λk m=>by
   obtain⟨i,j,e,d,rfl,b,c⟩:=y k m;have u:=x i j e d b c
   rw[mM,mL,show off+(i*cR+j)=off+i*cR+j by omega,p _ (by rw[u];rfl),u];rfl) dq g with h|⟨Q,eb,z,B⟩
  .grind
  .rcases H3 (l.length*cR) with cW|cW
   .rw[cW]at g;exact .inl (by assumption)
   .have⟨i,j,e,d,_,b,c⟩:=y 0 cW;refine .inr ?_;unfold h7;grind
def wI{P own M w cR}(a c):tJ P own M w (.slice a 0 c) [] cR #[]:=by
 refine⟨dw,⟨λi e h=>qB,λi j e d h=>qB⟩,λ_ v cY=>zn,λw' _=>?_,λw' es _ dq b=>.inl ?_⟩
 .cases a with|none=>rfl|some a=>simp[lx,wJ,Nat.zero_mul];rfl
 .cases a with|none=>assumption|some a=>simpa[lx,loadCells,loadCellsFrom]using b
def Jf{P own M D O w}(c9:er own M D O w){b dz n c l cR cN}(hb:O b=U (.row l cR cN)){u}(cP:dZ M D (.win b dz n c) u)(y:dz+n<=l.length):
  ∃vs k base cM,u=.slice (U ⟨cM,base,cL⟩) ((l.drop dz).take n).length k/\tJ P own M w u ((l.drop dz).take n) cR vs:=by
 have o:((l.drop dz).take n).length=n:=hy
 cases cP with
 |jv _ _ _ _ _ a=>rw[(c9.fE b).2 a]at hb;cases hb
 |win _ _ _ _ cM k base a c0 dj c_ p=>
  have⟨q,cs,eV,r,z,s,A,B,f,C⟩:=c9.at_ b _ cM hb a;rw[o]
  by_cases cW:n=0
  .subst cW;exact⟨#[],k,base,cM.blk,Z,by rw[List.take_zero];exact wI _ k⟩
  .have t:base=dz*cM.cR:=by
    rcases p with h|h
    .exact h
    .omega
   subst t
   have g:∀(i:V) (e:I c3),((l.drop dz).take n)[i]?=U e->l[dz+i]?=U e:=by
    intro i e he;rw[u_]at he;split at he
    .simp_all
    .cases he
   have⟨vs,E⟩:=Ct (P:=P) (M:=M) (w:=w) (l:=(l.drop dz).take n) (cR:=cR) cM.blk (dz*cM.cR) k (λi j=>(cs[(dz+i)*cR+j]?).getD undef) (λi e he=>f.len _ e (g i e he)) (λi j e d he dU=>by
     have⟨v,m,x⟩:=f.den _ j e d (g i e he) dU
     rw[sJ r,<-s,show dz*cR+i*cR+j=(dz+i)*cR+j by grind,m];rfl) (λi j e d he dU=>by
     have⟨v,m,x⟩:=f.den _ j e d (g i e he) dU
     simp_all) (λ_ _ _ _ _ _=>.inl q)
   grind
def Oq{P cR v O K}(h:BY cR v O K):
 ∃l,K l/\ ∀own M D w u,fp M w->er own M D O w->dZ M D v u->∃a c vs,u=.slice a l.length c/\tJ P own M w u l cR vs/\ ∀v∈vs.toList,v.oneCell'=N:=by
 unfold BY at h;split at h
 .rename_i l;have⟨f,h⟩:=k_ h;refine⟨l,h,λown M D w u dt c9 cP=>?_⟩
  cases cP with
  |d _ _ cP=>
   cases cP with
   |emp a c=>exact⟨a,c,#[],Z,wI a c,λv cY=>zn⟩
   |dm _ b off cap g val dv c' d6 t=>
    have s:=λi e he=>(c' i e he).symm.trans (FM f i e he).1
    have⟨vs,m⟩:=Ct (P:=P) (own:=own) (M:=M) (w:=w) b off cap val (λi e he=>(FM f i e he).1) (λi j e d he dU=>by
     have:=s i e he;subst this
     exact dt _ _ _ (d6 i j e d he dU)) t (λi j e d he dU=>.inr ⟨_,_,d6 i j e d he dU⟩)
    exact⟨_,_,vs,Z,m,m.one f⟩
 .refine⟨[],h,λown M D w u dt c9 cP=>?_⟩
  cases cP with
  |nil a=>exact⟨a,0,#[],Z,wI a 0,λv cY=>zn⟩
 .rename_i b;split at h
  .rename_i l g cN hb
   cases c':d3 g cR with
   |false=>simp_all
   |true=>
    simp[c',fF]at h;have:=gE c';subst this;have⟨f,h⟩:=k_ h;refine⟨l,h,λown M D w u dt c9 cP=>?_⟩
    cases cP with
    |own _ cM cap o c0 dj=>
     have⟨x,cs,eV,y,s,B,z,C,r,E⟩:=c9.at_ b _ cM hb o
     have⟨vs,m⟩:=Ct (P:=P) (M:=M) (w:=w) cM.blk 0 cap (λi j=>(cs[i*g+j]?).getD undef) r.len (λi j e d he dU=>by
      have⟨v,p,q⟩:=r.den i j e d he dU
      rw[sJ y,mM,p];rfl) (λi j e d he dU=>by
      have⟨v,p,q⟩:=r.den i j e d he dU
      simp_all) (λ_ _ _ _ _ _=>.inl x)
     rw[<-z];exact⟨_,_,vs,Z,m,m.one f⟩
    |ib _ a o=>
     have⟨F,G,e⟩:=c9.iX b o;rw[hb]at e;cases e
     exact⟨a,0,#[],Z,wI a 0,λv cY=>zn⟩
    |ju _ _ o=>rw[(c9.fE b).2 o]at hb;cases hb
  simp_all
 .rename_i b dz n c;split at h
  .rename_i l g cN hb
   cases c':d3 g cR with
   |false=>simp_all
   |true=>simp[c',fF]at h;have:=gE c';subst this;have⟨⟨A,f⟩,h⟩:=k_ h;exact⟨_,h,λown M D w u dt c9 cP=>have⟨vs,k,base,cM,p,q⟩:=Jf (P:=P) c9 hb cP A;⟨_,_,vs,p,q,q.one f⟩⟩
  simp_all
 simp_all
def Ot{M cs vs c l r cR}(Q:lT M cs l cR)(f:lT M vs r cR)
  (h:∀k,k<l.length*cR->c[k]?=cs[k]?)(n:∀k,k<r.length*cR->c[l.length*cR+k]?=vs[k]?):lT M c (l++r) cR:=by
 refine⟨λi e a=>?_,λi j e d a g=>?_⟩
 .by_cases cK:i<l.length
  .rw[wH cK]at a;exact Q.len i e a
  .rw[x7 R]at a;exact f.len _ e a
 .have b:=(f_.1 g).1
  by_cases cK:i<l.length
  .rw[wH cK]at a;rw[Q.len i e a]at b;rw[h _ (zY cK b)];exact Q.den i j e d a g
  .rw[x7 R]at a;rw[f.len _ e a]at b;obtain⟨m,rfl⟩:∃m,i=l.length+m:=⟨i-l.length,R⟩;simp at a;have o:=(f_.1 a).1;rw[qR,FB,n _ (zY o b)];exact f.den m j e d a g
section
open Go.Conc Go.Conc.Lib
open Go.ConcR (KK WgAt stA mk)
open Go.ConcX.Gen
def DX(c4:V->Prop)(_ _:da)(es:d' hJ):Prop:=∀e∈es,wn c4 e
@[reducible] def auR(c4:V->Prop)(Wg C:V)(hC:¬c4 C):Go.ConcX.Shy Wg C where
 ok:=λact=>(∀x,act.touch? =U x->tm c4 x.loc->x.kind≠.plain) /\ ∀a,act≠.mark (.release a)
 atomicWg:=λa wr h=>⟨λx c _=>by simp[lo]at c;subst c;simp,by simp⟩
 readWg:=λa h=>⟨λx c _=>by simp[lo]at c;subst c;simp,by simp⟩
 writeWg:=λa h=>⟨λx c _=>by simp[lo]at c;subst c;simp,by simp⟩
 theirs:=λa wr h=>⟨λx c hb=>by
  simp[lo]at c;subst c
  rcases hb with⟨b,hb,c'⟩|⟨r,hb,_⟩
  rotate_left
  ·cases hb
  have e:a=b:=by simpa using hb
  subst e
  exact dN (h▸c') hC,by simp⟩
 disable:=⟨by simp[lo],by simp⟩
 enable:=⟨by simp[lo],by simp⟩
 relMerge:=⟨by simp[lo],by simp⟩
 acquire:=⟨by simp[lo],by simp⟩
 go1:=⟨by simp[lo],by simp⟩
 start:=⟨by simp[lo],by simp⟩
 stop:=λ_ _=>True
section
variable {P:en} {c4:V->Prop} {Wg C:V} [Go.ConcX.Payload] {cM:WgLink}
theorem auT(Wg):(#[.pointer (U ⟨Wg,0,cL⟩),.int .i64 1]:d' dr)++kM 115 undef=#[.pointer (U ⟨Wg,0,cL⟩),.int .i64 1,undef,undef,undef,undef,undef,undef,undef,undef,undef,undef,undef,undef,undef,undef,undef,undef,undef,undef,undef,undef,undef,undef,undef,undef,undef,undef,undef,undef,undef,undef,undef,undef,undef,undef,undef,undef,undef,undef,undef,undef,undef,undef,undef,undef,undef,undef,undef,undef,undef,undef,undef,undef,undef,undef,undef,undef,undef,undef,undef,undef,undef,undef,undef,undef,undef,undef,undef,undef,undef,undef,undef,undef,undef,undef,undef,undef,undef,undef,undef,undef,undef,undef,undef,undef,undef,undef,undef,undef,undef,undef,undef,undef,undef,undef,undef,undef,undef,undef,undef,undef,undef,undef,undef,undef,undef,undef,undef,undef,undef,undef,undef,undef,undef,undef,undef]:=cV
set_option maxRecDepth 100000 in
theorem auU(H:WgLib P cM)(hC:¬c4 C){b₀:Frame}{a₀ ops₀ i₀ rest₀ k₀ cs dy w}(hw:gF cM.tWg Wg w 0 0)
  (cT:∀d,dR P N AtRel (DX c4) dy (G (b₀.at (a₀.put ((ops₀[i₀]?).bind (·.dst)) (.tuple #[])) (.inRegion ops₀ rest₀::k₀)) cs) ((w.setCell (stA Wg) (.int .u64 KK)).at d)):
  dR P N AtRel (DX c4) (Ij P .disable λa w=>dR P N AtRel (DX c4) (Ij P .enable λa w=>dR P N AtRel (DX c4) dy a w) a w)
   (G ((base cM.add).at ⟨#[.pointer (U ⟨Wg,0,cL⟩),.int .i64 1]++kM 115 undef,[]⟩ [.code (body_add cM)]) (b₀.at a₀ (.inRegion ops₀ (i₀::rest₀)::k₀)::cs)) w:=by
 rw[auT]
 letI:=auR c4 Wg C hC
 have i:∀a b es,Go.Conc.DE (ConcX.EvS Wg C) a b es->DX c4 a b es:=λa b es h e he=>by have h:=h e he;have⟨_,Q,c,f,j,du,dY⟩:=h;refine⟨du,λm=>f ?_,λm=>j ?_,λa m=>dY a ?_⟩<;>have⟨l,w,s⟩:=e<;>simp only at m<;>subst m<;>cases w<;>cases s<;>rfl
 have k:=ConcX.Gen.addPos (Wg:=Wg) (C:=C) (b₀:=b₀) (a₀:=a₀) (ops₀:=ops₀) (i₀:=i₀) (rest₀:=rest₀) (k₀:=k₀) (cs:=cs) (mT:=0)
  (StopG:=λg c2=>g=G (b₀.at (a₀.put ((ops₀[i₀]?).bind (·.dst)) (.tuple #[])) (.inRegion ops₀ rest₀::k₀)) cs/\ ∃d,c2=(w.setCell (stA Wg) (.int .u64 KK)).at d) H w hw (Goes.stop λc2 ⟨d,h⟩=>⟨Z,d,h⟩)
 refine(dR.sw k).mono (λ_ _ h=>h) i λg c2 h=>have⟨Q,d8,c5,n,f⟩:=h;⟨Q,d8,c5,(dR.sw f).mono (λ_ _ h=>h) i λg c2 h=>have⟨Q,d8,c5,n,f⟩:=h;⟨Q,d8,c5,((dR.sw f).mono (λ_ _ h=>h) i λg c2 h=>h).bind BQ.refl λg c2 h=>?_⟩⟩;obtain⟨rfl,d,rfl⟩:=h;exact cT d
end
end
theorem Wm(n):∀r c,c<=n->Jl n r c<=2*n+192
 |0,c,h=>by simp[Jl];omega
 |r+1,c,h=>by
  simp[Jl];split
  .omega
  .by_cases a:c+(c+768)/4<=n
   .exact Wm n r _ a
   .have s:∀(r c:V),n<=c->Jl n r c=c:=by
     intro r c b
     cases r with|zero=>rfl|succ r=>simp[Jl,b]
    grind
theorem Wn{need old}(h:old<need):wK need old<=2*need+192:=by
 unfold wK;split
 .omega
 .split
  .omega
  .exact Wm _ _ _ R
section
variable {P:en} {T:fM} (cT:jL P T)
include cT
theorem OB{t t2 e g dn:eF}(i:(T t).k=.slice e)(k:(T t2).k=.slice g){w w':da}{base:dB g3}{fX it n c:V}{a:dB g3}{vs:d' dr}
  (c0:fX+n<=it)(f:(lx (T e).size n (.slice a n c)).run P w=.ok vs w)
  (s:match base with|none=>w'=w|some b=>(storeCells (b.add (fX*(T e).size)) vs.toList).run P w=.ok () w'):
  (ie #[t,t2] dn #[.slice base fX it,.slice a n c]).run P w=.ok (.slice base (fX+n) it) w':=by
 have⟨d,h⟩:=kR cT i;have⟨u,_⟩:=kR cT k;have j:(#[t,t2]:d' eF)[1]?=U t2:=rfl
 cases base with|none=>subst s;simp[ie,fx d,fx u,iE cT,h,p7,c0,f]|some b=>simp[ie,fx d,fx u,iE cT,h,p7,c0,f,s]
theorem OC{t t2 e i dn}(j:(T t).k=.slice e)(d:(T t2).k=.slice i){w base fX it n c a vs}{E:hJ->Prop}
  (c0:fX+n<=it)(f:(lx (T e).size n (.slice a n c)).run P w=.ok vs w)
  (r:∀es,∀dq∈(lx (T e).size n (.slice a n c)).events P w es,dq∈es\/E dq)
  (l:∀b,base=U b->∀es,∀dq∈(storeCells (b.add (fX*(T e).size)) vs.toList).events P w es,dq∈es\/E dq):
  ∀dq∈(ie #[t,t2] dn #[.slice base fX it,.slice a n c]).events P w #[],E dq:=by
 have⟨g,k⟩:=kR cT j;have⟨u,_⟩:=kR cT d;intro dq v;have cW:=λdq h=>(r #[] dq h).elim (λq=>by simp at q) id
 cases base with
 |none=>simp[ie,fx g,fx u,iE cT,k,p7,c0,f]at v;simp_all
 |some b=>
  cases s:(storeCells (b.add (fX*(T e).size)) vs.toList).run P w<;>
  simp[ie,fx g,fx u,iE cT,k,p7,c0,f,s]at v<;>
  grind
theorem OD{t t2 e K dn}(db:(T t).k=.slice e)(s:(T t2).k=.slice K){w base fX it n c a vs old}
  (c0:it<fX+n)(y:(fX+n)*(T e).bytes<=35184372088832)(i:fX+n<=35184372088832)
  (O:∀w',(∀x,(w.cell? x).isSome->w'.cell? x=w.cell? x)->(lx (T e).size n (.slice a n c)).run P w'=.ok vs w')
  (cU:∀w',(∀x,(w.cell? x).isSome->w'.cell? x=w.cell? x)->(lx (T e).size fX (.slice base fX it)).run P w'=.ok old w'){E:hJ->Prop}(r:∀m,x8 m->E ⟨.mark m,L,N⟩)
  (q:∀w' es,(∀x,(w.cell? x).isSome->w'.cell? x=w.cell? x)->∀dq∈(lx (T e).size n (.slice a n c)).events P w' es,dq∈es\/E dq)
  (l:∀w' es,(∀x,(w.cell? x).isSome->w'.cell? x=w.cell? x)->∀dq∈(lx (T e).size fX (.slice base fX it)).events P w' es,dq∈es\/E dq):
  ∃(C:V) (z:dr),fX+n<=C/\z.cells.size=(T e).size/\ (ie #[t,t2] dn #[.slice base fX it,.slice a n c]).run P w=
   .ok (.slice (U ⟨w.heap.size,0,cL⟩) (fX+n) C) (w.drew.alloc (.cells (old++vs++oo z.cells (C-(fX+n))) e)) /\
   ∀dq∈(ie #[t,t2] dn #[.slice base fX it,.slice a n c]).events P w #[],E dq:=by
 have⟨dh,k⟩:=kR cT db;have⟨u,_⟩:=kR cT s;have⟨_,cX,_,zl,_,S,cM,⟨z,MG,A⟩,_,M,B,_⟩:=(lW cT k).desc
 have F:z.cells.size=(T e).size:=by have⟨fV,_⟩:=zX A;rw[<-B,<-fV];simp
 have Q:¬(fX+n<=it):=R;have d:=Wn c0
 have G:¬(wK (fX+n) it*cX.bytes>2^48):=by
  rw[cM];have H:wK (fX+n) it*(T e).bytes<= (2*(fX+n)+192)*(T e).bytes:=mh _ d
  have:(2*(fX+n)+192)*(T e).bytes=2*((fX+n)*(T e).bytes)+192*(T e).bytes:=by grind
  have j:(2:V)^48=281474976710656:=cZ;rw[j];omega
 have p:¬(((fX+n:V):J)>sN.max):=by have:sN.max=9223372036854775807:=cZ;rw[this];omega
 have cP:∀x,(w.cell? x).isSome->w.drew.cell? x=w.cell? x:=λx _=>Z;refine⟨fX+n+w.tape w.drawn (.appendCap (fX+n) it e)%(2^63-(fX+n)),z,R,F,?_⟩;have f:=O w.drew cP;have o:=cU w.drew cP
 have dc:(choose (.appendCap (fX+n) it e)).run P w=.ok (fX+n+w.tape w.drawn (.appendCap (fX+n) it e)%(2^63-(fX+n))) w.drew:=by simp[run_choose,uN,Jm]
 have b:¬(9223372036854775807<(fX:J)+(n:J) /\cX.bytes=0):=by rintro⟨h,_⟩;omega
 have g:(zeroValue e).run P w.drew=.ok z w.drew:=MF;refine⟨by simp[ie,fx dh,fx u,iE cT,k,p7,Q,typeInfo,zl,b,G,uN,Jm,o,f,g,newRow],λdq v=>?_⟩;simp[ie,fx dh,fx u,iE cT,k,p7,Q,typeInfo,zl,b,G,uN,Jm,o,f,g,newRow,ed.zeroValue e P]at v;refine(q w.drew _ cP dq v).elim (λh=>(l w.drew _ cP dq h).elim (λh=>?_) id) id;rcases Cv _ _ _ dq h with h|⟨m,rfl,H⟩
 .simp at h
 .exact r m H
end
theorem FR{own M}(m)(h:x8 m):h7 own M ⟨.mark m,L,N⟩:=by unfold x8 at h;subst h;exact dM
section
variable {P:en} {T:fM} (cT:jL P T)
include cT
theorem Wo{own M D O w}(m:∀c,w.heap.size<=c->own c)(g:fp M w)(c9:er own M D O w){x l r cR old vs rest eV cap}
  (Q:lT M old l cR)(s1:old.size=l.length*cR)(i:lT M vs r cR)(s2:vs.size=r.length*cR)(a:l.length+r.length<=cap)(n:rest.size=(cap-(l.length+r.length))*cR):
  dO own M D O w ⟨.own x,[(x,.row (l++r) cR L)],U x⟩ (.slice (U ⟨w.heap.size,0,cL⟩) (l.length+r.length) cap) (w.drew.alloc (.cells (old++vs++rest) eV)):=by
 have b:lT M (old++vs++rest) (l++r) cR:=by
  refine Ot Q i (λk j=>?_) λk j=>?_
  .grind
  .grind
 have s:(old++vs++rest).size=cap*cR:=by
  simp[aiz,s1,s2,n,<-qR]
  congr 1;omega
 have f:er own M D O w.drew:=c9.k' (.refl M) λq ek cM=>⟨Z,c9.closed cM⟩;refine I4 (w:=w) (cO:=w.drew) m (.refl M) (.refl _ _) g f Z Z Z Z (e:=⟨.own x,[(x,.row (l++r) cR L)],U x⟩) (d:=x) (B:=.row (l++r) cR L) (cR:=cR) (len:=l.length+r.length) Z Z ?_ ?_
 .refine⟨_,eV,I3 w.drew _,Z,Z,dw,?_,b,sq,λ_ o=>I2 g o⟩;rw[s];simp;grind
 .exact .own x ⟨w.heap.size,cR,(old++vs++rest).size,l.length+r.length⟩ cap (gP _ _ _) a (by simp_all)
theorem Wp{t t2 e B dn}(g:(T t).k=.slice e)(k:(T t2).k=.slice B){own M D O w}(H:∀c,w.heap.size<=c->own c)(u:fp M w)(c9:er own M D O w)
  {x base r a c vs}(s:tJ P own M w (.slice a r.length c) r (T e).size vs)(dh:r.length*(T e).bytes<=35184372088832)(cX:r.length<=35184372088832):
  ∃v w',(ie #[t,t2] dn #[.slice base 0 0,.slice a r.length c]).run P w=.ok v w'/\ (∀dq∈(ie #[t,t2] dn #[.slice base 0 0,.slice a r.length c]).events P w #[],h7 own M dq) /\dO own M D O w ⟨.own x,[(x,.row r (T e).size L)],U x⟩ v w':=by
 by_cases A:r=[]
 .subst A
  have m:vs=#[]:=by have:=s.size;simpa using this
  subst m;refine⟨.slice base 0 0,w,?_,?_,M,eS D x (U cL),.refl _ _,.refl M,u,.refl _ _,c9.Ck x _ _,λb F=>gq _ _ λe=>tx F e,.ib x base (gP _ _ _)⟩
  have:=OB cT (dn:=dn) g k (w:=w) (w':=w) (base:=base) (fX:=0) (it:=0) (n:=0) (c:=c) (a:=a) (vs:=#[]) (fi _) (s.run w λ_ _=>Z) (by
   cases base with|none=>rfl|some b=>rfl)
  .omega
  .have:=OC cT (dn:=dn) g k (w:=w) (base:=base) (fX:=0) (it:=0) (n:=0) (c:=c) (a:=a) (vs:=#[]) (E:=h7 own M) (fi _) (s.run w λ_ _=>Z) (λes=>s.rd w es λ_ _=>Z) (λb _ es dq G=>.inl (by assumption));omega
 .have y:=Cz.2 A
  have o:=λw' f=>(wI (P:=P) (own:=own) (M:=M) (w:=w) (cR:=(T e).size) base 0).run w' f
  have⟨C,z,dI,v6,q⟩:=OD cT (dn:=dn) g k (w:=w) (base:=base) (fX:=0) (it:=0) (n:=r.length) (c:=c) (a:=a) R (by simp_all) R s.run o FR s.rd (λw' es f=>(wI (P:=P) (own:=own) (M:=M) (w:=w) (cR:=(T e).size) base 0).rd w' es f);refine⟨_,_,q.1,q.2,?_⟩;have:=Wo cT (x:=x) (eV:=e) (l:=[]) (r:=r) (cR:=(T e).size) (old:=#[]) (vs:=vs) (rest:=oo z.cells (C-(0+r.length))) (cap:=C) H u c9
   ⟨λi e h=>qB,λi j e d h=>qB⟩ dw s.row s.size zg Et
  assumption
theorem aiA{t t2 e S dn}(H:(T t).k=.slice e)(y:(T t2).k=.slice S){own M D O w}(ab:∀c,w.heap.size<=c->own c)(V:fp M w)(c9:er own M D O w)
  {x l r}(F:O x=U (.row l (T e).size L)){s}(cP:dZ M D (.own x) s){a c vs}(u:tJ P own M w (.slice a r.length c) r (T e).size vs)(B:∀v∈vs.toList,v.oneCell'=N)
  (ag:(l.length+r.length)*(T e).bytes<=35184372088832)(ah:l.length+r.length<=35184372088832):
  ∃v w',(ie #[t,t2] dn #[s,.slice a r.length c]).run P w=.ok v w'/\ (∀dq∈(ie #[t,t2] dn #[s,.slice a r.length c]).events P w #[],h7 own M dq) /\dO own M D O w ⟨.own x,[(x,.row (l++r) (T e).size L)],U x⟩ v w':=by
 cases cP with
 |ju _ _ p=>rw[(c9.fE x).2 p]at F;cases F
 |ib _ am p=>
  have⟨an,ao,ac⟩:=c9.iX x p;rw[F]at ac;cases ac
  exact Wp cT H y ab V c9 u (by simp_all) R
 |own _ cM cap p c0 db=>
  have⟨o,cs,eV,m,G,ai,aa,ap,I,aq⟩:=c9.at_ x _ cM F p;have dh:=c9.closed p _ F Z;rw[<-ai]at db
  by_cases f:l.length+r.length<=cap
  .have A:l.length*(T e).size+vs.toList.length<=cs.size:=by
    have:vs.toList.length=r.length*(T e).size:=by simpa using u.size
    rw[this,<-qR,G];exact fG (mh _ f) db
   have⟨g,dI,v6,J,aj,ad,ae,ak⟩:=I9 (P:=P) (own:=own) V o dh m vs.toList (l.length*(T e).size) A B
   have Y:vs.toList.length=r.length*(T e).size:=by simpa using u.size
   refine⟨.slice (U ⟨cM.blk,0,cL⟩) (l.length+r.length) cap,w.setRow cM.blk g,?_,?_,M,eS D x (U (U ⟨cM.blk,(T e).size,g.size,l.length+r.length⟩)),J,.refl M,v6,.refl _ _,?_,λb F=>gq _ _ λe=>tx F e,
    .own x ⟨cM.blk,(T e).size,g.size,l.length+r.length⟩ cap (gP _ _ _) f (by rwa[ad,G])⟩
   .rw[<-aa]
    exact OB cT (dn:=dn) H y (w:=w) (w':=w.setRow cM.blk g) (base:=U ⟨cM.blk,0,cL⟩) (fX:=l.length) (it:=cap) (n:=r.length) (c:=c) (a:=a) (vs:=vs) f (u.run w λ_ _=>Z) (by
     show(storeCells ((⟨cM.blk,0,cL⟩:g3).add (l.length*(T e).size)) vs.toList).run P w=.ok () (w.setRow cM.blk g)
     rw[mL,mM];exact dI.1)
   .rw[<-aa];refine OC cT (dn:=dn) H y (w:=w) (base:=U ⟨cM.blk,0,cL⟩) (fX:=l.length) (it:=cap) (n:=r.length) (c:=c) (a:=a) (vs:=vs) (E:=h7 own M) f (u.run w λ_ _=>Z) (λes=>u.rd w es λ_ _=>Z) (λb de es dq cX=>?_)
    cases de
    rw[mL,mM]at cX;rcases I6 (P:=P) cM.blk (l.length*(T e).size) eV vs.toList 0 cs w es m A B dq cX with h|⟨Q,eb,c5,al⟩
    .exact .inl h
    .refine .inr ?_;unfold h7;rw[c5];exact⟨Q,.inl (al▸o)⟩
   .refine c9.new x _ ⟨cM.blk,(T e).size,g.size,l.length+r.length⟩ (.refl M) o ⟨g,eV,aj,Z,Z,dw,?_,?_,sq,λ_=>dh⟩ λd7 ek K C=>⟨λe=>K (c9.inj d7 x ek cM C p e),ak _ λe=>K (c9.inj d7 x ek cM C p e),c9.closed C⟩
    .simp;rw[ad,G];exact fG (mh _ f) db
    .refine Ot I u.row (λk H=>?_) λk H=>?_
     .rw[ae,cS R]
     .rw[ae,Y,if_pos ⟨R,R⟩,aiB];simp
  .have dc:=Ct (P:=P) (own:=own) (M:=M) (w:=w) cM.blk 0 cap (λi j=>(cs[i*(T e).size+j]?).getD undef) I.len (λi j e d W X=>by
    have⟨v,af,S⟩:=I.den i j e d W X
    rw[sJ m,mM,af];rfl) (λi j e d W X=>by
    have⟨v,af,S⟩:=I.den i j e d W X
    simp_all) (λ_ _ _ _ _ _=>.inl o)
   have⟨old,q⟩:=dc;have⟨cU,z,dI,v6,J⟩:=OD cT (dn:=dn) H y (w:=w) (base:=U ⟨cM.blk,0,cL⟩) (fX:=l.length) (it:=cap) (n:=r.length) (c:=c) (a:=a) R ag ah u.run q.run FR u.rd q.rd;rw[<-aa];exact⟨_,_,J.1,J.2,Wo cT ab V c9 q.row q.size u.row u.size dI Et⟩
end
def Wq(O a:V->dB d4):Prop:=∀b,a b=O b\/ ∃c cN,O b=U (.box c cN) /\a b=U (.box c N)
theorem OE{own:V->Prop}{D:gD}{w:da}{O:V->dB d4}:∀ {qM:I dp} {cs:I c3} {ws:I (V×d4)},hz.nb O qM=U (cs,ws)->∀(M:eI) (g:V->dB d4),Wq O g->fp M w->er own M D g w->
 ∃a,gS M a/\fp a w/\jx own M a/\er own a D (gu g ws) w/\cs.length=qM.length/\ ∀(i:V) (x:dp) (d:c3) (v:dr),qM[i]?=U x->cs[i]?=U d->dZ M D x v->e4 a d v
 | [],cs,ws,h,M,g,dv,dt,c9=>by
  simp[hz.nb,fC,Jn]at h;obtain⟨rfl,rfl⟩:=h;exact⟨M,.refl M,dt,.refl _ _,c9,Z,λi x d v Q=>by simp at Q⟩
 |x::r,cs,ws,h,M,g,dv,dt,c9=>by
  have K:∀eU m o,conv.nB x=U eU->hz.nb O r=U (m,o)->cs=eU::m->ws=o->
   ∃a,gS M a/\fp a w/\jx own M a/\er own a D (gu g ws) w/\cs.length=(x::r).length/\ ∀(i:V) (y:dp) (d:c3) (v:dr),(x::r)[i]?=U y->cs[i]?=U d->dZ M D y v->e4 a d v:=by
   intro eU m o Q c5 u z;subst u z;have⟨a,s1,p,fA,dI,eB,d1⟩:=OE c5 M g dv dt c9;refine⟨a,s1,p,fA,dI,by simp[eB],λi y d v k cP cY=>?_⟩
   cases i with
   |zero=>simp at k cP;subst k cP;exact(Vz Q cY).mono s1
   |succ i=>grind
  cases x with
  |ptr b i j=>
   simp[hz.nb]at h
   cases hb:O b with
   |none=>simp_all
   |some B=>
    cases B with
    |row l cR cN=>simp_all
    |box c cN=>
     simp[hb]at h
     cases cK:d3 i 0 with
     |false=>simp_all
     |true=>
      have C:=gE cK;subst C
      cases A:conv.wv c with
      |none=>simp_all
      |some dx=>
       cases dQ:hz.nb O r with
       |none=>simp_all
       |some q=>
        have⟨m,o⟩:=q;simp[cK,A,dQ,fF,fC,Jn]at h;obtain⟨rfl,rfl⟩:=h
        have s:∃t,g b=U (.box c t):=by
         rcases dv b with e|⟨oU,t,u,z⟩
         .simp_all
         .simp_all
        have⟨t,s⟩:=s;have⟨E,s1,p,fA,dI⟩:=freeze dt c9 s (gG:=.box c N) (.inr ⟨_,_,Z,Z⟩)
        have F:Wq O (eS g b (U (.box c N))):=by
         intro d7
         by_cases e:d7=b
         .subst e;rw[gP];simp_all
         .rw[gq _ _ e];exact dv d7
        have⟨a,s2,fh,G,H,el,J⟩:=OE dQ E _ F p dI;refine⟨a,s1.trans s2,fh,fA.trans G,H,by simp[el],λi y d v k cP cY=>?_⟩
        cases i with
        |succ i=>exact J i y d v (by simp_all) (by simp_all) (cY.mono s1)
        |zero=>simp at k cP;subst k cP;refine e4.mono s2 (VA dI (x:=.ptr b 0 j) ?_ (cY.mono s1));simp[conv.n',gP,A]
  |d P=>simp[hz.nb]at h;grind
  |eN=>simp[hz.nb]at h;grind
  |fd=>simp[hz.nb]at h;grind
  |nil=>simp[hz.nb]at h;grind
  |agg c=>simp[hz.nb,conv.nB]at h
  |dS c=>simp[hz.nb,conv.nB]at h
  |own b=>simp[hz.nb,conv.nB]at h
  |win b dz n c=>simp[hz.nb,conv.nB]at h
  |fn f c=>simp[hz.nb,conv.nB]at h
  |dead=>simp[hz.nb,conv.nB]at h
theorem OF{dC:fw->dp}:∀(l:I fw) (i:V),(ki dC l)[i]?=(l[i]?).map dC
 | [],i=>by simp[ki]|x::r,0=>by simp[ki]|x::r,i+1=>by simpa[ki]using OF r i
theorem OG{dC:fw->dp}:∀(l:I fw),(ki dC l).length=l.length
 | []=>rfl|x::r=>by simp[ki,OG r]
section
variable {P:en} {T:fM} (cT:jL P T)
theorem aiC{o:gL}{f:FuncId}{first cap:d' fw}{dC:fw->dp}{O:V->dB d4}{K:gp->Prop}(g4:o.op=.makeFunc (.func f) first cap)
  (h:bif d3 first.size 0 then(match hz.nb O (ki dC cap.toList) with
   |some (cs,ws)=>K ⟨.d (.fn f cs),ws,cL⟩
   |none=>dA) else dA):∃e,K e/\hE P o dC O e:=by
 have⟨m,h⟩:=qU h
 have b:first=#[]:=by have:=gE m;simpa using this
 cases g:hz.nb O (ki dC cap.toList) with
 |none=>simp_all
 |some q=>
  have⟨cs,ws⟩:=q;simp[g]at h;refine⟨_,h,Om (λown M a w=>Fp (s:=aiD (.func f) (first.map a.eval) (cap.map a.eval)) ma (ed.pure _)) λown M D a w n l c9 c=>have⟨k,s1,p,r,dI,eB,d1⟩:=OE g M O (λ_=>.inl Z) l c9;⟨.func (.func f) #[] (cap.map a.eval),w,by simp[execOp,g4,b,aiD],k,D,.refl _ _,s1,p,r,dI,λ_ _=>Z,.d _ _ (.fn f cs _ ?_ λi d v cP cY=>?_)⟩⟩
  .rw[eB,OG];simp
  .simp only[BB]at cY
   cases j:cap[i]? with
   |none=>simp_all
   |some x=>simp[j,jB,fC]at cY;subst cY;exact d1 i (dC x) d _ (by rw[OF];simp[j]) cP (c x)
theorem OH{dz cK:dB J}(cW:0<=dz.getD 0)(Q:dz.getD 0<=cK.getD ((0:V):J))(h:cK.getD ((0:V):J) <= ((0:V):J)):(cK.getD ((0:V):J)).toNat=0/\ (dz.getD 0).toNat=0:=R
theorem OI{dC:fw->dp}{o:dB fw}{K:dB J->Prop}(h:xS dC o K):
  ∃b,K b/\ ((o=cL/\b=cL) \/ ∃x k n,o=U x/\b=U n/\dC x=.d (.int k n)):=by
 unfold xS at h;grind
theorem oq{M:eI}{D:gD}{dC:fw->dp}{a:e8}(c:∀x,dZ M D (dC x) (a.eval x)){o:dB fw}{b:dB J}(h:(o=cL/\b=cL) \/ ∃x k n,o=U x/\b=U n/\dC x=.d (.int k n)):
  ∃k,o.map a.eval=b.map (.int k):=by
 rcases h with⟨rfl,rfl⟩|⟨x,k,n,rfl,rfl,d⟩
 .simp_all
 .exact⟨k,by simp[kH (d▸c x)]⟩
include cT in
theorem i5{t e:eF}(k:(T t).k=.slice e){w:da}{base:dB g3}{len cap:V}{dz cK:dB J}{k1 eK:pT}(cW:0<=dz.getD 0)(Q:dz.getD 0<=cK.getD len)(a:cK.getD len<=len)(c:len<=cap):
  (nf t (.slice base len cap) (dz.map (.int k1)) (cK.map (.int eK)) cL).run P w=
   .ok (.slice (if cap=(dz.getD 0).toNat then base else base.map (·.add ((dz.getD 0).toNat*(T e).size))) ((cK.getD len).toNat-(dz.getD 0).toNat) (cap-(dz.getD 0).toNat)) w:=by
 have⟨u,h⟩:=kR cT k;simp[nf,xZ,fx u,IT (P:=P) w cW Q a c,iE cT w h]
theorem OJ{M:eI}{r:I (I c3)}{b off cap cR:V}{val:V->V->dr}(k:r.length<=cap)(s:∀(i:V) (e:I c3),r[i]?=U e->e.length=cR)
  (m:∀(i j:V) (e:I c3) (d:c3),r[i]?=U e->e[j]?=U d->M b (off+i*cR+j)=U (val i j))(cP:∀(i j:V) (e:I c3) (d:c3),r[i]?=U e->e[j]?=U d->e4 M d (val i j))
  (l h:V)(Q:l<=h)(f:h<=r.length):
  e4 M (.dm ((r.take h).drop l)) (.slice (if cap=l then U ⟨b,off,cL⟩ else U ⟨b,off+l*cR,cL⟩) (h-l) (cap-l)):=by
 have n:((r.take h).drop l).length=h-l:=by simp;omega
 by_cases c:h-l=0
 .have:(r.take h).drop l=[]:=FT R;rw[this,c];exact .emp _ _
 .rw[cS R,<-n]
  have g:∀(i:V) (e:I c3),((r.take h).drop l)[i]?=U e->r[l+i]?=U e:=by
   intro i e cK;rw[Ii,u_]at cK;split at cK
   .exact cK
   .cases cK
  refine .dm _ b (off+l*cR) (cap-l) cR (λi j=>val (l+i) j) R (λi e cK=>s _ e (g i e cK)) (λi j e d cK a=>?_) λi j e d cK a=>cP _ j e d (g i e cK) a;grind
include cT in
theorem aiE{t c:eF}(f:(T t).k=.slice c){w:da}{a:g3}{len cap:V}{dz cK:dB J}{k1 eK:pT}(cW:0<=dz.getD 0)(Q:dz.getD 0<=cK.getD len)(b:cK.getD len<=cap)(g:len<=cap):
  (nf t (.slice (U a) len cap) (dz.map (.int k1)) (cK.map (.int eK)) cL).run P w=
   .ok (.slice (if cap=(dz.getD 0).toNat then U a else U (a.add ((dz.getD 0).toNat*(T c).size))) ((cK.getD len).toNat-(dz.getD 0).toNat) (cap-(dz.getD 0).toNat)) w:=by
 have⟨u,e⟩:=kR cT f
 have d:(p2 N len cap (dz.map (.int k1)) (cK.map (.int eK)) cL).run P w=.ok ((dz.getD 0).toNat,(cK.getD len).toNat,cap) w:=by
  cases dz with
  |none=>
   cases cK with|none=>rfl|some h=>simp at cW Q b;simp[p2,rH (P:=P) w (x:=h) (y:=cap) (k:=eK) Q R]
  |some l=>
   cases cK with|none=>simp at cW Q b;simp[p2,rH (P:=P) w (x:=l) (y:=len) (k:=k1) cW R]|some h=>simp at cW Q b;simp[p2,rH (P:=P) w (x:=h) (y:=cap) (k:=eK) R R,rH (P:=P) w (x:=l) (y:=h.toNat) (k:=k1) cW R]
 simp[nf,xZ,fx u,d,iE cT w e]
include cT in
theorem aiF{t c:eF}(i:(T t).k=.slice c){w:da}{a:g3}{len cap:V}{dz cK:dB J}{m:J}{k1 eK j:pT}(s:cK≠cL)(b:0<=m)(f:m<=cap)(cW:0<=dz.getD 0)(Q:dz.getD 0<=cK.getD len)(d:cK.getD len<=m.toNat):
  (nf t (.slice (U a) len cap) (dz.map (.int k1)) (cK.map (.int eK)) (U (.int j m))).run P w=
   .ok (.slice (if m.toNat=(dz.getD 0).toNat then U a else U (a.add ((dz.getD 0).toNat*(T c).size))) ((cK.getD len).toNat-(dz.getD 0).toNat) (m.toNat-(dz.getD 0).toNat)) w:=by
 have⟨u,e⟩:=kR cT i
 have g:(p2 N len cap (dz.map (.int k1)) (cK.map (.int eK)) (U (.int j m))).run P w=.ok ((dz.getD 0).toNat,(cK.getD len).toNat,m.toNat) w:=by
  cases cK with
  |none=>simp_all
  |some h=>
   cases dz with
   |none=>simp at cW Q d;simp[p2,rH (P:=P) w (x:=m) (y:=cap) (k:=j) b f,rH (P:=P) w (x:=h) (y:=m.toNat) (k:=eK) Q R]
   |some l=>simp at cW Q d;simp[p2,rH (P:=P) w (x:=m) (y:=cap) (k:=j) b f,rH (P:=P) w (x:=h) (y:=m.toNat) (k:=eK) R R,rH (P:=P) w (x:=l) (y:=h.toNat) (k:=k1) cW R]
 simp[nf,xZ,fx u,g,iE cT w e]
theorem Wr{M:eI}{D:gD}{b dz n k base:V}{cM:k6}(h:D b=U (U cM))(f:(dz+k)*cM.cR<=cM.size)(i:base=dz*cM.cR\/ (k=0/\0<dz)){l a kk:V}(Q:l<=a)(g:a<=kk)(j:kk<=k){c:dB V}(d:∀x,c=U x->kk-l=x):
  dZ M D (.win b (dz+l) (a-l) c) (.slice (if kk=l then U ⟨cM.blk,base,cL⟩ else U ((⟨cM.blk,base,cL⟩:g3).add (l*cM.cR))) (a-l) (kk-l)):=by
 have s:(dz+l+(kk-l))*cM.cR<=cM.size:=fG (mh _ R) f
 by_cases e:kk=l
 .rw[if_pos e];refine .win b _ _ c cM _ base h R d s ?_;grind
 .rw[cS e,mL];refine .win b _ _ c cM _ _ h R d s (.inl ?_);grind
include cT in
theorem aiG{o:gL}{t:eF}{x:fw}{dz cK oa:dB fw}{dC:fw->dp}{O:V->dB d4}{K:gp->Prop}(au:o.op=.slice t x dz cK oa)
  (h:xS dC dz λdz=>xS dC cK λcK=>xS dC oa λoa=>Ny T t (dC x) O dz cK oa K):∃e,K e/\hE P o dC O e:=by
 have⟨g,Y,cX⟩:=OI h;clear h;have⟨q,ag,H⟩:=OI Y;clear Y;have⟨a0,h,aj⟩:=OI ag;clear ag
 have G:∀a:e8,(∀w:da,(execOp a.eval o).run P w=((nf t (a.eval x) (dz.map a.eval) (cK.map a.eval) (oa.map a.eval)).run P w).andThen λv w=>.ok (.value v) w):=by intro a w;simp[execOp,au]
 have E:∀(own:V->Prop) (M:eI) (a:e8) (w:da),∀e∈(execOp a.eval o).events P w #[],h7 own M e:=λown M a w=>Fp (s:=nf t (a.eval x) (dz.map a.eval) (cK.map a.eval) (oa.map a.eval)) (by simp[execOp,au]) (IH _ _ _ _ _)
 unfold Ny at h;split at h
 .have ak:oa=cL:=by
   rcases aj with⟨Q,_⟩|⟨_,_,_,_,B,_⟩
   .exact Q
   .cases B
  subst ak;split at h
  .rename_i s y;split at h
   .rename_i dh;have ae:=wC cT dh;have⟨cW,Q,B,h⟩:=Fx h;refine⟨_,h,zQ E λown M D a w X c9 f=>have⟨k1,ab⟩:=oq f cX;have⟨eK,db⟩:=oq f H;have ex:=sI (y▸f x);⟨_,?_,.d _ _ (.str _)⟩⟩;rw[G,ab,db,ex];simp[nf,xZ,fx ae,IT (P:=P) w cW Q B (fi _)]
   simp_all
  .rename_i r y;split at h
   .rename_i ac dh;have⟨z,h⟩:=k_ h;have⟨cW,Q,B,h⟩:=Fx h;refine⟨_,h,zQ E λown M D a w X c9 f=>?_⟩;have⟨k1,ab⟩:=oq f cX;have⟨eK,db⟩:=oq f H;have cP:=f x;rw[y]at cP;generalize cY:a.eval x=v at cP
    cases cP with
    |d _ _ cP=>
     cases cP with
     |emp ad c=>
      have cU:(q.getD 0).toNat-(g.getD 0).toNat=0:=by simp at B;omega
      refine⟨_,by rw[G,ab,db,cY,vb,i5 cT dh (len:=0) cW Q B (eY _)];rfl,?_⟩
      simp only[wJ]at*
      rw[show((q.getD ((0:V):J)).toNat-(g.getD 0).toNat)=0 from cU]
      have:((([]:I (I c3)).take (q.getD ((0:V):J)).toNat).drop (g.getD 0).toNat)=[]:=dw
      rw[this];exact .d _ _ (.emp _ _)
     |dm _ b off cap cR val dv c' d6 C=>
      refine⟨_,by rw[G,ab,db,cY,vb,i5 cT dh cW Q B dv];rfl,?_⟩;have dc:=OJ (M:=M) (b:=b) (off:=off) dv c' d6 C (g.getD 0).toNat (q.getD r.length).toNat R R
      have de:(if cap=(g.getD 0).toNat then U (⟨b,off,cL⟩:g3) else(U (⟨b,off,cL⟩:g3)).map (·.add ((g.getD 0).toNat*(T ac).size)))=(if cap=(g.getD 0).toNat then U (⟨b,off,cL⟩:g3) else U ⟨b,off+(g.getD 0).toNat*(T ac).size,cL⟩):=by
       split
       .rfl
       .simp[mL]
      by_cases dQ:r=[]
      .subst dQ
       have cU:(q.getD ((([]:I (I c3)).length:V):J)).toNat-(g.getD 0).toNat=0:=by have:=OH cW Q B;show(q.getD ((0:V):J)).toNat-(g.getD 0).toNat=0;rw[this.1];exact Ws _
       rw[cU]
       have:((([]:I (I c3)).take (q.getD ((([]:I (I c3)).length:V):J)).toNat).drop (g.getD 0).toNat)=[]:=dw
       rw[this];exact .d _ _ (.emp _ _)
      .have⟨e,aa⟩:∃e,r[0]?=U e:=by
        cases r with
        |nil=>exact dN Z dQ
        |cons e r=>exact⟨e,Z⟩
       have:=(c' 0 e aa).symm.trans (z e (jY aa));subst this;rw[de];exact .d _ _ dc
   simp_all
  .rename_i b y;split at h
   .rename_i r cR cN A;split at h
    .rename_i ac dh;have⟨z,h⟩:=qU h;have z:=gE z;have⟨cW,Q,B,h⟩:=Fx h;refine⟨_,h,Om E λown M D a w aD X c9 f=>?_⟩;have⟨k1,ab⟩:=oq f cX;have⟨eK,db⟩:=oq f H;have⟨ah,s1,al,fA,dI⟩:=freeze X c9 A (gG:=.row r cR N) (.inl ⟨_,_,_,Z,Z⟩);have cP:=f x;rw[y]at cP;have C:=IV dI (gP _ _ _) (cP.mono s1);generalize cY:a.eval x=v at cP C
     have W:∃u,(nf t v (g.map (.int k1)) (q.map (.int eK)) cL).run P w=.ok u w/\dZ ah D (.d (.dm ((r.take (q.getD r.length).toNat).drop (g.getD 0).toNat))) u:=by
      cases C with
      |emp ad c=>
       simp only[wJ]at*
       have cU:(q.getD ((0:V):J)).toNat-(g.getD 0).toNat=0:=by rw[(OH cW Q B).1];exact Ws _
       refine⟨_,i5 cT dh (len:=0) cW Q B (eY _),?_⟩;rw[cU]
       have:((([]:I (I c3)).take (q.getD ((0:V):J)).toNat).drop (g.getD 0).toNat)=[]:=dw
       rw[this];exact .d _ _ (.emp _ _)
      |dm _ d7 off cap a1 val dv c' d6 C=>
       refine⟨_,i5 cT dh cW Q B dv,?_⟩;have dc:=OJ (M:=ah) (b:=d7) (off:=off) dv c' d6 C (g.getD 0).toNat (q.getD r.length).toNat R R
       have de:(if cap=(g.getD 0).toNat then U (⟨d7,off,cL⟩:g3) else(U (⟨d7,off,cL⟩:g3)).map (·.add ((g.getD 0).toNat*(T ac).size)))=(if cap=(g.getD 0).toNat then U (⟨d7,off,cL⟩:g3) else U ⟨d7,off+(g.getD 0).toNat*(T ac).size,cL⟩):=by
        split
        .rfl
        .simp[mL]
       by_cases dQ:r=[]
       .subst dQ
        have cU:(q.getD ((([]:I (I c3)).length:V):J)).toNat-(g.getD 0).toNat=0:=by have:=OH cW Q B;show(q.getD ((0:V):J)).toNat-(g.getD 0).toNat=0;rw[this.1];exact Ws _
        rw[cU]
        have:((([]:I (I c3)).take (q.getD ((([]:I (I c3)).length:V):J)).toNat).drop (g.getD 0).toNat)=[]:=dw
        rw[this];exact .d _ _ (.emp _ _)
       .have⟨e,aa⟩:∃e,r[0]?=U e:=by
         cases r with
         |nil=>exact dN Z dQ
         |cons e r=>exact⟨e,Z⟩
        have aE:e.length=cR:=by
         cases p:D b with
         |none=>rw[(c9.fE b).2 p]at A;cases A
         |some aF=>
          cases aF with
          |none=>
           have⟨a2,a3,av⟩:=c9.iX b p;rw[A]at av;cases av
           exact dN Z dQ
          |some cM=>have⟨_,cs,eV,_,_,_,_,_,aG,_⟩:=c9.at_ b _ cM A p;exact aG.len 0 e aa
        have:=(c' 0 e aa).symm.trans (aE.trans z);subst this;rw[de];exact .d _ _ dc
     have⟨u,a4,aH⟩:=W;exact⟨u,w,by simp_all,ah,D,.refl _ _,s1,al,fA,dI,λ_ _=>Z,aH⟩
    simp_all
   simp_all
  .rename_i y;split at h
   .rename_i ac dh;have⟨cW,Q,B,h⟩:=Fx h;refine⟨_,h,zQ E λown M D a w X c9 f=>?_⟩;have⟨k1,ab⟩:=oq f cX;have⟨eK,db⟩:=oq f H;have cP:=f x;rw[y]at cP;generalize cY:a.eval x=v at cP
    cases cP with
    |nil ad=>refine⟨_,by rw[G,cY,ab,db,vb,i5 cT dh (len:=0) (cap:=0) cW Q B (fi _)];rfl,?_⟩;grind
   simp_all
  .rename_i b aI n c y;split at h
   .rename_i r cR A;split at h
    .rename_i ac dh;have⟨z,h⟩:=qU h;have z:=gE z;have⟨cW,Q,B,h⟩:=Vq h;refine⟨_,h,zQ E λown M D a w X c9 f=>?_⟩;have⟨k1,ab⟩:=oq f cX;have⟨eK,db⟩:=oq f H;have cP:=f x;rw[y]at cP;generalize cY:a.eval x=v at cP
     cases cP with
     |jv _ _ _ _ _ p=>rw[(c9.fE b).2 p]at A;cases A
     |win _ _ _ _ cM k base p c0 dj am an=>
      have⟨_,cs,eV,_,_,Y,_⟩:=c9.at_ b _ cM A p
      have aJ:c.getD n<=k:=by
       cases c with
       |none=>exact c0
       |some m=>exact tD (dj m Z).symm
      refine⟨_,by rw[G,cY,ab,db,vb,aiE cT dh (len:=n) (cap:=k) cW Q R c0];rfl,?_⟩;rw[<-z,Y];apply Wr (n:=n) p am an R R (fi _);intro x y
      cases c with
      |none=>cases y
      |some m=>rw[dj m Z];simpa[U5]using y
    simp_all
   simp_all
  .rename_i b i j y;split at h
   .rename_i c cN A;split at h
    .rename_i n ac dh;have⟨F,aw⟩:=qU h;clear h;have h:=aw;clear aw;simp only[lV]at F;have aK:=gE F.1;have aL:=gE F.2.1;have aM:=gE F.2.2.1;have c0:=gE F.2.2.2;subst aK aL;split at h
     .rename_i dx aN;have⟨cW,Q,B,h⟩:=Fx h;refine⟨_,h,Om E λown M D a w aD X c9 f=>?_⟩;have⟨k1,ab⟩:=oq f cX;have⟨eK,db⟩:=oq f H;have⟨ah,s1,al,fA,dI,eB,aO⟩:=wF (ho:=O) (g8.cells O c) M O X c9 (.refl O)
      have ax:gu O (gh O (g8.cells O c)) b=U (.box c cN):=by
       rcases eB b with e|⟨l,cR,a5,Y,ag⟩
       .simp_all
       .rw[A]at Y;cases Y
      have⟨ao,s2,fh,aP,ay⟩:=freeze al dI ax (gG:=.box c N) (.inr ⟨_,_,Z,Z⟩);have cP:=f x;rw[y]at cP;generalize cY:a.eval x=v at cP
      cases cP with
      |i6 _ _ _ _ p=>rw[(c9.fE b).2 p]at A;cases A
      |ptr _ _ _ cM p=>
       have⟨_,cs,eV,aQ,z,Y,ag,az,aR⟩:=ay.at_ b _ cM (gP _ _ _) p;have⟨hi,a6⟩:=Cm aN
       have aS:conv.cells (gu O (gh O (g8.cells O c))) c=U dx:=by rwa[IU eB]
       have⟨a7,aA⟩:=Cm aS;have aT:=x4 (dW:=g8.cells O c) (λb l cR cN A aa=>aO b l cR cN (.inl A) aa) eB (.agg c) (λb A=>A)
       have a8:(zI dx).length=c.length:=by simp[zI,hi]
       have Jo:∀(i:V) (e:I c3),(zI dx)[i]?=U e->∃d,dx[i]?=U d/\e=[d]:=λi e aa=>by
        simp[zI,ir,v_]at aa;obtain⟨d,cP,rfl⟩:=aa;exact⟨d,cP,Z⟩
       have dc:=OJ (M:=ao) (r:=zI dx) (b:=cM.blk) (off:=0) (cap:=c.length) (cR:=1) (val:=λi _=>(cs[i]?).getD undef) R (λi e aa=>by obtain⟨d,_,rfl⟩:=Jo i e aa;rfl)
        (λi j e d aa cP=>by
         obtain⟨ai,ap,rfl⟩:=Jo i e aa
         have dU:j=0:=by
          cases j with
          |zero=>rfl
          |succ j=>simp at cP
         subst dU;have⟨x,fV,_⟩:=aA i ai ap;have⟨u,af,_⟩:=az.den i x fV;simp[af,x3];have aU:=(f_.1 fV).1;have:=aR.1 Z i u aU af
         simpa using this)
        (λi j e d aa cP=>by
         obtain⟨ai,ap,rfl⟩:=Jo i e aa
         have dU:j=0:=by
          cases j with
          |zero=>rfl
          |succ j=>simp at cP
         subst dU
         have C:ai=d:=by simpa using cP
         subst C;have⟨x,fV,gY,aV⟩:=aA i ai ap;have⟨u,af,a9⟩:=az.den i x fV;simp[af,x3]
         exact(wG dI gY (aV aT) (by
          have⟨_,a_,a',S,_,_,_,aW,_⟩:=dI.at_ b _ cM ax p;rw[aQ]at S
          cases S
          have⟨p5,aB,aX⟩:=aW.den i x fV;rw[af]at aB;cases aB
          exact aX)).mono s2)
        (g.getD 0).toNat (q.getD c.length).toNat R R
       have⟨ae,aq⟩:=Cb cT dh
       have W:(nf t (.pointer (U ⟨cM.blk,0*cM.cR+0,cL⟩)) (g.map (.int k1)) (q.map (.int eK)) cL).run P w=
         .ok (.slice (if c.length=(g.getD 0).toNat then U ⟨cM.blk,0,cL⟩ else U ⟨cM.blk,0+(g.getD 0).toNat*1,cL⟩) ((q.getD c.length).toNat-(g.getD 0).toNat) (c.length-(g.getD 0).toNat)) w:=by
        have aY:=IT (P:=P) (Oe:=L) (len:=c.length) (cap:=c.length) (k1:=k1) (eK:=eK) w cW Q B (fi _);simp[nf,fx ae,hc,hj,lU,hU,c0,aY,iE cT w aq,aM]
        congr 2
        split
        .simp
        .simp[mL]
       refine⟨_,w,by rw[G,cY,ab,db,vb,W];rfl,ao,D,.refl _ _,s1.trans s2,fh,fA.trans aP,?_,λ_ _=>Z,.d _ _ dc⟩;show er own ao D (gu O (gh O (g8.cells O c)++[(b,.box c N)])) w;rw[zV];exact ay
     simp_all
    simp_all
   simp_all
  simp_all
 .rename_i m;split at h
  .rename_i b aI n c y;split at h
   .rename_i r cR A;split at h
    .rename_i ac dh;have⟨z,h⟩:=qU h;have z:=gE z;have⟨⟨c',ak,d6⟩,h⟩:=k_ h;have⟨cW,Q,B,h⟩:=Vq h;refine⟨_,h,zQ E λown M D a w X c9 f=>?_⟩;have⟨k1,ab⟩:=oq f cX;have⟨eK,db⟩:=oq f H;have⟨aZ,ar⟩:=oq f aj;have cP:=f x;rw[y]at cP;generalize cY:a.eval x=v at cP
     cases cP with
     |jv _ _ _ _ _ p=>rw[(c9.fE b).2 p]at A;cases A
     |win _ _ _ _ cM k base p c0 dj am an=>
      have⟨_,cs,eV,_,_,Y,_⟩:=c9.at_ b _ cM A p
      have aJ:c.getD n<=k:=by
       cases c with
       |none=>exact c0
       |some m=>exact tD (dj m Z).symm
      refine⟨_,by rw[G,cY,ab,db,ar,jB,aiF cT dh (len:=n) (cap:=k) c' ak R cW Q B];rfl,?_⟩;rw[<-z,Y];exact Wr (n:=n) p am an R R R (λx y=>by simpa using y)
    simp_all
   simp_all
  .split at h
   .rename_i ac dh;have dj:=(k_ h).1;have aC:=(k_ h).2;clear h;obtain⟨rfl,rfl,rfl⟩:=dj;have h:=aC;clear aC;have⟨ae,aq⟩:=kR cT dh
    have mk:∀(own:V->Prop) (M:eI) (D:gD) (a:e8) (w:da),(∀x,dZ M D (dC x) (a.eval x))->∀ad n c,n<=c->a.eval x=.slice ad n c->∃v,(execOp a.eval o).run P w=.ok (.value v) w/\dZ M D .nil v:=by intro own M D a w f ad n c ba cY;have⟨k1,ab⟩:=oq f cX;have⟨eK,db⟩:=oq f H;have⟨aZ,ar⟩:=oq f aj;refine⟨.slice (if 0=0 then ad else ad.map (·.add (0*(T ac).size))) (0-0) (0-0),?_,.nil _⟩;rw[G,cY,ab,db,ar];simp[nf,xZ,fx ae,p2,Instr.sliceBound,asIntOf,iE cT w aq]
    split at h
    .rename_i r y;refine⟨_,h,zQ E λown M D a w X c9 f=>?_⟩;have cP:=f x;rw[y]at cP;generalize cY:a.eval x=v at cP
     cases cP with
     |d _ _ cP=>
      cases cP with
      |emp ad c=>simp_all
      |dm _ b off cap cR val dv c' d6 C=>simp_all
    .rename_i y;refine⟨_,h,zQ E λown M D a w X c9 f=>?_⟩;have cP:=f x;rw[y]at cP;generalize cY:a.eval x=v at cP
     cases cP with
     |nil ad=>simp_all
    simp_all
   simp_all
end
theorem aiH{P cR v O K}(h:Nz cR v O K):
  ∃l,K l/\ ∀n,gZ cR (l.take n)=N->∀own M D w u,fp M w->er own M D O w->dZ M D v u->
   ∃a c vs,u=.slice a l.length c/\tJ P own M w (.slice a (l.take n).length c) (l.take n) cR vs/\ ∀v∈vs.toList,v.oneCell'=N:=by
 have m:∀(l:I (I c3)) (n i:V) (e:I c3),(l.take n)[i]?=U e->l[i]?=U e:=by
  intro l n i e he;rw[u_]at he;split at he
  .exact he
  .cases he
 unfold Nz at h;split at h
 .rename_i l;refine⟨l,h,λn f own M D w u dt c9 cP=>?_⟩
  cases cP with
  |d _ _ cP=>
   cases cP with
   |emp a c=>exact⟨a,c,#[],Z,by simpa using wI a c,λv cY=>zn⟩
   |dm _ b off cap p val dv c' d6 x=>
    have t:=λi e he=>(c' i e (m l n i e he)).symm.trans (FM f i e he).1
    have⟨vs,o⟩:=Ct (P:=P) (own:=own) (M:=M) (w:=w) (l:=l.take n) (cR:=cR) b off cap val (λi e he=>(FM f i e he).1) (λi j e d he dU=>by
     have:=t i e he;subst this
     exact dt _ _ _ (d6 i j e d (m l n i e he) dU)) (λi j e d he dU=>x i j e d (m l n i e he) dU) (λi j e d he dU=>by
     grind)
    exact⟨_,_,vs,Z,o,o.one f⟩
 .refine⟨[],h,λn f own M D w u dt c9 cP=>?_⟩
  cases cP with
  |nil a=>exact⟨a,0,#[],Z,by simpa using wI a 0,λv cY=>zn⟩
 .rename_i b;split at h
  .rename_i l p cN hb;have⟨c',c5⟩:=qU h;clear h;have:=gE c';subst this;refine⟨l,c5,λn f own M D w u dt c9 cP=>?_⟩
   cases cP with
   |own _ cM cap g c0 dj=>
    have⟨y,cs,eV,z,t,H,A,J,r,Q⟩:=c9.at_ b _ cM hb g
    have⟨vs,o⟩:=Ct (P:=P) (own:=own) (M:=M) (w:=w) (l:=l.take n) (cR:=p) cM.blk 0 cap (λi j=>(cs[i*p+j]?).getD undef) (λi e he=>r.len i e (m l n i e he)) (λi j e d he dU=>by
     have⟨v,s,q⟩:=r.den i j e d (m l n i e he) dU
     rw[sJ z,mM,s];rfl) (λi j e d he dU=>by
     have⟨v,s,q⟩:=r.den i j e d (m l n i e he) dU
     simp_all) (λ_ _ _ _ _ _=>.inl y)
    rw[<-A];exact⟨_,_,vs,Z,o,o.one f⟩
   |ib _ a g=>
    have⟨S,T,e⟩:=c9.iX b g;rw[hb]at e;cases e
    exact⟨a,0,#[],Z,by simpa using wI a 0,λv cY=>zn⟩
   |ju _ _ g=>rw[(c9.fE b).2 g]at hb;cases hb
  simp_all
 .rename_i b dz j3 c;split at h
  .rename_i l p cN hb;have⟨c',c5⟩:=qU h;clear h;have:=gE c';subst this;have⟨W,h⟩:=k_ c5;refine⟨_,h,λn f own M D w u dt c9 cP=>?_⟩;have B:((l.drop dz).take j3).length=j3:=hy;rw[B]
   have C:((l.drop dz).take j3).take n=(l.drop dz).take (min n j3):=by grind
   rw[C]at f⊢
   cases cP with
   |jv _ _ _ _ _ g=>rw[(c9.fE b).2 g]at hb;cases hb
   |win _ _ _ _ cM k base g c0 dj c_ E=>have F:dZ M D (.win b dz (min n j3) cL) (.slice (U ⟨cM.blk,base,cL⟩) (min n j3) k):=.win b dz _ cL cM k base g R (λ_ h=>hh) c_ E;have⟨vs,fo,X,ek,s,q⟩:=Jf (P:=P) c9 hb F R;have G:((l.drop dz).take (min n j3)).length=min n j3:=hy;rw[G];exact⟨_,_,vs,Z,q,q.one f⟩
  simp_all
 simp_all
theorem Wu{α:Type}(r l:I α)(dz i)(h:dz+l.length<=r.length):(r.take dz++(l++r.drop (dz+l.length)))[i]?=if dz<=i/\i<dz+l.length then l[i-dz]? else r[i]?:=by grind
theorem aiI{α:Type}(r l:I α)(dz)(h:dz+l.length<=r.length):(r.take dz++(l++r.drop (dz+l.length))).length=r.length:=by simp;omega
section
variable {P:en} {T:fM} (cT:jL P T)
theorem OK{own M D O w}(T:fp M w)(c9:er own M D O w){b dz base r l cR}(hb:O b=U (.row r cR L)){cM}(p:D b=U (U cM))
  {vs}(t:lT M vs l cR)(c':vs.size=l.length*cR)(q:∀v∈vs.toList,v.oneCell'=N)(k:dz+l.length<=r.length)(s:base=dz*cR\/l=[]):
  ∃w',(storeCells ⟨cM.blk,base,cL⟩ vs.toList).run P w=.ok () w'/\ (∀es,∀dq∈(storeCells ⟨cM.blk,base,cL⟩ vs.toList).events P w es,dq∈es\/h7 own M dq) /\ ∀G v,dZ M D G v->dO own M D O w ⟨G,[(b,.row (r.take dz++(l++r.drop (dz+l.length))) cR L)],cL⟩ v w':=by
 by_cases B:l=[]
 .subst B;have K:=Ud;subst K;refine⟨w,by rfl,λes dq z=>.inl (by assumption),λG v cP=>⟨M,D,.refl _ _,.refl M,T,.refl _ _,?_,λ_ _=>Z,cP⟩⟩
  have:eS O b (U (.row (r.take dz++([]++r.drop (dz+([]:I (I c3)).length))) cR L))=O:=by
   funext x
   by_cases e:x=b
   .subst e;rw[gP,hb];simp
   .rw[gq _ _ e]
  show er own M D (eS O b (U (.row (r.take dz++([]++r.drop (dz+([]:I (I c3)).length))) cR L))) w;simp_all
 .have s:=s.resolve_right B;subst s;have⟨o,cs,eV,f,E,Y,ag,ab,aa,ah⟩:=c9.at_ b _ cM hb p;have y:=c9.closed p _ hb Z;have F:vs.toList.length=l.length*cR:=Ud
  have m:dz*cR+vs.toList.length<=cs.size:=by rw[F,<-qR,E];exact fG (mh _ k) ab
  have⟨u,dI,cU,S,ac,de,W,X⟩:=I9 (P:=P) (own:=own) T o y f vs.toList (dz*cR) m q;refine⟨w.setRow cM.blk u,dI.1,λes dq z=>?_,λG v cP=>⟨M,D,S,.refl M,cU,.refl _ _,?_,λ_ _=>Z,cP⟩⟩
  .rcases I6 (P:=P) cM.blk (dz*cR) eV vs.toList 0 cs w es f m q dq z with h|⟨Q,eb,dc,J⟩
   .grind
   .refine .inr ?_;unfold h7;rw[dc];exact⟨Q,.inl (J▸o)⟩
  refine c9.set b _ MP (.refl M) (λe=>by rw[p]at e;cases e) (λek c=>?_) λdb ek cX c=>⟨X _ λe=>cX (c9.inj db b ek cM c p e),c9.closed c⟩;rw[p]at c;cases c
  have C:=aiI r l dz k
  have n:∀(i:V) (e:I c3),(r.take dz++(l++r.drop (dz+l.length)))[i]?=U e->e.length=cR:=by
   intro i e g;rw[Wu r l dz i k]at g;split at g
   .exact t.len _ e g
   .exact aa.len _ e g
  refine⟨u,eV,ac,by rwa[de],Y,by rwa[C],by rwa[C],⟨n,λi j e d g dh=>?_⟩,sq,λ_=>y⟩
  have A:j<cR:=by rw[<-n i e g];exact(f_.1 dh).1
  rw[W,F];rw[Wu r l dz i k]at g;split at g
  .rename_i H;have⟨x,ad,ae⟩:=t.den _ j e d g dh
   have af:i*cR+j=dz*cR+((i-dz)*cR+j):=by rw[<-FB,<-qR];congr 2;omega
   have dc:(i-dz)*cR+j<l.length*cR:=zY R A;rw[if_pos ⟨R,R⟩];refine⟨x,?_,ae⟩;rw[af,aiB];simpa using ad
  .rename_i H
   have:¬(dz*cR<=i*cR+j/\i*cR+j<dz*cR+l.length*cR):=by
    rintro⟨fD,ai⟩
    by_cases a:i<dz
    .have:=zY (cR:=cR) a A;omega
    .have J:dz+l.length<=i:=R
     have:=mh cR J;rw[qR]at this;omega
   rw[cS this];exact aa.den i j e d g dh
theorem OL{e}{z:dr}(u:p3 z.cells.toList (T e).zero=N)(c:(T e).zero.length=(T e).size)(x:0<(T e).size)(n M):lT M (oo z.cells n) (eQ n (T e).zero) (T e).size/\ (oo z.cells n).size=n*(T e).size/\
  (BX (T e).size (T e).zero=N->∀v∈(oo z.cells n).toList,v.oneCell'=N):=by
 have⟨fV,gY⟩:=zX u
 have a:z.cells.size=(T e).size:=by rw[<-c,<-fV];simp
 have g:∀j b,(T e).zero[j]?=U b->∀i,i<n->∃v,(oo z.cells n)[i*(T e).size+j]?=U v/\ ∀M,e4 M b v:=by
  intro j b d i cK;have f:=(f_.1 d).1;rw[c]at f;have⟨v,dI,m,_⟩:=gY j b d;refine⟨v,?_,m⟩
  have t:i*(T e).size+j<n*z.cells.size:=by rw[a];exact zY cK f
  simp[oo,BB,V3,if_pos t,jB,fC];rw[a,Jb,Jc,nH f];have l:j<z.cells.size:=R;rw[getElem!_pos z.cells _ l];have:=zg;rw[zt l]at this;simpa using this
 have s:(oo z.cells n).size=n*(T e).size:=by simp[oo,a]
 refine⟨⟨λi y q=>?_,λi j y b q d=>?_⟩,s,λo v cY=>?_⟩
 .grind
 .grind
 .obtain⟨k,w,rfl⟩:=kr.1 cY
  have r:k<n*(T e).size:=by rw[<-s];simpa using w
  obtain⟨i,j,rfl,cK,f⟩:=V9 r;have cP:(T e).zero[j]?=U ((T e).zero[j]' R):=fq R;have⟨v,dI,m⟩:=g j _ cP i cK
  have:(oo z.cells n).toList[i*(T e).size+j]=v:=by have h:=dI;rw[<-FK,fq w]at h;simpa using h
  rw[this];simp[BX,lV,of]at o;exact V6 (o.2 _ (jY cP)) (m (λ_ _=>cL))
omit cT in
theorem Wv(s w es):(do pure (Next.value (<-s)):Sem Next).events P w es=s.events P w es:=by simp_all
omit cT in
theorem CA{o c x y t t2}(f:o.op=.call c)(e:c.callee=.builtin .append)(dt:c.args.toList=[x,y])(tk:c.argTypes.toList=[t,t2])(a:e8)(w es):
  (execOp a.eval o).events P w es=(ie #[t,t2] o.type #[a.eval x,a.eval y]).events P w es:=by
 have b:c.args=#[x,y]:=xy;have d:c.argTypes=#[t,t2]:=ze;rw[<-Wv];simp[execOp,f,ip,e,iq,builtin,b,d]
theorem OM{own M D O w}(m:∀c,w.heap.size<=c->own c)(g:fp M w)(c9:er own M D O w){x l r cR old vs rest eV cap}
  (Q:lT M old l cR)(s1:old.size=l.length*cR)(i:lT M vs r cR)(s2:vs.size=r.length*cR)(a:l.length+r.length<=cap)(n:rest.size=(cap-(l.length+r.length))*cR):
  dO own M D O w ⟨.win x 0 (l.length+r.length) cL,[(x,.row (l++r) cR L)],U x⟩ (.slice (U ⟨w.heap.size,0,cL⟩) (l.length+r.length) cap) (w.drew.alloc (.cells (old++vs++rest) eV)):=by
 have b:lT M (old++vs++rest) (l++r) cR:=by
  refine Ot Q i (λk j=>?_) λk j=>?_
  .grind
  .grind
 have s:(old++vs++rest).size=cap*cR:=by
  simp[aiz,s1,s2,n,<-qR]
  congr 1;omega
 have f:er own M D O w.drew:=c9.k' (.refl M) λq ek cM=>⟨Z,c9.closed cM⟩;refine I4 (w:=w) (cO:=w.drew) m (.refl M) (.refl _ _) g f Z Z Z Z (e:=⟨.win x 0 (l.length+r.length) cL,[(x,.row (l++r) cR L)],U x⟩) (d:=x) (B:=.row (l++r) cR L) (cR:=cR) (len:=l.length+r.length) Z Z ?_ ?_
 .refine⟨_,eV,I3 w.drew _,Z,Z,dw,?_,b,sq,λ_ o=>I2 g o⟩;rw[s];simp;grind
 .exact .win x 0 _ cL ⟨w.heap.size,cR,(old++vs++rest).size,l.length+r.length⟩ cap 0 (gP _ _ _) a (λ_ h=>hh) (by simp_all) (.inl dw)
include cT in
theorem aiJ{o c x y t t2 e f dC O K}(F:o.op=.call c)(dj:c.callee=.builtin .append)(dt:c.args.toList=[x,y])(tk:c.argTypes.toList=[t,t2])(c_:(T t).k=.slice e)(G:(T t2).k=.slice f)
 {b dz n g}(Q:dC x=.win b dz n (U g)){fT}(S:∀own M D w u,fp M w->er own M D O w->dZ M D (dC y) u->∃a c vs,u=.slice a fT.length c/\tJ P own M w u fT (T e).size vs/\ ∀v∈vs.toList,v.oneCell'=N)
 (h:Io T e b dz n g fT O o.dst K):∃e,K e/\hE P o dC O e:=by
 have af:c.args=#[x,y]:=xy;have ag:c.argTypes=#[t,t2]:=ze
 have V:∀(a:e8) (w w':da) (v:dr),(ie #[t,t2] o.type #[a.eval x,a.eval y]).run P w=.ok v w'->(execOp a.eval o).run P w=.ok (.value v) w':=by intro a w w' v dQ;simp[execOp,F,ip,dj,iq,builtin,af,ag,dQ]
 unfold Io at h;split at h
 .rename_i r cR hb;have⟨H,h⟩:=qU h;have H:=gE H;subst H
  by_cases ee:n+fT.length<=g
  .have⟨W,h⟩:=k_ (h.yes ee);refine⟨_,h,rI λown M D a w X c8 c9 q=>?_⟩;have⟨Y,e3,vs,i,f,aa⟩:=S own M D w _ c8 c9 (q y);have cY:=q x;rw[Q]at cY;generalize ab:a.eval x=v at cY
   cases cY with
   |jv _ _ _ _ _ j=>rw[(c9.fE b).2 j]at hb;cases hb
   |win _ _ _ _ cM k base j c0 I ah ac=>
    have:=I g Z;subst this;have⟨_,_,_,_,_,ai,_⟩:=c9.at_ b _ cM hb j
    have⟨w',dI,aj,v6⟩:=OK (P:=P) c8 c9 hb j (dz:=dz+n) (base:=base+n*(T e).size) f.row f.size aa R (by
     rcases ac with h|h
     .exact .inl (by rw[h,ai,qR])
     .right;apply FT
      omega)
    rw[i]at f;refine⟨.slice (U ⟨cM.blk,base,cL⟩) (n+fT.length) k,w',V a w w' _ ?_,λdq p=>?_,v6 _ _ ?_⟩
    rotate_left
    .rw[CA F dj dt tk,ab,i]at p;refine OC cT c_ G (E:=h7 own M) ee (f.run w λ_ _=>Z) (λes=>f.rd w es λ_ _=>Z) (λe1 ak es dq p=>?_) dq p
     cases ak
     rw[mL]at p;exact aj es dq p
    rotate_left
    .rw[ab,i]
     exact OB cT c_ G ee (f.run w λ_ _=>Z) (by
      show(storeCells ((⟨cM.blk,base,cL⟩:g3).add (n*(T e).size)) vs.toList).run P w=.ok () w'
      rwa[mL])
    .exact .win b dz _ (U k) cM k base j ee (λm d6=>by cases d6;rfl) ah ac
  .have h:=h.no ee;split at h
   .rename_i d cP;have⟨W,h⟩:=k_ h;have⟨am,an,h⟩:=Cf h;refine⟨_,h,rI λown M D a w X c8 c9 q=>?_⟩;have⟨Y,e3,vs,i,f,aa⟩:=S own M D w _ c8 c9 (q y);have B:=q x;rw[Q]at B;have⟨old,k,base,cM,s,A⟩:=Jf (P:=P) c9 hb B W;have C:((r.drop dz).take n).length=n:=hy
    have al:g=k:=by
     rw[s,C]at B
     cases B with
     |win _ _ _ _ _ _ _ _ _ I _ _=>exact(I g Z).symm
     |jv _ _ _ _ _ j=>rw[(c9.fE b).2 j]at hb;cases hb
    subst al;rw[s]at A;rw[i]at f;have⟨ad,z,dI,v6,J⟩:=OD cT (dn:=o.type) c_ G (w:=w) (base:=U ⟨cM,base,cL⟩) (fX:=((r.drop dz).take n).length) (it:=g) (n:=fT.length) (c:=e3) (a:=Y) R (by rwa[C]) R f.run A.run FR f.rd A.rd;have ae:=OM (x:=d) (eV:=e) (l:=(r.drop dz).take n) (r:=fT) (cR:=(T e).size) (old:=old) (vs:=vs) (rest:=oo z.cells (ad-(((r.drop dz).take n).length+fT.length))) (cap:=ad) X c8 c9 A.row A.size f.row f.size dI Et;rw[C]at J ae;rw[C]at s;exact⟨_,_,V a w _ _ (by rw[s,i];exact J.1),λdq p=>J.2 dq (by rwa[CA F dj dt tk,s,i]at p),ae⟩
   .exact h.elim
 simp_all
include cT in
theorem Ww{t t2 e dn Y}(p:(T t).k=.slice e)(G:(T t2).k=.int Y){w base fX it k kk old}
  (cW:0<=k)(c0:it<fX+k.toNat)(W:0<k.toNat)(o:(fX+k.toNat)*(T e).bytes<=35184372088832)(C:fX+k.toNat<=35184372088832)
  (X:∀w',(∀x,(w.cell? x).isSome->w'.cell? x=w.cell? x)->(lx (T e).size fX (.slice base fX it)).run P w'=.ok old w'){E:hJ->Prop}(d:∀m,x8 m->E ⟨.mark m,L,N⟩)
  (F:∀w' es,(∀x,(w.cell? x).isSome->w'.cell? x=w.cell? x)->∀dq∈(lx (T e).size fX (.slice base fX it)).events P w' es,dq∈es\/E dq):
  ∃(n:V) (z:dr),fX+k.toNat<=n/\z.cells.size=(T e).size/\p3 z.cells.toList (T e).zero=N/\ (ie #[t,t2] dn #[.slice base fX it,.int kk k]).run P w=
   .ok (.slice (U ⟨w.heap.size,0,cL⟩) (fX+k.toNat) n) (w.drew.alloc (.cells (old++oo z.cells k.toNat++oo z.cells (n-(fX+k.toNat))) e)) /\ ∀dq∈(ie #[t,t2] dn #[.slice base fX it,.int kk k]).events P w #[],E dq:=by
 have⟨O,a⟩:=kR cT p;have y:=v4 cT G;have⟨_,K,_,zl,_,I,M,⟨z,MG,A⟩,_,S,dh,_⟩:=(lW cT a).desc
 have cX:z.cells.size=(T e).size:=by have⟨fV,_⟩:=zX A;rw[<-dh,<-fV];simp
 have Q:¬(fX+k.toNat<=it):=R;have q:=Wn c0
 have cM:¬(wK (fX+k.toNat) it*K.bytes>2^48):=by
  rw[M];have dc:wK (fX+k.toNat) it*(T e).bytes<= (2*(fX+k.toNat)+192)*(T e).bytes:=mh _ q
  have:(2*(fX+k.toNat)+192)*(T e).bytes=2*((fX+k.toNat)*(T e).bytes)+192*(T e).bytes:=by grind
  have c:(2:V)^48=281474976710656:=cZ;rw[c];omega
 have de:k.toNat*(T e).bytes<=35184372088832:=fG (mh _ R) o;have H:(k.toNat:J)=k:=R
 have r:sN.wrap k=k:=by simp[la];have D:sN.signed=N:=Z;have db:sN.bits=64:=Z;rw[D,db];have:=R;simp;omega
 have g:¬k<0:=R
 have l:¬(k*(K.bytes:J)>2^48):=by rw[M,<-H];have:((k.toNat*(T e).bytes:V):J) <=35184372088832:=R;rw[Int.natCast_mul]at this;omega
 have i:=R;have cP:∀x,(w.cell? x).isSome->w.drew.cell? x=w.cell? x:=λx _=>Z;refine⟨fX+k.toNat+w.tape w.drawn (.appendCap (fX+k.toNat) it e)%(2^63-(fX+k.toNat)),z,R,cX,A,?_⟩;have u:=X w.drew cP;have B:(zeroValue e).run P w.drew=.ok z w.drew:=MF
 have f:¬(k.toNat*(T e).size=0):=by have:=p4 cT a;intro h;rcases V5.1 h with h|h<;>omega
 have s:=λh=>f (V5.2 h);have c:(2:J)^48=281474976710656:=cZ;have b:¬((281474976710656:J)<k*(K.bytes:J)):=λh=>l (by rwa[c]);have j:¬((9223372036854775807:J)<(fX:J)+max k 0):=R;have cU:=R;refine⟨by simp[ie,fx O,fx y,iE cT,a,asInt,asIntOf,r,g,b,j,Q,typeInfo,zl,i,cM,uN,Jm,u,B,newRow,s,f],λdq v=>?_⟩;simp[ie,fx O,fx y,iE cT,a,asInt,asIntOf,r,g,b,j,Q,typeInfo,zl,i,cM,uN,Jm,u,B,newRow,s,f,ed.zeroValue e P]at v;refine(F w.drew _ cP dq v).elim (λh=>?_) id;rcases Cv _ _ _ dq h with h|⟨m,rfl,dc⟩
 .simp at h
 .exact d m dc
include cT in
theorem aiK{o c x y t t2 e J p q dC O K}(I:o.op=.call c)(X:c.callee=.builtin .append)(dt:c.args.toList=[x,y])(tk:c.argTypes.toList=[t,t2])(Y:(T t).k=.slice e)(cU:(T t2).k=.int J)
  {b dz n m}(Q:dC x=.win b dz n (U m))(V:dC y=.d (.int p q))
  (h:NA T e b dz n m q O o.dst K):∃e,K e/\hE P o dC O e:=by
 have dh:c.args=#[x,y]:=xy;have aa:c.argTypes=#[t,t2]:=ze
 have db:∀(a:e8) (w w':da) (v:dr),(ie #[t,t2] o.type #[a.eval x,a.eval y]).run P w=.ok v w'->(execOp a.eval o).run P w=.ok (.value v) w':=by intro a w w' v dQ;simp[execOp,I,ip,X,iq,builtin,dh,aa,dQ]
 have⟨ad,E⟩:=kR cT Y;unfold NA at h;split at h
 .rename_i r cR cX;have⟨s,h⟩:=qU h;have s:=gE s;subst s;have⟨⟨cW,ae,S⟩,h⟩:=k_ h;split at h
  .rename_i d cP;have⟨af,ag,h⟩:=Cf h;refine⟨_,h,rI λown M D a w F c8 c9 G=>?_⟩;have W:=kH (V▸G y);have g:=G x;rw[Q]at g;have⟨old,k,base,cM,u,A⟩:=Jf (P:=P) c9 cX g S;have f:((r.drop dz).take n).length=n:=hy
   have ab:m=k/\n<=k:=by
    rw[u,f]at g
    cases g with|win _ _ _ _ _ _ _ _ c0 dc _ _=>exact⟨(dc m Z).symm,c0⟩|jv _ _ _ _ _ ac=>rw[(c9.fE b).2 ac]at cX;cases cX
   obtain⟨rfl,ah⟩:=ab;rw[u]at A;have⟨C,z,dI,v6,de,H⟩:=Ww cT (dn:=o.type) Y cU (w:=w) (base:=U ⟨cM,base,cL⟩) (fX:=((r.drop dz).take n).length) (it:=m) (k:=q) (kk:=p) cW R R (by rwa[f]) R A.run FR A.rd;have⟨fV,gY,_⟩:=OL de (Fu cT E) (p4 cT E) q.toNat M
   have i:(eQ q.toNat (T e).zero).length=q.toNat:=p8 ..
   have j:=OM (x:=d) (eV:=e) (l:=(r.drop dz).take n) (r:=eQ q.toNat (T e).zero) (cR:=(T e).size) (old:=old) (vs:=oo z.cells q.toNat) (rest:=oo z.cells (C-(((r.drop dz).take n).length+q.toNat))) (cap:=C) F c8 c9 A.row A.size fV (by rwa[i]) (by rwa[i]) Et;rw[f]at H j;rw[i]at j;rw[f]at u;exact⟨_,_,db a w _ _ (by rw[u,W];exact H.1),λdq B=>H.2 dq (by rwa[CA I X dt tk,u,W]at B),j⟩
  simp_all
 simp_all
include cT in
theorem aiL{o c x y t t2 e de db q dC O K}(p:o.op=.call c)(cM:c.callee=.builtin .append)(dt:c.args.toList=[x,y])(tk:c.argTypes.toList=[t,t2])(dc:(T t).k=.slice e)(G:(T t2).k=.int de)
  (S:dC x=.nil)(I:dC y=.d (.int db q))(h:NB T e q o.dst K):∃e,K e/\hE P o dC O e:=by
 have E:c.args=#[x,y]:=xy;have H:c.argTypes=#[t,t2]:=ze
 have F:∀(a:e8) (w w':da) (v:dr),(ie #[t,t2] o.type #[a.eval x,a.eval y]).run P w=.ok v w'->(execOp a.eval o).run P w=.ok (.value v) w':=by intro a w w' v cU;simp[execOp,p,ip,cM,iq,builtin,E,H,cU]
 have⟨W,s⟩:=kR cT dc;unfold NB at h;have⟨cW,h⟩:=k_ h;split at h
 .rename_i d cP;have⟨X,Y,h⟩:=Cf h;refine⟨_,h,rI λown M D a w u c8 c9 B=>?_⟩;have cX:=kH (I▸B y);have f:=B x;rw[S]at f;generalize A:a.eval x=v at f
  cases f with
  |nil base=>
   obtain⟨n,z,dI,v6,dh,C⟩:=Ww cT (dn:=o.type) dc G (w:=w) (base:=base) (fX:=0) (it:=0) (k:=q) (kk:=db) (old:=#[]) R R R (by simp_all) R (λw' _=>by cases base<;>simp[lx,loadCells,loadCellsFrom]) FR (λw' es _ dq b=>.inl (by cases base<;>simpa[lx,loadCells,loadCellsFrom]using b));obtain⟨fV,gY,_⟩:=OL dh (Fu cT s) (p4 cT s) q.toNat M
   have g:(eQ q.toNat (T e).zero).length=q.toNat:=p8 ..
   have m:=OM (x:=d) (eV:=e) (l:=[]) (r:=eQ q.toNat (T e).zero) (cR:=(T e).size) (old:=#[]) (vs:=oo z.cells q.toNat) (rest:=oo z.cells (n-(0+q.toNat))) (cap:=n) u c8 c9 ⟨λi x h=>qB,λi j x d h=>qB⟩ dw fV (by rwa[g]) (by rwa[g]) Et;rw[g]at m;simp at m C;exact⟨_,_,F a w _ _ (by rw[cX,A];exact C.1),λdq b=>C.2 dq (by rwa[CA p cM dt tk,cX,A]at b),m⟩
 simp_all
end
open Go.Conc
def fr(P:en)(main:di)(g:dP):dP:=match stepG P main g default with
 | .go g' _ _=>g'
 |_=>g
inductive j1(P:en)(main:di):dP->dP->Prop
 |nil (g:dP):j1 P main g g
 |cons (g g':dP) (c':g.status=.running) (h:∀w,stepG P main g w=.go (fr P main g) w #[]) (k:j1 P main (fr P main g) g'):j1 P main g g'
def zO(P:en)(main:di):V->dP->dP
 |0,g=>g
 |n+1,g=>zO P main n (fr P main g)
def NX(P:en)(main:di)(n:V):dP->da->I GStep:=
 IK (motive:=λ_=>dP->da->I GStep) (λ_ _=>[]) (λ_ a g w=>stepG P main g w::a (fr P main g) w) n
def NY(P:en)(main:di)(n:V):dP->da->I GStep:=
 IK (motive:=λ_=>dP->da->I GStep) (λ_ _=>[]) (λ_ a g w=>.go (fr P main g) w #[]::a (fr P main g) w) n
def NZ(P:en)(main:di)(n:V):dP->I N0:=
 IK (motive:=λ_=>dP->I N0) (λ_=>[]) (λ_ a g=>g.status::a (fr P main g)) n
def N1(n:V):I N0:=IK (motive:=λ_=>I N0) [] (λ_ a=>.running::a) n
theorem j1.IL{P main}:∀(n) {g},(∀w,NX P main n g w=NY P main n g w)->NZ P main n g=N1 n->j1 P main g (zO P main n g)
 |0,g,_,_=>.nil g|n+1,g,Q,h=>.cons g _ (Fs h).1 (λw=>(Fs (Q w)).1) (j1.IL n (λw=>(Fs (Q w)).2) (Fs h).2)
theorem oe{P:en}{main:di}{g g':dP}(n:V)(cW:zO P main n g=g':=by kernel_rfl)(Q:∀w,NX P main n g w=NY P main n g w:=by intro w;kernel_rfl)(h:NZ P main n g=N1 n:=by kernel_rfl):j1 P main g g':=
 cW▸j1.IL n Q h
section
variable {P:en} {main:di} {cU:da->da->Prop} {c3:da->da->d' hJ->Prop} {dy:dP->da->Prop}
theorem dR.nx{g w}(s:g.status=.running)(h:∀c2,cU w c2->∃g' w' es,stepG P main g c2=.go g' w' es/\c3 c2 w' es/\dR P main cU c3 dy g' w'):dR P main cU c3 dy g w:=by
 refine .step s (BJ P main g) (λc2 a=>?_) (λc2 a=>?_)
 .have⟨g',w',es,e,d,_⟩:=h c2 a;simp[BJ,e];simp_all
 .have⟨g',w',es,e,_,k⟩:=h c2 a;simp[BJ,e];exact k
theorem dR.pure(f:∀a b c,cU a b->cU b c->cU a c)(e:∀w,c3 w w #[]){g g' w}(h:j1 P main g g')(k:dR P main cU c3 dy g' w):dR P main cU c3 dy g w:=by
 induction h with
 |nil g=>exact k|cons g g' s h _ i=>exact .step s (λw=>(fr P main g,w,#[])) (λc2 d=>⟨h c2,e c2⟩) λc2 d=>(i k).rely f d
theorem QuitsD.pure{d n g g'}(h:j1 P L g g')(k:QuitsD P n d g'):∃m,QuitsD P m d g:=by
 induction h with
 |nil g=>grind|cons g g' s h _ i=>have⟨m,a⟩:=i k;exact⟨m+1,QuitsD.ctl s h a⟩
end
def jg(g:dP):d' gL:=match g.frame.todo with
 | .inRegion ops _::_=>ops
 |_=>#[]
def lu(g:dP):V:=match g.frame.todo with
 | .inRegion _ (i::_)::_=>i
 |_=>0
def lv(g:dP):I V:=match g.frame.todo with
 | .inRegion _ (_::r)::_=>r
 |_=>[]
def eA(g:dP):e8:=⟨g.frame.tmps,g.frame.defers⟩
def e6(g:dP):gL:=(jg g)[lu g]?.getD default
def put(g:dP)(v:dr):dP:=G (g.frame.at ((eA g).put (e6 g).dst v) (.inRegion (jg g) (lv g)::g.frame.todo.tail)) g.callers
structure iD(g:dP):Prop where
 eq:g=G (g.frame.at (eA g) (.inRegion (jg g) (lu g::lv g)::g.frame.todo.tail)) g.callers
 op:(jg g)[lu g]?=U (e6 g)
 wanted:js (e6 g) (yielded (jg g) (eA g).tmps)=N
 kind:(g.frame.kind==zP)=L
theorem kP {g:dP} (Q:g=G (g.frame.at (eA g) (.inRegion (jg g) (lu g::lv g)::g.frame.todo.tail)) g.callers:=by kernel_rfl) (h:(jg g)[lu g]?=U (e6 g):=by kernel_rfl)
  (a:js (e6 g) (yielded (jg g) (eA g).tmps)=N:=by kernel_rfl) (b:(g.frame.kind==zP)=L:=by kernel_rfl):iD g:=⟨Q,h,a,b⟩
section
variable {P:en} {main:di} {cU:da->da->Prop} {c3:da->da->d' hJ->Prop} {dy:dP->da->Prop} {g:dP} {w:da}
theorem iD.run(h:iD g):g.status=.running:=by rw[h.eq];rfl
theorem iD.ne(h:iD g):g.frame.kind≠.early:=by have:=h.kind;simp_all
theorem iD.value(h:iD g){v w'}(r:(execOp (eA g).eval (e6 g)).run P w=.ok (.value v) w'):stepG P main g w=.go (put g v) w' (listed P g.frame.fn (eA g) (e6 g) w):=by
 conv=>lhs;rw[h.eq]
 exact stepG_value h.op h.wanted h.ne r
theorem dR.val (h:iD g) (dQ:∀ c2,cU w c2->∃ v w',(execOp (eA g).eval (e6 g)).run P c2=.ok (.value v) w'/\c3 c2 w' (listed P g.frame.fn (eA g) (e6 g) c2) /\dR P main cU c3 dy (put g v) w'):dR P main cU c3 dy g w:=
 dR.nx h.run fun c2 h₁=>TO
theorem N2{a:e8}{o t x eb v}(b:o.op=.load t x)(c:a.eval x=.pointer (U eb))(d:∀w,(isAgg t).run P w=.ok L w)(dj:w.cell? eb=U v):
  (execOp a.eval o).run P w=.ok (.value v) w/\ ∀e∈(execOp a.eval o).events P w #[],e=⟨.cell eb,L,L⟩:=by
 have dQ:(execOp a.eval o).run P w=.ok (.value v) w:=by unfold execOp;simp[b,c,sG,lU,loadVar,hc,hU,hj,d];simp[go_sem,dj]
 have he:(execOp a.eval o).events P w #[]=(load eb).events P w #[]:=by unfold execOp;simp[b,c,sG,lU,loadVar];simp[go_sem,d,ed.isAgg t P w]
 simp_all
theorem dR.load(h:iD g){t x eb v}(o:(e6 g).op=.load t x)(j:(eA g).eval x=.pointer (U eb))(i:∀w,(isAgg t).run P w=.ok L w)(d:∀c2,cU w c2->c2.cell? eb=U v)
  (c:∀c2 es,cU w c2->(∀e∈es,e=⟨.cell eb,L,L⟩)->c3 c2 c2 es)(k:∀c2,cU w c2->dR P main cU c3 dy (put g v) c2):dR P main cU c3 dy g w:=
 dR.val h λc2 a=>by
  have⟨Q,b⟩:=N2 o j i (d c2 a);exact⟨v,c2,Q,c c2 _ a λe f=>b e (mem_listed f),k c2 a⟩
def tB(g:dP)(t:V)(v:dr):dP:={g with frame:={g.frame with tmps:=g.frame.tmps.set! t v}}
inductive u4(P:en)(ops:d' gL):V->d' di->e8->e8->Prop
 |done (n:V) (l:d' di) (a:e8) (h:mF .any ops l=[]):u4 P ops n l a a
 |take (n i:V) (o:gL) (v:dr) (l:d' di) (a d8:e8) (cK:ops[i]?=U o) (ee:Region.free .any ops l i=N) (dQ:(mF .any ops l).contains i=N)
   (hw:js o (yielded ops a.tmps)=N) (cY:∀w,(execOp a.eval o).run P w=.ok (.value v) w/\ (execOp a.eval o).events P w #[]=#[]) (k:u4 P ops n (l.setIfInBounds i N) (a.put o.dst v) d8):u4 P ops (n+1) l a d8
theorem u4.any(T:Terms cU c3)(g:∀w,cU w w){fn ops n l a d8 c w}(c':N4 ops=N)(h:u4 P ops n l a d8)(hw:cU c w):
  AnyCH P cU c3 fn .any ops (λe b x=>e=.normal/\b=d8/\cU c x) (cU c) n l a w:=by
 induction h generalizing w with
 |done n l a h=>exact anyCH_done h ⟨Z,Z,hw⟩ n|take n i o v l a d8 cK ee dQ d cY k f=>refine anyCH_take T (λx y h k=>T.trans _ _ _ h k) (λb x y h k=>⟨h.1,h.2.1,T.trans _ _ _ h.2.2 k⟩) cK c' ee dQ (.inl ⟨d,λx j=>⟨(cY x).1,?_⟩⟩) hw (f hw);rw[listed_nil (cY x).2];exact T.idle x
def IM(g:dP):V:=match g.frame.todo with
 | .code (.region id _ _)::_=>id
 |_=>0
def j2(g:dP):d' gL:=match g.frame.todo with
 | .code (.region _ ops _)::_=>ops
 |_=>#[]
theorem dR.draw (T:Terms cU c3) (c:me cU) (cP:LetsDraw c3) (m:P.follows .mixedOrders=N) {d8} (d:g=G (g.frame.at (eA g) (.code (.region (IM g) (j2 g) N)::g.frame.todo.tail)) g.callers)
  (c_:(g.frame.kind==zP)=L) (s:N4 (j2 g)=N) {n} (c0:(j2 g).size=n) (f:u4 P (j2 g) n (kM n L) (eA g) d8)
  (k:∀ w',cU w w'->dR P main cU c3 dy (G (g.frame.at d8 g.frame.todo.tail) g.callers) w'):dR P main cU c3 dy g w:=by
 have y:(Code.region (IM g) (j2 g) N).wpC P main cU c3 g.frame.fn ((j2 g).size+1+1) (fun e b x=>e=.normal/\b=d8/\cU w x) (eA g) w:=
  wpC_region_held T cP m fun c2 a=>(c0.symm▸f:u4 P (j2 g) (j2 g).size (kM (j2 g).size L) (eA g) d8).any T c.refl s (T.trans _ _ _ a (c.draw c2 _))
 rw [d]
 have:=y g.frame g.frame.todo.tail g.callers (fun g' w'=>g'=G (g.frame.at d8 g.frame.todo.tail) g.callers/\cU w w') 0 Z uB fun e b x h=>by
  obtain ⟨rfl,rfl,h⟩:=h
  exact .stop fun c2 a=>⟨Z,T.trans _ _ _ h a⟩
 exact (dR.sw this).bind c.refl fun g' w' h=>by grind
end
section
variable {P:en} {main:di} {F:V->Prop} {dy:dP->da->Prop}
theorem iL.Vl {g} {w} (h:dR P main (e0 F) (jd F) dy g w):iL P main F dy g w:=by
 induction h with
 |stop h=>exact .stop h|step c' fr h _ a=>exact .step c' fr h a
theorem dR.N6{g w}(h:iL P main F dy g w):dR P main (e0 F) (jd F) dy g w:=by
 induction h with
 |stop h=>exact .stop h|step c' fr h _ a=>exact .step c' fr h a
theorem oZ(w):jd F w w #[]:=.idle F w
theorem tC:Terms (e0 F) (jd F):=⟨λ_ _ _ h k=>h.trans k,oZ⟩
theorem ahx:LetsDraw (jd F):=λw=>⟨⟨Z,Z,Z,fi _,λ_ _=>Z⟩,dw⟩
theorem Vm {f} {fn} {c} {args} {w} {dO} (d:P.funcs[f]?=U fn) (c0:(fn.name== "runtime.NumGoroutine")=L) (b:fn.body=U c)
  (h:∀ (cs) (dy),(∀ (d8) (todo) (w'),d8.defers=[]->(∃ v,uL P F fn d8.tmps v w'/\dO v w')->dR P main (e0 F) (jd F) dy (G {(base f).at d8 todo with mode:=.returning} cs) w')->
   dR P main (e0 F) (jd F) dy (G ((base f).at {tmps:=args++kM (fn.ntmps-args.size) undef,defers:=[]} [.code c]) cs) w):g7 P main F f args w dO:=
 ⟨fn,c,d,c0,b,fun cs dy a=>.Vl (h cs dy fun d8 todo w' cP cY=>.N6 (a .ret d8 w' ⟨cP,cY⟩ todo))⟩
theorem ahy{fn tmps v w}(h:∀w,(results fn tmps).run P w=.ok v w/\ (results fn tmps).events P w #[]=#[]):uL P F fn tmps v w:=
 λc2 _=>⟨(h c2).1,by simp_all⟩
theorem dR.IN {g} {w} (h:iD g) {f} {dD} {ats} {vs} {dO} (H:(e6 g).op=.call {callee:=.value (.func f),args:=dD,argTypes:=ats})
  (cY:dD.map (eA g).eval=vs) (B:g7 P main F f vs w dO) (E:∀ v w',dO v w'->dR P main (e0 F) (jd F) dy (put g v) w'):dR P main (e0 F) (jd F) dy g w:=by
 have⟨fn,c,t,m,o,z⟩:=B
 have A:∀ c2,(execOp (eA g).eval (e6 g)).run P c2=.ok (.enter f vs) c2/\ (execOp (eA g).eval (e6 g)).events P c2 #[]=#[]:=fun c2=>by
  have u:(eA g).eval (.func f)=.func (.func f) #[] #[]:=rfl
  have dh:fn.body.isSome=N:=by rw [o];rfl
  subst cY
  have e:execOp (eA g).eval (e6 g)=callFunc f (dD.map (eA g).eval):=by simp [execOp,H,ip,u,sH,iq]
  rw [e]
  have x:fn.name≠ "runtime.NumGoroutine":=by simpa using m
  simp [callFunc,t,x,o]
 have p:∀ v,(g.frame.at (eA g) (.inRegion (jg g) (lu g::lv g)::g.frame.todo.tail)).finish v=g.frame.at ((eA g).put (e6 g).dst v) (.inRegion (jg g) (lv g)::g.frame.todo.tail):=fun v=>by
  rw [Frame.finish_at,h.op];rfl
 refine dR.nx h.run fun c2 s=>?_
 have y:stepG P main g c2=.go (G (Frame.enter P f vs .normal) (g.frame.at (eA g) (.inRegion (jg g) (lu g::lv g)::g.frame.todo.tail)::g.callers)) c2 (listed P g.frame.fn (eA g) (e6 g) c2):=by
  conv=>lhs;rw [h.eq]
  exact Ib h.op h.wanted h.ne (A c2).1
 refine ⟨_,c2,_,y,?_,?_⟩
 .unfold listed;rw [(A c2).2,B_];exact oZ c2
 .rw [EW _ t o];refine (dR.N6 (z (g.frame.at (eA g) (.inRegion (jg g) (lu g::lv g)::g.frame.todo.tail)::g.callers) dy fun e d8 a q=>?_)).rely (fun _ _ _ h k=>h.trans k) s
  have d:∀ (d8:e8) (a:da) (todo:I Item),(d8.defers=[] /\ ∃ v,uL P F fn d8.tmps v a/\dO v a)->
    iL P main F dy (G {(base f).at d8 todo with mode:=.returning} (g.frame.at (eA g) (.inRegion (jg g) (lu g::lv g)::g.frame.todo.tail)::g.callers)) a:=by
   rintro d8 a todo ⟨cP,v,r,n⟩
   refine iL.nx Z fun j i=>?_
   rw [EV (b:=base f) Z cP t (r j i).1,p];exact ⟨⟨.refl _ _,fun e C=>(r j i).2 e (mem_seen C)⟩,.Vl ((E v a n).rely (fun _ _ _ h k=>h.trans k) i)⟩
  cases e with|normal=>exact ny Z (fun _=>stepG_end) (d d8 a [] q)|ret=>exact fun todo=>d d8 a todo q|exit id=>exact q.elim|goto l=>exact q.elim|panic cX=>exact q.elim|outgrown=>exact q.elim
