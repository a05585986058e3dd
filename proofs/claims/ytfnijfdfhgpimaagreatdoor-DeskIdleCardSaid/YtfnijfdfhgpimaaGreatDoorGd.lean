/- What is proved here: what functions of the program compute, and what follows; no condition beyond each theorem's own. -/
import Derived.ChangeArms
import Derived.ChangeSame
import Derived.Conc.Neutral
import Derived.Lib.Builder
import Derived.Lib.Bytealg
import Derived.Lib.FrozenHead
import Derived.OpenShut
import Derived.ReadAgain
import Derived.RowKit
import Derived.WideShapes
import Derived.Test.YtfnijfdfhgpimaaGreatDoorGc
set_option linter.all false
noncomputable section
set_option maxHeartbeats 0
open And renaming imp->PA
open Array renaming getElem?_modify->VV
open BitVec renaming allOnes->amW,eq_of_toNat_eq->amM,ofInt->qL,ofNat->tW,toNat_ofInt->am0,toNat_ofNat->P1,toNat_shiftLeft->Zb,toNat_ushiftRight->P0,toNat_xor->amR,xor_assoc->amK
open Bool renaming false->L,true->N
open ByteArray renaming data_extract->Y5,empty->fB
open Classical renaming choose->JM,choose_spec->XA,not_forall->KT
open Decidable renaming decide->gy
open Go renaming Act->e8,Addr->g3,Event->hJ,Goroutine->dP,Program->en,TypeId->eF,Value->dr,World->da,growslice_fits->Ow,heap_alloc_old->Ym,invoke->iq,mapM_some_length->ak1,maxLen->sK,nextslicecap_zero->aim,resolve->ip,run_append_own->akM,run_firstCells_none->ain,run_sameAddr_same->akw,variablesAt->Yd
open Go.Addr renaming add->o0,add_lit->aio
open Go.Builtin renaming append_->ie,firstCells->lx,lenOf->p7,len_->x_,nextslicecap->wK,unsafeSliceData_->Px,unsafeString_->CT
open Go.CallKind renaming early->zP
open Go.Conc renaming Neutral->x8
open Go.DataW renaming trod->Yy
open Go.Deferred renaming ofValue->sH
open Go.Extern.AbiNoEscape renaming same->akG
open Go.Extern.BytealgCount renaming count->ako
open Go.Extern.BytealgIndexByte renaming indexByte->akj
open Go.Extern.Bytes renaming asByte->akl,bytesOf->akk
open Go.Instr renaming storeAt->z5,sureAddr->lU
open Go.IntKind renaming bits->PN,i64->sN,signed->alL,u32->rO,u64->Gq,u8->CR,wrap->la
open Go.Lib renaming byteCells_append->akK,countByte->wR,indexByte->kU,ownBlock_neF->Yj,run_append_own_string->aik,run_firstCells_string->Wa
open Go.Op renaming equalIn->oh
open Go.Proofs.Tryz renaming func122->akr,func128->akn,func166->aki,func242->alB,func324->aoy,func64->akF,func92->akt,prog->cQ
open Go.Question renaming forced->uN
open Go.Region renaming free->N3,noSelect->N4,ready->mF,wanted->js
open Go.Value renaming cells->J5,okWide->J4,ownBlock->Ov
open Go.World renaming cell?->ke,cells?->ak0,freeze->Ys,ownsRowF_of->aii,ownsRow_nil->Ou,setCell->Ux,shape?->Gf
open Int renaming eq_ofNat_of_zero_le->PW,lt_or_le->Y_,toNat->Gp
open List renaming countP_cons->QK,countP_set->Z6,count_cons->amy,drop->z7,eraseIdx_of_length_le->aad,ext_getElem->P5,filterMap_append->aa0,filter_cons_of_pos->aak,getElem_map->Kn,getElem_range->Zg,length->pt,length_filterMap_le->aaq,length_mergeSort->aap,map_replicate->Y9,mergeSort_perm->aoJ,pairwise_mergeSort->aoH,range->iz,replicate->eQ,set_set->aaP,take->CH,take_add->ak2,take_add_one->J3
open Nat renaming add_comm->Js,add_mod_right->Z7,blt->xV,lt_of_not_le->Pv,pow_succ->PK,shiftLeft_eq->amN,shiftRight_eq_div_pow->Zc,xor_lt_two_pow->amZ
open Option renaming bind_eq_some_iff->akZ,none->cL,some->U
open _root_ renaming Array->d',Bool->di,ByteArray->dG,Decidable->qK,False->dA,Int->J,List->I,Nat->V,Option->dB,UInt8->gM,absurd->dN,rfl->Z,trivial->dM
namespace Go.Lk
def lz:=@Array.length_toList
def rM:=@IntKind.wrap_i64
def Kf:=@Lib.indexByte_ge
def Gg:=@heap_alloc_new
def Ji:=@run_firstCells_some
def Ka:=@Int.fdiv_eq_ediv_of_nonneg
def kX:=@Int.le_refl
def gz:=@Int.toNat_natCast
def o8:=@List.cons_append
def CY:=@List.drop_of_length_le
def C0:=@List.drop_zero
def Gt:=@List.eq_of_mem_replicate
def KV:=@List.getElem?_set_self
def As:=@List.getElem_set
def xa:=@List.getElem_set_ne
def t':=@List.getElem_set_self
def kv:=@List.length_append
def Db:=@List.length_filter_le
def ec:=@List.length_map
def iu:=@List.length_set
def jl:=@List.map_append
def q1:=@List.map_nil
def rQ:=@List.map_set
def Ag:=@List.map_toArray
def pH:=@List.nodup_append
def GN:=@List.nodup_nil
def KL:=@List.pairwise_append
def rW:=@List.take_length
def vm:=@List.take_of_length_le
def yy:=@Nat.lt_succ_iff_lt_or_eq
def qc:=@Nat.not_lt_zero
def Gn:=@Nat.pow_le_pow_right
def Jg:=@decide_eq_false_iff_not
def GL:=@decide_eq_true_eq
namespace Dk
section
open Go.Conc Go.Lib Go.Proofs
set_option maxRecDepth 100000
def pu(cN:di)(w:da)(v:dr)(n:V)(dD:I dr):Prop:=if cN=N then w.ownsRowF 0 5 1 v n dD else w.ownsRow 0 5 1 v n dD
def pu.f{cN w v n dD}(h:pu cN w v n dD):w.ownsRowF 0 5 1 v n dD:=by
 cases cN
 .exact aii h
 .exact h
noncomputable def nI:TypeInfo:=(cQ.info? 5).getD default
def pv:cQ.info? 5=U nI:=cV
def oi:nI.size=1:=cV
def tK:nI.bytes=1:=cV
def tL:nI.zero=U (.int .u8 0):=cV
def oj:cQ.underlying 26=U (.slice 5):=cV
def tM:cQ.underlying 9=U .string:=cV
def ownsRow.base{w:da}{b e cR:V}{v n dD}(h:w.ownsRow b e cR v n dD):w.ownsRow 0 e cR v n dD:=by
 refine⟨h.1,?_⟩;rcases h.2 with h|⟨g,cap,u,a,b,c⟩
 .grind
 grind
def V'(w:da)(v fN:dr):Prop:=fN.ownBlock=v.ownBlock\/ ∃k,fN.ownBlock=U k/\w.heap.size<=k
def aij{cN w v n dD}(h:pu cN w v n dD)(s dn)(b:n+s.size<=sK)(hb:n+s.size<=140737488355328):
  ∃fN w',(ie #[26,9] dn #[v,.string s]).run cQ w=.ok fN w'/\pu cN w' fN (n+s.size) (dD++strCells s) /\w.grownBy w' v.ownBlock/\V' w v fN/\ (v.ownBlock=cL->s.size=0->fN.ownBlock=cL):=by
 have c_:=h.f;rcases c_.2 with⟨rfl,rfl⟩|⟨g,cap,c,d,rfl,p,i,q,r,t,j,u⟩
 .have l:dD=[]:=by have:=c_.1;simpa using this
  subst l;have⟨fN,w',Q,c5,a,m⟩:=aik (P:=cQ) w w.heap.size 26 9 dn 5 nI oj tM pv tL oi tK (.slice cL 0 0) 0 [] (Ou _ _ _ _) s b hb (fi _);refine⟨fN,w',Q,?_,a,?_,λ_ c'=>by simp_all⟩
  .cases cN
   .exact ownsRow.base c5
   .exact aii (ownsRow.base c5)
  .cases cY:fN.ownBlock with|none=>exact .inl (by rw[cY];rfl)|some k=>exact .inr ⟨k,cY,(c5.lt k cY).1⟩
 .have⟨fN,w',Q,c5,a,m⟩:∃fN w',(ie #[26,9] dn #[.slice (U ⟨g,0,cL⟩) n cap,.string s]).run cQ w=.ok fN w'/\pu cN w' fN (n+s.size) (dD++strCells s) /\w.grownBy w' (Ov (.slice (U ⟨g,0,cL⟩) n cap)) /\True:=by
   cases cN
   .have⟨fN,w',Q,c5,a,_⟩:=aik (P:=cQ) w 0 26 9 dn 5 nI oj tM pv tL oi tK _ n dD (show w.ownsRow 0 5 1 _ n dD from h) s b hb (eY _);exact⟨fN,w',Q,c5,a,dM⟩
   .have⟨fN,w',Q,c5,a,_⟩:=run_append_own_stringF (P:=cQ) w 0 26 9 dn 5 nI oj tM pv tL oi tK _ n dD (show w.ownsRowF 0 5 1 _ n dD from h) s b hb (eY _);exact⟨fN,w',Q,c5,a,dM⟩
  refine⟨fN,w',Q,c5,a,?_,λe=>by cases e⟩
  have x:c.size=cap:=by simpa using j
  by_cases o:n+s.size<=cap
  .have dQ:=run_append_room_stringF (P:=cQ) w 26 9 dn 5 nI oj tM pv oi g n cap c d i R s o R;rw[dQ]at Q
   cases Q
   exact .inl Z
  .have y:dD.length=n:=by simpa using c_.1
   have holds:=c_.cells (g:=g) Z;have dQ:=run_append_grow_string (P:=cQ) w 26 9 dn 5 nI (.int .u8 0) oj tM pv tL ⟨g,0,cL⟩ n cap dD (by rw[oi];omega) holds s R R (by rw[tK];exact Ow R R);rw[dQ]at Q
   cases Q
   exact .inr ⟨_,Z,fi _⟩
def Ox(r:dB V)(e:hJ):Prop:=(e.sync=L/\ ∃eb,e.loc=.cell eb/\U eb.block=r) \/ ∃m,e=⟨.mark m,L,N⟩ /\x8 m
def FN{w s n v l c a}(cY:v=.slice a l c){es}(h:∀b,a=U b->∀j,j<n*s->(w.cell? (b.add j)).isSome):
  ∀dq∈(lx s n v).events cQ w es,dq∈es\/dq.sync=L/\ ∃eb,dq.loc=.cell eb/\U eb.block=v.ownBlock:=by
 subst cY
 cases a with
 |none=>exact λdq h=>.inl h
 |some b=>
  intro dq e;rcases Je b (n*s) 0 #[] w es (λj f=>by simp_all) dq e with h|⟨Q,eb,d,g⟩
  .grind
  .exact .inr ⟨Q,eb,d,by rw[g];rfl⟩
def Oy(g o t z):∀vs i c w es,w.heap[g]?=U (.cells c t z)->z.2<=o+i->o+i+vs.length<=c.size->(∀v∈vs,v.oneCell'=N)->
  ∀dq∈(storeCells ⟨g,o,cL⟩ vs i).events cQ w es,dq∈es\/dq.sync=L/\ ∃eb,dq.loc=.cell eb/\eb.block=g
 | [],_,_,_,_,_,_,_,_=>λdq h=>.inl (by assumption)
 |v::rest,i,c,w,es,b,j,l,Q=>λdq h=>by
  have cK:o+i<c.size:=by simp at l;omega
  have a:(⟨g,o,cL⟩:g3).add i=⟨g,o+i,cL⟩:=by unfold o0;split<;>simp_all
  have e:w.cell? ⟨g,o+i,cL⟩=U c[o+i]:=by simp[ke,b,cK]
  have f:w.frozen? ⟨g,o+i,cL⟩=L:=by have⟨dz,k⟩:=z;simp only[World.frozen?,b,Bool.and_eq_false_iff,Jg];right;simp only at j;omega
  have s:(store ((⟨g,o,cL⟩:g3).add i) v).run cQ w=.ok () (w.setRow g (c.setIfInBounds (o+i) v)):=by rw[a,I7 cQ w _ v _ (Q v dw),e];simp[f,setCell_eq_setRow w g (o+i) c t z v b]
  have d:(store ((⟨g,o,cL⟩:g3).add i) v).events cQ w es=es.push ⟨.cell ⟨g,o+i,cL⟩,N,L⟩:=by rw[a,I8 cQ w es _ v _ (Q v dw),e];simp[f,rG,qF];rfl
  simp[storeCells,jz,s,kT,d]at h;rcases Oy g o t z rest (i+1) (c.setIfInBounds (o+i) v) (w.setRow g (c.setIfInBounds (o+i) v)) _ (setRow_heap w g c _ t _ b) R (by grind) (λx eE=>Q x HT) dq h with h|h
  .grind
  simp_all
def Jh{w i n s es}:(lx i n (.string s)).events cQ w es=es:=rfl
def ail{w v n dD}(d:w.ownsRowF 0 5 1 v n dD)(s dn)(o:n+s.size<=sK)(hb:n+s.size<=140737488355328):
  ∀dq∈(ie #[26,9] dn #[v,.string s]).events cQ w #[],Ox v.ownBlock dq:=by
 have k:∀e∈(#[]:d' hJ),Ox v.ownBlock e:=by intro e he;simp at he
 have x:n+s.size<=9223372036854775807:=by simp[sK]at o;omega
 intro dq c;rcases d.2 with⟨rfl,rfl⟩|⟨g,cap,l,p,rfl,y,q,z,A,B,r,C⟩
 .by_cases d6:s.size=0
  .simp[ie,fx oj,fx tM,sizeOf,typeInfo,pv,oi,p7,d6,Jh]at c
  .have f:¬(9223372036854775807<(s.size:J)):=R
   have i:¬(281474976710656<wK s.size 0*nI.bytes):=by rw[aim R,tK];omega
   have ee:=Wa (P:=cQ) w.drew 1 s;simp[ie,fx oj,fx tM,sizeOf,typeInfo,zeroValue,pv,oi,tL,p7,d6,f,i,uN,ain,ee,newRow,Jh]at c;rcases FN (a:=cL) rfl (λb e=>by cases e) dq c with h|h
   .exact(Cv _ _ _ dq h).elim (k dq) .inr
   .exact .inl h
 .have holds:=d.cells (g:=g) Z
  have D:l.size=cap:=by simpa using r
  have E:dD.length=n:=by simpa using d.1
  by_cases m:n+s.size<=cap
  .have ee:=Wa (P:=cQ) w 1 s;simp[ie,fx oj,fx tM,sizeOf,typeInfo,pv,oi,p7,m,ee,aio,Jh]at c;rcases Oy g n 5 p (strCells s) 0 l w _ q R (by rw[strCells_length];omega) (strCells_oneCell s) dq c with h|⟨Q,eb,c5,t⟩
   .simp at h
   .exact .inl ⟨Q,eb,c5,by simp[Ov,t]⟩
  .have f:¬(9223372036854775807<((n:J)+(s.size:J))):=R
   have i:¬(281474976710656<wK (n+s.size) cap*nI.bytes):=by have:=Ow (need:=n+s.size) (old:=cap) (bytes:=nI.bytes) R (by rw[tK];omega);omega
   have ee:=Wa (P:=cQ) w.drew 1 s;have u:=Ji (P:=cQ) w.drew 1 n ⟨g,0,cL⟩ n cap dD R (by assumption);simp[ie,fx oj,fx tM,sizeOf,typeInfo,zeroValue,pv,oi,tL,p7,m,f,i,uN,ee,u,newRow,Jh]at c;rcases FN (a:=U ⟨g,0,cL⟩) rfl (λb e j dU=>by simp_all) dq c with h|h
   .exact(Cv _ _ _ dq h).elim (k dq) .inr
   .exact .inl h
end
end Dk
open Go.ChangeShapes Go.RowKit Go.WideShapes
def PB(F:eF->I c3->Prop):I (V×eF)->I c3->Prop
 | [],dx=>dx=[]
 |(_,t)::r,dx=>∃a b,dx=a++b/\F t a/\PB F r b
def PC(F:I c3->Prop):V->I c3->Prop
 |0,dx=>dx=[]
 |n+1,dx=>∃a b,dx=a++b/\F a/\PC F n b
def iF(T:fM):V->eF->I c3->Prop
 |0,_,_=>dA
 |n+1,t,dx=>match (T t).k with
  | .int k=>∃x,dx=[.int k x] /\ (Lit.int k x).wf=N
  | .bool=>∃b,dx=[.bool b]
  | .str=>∃s:dG,dx=[.str s] /\s.size<=sK
  | .slice e=>∃l:I (I c3),dx=[.dm l] /\l.length<=sK/\ ∀x∈l,iF T n e x
  | .struct iA=>PB (iF T n) iA dx
  | .arr m e=>PC (iF T n e) m dx
  |_=>dA
def o6(T:fM):V->eF->di
 |0,_=>L
 |m+1,t=>match (T t).k with
  | .int _=>N
  | .bool=>N
  | .str=>N
  | .slice e=>o6 T m e
  | .arr _ e=>o6 T m e
  | .struct iA=>iA.all λp=>o6 T m p.2
  |_=>L
theorem Yx{T m t}(h:o6 T m t=N):(T t).k.known=N:=by
 cases m with
 |zero=>cases h
 |succ m=>
  simp[o6]at h
  cases k:(T t).k<;>simp_all [n_.known]
def sT(T:fM)(n:V)(t:eF)(d:c3):Prop:=if(T t).k.agg=N then ∃dx,d=.agg dx/\iF T n t dx else iF T n t [d]
def tS(M:eI)(cs:I dr)(dx:I c3):Prop:=cs.length=dx.length/\ ∀(i:V) (d:c3) (v:dr),dx[i]?=U d->cs[i]?=U v->e4 M d v
theorem tS.app{M a b x y}(h:tS M a x)(e:tS M b y):tS M (a++b) (x++y):=by
 refine⟨by simp[h.1,e.1],λi d v Q c=>?_⟩
 by_cases cK:i<x.length
 .rw[wH cK]at Q;rw[wH (by rwa[h.1])]at c;exact h.2 i d v Q c
 .rw[x7 R]at Q;rw[x7 (by rw[h.1];omega),h.1]at c;exact e.2 _ d v Q c
theorem tS.one{M v d}(h:e4 M d v):tS M [v] [d]:=by refine⟨Z,λi a fN Q b=>?_⟩;grind
def tT(w:da):eI:=λb o=>w.cell? ⟨b,o,cL⟩
section
variable {H:Type} {enc:eF×dr->H} {P:en} {T:fM} (cT:jL P T) {w:da} {CV:V->di} {held:di}
include cT in
theorem akW{t}(h:(T t).k.known=N):P.cellsOf t=(T t).size:=by have⟨d,i,_,cK,_,s,_⟩:=(lW cT h).desc;simp[Program.cellsOf,cK,s]
include cT in
theorem akX(K:Kids P (·<P.types.size)):∀(n) (t:eF) (cs) (x),t<P.types.size->(∃m,o6 T m t=N)->
 Yy enc P w 0 CV held n t cs=U x->∃dx,iF T n t dx/\tS (tT w) cs dx:=by
 intro n
 induction n with
 |zero=>intro t cs x _ _ h;simp[Yy]at h
 |succ n D=>
  intro t cs x J z h;have⟨q,z⟩:=z;have c_:=Yx z
  cases q with
  |zero=>cases z
  |succ aa=>
  have⟨eU,aK,aL,_,aM,_,_,_,aN,_⟩:=(lW cT c_).desc
  cases r:(T t).k with
  |other=>rw[r]at c_;cases c_
  |ptr e=>simp[o6,r]at z
  |int k=>obtain⟨m,rfl,_,hw⟩:=DataW.trod_int (v4 cT r) h;exact⟨[.int k m],by simp[iF,r];simp_all,.one (.int k m)⟩
  |bool=>obtain⟨b,rfl,_⟩:=DataW.trod_bool (x0 cT r) h;exact⟨[.bool b],by simp only[iF,r];simp_all,.one (.bool b)⟩
  |str=>obtain⟨s,rfl,_,c'⟩:=DataW.trod_string (wC cT r) h;exact⟨[.str s],by simp[iF,r];simp_all,.one (.str s)⟩
  |slice e=>
   have⟨db,W⟩:=kR cT r;have ab:=K.slice J db;rcases DataW.trod_slice db h with⟨rfl,_⟩|⟨a,len,cap,y,rest,m,d6,rfl,_,_,aO,aP,aQ,u,_,_⟩
   .exact⟨[.dm []],by simp only[iF,r];simp_all,.one (.emp _ _)⟩
   .obtain rfl:n=m:=R
    by_cases au:len=0
    .subst au;exact⟨[.dm []],by simp only[iF,r];exact⟨[],Z,dw,dw⟩,.one (.emp _ _)⟩
    have dh:=akW cT W;have dc:=p4 cT W
    have ak:∀i,i<len->∃dx,iF T n e dx/\dx.length=(T e).size/\a.spot=cL/\ ∀(j:V) (d:c3),dx[j]?=U d->∃v,w.cell? ⟨a.block,a.off+i*(T e).size+j,cL⟩=U v/\e4 (tT w) d v:=by
     intro i cK;have cM:=u i cK;have he:y[i]?=U (y[i]' R):=dw;rw[he]at cM;simp[akZ]at cM;have⟨C,c,av⟩:=cM;have⟨dx,aw,S⟩:=D e C _ ab ⟨aa,by simpa[o6,r]using z⟩ av
     have al:(iz (P.cellsOf e)).mapM (λj=>w.cell? ((a.add (i*P.cellsOf e)).add j))=U C:=by
      unfold ak0 at c;split at c
      .exact c
      .cases c
     have A:C.length=(T e).size:=by have:=ak1 al;simpa[dh]using this
     have ax:=λj M=>mapM_some_get al j j (by rw[Ja (by rwa[dh])])
     have ay:∀b:g3,w.cell? b≠cL->b.spot=cL:=by
      intro b hb;unfold ke at hb
      cases c':b.spot with
      |none=>rfl
      |some s=>exfalso;apply hb;split<;>simp[c']
     have ac:a.spot=cL:=by
      have Y:=u 0 R;have az:y[0]?=U (y[0]' R):=dw;rw[az]at Y;simp[akZ]at Y;have⟨am,E,_⟩:=Y;unfold ak0 at E;split at E
      .have e_:=ak1 E;have:=mapM_some_get E 0 0 (by rw[Ja (by rwa[dh])])
       have an:am[0]?≠cL:=by
        have:0<am.length:=by rw[e_];simpa[dh]using dc
        rw[fq this];simp
       rw[<-this]at an;have:=ay _ an;simpa[o0]using this
      .cases E
     refine⟨dx,aw,by rw[<-S.1,A],ac,λj d M=>?_⟩
     have aA:j<(T e).size:=by rw[<-A,S.1];exact(f_.1 M).1
     have cY:C[j]?=U (C[j]' R):=dw;refine⟨_,?_,S.2 j d _ M cY⟩;rw[<-cY,<-ax j aA]
     congr 1
     obtain⟨ad,kP,aB⟩:=a;simp only at ac;subst ac;rw[mL,mL,dh]
    have⟨f,ee⟩:∃f:V->I c3,∀i,i<len->iF T n e (f i)/\ (f i).length=(T e).size/\a.spot=cL/\ ∀(j:V) (d:c3),(f i)[j]?=U d->∃v,w.cell? ⟨a.block,a.off+i*(T e).size+j,cL⟩=U v/\e4 (tT w) d v:=by refine⟨λi=>if h:i<len then JM (ak i h) else [],λi cK=>?_⟩;simp[FC cK];exact XA (ak i cK)
    have O:=(ee 0 R).2.2.1;have⟨ad,kP,aB⟩:=a;simp only at O ee;subst O
    let l:I (I c3):=(iz len).map f
    have B:∀(i:V) (cX:I c3),l[i]?=U cX->i<len/\cX=f i:=by
     intro i cX cK;simp only[l,ir]at cK
     by_cases Q:i<len
     .rw[Ja Q]at cK;simp at cK;exact⟨Q,cK.symm⟩
     .rw[List.getElem?_eq_none hy]at cK;cases cK
    have ao:l.length=len:=by simp[l]
    refine⟨[.dm l],?_,?_⟩
    .simp only[iF,r];refine⟨l,Z,by rw[ao];omega,λx aC=>?_⟩;have⟨i,cK,aD⟩:=List.getElem_of_mem aC;have⟨Q,cU⟩:=B i x (by rw[fq cK,aD]);rw[cU];exact(ee i Q).1
    .refine .one ?_;rw[show len=l.length from ao.symm];refine .dm l ad kP cap (T e).size (λi j=>(w.cell? ⟨ad,kP+i*(T e).size+j,cL⟩).getD undef) R (λi cX cK=>?_) (λi j cX d cK M=>?_) λi j cX d cK M=>?_
     .have⟨Q,cU⟩:=B i cX cK;rw[cU];exact(ee i Q).2.1
     .have⟨Q,cU⟩:=B i cX cK;subst cU;have⟨v,cY,_⟩:=(ee i Q).2.2.2 j d M;show w.cell? _=U _;rw[cY];rfl
     .have⟨Q,cU⟩:=B i cX cK;subst cU;have⟨v,cY,cP⟩:=(ee i Q).2.2.2 j d M;rwa[cY]
  |struct iA=>
   have⟨F,db,ae,aE,_⟩:=Cc cT r;have⟨X,c,aF⟩:=K.struct J db;have⟨dD,m,d6,_,A,ap,u⟩:=DataW.trod_struct db h;obtain rfl:n=m:=R
   have af:∀(G:I Field) (k o:V),F.toList.drop k=G->o=((F.toList.take k).map λf=>P.cellsOf f.type).sum->∃dx,PB (iF T n) (G.map λf=>(f.offset,f.type)) dx/\tS (tT w) ((cs.drop o).take ((G.map λf=>P.cellsOf f.type).sum)) dx:=by
    intro G
    induction G with
    |nil=>intro k o _ _;exact⟨[],Z,by simp[tS]⟩
    |cons g G aG=>
     intro k o aq ar
     have H:F.toList[k]?=U g:=by have:=eL (·[0]?) aq;simpa using this
     have aH:F.toList.drop (k+1)=G:=by have:=eL (z7 1) aq;simpa[Js]using this
     have aI:g.offset=o:=by rw[aF k g H,ar]
     have de:=jY H;have aR:=aE (g.offset,g.type) (by rw[<-ae];exact is.2 ⟨g,de,Z⟩);have cM:=u k g (by rwa[<-FK]);have ag:dD[k]?=U (dD[k]'(by rw[ap];have:=(f_.1 H).1;simpa using this)):=dw;rw[ag]at cM
     have⟨d1,ah,hi⟩:=D g.type _ _ (X g de) ⟨aa,by
      simp only[o6,r,of]at z
      exact z (g.offset,g.type) (by rw[<-ae];exact is.2 ⟨g,de,Z⟩)⟩ cM
     have⟨p,ai,aj⟩:=aG (k+1) (o+P.cellsOf g.type) aH (by
      rw[ar]
      have:F.toList.take (k+1)=F.toList.take k++[g]:=by rw[J3,H];rfl
      rw[this];simp)
     refine⟨d1++p,⟨d1,p,Z,ah,ai⟩,?_⟩
     have:(cs.drop o).take (((g::G).map λf=>P.cellsOf f.type).sum)=(cs.drop g.offset).take (P.cellsOf g.type)++(cs.drop (o+P.cellsOf g.type)).take ((G.map λf=>P.cellsOf f.type).sum):=by rw[aI];simp;rw[ak2,Cs]
     rw[this];exact hi.app aj
   have⟨dx,k1,eK⟩:=af F.toList 0 0 Z Z;refine⟨dx,by simp[iF,r];rwa[<-ae],?_⟩;rw[<-c,<-A]at eK;simpa using eK
  |arr m e=>
   have⟨db,W⟩:=Cb cT r;have⟨ab,c⟩:=K.array J db;have⟨dD,tU,aS,_,A,ap,u⟩:=DataW.trod_array db h;obtain rfl:n=tU:=R
   have af:∀(q k:V),k+q=m->∃dx,PC (iF T n e) q dx/\tS (tT w) ((cs.drop (k*P.cellsOf e)).take (q*P.cellsOf e)) dx:=by
    intro q
    induction q with
    |zero=>intro k _;exact⟨[],Z,by simp[tS]⟩
    |succ q aJ=>
     intro k aT;have cM:=u k R;have ag:dD[k]?=U (dD[k]' R):=dw;rw[ag]at cM;have⟨d1,ah,hi⟩:=D e _ _ ab ⟨aa,by simpa[o6,r]using z⟩ cM;have⟨p,ai,aj⟩:=aJ (k+1) R;refine⟨d1++p,⟨d1,p,Z,ah,ai⟩,?_⟩
     have:(cs.drop (k*P.cellsOf e)).take ((q+1)*P.cellsOf e)=(cs.drop (k*P.cellsOf e)).take (P.cellsOf e)++(cs.drop ((k+1)*P.cellsOf e)).take (q*P.cellsOf e):=by rw[show(q+1)*P.cellsOf e=P.cellsOf e+q*P.cellsOf e by rw[qR,FL,Js],ak2,Cs,show k*P.cellsOf e+P.cellsOf e=(k+1)*P.cellsOf e by rw[qR,FL]]
     rw[this];exact hi.app aj
   have⟨dx,k1,eK⟩:=af m 0 R;refine⟨dx,by simp[iF,r];exact k1,?_⟩;grind
include cT in
theorem ak4(K:Kids P (·<P.types.size)){t:eF}{v d q r base}(s:t<P.types.size)(g:∃m,o6 T m t=N)(b:J4 P w r base t v)(h:DataW.Trod enc P w 0 CV held t v d q):
  ∃n f,sT T n t f/\e4 (tT w) f v:=by
 have⟨n,c0⟩:=h;have⟨dx,u,j⟩:=akX cT K n t _ _ s g c0;have⟨m,g⟩:=g;have c_:=Yx g
 have p:∀cs:d' dr,v=.agg cs->(T t).k.agg=N->∃n f,sT T n t f/\e4 (tT w) f v:=by intro cs cY dt;subst cY;refine⟨n,.agg dx,by unfold sT;simp_all,.agg dx cs (by simpa[J5]using j.1) λi d v Q c5=>j.2 i d v Q (by simpa[J5]using c5)⟩
 have one:v.cells=#[v]->(T t).k.agg=L->∃n f,sT T n t f/\e4 (tT w) f v:=by
  intro cY dt
  have dv:dx.length=1:=by rw[<-j.1,cY];rfl
  obtain⟨d,rfl⟩:=List.length_eq_one_iff.1 dv;exact⟨n,d,by unfold sT;simp_all,j.2 0 d v Z (by rw[cY];rfl)⟩
 cases v8:(T t).k with|other=>rw[v8]at c_;cases c_|ptr e=>cases m<;>simp[o6,v8]at g|int k=>obtain⟨x,rfl⟩:=okWide_int (v4 cT v8) b;exact one Z Bw|bool=>obtain⟨x,rfl⟩:=okWide_bool (x0 cT v8) b;exact one Z Bw|str=>obtain⟨x,rfl⟩:=okWide_string (wC cT v8) b;exact one Z Bw|slice e=>obtain⟨a,l,c,rfl⟩:=okWide_slice (kR cT v8).1 b;exact one Z Bw|struct iA=>have⟨F,o,_⟩:=Cc cT v8;have⟨cs,cY,_⟩:=okWide_struct o b;exact p cs cY Bw|arr m e=>have o:=(Cb cT v8).1;unfold J4 at b;rw[o]at b;have⟨cs,cY,_⟩:=b;exact p cs cY Bw
def q3(T:fM):I eF->I c3->Prop
 | [],dx=>dx=[]
 |t::a,dx=>∃n d r,dx=d::r/\sT T n t d/\q3 T a r
include cT in
theorem Yz (K:Kids P (·<P.types.size)) {r} {base}:∀ {c:I eF} {vs} {dx} {f},(∀ t∈c,t<P.types.size/\ ∃ m,o6 T m t=N)->
  (∀ (j:V) t v,c[j]?=U t->vs[j]?=U v->J4 P w r base t v)->DataW.TrodAll enc P w 0 CV held c vs dx f->
  ∃ e,q3 T c e/\e.length=vs.length/\dx.length=c.length/\ ∀ (i:V) (d) (v),e[i]?=U d->vs[i]?=U v->e4 (tT w) d v
 | [],vs,dx,f,_,_,h=>by
  obtain ⟨rfl,rfl,rfl⟩:=trodAll_nil h;exact ⟨[],Z,Z,Z,fun i d v h=>by simp at h⟩
 |t::c,vs,dx,f,g,l,h=>by
  obtain ⟨v,B,d,C,a,b,rfl,rfl,rfl,Q,c5⟩:=trodAll_cons h;obtain ⟨n,o,p,q⟩:=ak4 cT K (g t (mK ..)).1 (g t (mK ..)).2 (l 0 t v Z Z) Q;obtain ⟨e,s,u,x,y⟩:=Yz K (fun t z=>g t (lX _ z)) (fun j t v Q c5=>l (j+1) t v (by simpa using Q) (by simpa using c5)) c5;refine ⟨o::e,⟨n,o,e,Z,p,s⟩,by simp [u],by simp [x],fun i A fN dI k=>?_⟩
  cases i with
  |zero=>
   simp only [u9,fC] at dI k;subst dI k;exact q
  |succ i=>exact y i A fN (by simpa using dI) (by simpa using k)
end
def po{A B}(h:B):jI L A B:=⟨h⟩
def zp{A B}(h:A):jI N A B:=⟨h⟩
def Bz{r:I Oper}{q:I oY}{i:V}{done:I oY}{p:I V}{K:Prop}(k:K)(h:u2 r q i done p=N:=by kernel_rfl):jZ (u2 r q i done p=N) K:=fz h k
def BA{α:Type}{a:α}{K}(k:K):jZ (a=a) K:=⟨⟨Z,k⟩⟩
def EG{c K:Prop}(k:K)(h:c:=by first|decide|omega):jZ c K:=⟨⟨h,k⟩⟩
def zq{n:J}{K:J->Prop}(k:K n)(cW:-9223372036854775808<=n:=by omega)(Q:n<=9223372036854775807:=by omega):wq .i64 n K:=md (by rw[rM];omega) k
def rN{α}{l:I α}{k}(h:k<l.length):l.drop k=l[k]::l.drop (k+1):=qT h
def mb{α}{l:I α}{k}(h:k<l.length):l.take (k+1)=l.take k++[l[k]]:=by simp_all
def ak5{b A}(h:b=N)(k:A):bif b then A else dA:=by simp_all
def dg{o}{d a:c3}(h:o=U a)(e:a=d):o=U d:=by rw[h,e]
@[simp] def ak6(d):ps [d]=d:=rfl
def fO{n bytes K}(m c)(c0:n<=m)(b:bytes<=c)(Q:m*c<=35184372088832)(h:m<=35184372088832)(k:K):sB n bytes K:=
 Im (fG (Nat.mul_le_mul c0 b) Q) (fG c0 h) k
def CW{P:en}{T}{fn:Func}(h:(fn.params.toList.all λt=>xV t P.types.size&&o6 T 12 t)=N):∀t∈fn.params.toList,t<P.types.size/\ ∃m,o6 T m t=N:=by intro t a;have:=of.1 h t a;simp only[lV]at this;exact⟨tt this.1,12,this.2⟩
def ak7(P:en):di:=(iz P.types.size).all λt=>match P.underlying t with
 |some (.slice e)=>xV 0 (P.cellsOf e)
 |_=>N
def ak8{P}(h:ak7 P=N):∀t e,t<P.types.size->P.underlying t=U (.slice e)->0<P.cellsOf e:=by intro t e a u;have:=(of.1 h) t (F2.2 a);simp_all
def ak9{T n t dx}(k:(T t).k=.str)(h:iF T n t dx):∃s,dx=[.str s] /\s.size<=sK:=by
 cases n with|zero=>exact h.elim|succ n=>simpa[iF,k]using h
def J7{T n t d}(a:(T t).k.agg=L)(h:sT T n t d):iF T n t [d]:=by unfold sT at h;simp_all
def gf(p:J×J):I c3:=[.int .i64 p.1,.int .i64 p.2]
def hk(l:I (J×J)):c3:=.dm (l.map gf)
def YA{l:I (J×J)}{e}(h:e∈l.map gf):e.length=2:=by simp only[is]at h;obtain⟨x,_,rfl⟩:=h;rfl
def J8:∀(l:I (J×J)),gZ 2 (l.map gf)=N
 | []=>rfl|_::r=>J8 r
def h1(n:J):I c3:=[.int .i64 n]
def Gi(l:I J):c3:=.dm (l.map h1)
def HV{p:Prop}[qK p]{A B:Prop}(k:A)(h:p:=by omega):jI (decide p) A B:=sA (decide_eq_true h) k
def HU{p:Prop}[qK p]{A B:Prop}(k:B)(h:¬p:=by omega):jI (decide p) A B:=wp (decide_eq_false h) k
def ala{p:Prop}[qK p]{A B:Prop}(k:B)(h:p:=by omega):jI (!decide p) A B:=wp (by simp_all) k
structure j5(K:Prop):Prop where
 k:K
def cO{K G:Prop}(k:K)(h:j5 K->G:=by intro k;(conv=>whnf);exact k.k):G:=h ⟨k⟩
def dF{K G:Prop}(k:K)(h:j5 K->G:=by intro k;(repeat ((first|refine po ?_|refine zp ?_|refine Bz ?_|refine BA ?_|refine EG ?_|refine zq ?_);conv=>whnf));exact k.k):G:=h ⟨k⟩
def c7{K G:Prop}(k:K)(h:j5 K->G:=by intro k;(conv=>whnf);(repeat ((first|refine po ?_|refine zp ?_|refine Bz ?_|refine BA ?_|refine EG ?_|refine zq ?_);conv=>whnf));exact k.k):G:=h ⟨k⟩
def dk{K G:Prop}(k:K)(h:j5 K->G:=by intro k;(conv=>whnf);(repeat ((first|refine po ?_|refine zp ?_|refine Bz ?_|refine BA ?_|refine EG ?_|refine zq ?_|refine HU ?_|refine HV ?_|refine ala ?_|refine ax1 ?_);conv=>whnf));exact k.k):G:=h ⟨k⟩
def dT{p}[qK p]{A B K cM:Prop}(k:p->K)(l:¬p->cM)(h:j5 K->A:=by exact λk=>cO k.k)(i:j5 cM->B:=by exact λk=>cO k.k):jI (decide p) A B:=pq (λz=>h ⟨k z⟩) λz=>i ⟨l z⟩
def mj{p}[qK p]{A B K cM:Prop}(k:p->K)(l:¬p->cM)(h:j5 K->A:=by exact λk=>cO k.k)(i:j5 cM->B:=by exact λk=>c7 k.k):jI (decide p) A B:=pq (λz=>h ⟨k z⟩) λz=>i ⟨l z⟩
def iG{p}[qK p]{A B K cM:Prop}(k:p->K)(l:¬p->cM)(h:j5 K->A:=by exact λk=>c7 k.k)(i:j5 cM->B:=by exact λk=>cO k.k):jI (decide p) A B:=pq (λz=>h ⟨k z⟩) λz=>i ⟨l z⟩
def pA{p}[qK p]{A B K cM:Prop}(k:p->K)(l:¬p->cM)(h:j5 K->A:=by exact λk=>c7 k.k)(i:j5 cM->B:=by exact λk=>c7 k.k):jI (decide p) A B:=pq (λz=>h ⟨k z⟩) λz=>i ⟨l z⟩
def wT{p}[qK p]{A B K cM:Prop}(k:¬p->K)(l:p->cM)(h:j5 K->A:=by exact λk=>cO k.k)(i:j5 cM->B:=by exact λk=>cO k.k):jI (!decide p) A B:=Nr (λz=>h ⟨k z⟩) λz=>i ⟨l z⟩
def sU{p}[qK p]{A B K cM:Prop}(k:¬p->K)(l:p->cM)(h:j5 K->A:=by exact λk=>c7 k.k)(i:j5 cM->B:=by exact λk=>c7 k.k):jI (!decide p) A B:=Nr (λz=>h ⟨k z⟩) λz=>i ⟨l z⟩
def kV{p}[qK p]{A B K cM:Prop}(k:¬p->K)(l:p->cM)(h:j5 K->A:=by exact λk=>c7 k.k)(i:j5 cM->B:=by exact λk=>cO k.k):jI (!decide p) A B:=Nr (λz=>h ⟨k z⟩) λz=>i ⟨l z⟩
def hV{b A B}{K cM:Prop}(k:b=N->K)(l:b=L->cM)(h:j5 K->A:=by exact λk=>cO k.k)(i:j5 cM->B:=by exact λk=>cO k.k):jI b A B:=zE (λz=>h ⟨k z⟩) λz=>i ⟨l z⟩
def nk{b A B}{K cM:Prop}(k:b=N->K)(l:b=L->cM)(h:j5 K->A:=by exact λk=>cO k.k)(i:j5 cM->B:=by exact λk=>c7 k.k):jI b A B:=zE (λz=>h ⟨k z⟩) λz=>i ⟨l z⟩
def yr{b A B}{K cM:Prop}(k:b=N->K)(l:b=L->cM)(h:j5 K->A:=by exact λk=>c7 k.k)(i:j5 cM->B:=by exact λk=>c7 k.k):jI b A B:=zE (λz=>h ⟨k z⟩) λz=>i ⟨l z⟩
def kl{b A B}{K cM:Prop}(k:b=N->K)(l:b=L->cM)(h:j5 K->A:=by exact λk=>c7 k.k)(i:j5 cM->B:=by exact λk=>cO k.k):jI b A B:=zE (λz=>h ⟨k z⟩) λz=>i ⟨l z⟩
instance:Coe J c3:=⟨λn=>.int .i64 n⟩
instance:Coe V c3:=⟨λn=>.int .i64 n⟩
instance:Coe J dr:=⟨λn=>.int .i64 n⟩
instance:Coe V dr:=⟨λn=>.int .i64 n⟩
def eM{p:Prop}(h:p:=by simp_all):p:=h
def hN{p:Prop}(h:p:=by grind):p:=h
abbrev lB:=BitVec 32
def C1:lB:=0xEDB88320#32
def nP(x:lB):lB:=(x>>>1)^^^(if x.getLsbD 0 then C1 else 0#32)
def wW(x:lB):lB:=nP (nP (nP (nP (nP (nP (nP (nP x)))))))
def amJ(a b):nP (a^^^b)=nP a^^^nP b:=by
 unfold nP;rw[BitVec.getLsbD_xor,BitVec.ushiftRight_xor_distrib]
 cases a.getLsbD 0<;>cases b.getLsbD 0<;>simp
 .grind
 .grind
 .rw[amK,BitVec.xor_comm C1,amK,BitVec.xor_self,BitVec.xor_zero]
def amL(a b):wW (a^^^b)=wW a^^^wW b:=by unfold wW;simp[amJ]
def yu(x:lB)(k)(h:x.toNat*2^(k+1)<4294967296):nP (x<<<(k+1))=x<<<k:=by
 have e:(x<<<(k+1)).getLsbD 0=L:=dw;unfold nP;rw[e];simp;apply amM
 have a:x.toNat*2^k<4294967296:=by have:x.toNat*2^k<=x.toNat*2^(k+1):=Nat.mul_le_mul_left _ (Gn cZ R);omega
 rw[P0,Zb,Zb,amN,amN,Zc];rw[nH (show x.toNat*2^(k+1)<2^32 by omega),nH (show x.toNat*2^k<2^32 by omega)];rw[PK,<-Nat.mul_assoc,Nat.pow_one,Nat.mul_div_cancel _ cZ]
def amP(x:lB)(h:x.toNat<16777216):wW (x<<<8)=x:=by unfold wW;rw[yu x 7 R,yu x 6 R,yu x 5 R,yu x 4 R,yu x 3 R,yu x 2 R,yu x 1 R,yu x 0 R];simp
def Gx(i:V):lB:=wW (tW 32 i)
def amQ(n b)(a:b<256):wW (n^^^tW 32 b)=Gx ((n.toNat%256)^^^b)^^^(n>>>8):=by
 have c:n^^^tW 32 b=tW 32 ((n.toNat%256)^^^b)^^^((n>>>8)<<<8):=by
  apply amM;apply Nat.eq_of_testBit_eq;intro i;simp only[amR,P1,Zb,P0,Nat.testBit_xor,Nat.testBit_mod_two_pow,Nat.testBit_shiftLeft,Nat.testBit_shiftRight,show(256:V)=2^8 from Z]
  by_cases h:i<32
  .by_cases d:i<8
   .grind
   .simp[h,d,show 8<=i by omega,show 8+(i-8)=i by omega,Bool.xor_comm]
  .have:n.toNat.testBit i=L:=Nat.testBit_lt_two_pow (sR n.isLt (Gn cZ R));grind
 rw[c,amL,amP]
 .rfl
 .rw[P0,Zc];omega
def amS{n}:rO.wrap n=n%4294967296:=Mt
def P2{n}:CR.wrap n=n%256:=Mt
def yv{n}(cW:0<=n)(Q:n<=4294967295):rO.wrap n=n:=by rw[amS];omega
def Zd{n}(cW:0<=n)(Q:n<=255):CR.wrap n=n:=by rw[P2];omega
def Kj(a:lB):(a.toNat:J) <=4294967295:=R
def C2(a:lB):qL 32 (a.toNat:J)=a:=eM
def P3(a b:lB):pU .xor .u32 (a.toNat:J) (b.toNat:J)=((a^^^b).toNat:J):=by show rO.wrap (((qL 32 (a.toNat:J)^^^qL 32 (b.toNat:J)).toNat:V):J)=_;rw[C2,C2,yv R (Kj _)]
def amT(a b:lB):pU .or .u32 (a.toNat:J) (b.toNat:J)=((a|||b).toNat:J):=by show rO.wrap (((qL 32 (a.toNat:J)|||BitVec.ofInt 32 (b.toNat:J)).toNat:V):J)=_;rw[C2,C2,yv R (Kj _)]
def amU(a b:lB):pU .and .u32 (a.toNat:J) (b.toNat:J)=((a&&& b).toNat:J):=by show rO.wrap (((qL 32 (a.toNat:J)&&& qL 32 (b.toNat:J)).toNat:V):J)=_;rw[C2,C2,yv R (Kj _)]
def amV(a:lB):pU .xor .u32 4294967295 (a.toNat:J)=((~~~ a).toNat:J):=by have:=P3 (amW 32) a;assumption
def amX(a:lB):decide (pU .and .u32 (a.toNat:J) 1=1)=a.getLsbD 0:=by
 have:=amU a 1#32;rw[show(((1#32:lB)).toNat:J)=1 from Z]at this;rw[this]
 have e:(a&&& 1#32).toNat=(a.getLsbD 0).toNat:=by rw[BitVec.toNat_and,BitVec.getLsbD,Nat.testBit_zero];show a.toNat&&& 1=_;rw[Nat.and_one_is_mod];rcases Nat.mod_two_eq_zero_or_one a.toNat with h|h<;>rw[h]<;>rfl
 grind
def P4(a:lB)(k):(a.toNat:J).fdiv (2^k)=((a>>>k).toNat:J):=by rw[P0,Zc,Ka _ hN];simp
def amY{a b:V}(c:a<256)(d:b<256):pU .xor .u8 (a) (b)=((a^^^b:V):J):=by show CR.wrap (((qL 8 (a:J)^^^qL 8 (b:J)).toNat:V):J)=_;have h:a^^^b<2^8:=amZ R R;rw[amR,am0,am0];rw[show((a:J)%((2^8:V):J)).toNat=a by omega,show((b:J)%((2^8:V):J)).toNat=b by omega];exact Zd R R
def am1{a}(h:a.getLsbD 0=N):nP a=(a>>>1)^^^C1:=by rw[nP,h];rfl
def am2{a}(h:a.getLsbD 0=L):nP a=a>>>1:=by rw[nP,h];simp
def Aq:V->lB->lB
 |0,x=>x
 |k+1,x=>nP (Aq k x)
def Kk(n:lB)(b:gM):lB:=wW (n^^^tW 32 b.toNat)
def Gy(l:I gM):lB:=l.foldl Kk (amW 32)
def wX(s:dG):lB:= ~~~ Gy s.data.toList
def am3(l b):Gy (l++[b])=Kk (Gy l) b:=by simp[Gy]
def am4(n b):Kk n b=Gx ((n.toNat%256)^^^b.toNat)^^^(n>>>8):=amQ n b.toNat b.toNat_lt
namespace Ins
def mq(l:I J):I J:=l.mergeSort λx y=>gy (x<=y)
def AB(l:I J):Prop:=l.Pairwise (· <= ·)
def aoG(l):AB (mq l):=by have:=aoH (le:=λx y:J=>gy (x<=y)) (λa b c Q c5=>by grind) (λa b=>hy) l;exact this.imp λh=>xz
def aoI{l s}(c':AB s)(O:s.Perm l):s=mq l:=by
 have Q:(mq l).Perm l:=aoJ ..
 have c5:AB (mq l):=by have:=aoH (le:=λx y:J=>gy (x<=y)) (λa b c Q c5=>by grind) (λa b=>hy) l;exact this.imp λh=>xz
 exact(O.trans Q.symm).eq_of_pairwise (λa b _ _ Q c5=>Int.le_antisymm Q c5) c' c5
def lF(S:I J)(x:J)(j:V):I J:=S.take j++x::S.drop j
def aoK(S x){j}(dU:j<=S.length):(lF S x j).length=S.length+1:=by simp[lF];omega
def aoL(S x j):(lF S x j).Perm (S++[x]):=by unfold lF;apply List.perm_middle.trans;rw[JB];grind
def aoM{S x j}(c':AB S)(Q:∀y∈S.take j,y<=x)(c5:∀y∈S.drop j,x<=y):AB (lF S x j):=by unfold lF AB;rw[KL];refine⟨c'.sublist (List.take_sublist _ _),vg.2 ⟨c5,c'.sublist (List.drop_sublist _ _)⟩,λa dt b hb=>?_⟩;grind
def aoN{S cU x j}(dU:j<S.length):
  (lF S x (j+1)++cU)[j]?=U S[j] /\ (lF S x (j+1)++cU)[j+1]?=U x/\ ((lF S x (j+1)++cU).set (j+1) S[j]).set j x=lF S x j++cU:=by
 have t1:S.take (j+1)=S.take j++[S[j]]:=by rw[J3];simp[dU]
 have d1:=qT dU
 have a:lF S x (j+1)++cU=S.take j++S[j]::x::(S.drop (j+1)++cU):=by unfold lF;rw[t1];simp only[j4,o8,vh]
 have b:lF S x j++cU=S.take j++x::S[j]::(S.drop (j+1)++cU):=by unfold lF;rw[d1];simp only[j4,o8]
 grind
end Ins
def MQ{b A B}(k:jI b B A):jI (!b) A B:=by
 cases b
 .exact zp k.out
 .exact po k.out
def c6{K G:Prop}(k:K)(h:j5 K->G:=by intro k;(conv=>whnf);(repeat ((first|with_reducible refine po ?_|with_reducible refine zp ?_|refine Bz ?_|refine BA ?_|refine EG ?_|refine zq ?_|refine HU ?_|refine HV ?_|with_reducible refine MQ ?_);conv=>whnf));exact k.k):G:=h ⟨k⟩
namespace St
section
variable {E:Type}
variable {le:E->E->di}
def n7(le:E->E->di)(x:E):I E->I E
 | []=>[x]
 |y::r=>if le x y=N then x::y::r else y::n7 le x r
end
end St
def afC{l:I c3}{c j K}(x)(a:c=l.map dp.d)(h:l[j]?=U x)(k:K (.d x)):xP c j K:=by subst a;unfold xP;rwa[ir,h]
def axK{l fY:I c3}{x c j K}(a:c=l.map dp.d)(Q:j<l.length)(b:l.set j x=fY)(k:K (fY.map dp.d)):
  bif Nat.ble (j+1) c.length then Fe c j (.d x) K else dA:=by
 subst a;rw[ec,rD R];show K (iC (l.map dp.d) j [.d x])
 have:iC (l.map dp.d) j [dp.d x]=fY.map dp.d:=by rw[<-b,rQ];rfl
 simp_all
open Go.Proofs Go.RowKit
def nL:cQ.follows .mixedOrders=N:=cV
def d5{f fn args d}(a:cQ.funcs[f]?=U fn)(n)(c0:args.length=n)(dj:ov fn n=N)(h:NP T cQ fn args d):d0 cQ f args d:=
 ajW sQ nL a xB h
def lZ{f fn args l cR}(a:cQ.funcs[f]?=U fn)(n)(c0:args.length=n)(dj:ov fn n=N)(h:NQ T cQ fn args l cR):kg cQ f args l cR:=
 ajX sQ nL a xB h
def alb{f fn args cs}(a:cQ.funcs[f]?=U fn)(n)(c0:args.length=n)(dj:ov fn n=N)(h:NR T cQ fn args cs):Fa cQ f args cs:=
 ajZ sQ nL a xB h
def hl{f fn args r o d}(a:cQ.funcs[f]?=U fn)(n)(c0:args.length=n)(dj:ov fn n=N)
  (l:(vi args&&(wO r&&(tO r o&&tQ o)))=N)(h:Pf T cQ fn args r o d):fI cQ f args r o d:=
 aj3 sQ nL a xB l h
def PI{f fn l b cR rest r o}(c:cQ.funcs[f]?=U fn)(n)(c0:rest.length+1=n)(dj:ov fn n=N)
  (a:(vi rest&&(!ev.parts 1000004 rest&&(wO ((1000004,.row l cR L)::r)&&(tO r o&&(tQ ((1000004,.row b cR L)::o)&&(Ah r&&Ah o))))))=N)(h:PF T cQ fn l cR rest r o b):vl cQ f l cR rest r o b:=
 alg sQ nL c xB a h
def aln{f fn args cs r}(a:cQ.funcs[f]?=U fn)(n)(c0:args.length=n)(dj:ov fn n=N)(h:NS T cQ fn args cs r):Fb cQ f args cs r:=
 ald sQ nL a xB h
def YG{f fn args l cR}(b:cQ.funcs[f]?=U fn)(n)(c0:args.length=n)(dj:ov fn n=N)(a:Gm args=N)(h:PH T cQ fn args l cR)(O t):
  rB cQ f args O ⟨.own t,[(t,.row l cR L)],U t⟩:=
 alk sQ nL b xB a h O t
def jj(n:V):dG:=qN [((n%256:V):J),((n/256%256:V):J),((n/65536%256:V):J),((n/16777216%256:V):J)]
def am5(n k:V):((n:J)).fdiv (2^k)=((n/2^k:V):J):=hN
def Kl(n:V)(c0:n<4294967296):d0 cQ 294 [n] (.str (jj n)):=by refine d5 Tryz.func294 1 Z cV (cO ?_);refine md (yv R R) (c7 ?_);refine zF (c7 ?_);refine zF (c7 ?_);refine zF (c7 ?_);refine zF (c7 ?_);refine dg Z (eL c3.str ?_);simp[am5,P2];rfl
def ml(s:dG)(i:V):V:=(s.data.getD i 0).toNat+256*(s.data.getD (i+1) 0).toNat+65536*(s.data.getD (i+2) 0).toNat+16777216*(s.data.getD (i+3) 0).toNat
def vn(s:dG)(i:V):V->V
 |0=>0
 |k+1=>vn s i k+(s.data.getD (i+k) 0).toNat*2^(8*k)
def Ze(s i):vn s i 4=ml s i:=by simp[vn,ml,Cu];omega
def Km(s i):∀k,vn s i k<2^(8*k)
 |0=>by simp[vn]
 |k+1=>by
  have Q:=Km s i k;have h:=(s.data.getD (i+k) 0).toNat_lt;have a:(s.data.getD (i+k) 0).toNat*2^(8*k) <=255*2^(8*k):=mh _ R
  have b:2^(8*(k+1))=256*2^(8*k):=hN
  simp only[vn];omega
def am6{x y:V}{m}(a:x<2^m)(s:x+y*2^m<4294967296):pU .or .u32 (x) ((y*2^m:V):J)=((x+y*2^m:V):J):=by have:=amT (tW 32 x) (tW 32 (y*2^m));rw[BitVec.toNat_or,P1,P1,nH R,nH R]at this;rw[this,Nat.or_comm,Nat.mul_comm,<-Nat.two_pow_add_eq_or_of_lt a,Js]
def Ak(s)(i:V)(j:i+4<=s.size)(Q:s.size<=1000):d0 cQ 248 [.str s,i] (ml s i):=by
 refine d5 Tryz.func248 2 Z cV (cO ?_);refine eW (D:=V) (λk=>[(0,.d (.str s)),(1,.d i),(5,.d (.int .u32 (vn s i k))),(7,.d k)]) (λ_=>[])
  (λk=>k<=4) (λk=>4-k) 0 R (dX (dH ff dM dV)) ?_
 intro k g
 conv=>whnf
 refine dT (λdu=>?_) λdu=>?_
 .have f:k<4:=R
  refine dF ?_;rw[show(i:J)+(k:J)=((i+k:V):J) by omega];refine eH ?_;have⟨b,a,c⟩:∃b:V,(s.data.getD (i+k) 0).toNat=b/\b<256:=⟨_,Z,(s.data.getD (i+k) 0).toNat_lt⟩;rw[a];refine md (yv R R) (c7 ?_);have t:=Km s i (k+1);have l:=Km s i k
  have d:vn s i (k+1)=vn s i k+b*2^(8*k):=by rw[vn,a]
  have O:2^(8*(k+1)) <=4294967296:=fG (Gn cZ (show 8*(k+1) <=32 by omega)) cZ
  have m:(b:J)*2^(min (8*(k:J)).toNat rO.bits)=((b*2^(8*k):V):J):=by rw[show min (8*(k:J)).toNat rO.bits=8*k by show min _ 32=_;omega];simp
  rw[m];refine md (yv R R) (cO ?_);rw[am6 l R,<-d];refine dF ?_;exact⟨k+1,by omega,by omega,(dX (dH ff dM dV))⟩
 .refine dF ?_
  have e:k=4:=R
  subst e
  have a:ml s i<4294967296:=by have:=Km s i 4;rw[Ze]at this;simpa using this
  rw[Ze];refine eH ?_;rfl
def Ar(i j:V):I c3:=[.int .i64 (if j<i then((Gx j).toNat:J) else 0)]
def o9(i:V):I (I c3):=(iz 256).map (Ar i)
def Zf(i):(o9 i).length=256:=by simp[o9]
def am7:eQ 256 [c3.int .i64 0]=o9 0:=by
 apply P5
 .rw[p8,o9,ec,List.length_range]
 .intro j Q h;rw[List.getElem_replicate];simp only[o9,Kn,Zg,Ar];rfl
def Zh{i j}(h:j<256):(o9 i)[j]?=U (Ar i j):=by simp[o9,h]
def ana{i}(cK:i<256):(o9 i).set i [((Gx i).toNat:J)]=o9 (i+1):=by
 apply P5
 .simp[o9]
 .intro j Q h;rw[As];simp[o9,Kn,Zg,Ar];grind
def anb:kg cQ 296 [] (o9 256) 1:=by
 refine lZ Tryz.func296 0 Z cV (c7 ?_);refine fO 1000 1000 cZ cZ cZ cZ (c7 ?_);rw[show eQ (256:J).toNat (T 3).zero=o9 0 from am7];refine eW (D:=V) (λi=>[(1,.own 5),(7,.d (.int .i64 256)),(8,.d i)]) (λi=>[(5,.row (o9 i) 1 L)])
  (λi=>i<=256) (λi=>256-i) 0 R (dX (dH ⟨Z,cV,Z,dM⟩ ez dV)) ?_
 intro i cK
 conv=>whnf
 refine mj (λdu=>?_) λdu=>?_
 .have a:i<256:=R
  refine dF ?_;refine md (yv R R) (c7 ?_);refine eW (D:=V) (λk=>[(1,.own 5),(2,.d i),(3,.d (.int .u32 (Aq k (tW 32 i)).toNat)),(7,.d (.int .i64 256)),(8,.d i),(13,.d k)]) (λk=>[(5,.row (o9 i) 1 L)])
   (λk=>k<=8) (λk=>8-k) 0 R (dX (dH ⟨Z,Z,?_,Z,Z,Z,dM⟩ ez dV)) ?_
  .show _=dp.d (.int .u32 (((tW 32 i).toNat:V):J));rw[P1,nH R];rfl
  intro k g;have⟨x,b⟩:∃x,Aq k (tW 32 i)=x:=⟨_,Z⟩;simp[b]
  conv=>whnf
  refine pA (λdY=>?_) λdY=>?_
  .rw[amX x]
   refine hV (λh=>?_) λh=>?_
   .refine dF ?_
    have j:Aq (k+1) (tW 32 i)=(x>>>1)^^^C1:=by rw[Aq,b,am1 h]
    have e:pU .xor .u32 ((x.toNat:J).fdiv (2^min (1:J).toNat rO.bits)) 3988292384=(((x>>>1)^^^C1).toNat:J):=by rw[show(x.toNat:J).fdiv (2^min (1:J).toNat rO.bits)=((x>>>1).toNat:J) from P4 x 1];exact P3 _ C1
    rw[e,<-j];exact⟨k+1,R,R,(dX (dH mc ez dV))⟩
   .refine dF ?_
    have j:Aq (k+1) (tW 32 i)=x>>>1:=by rw[Aq,b,am2 h]
    rw[show(x.toNat:J).fdiv (2^min (1:J).toNat rO.bits)=((x>>>1).toNat:J) from P4 x 1,<-j];exact⟨k+1,R,R,(dX (dH mc ez dV))⟩
  .have d:k=8:=R;subst d;have f:=b.symm;subst f;refine ea (by rw[Zf];omega) (cO ?_);refine d2 (x:=Ar i i) (by exact Zh a) (c7 ?_);refine⟨i+1,R,R,dX (dH ⟨Z,cV,Z,dM⟩ ⟨?_,dM⟩ dV)⟩;rw[<-ana a];rfl
 .have c:i=256:=R;subst c;exact⟨0,Z,.inl ⟨5,Z,Z⟩⟩
def yw(s:dG)(k:V):lB:=Gy (s.data.toList.take k)
def anc{s k}(c_:k<s.size):yw s (k+1)=Kk (yw s k) (s.data.getD k 0):=by
 have a:=uB;rw[yw,mb a,am3]
 have:s.data.getD k 0=s.data.toList[k]:=by rw[uM,zt uB];simp
 rw[this];rfl
def ane{s k}(c_:s.size<=k): ~~~ yw s k=wX s:=by rw[yw,vm uB];rfl
def anf(s)(r:s.size<=1000):d0 cQ 295 [.dm (o9 256),.str s] (.dS [(wX s).toNat,.bool N]):=by
 have⟨eg,t⟩:∃eg,o9 256=eg:=⟨_,Z⟩
 have o:eg.length=256:=by rw[<-t,Zf]
 have m:∀j,j<256->eg[j]?=U (Ar 256 j):=λj a=>t▸Zh a
 rw[t];refine d5 Tryz.func295 2 Z cV (cO ?_);refine wp hN (c7 ?_);refine eW (D:=V) (λk=>[(0,.d (.dm eg)),(1,.d (.str s)),(6,.d (.int .u32 (yw s k).toNat)),(7,.d k)]) (λ_=>[])
  (λk=>k<=s.size) (λk=>s.size-k) 0 R (dX (dH ⟨Z,Z,by kernel_rfl,Z,dM⟩ dM dV)) ?_
 intro k q;have⟨x,d⟩:∃x,yw s k=x:=⟨_,Z⟩;simp only[d]
 conv=>whnf
 refine mj (λdu=>?_) λdu=>?_
 .have b:k<s.size:=R
  refine dF ?_;refine zF (c7 ?_);refine ea R (cO ?_);have⟨c,f⟩:∃c:gM,s.data.getD k 0=c:=⟨_,Z⟩;have l:=c.toNat_lt;rw[f]
  have h:pU .xor .u8 (CR.wrap (x.toNat:J)) (c.toNat:J)=(((x.toNat%256)^^^c.toNat:V):J):=by rw[P2,show(x.toNat:J)%256=((x.toNat%256:V):J) by omega];exact amY (lp _ cZ) R
  have a:(x.toNat%256)^^^c.toNat<256:=amZ (n:=8) (lp _ cZ) R;rw[h];refine ea R (cO ?_);refine d2 (x:=Ar 256 ((x.toNat%256)^^^c.toNat)) eM (cO ?_);have⟨y,g⟩:∃y,Gx ((x.toNat%256)^^^c.toNat)=y:=⟨_,Z⟩
  have i:yw s (k+1)=y^^^(x>>>8):=by rw[anc b,d,f,am4,g]
  rw[if_pos a,g];refine md (yv R (Kj y)) (c7 ?_);rw[show(x.toNat:J).fdiv (2^min (8:J).toNat rO.bits)=((x>>>8).toNat:J) from P4 x 8,P3,<-i];refine dF ?_;exact⟨k+1,by omega,by omega,(dX (dH ff dM dV))⟩
 .rw[show(if rO.signed=N then(-1:J) else rO.max)=4294967295 from Z,amV];refine eH ?_
  have e: ~~~ x=wX s:=by rw[<-d];exact ane R
  rw[e];rfl
abbrev gc:=J×J×di
abbrev e':=J×J×dG
def fl(x:gc):I c3:=[x.1,x.2.1,.bool x.2.2]
def eC(x:e'):I c3:=[x.1,x.2.1,.str x.2.2]
def Gz(l:I gc)(h:J):c3:=.agg [.dm (l.map fl),h]
def Zo:∀(l:I gc),gZ 3 (l.map fl)=N
 | []=>rfl|_::r=>Zo r
def At:∀(l:I e'),gZ 3 (l.map eC)=N
 | []=>rfl|_::r=>At r
def gB(x:e'):di:=gy (1<=x.1)&&(decide (x.1<=16)&&(decide (1<=x.2.1)&&(decide (x.2.1<=2147483647)&&decide (x.2.2.size<=16))))
def lf{x}:gB x=N↔1<=x.1/\x.1<=16/\1<=x.2.1/\x.2.1<=2147483647/\x.2.2.size<=16:=by simp[gB]
def GA(x):d0 cQ 193 [.agg (eC x)] (.bool (gB x)):=by
 refine d5 Tryz.func193 1 Z cV (c7 ?_)
 refine dT (λQ=>?_) λQ=>?_
 .exact dg Z (eL c3.bool xC)
 refine dF ?_
 refine dT (λc=>?_) λc=>?_
 .exact dg Z (eL c3.bool xC)
 refine dF ?_
 refine dT (λd=>?_) λd=>?_
 .exact dg Z (eL c3.bool xC)
 refine dF ?_
 refine dT (λf=>?_) λf=>?_
 .exact dg Z (eL c3.bool xC)
 refine dF ?_
 exact dg Z (eL c3.bool (by
  have g:decide (1<=x.1)=N:=hy;have e:decide (x.1<=16)=N:=hy;have a:decide (1<=x.2.1)=N:=hy;have b:decide (x.2.1<=2147483647)=N:=hy
  rw[gB,g,e,a,b];simp;omega))
def yx(x:gc):di:=gy (0<=x.1)&&(decide (x.1<=16)&&(decide (0<=x.2.1)&&decide (x.2.1<=2147483647)))
def oC{x}:yx x=N↔0<=x.1/\x.1<=16/\0<=x.2.1/\x.2.1<=2147483647:=by simp[yx]
structure w1(l:I gc)(h:J):Prop where
 one:1<=l.length
 g1:l.length<=8
 cW:0<=h
 Q:h<l.length
 all:∀i,(cK:i<l.length)->yx l[i]=N
open Classical in
def Au(l:I gc)(h:J):di:=gy (w1 l h)
def Kt{l h}:Au l h=N↔w1 l h:=by simp[Au]
def GB{l h}:Au l h=L↔¬w1 l h:=by simp[Au]
def Ku{l h k}(a:k<l.length)(f:¬(0<=l[k].1/\l[k].1<=16/\0<=l[k].2.1/\l[k].2.1<=2147483647)):c3.bool L=c3.bool (Au l h):=
 eL c3.bool (GB.2 λcU=>f (oC.1 (cU.all k a))).symm
def Qb(l h):d0 cQ 190 [Gz l h] (.bool (Au l h)):=by
 refine d5 Tryz.func190 1 Z cV (cO ?_)
 have m:(l.map fl).length=l.length:=ec ..
 refine dF ?_
 refine dT (λQ=>?_) λQ=>?_
 .exact dg Z (eL c3.bool (GB.2 λcU=>by have:=cU.one;omega).symm)
 refine dF ?_
 refine dT (λd=>?_) λd=>?_
 .exact dg Z (eL c3.bool (GB.2 λcU=>by have:=cU.g1;omega).symm)
 refine dF ?_
 refine dT (λn=>?_) λn=>?_
 .exact dg Z (eL c3.bool (GB.2 λcU=>by have:=cU.cW;omega).symm)
 refine dF ?_
 refine mj (λo=>?_) λo=>?_
 .exact dg Z (eL c3.bool (GB.2 λcU=>by have:=cU.Q;omega).symm)
 refine eW (D:=V) (λk=>[(27,.d (.dm (l.map fl))),(28,.d (l.map fl).length),(29,.d k)]) (λ_=>[])
  (λk=>k<=l.length/\ ∀i,i<k->(cK:i<l.length)->yx l[i]=N) (λk=>l.length-k) 0 ⟨eY _,λj h=>dN h (qc _)⟩ (dX (dH eJ dM dV)) ?_
 rintro k ⟨f,cU⟩
 conv=>whnf
 refine dT (λdu=>?_) λdu=>?_
 .have eR:k<l.length:=R
  refine ea R (cO ?_);refine d2 (x:=fl l[k]) iJ (c7 ?_)
  refine dT (λdI=>?_) λdI=>?_
  .exact dg Z (Ku eR R)
  refine dF ?_
  refine dT (λg=>?_) λg=>?_
  .exact dg Z (Ku eR R)
  refine dF ?_
  refine dT (λb=>?_) λb=>?_
  .exact dg Z (Ku eR R)
  refine dF ?_
  refine mj (λc=>?_) λc=>?_
  .exact dg Z (Ku eR R)
  exact⟨k+1,⟨R,λi cK a=>(yy.1 cK).elim (λh=>cU i h a) (λe=>by subst e;exact oC.2 R)⟩,R,dX (dH eJ dM dV)⟩
 .exact dg Z (eL c3.bool (Kt.2 ⟨R,R,R,R,λi cK=>cU i R cK⟩).symm)
def Qc(l:I gc)(b:l.length<=1000000):kg cQ 94 [.dm (l.map fl)] (l.map fl) 3:=by
 refine lZ Tryz.func94 1 Z cV (cO (oX (cO ?_)));intro r a
 conv=>whnf
 refine nk (λh=>?_) λh=>?_
 .have:=a h;exact⟨2,Z,.inr ⟨Z,this⟩⟩
 .refine fz (Zo l) (cO ?_);refine fO 1000100 100 Bq cZ cZ cZ (cO ?_);exact⟨2,Z,.inl ⟨5,Z,Z⟩⟩
def C4(l:I e')(b:l.length<=1000000):kg cQ 96 [.dm (l.map eC)] (l.map eC) 3:=by
 refine lZ Tryz.func96 1 Z cV (cO (oX (cO ?_)));intro r a
 conv=>whnf
 refine nk (λh=>?_) λh=>?_
 .have:=a h;exact⟨2,Z,.inr ⟨Z,this⟩⟩
 .refine fz (At l) (cO ?_);refine fO 1000100 100 Bq cZ cZ cZ (cO ?_);exact⟨2,Z,.inl ⟨5,Z,Z⟩⟩
def Kv(x):d0 cQ 333 [.agg (fl x)] (.bool (decide (x.2.1=0))):=by refine d5 Tryz.func333 1 Z cV (c7 ?_);rfl
def q6(l:I gc)(k:V):J:=
 match l with
 | []=>-1
 |x::r=>if x.2.1=0 then(k:J) else q6 r (k+1)
def anG(l)(c:l.length<=1000000):d0 cQ 336 [.dm (l.map fl),.fn 333 []] (q6 l 0):=by
 refine d5 Tryz.func336 2 Z cV (cO ?_);refine eW (D:=V) (λk=>[(0,.d (.dm (l.map fl))),(1,.d (.fn 333 [])),(7,.d (l.map fl).length),(8,.d k)]) (λ_=>[])
  (λk=>k<=l.length/\q6 (l.drop k) k=q6 l 0) (λk=>l.length-k) 0 ⟨eY _,Z⟩ (dX (dH ff dM dV)) ?_
 rintro k ⟨b,fL⟩
 conv=>whnf
 refine dT (λh=>?_) λh=>?_
 .have eR:k<l.length:=by simpa using h
  refine ea Ew (cO ?_);refine d2 (x:=fl l[k]) iJ (c7 ?_);rw[rN eR,q6]at fL;refine df (Kv l[k]) (cO ?_)
  refine dT (λa=>?_) λa=>?_
  .rw[if_pos a]at fL;exact dg Z nu
  .rw[cS a]at fL;refine dF ?_;exact⟨k+1,⟨R,fL⟩,R,dX (dH ff dM dV)⟩
 .have:k=l.length:=by simp at h;omega
  subst this;simp at fL;exact dg Z nu
def Zp(l)(a:l.length<=1000000):d0 cQ 334 [.dm (l.map fl),.fn 333 []] (.bool (decide (0<=q6 l 0))):=by refine d5 Tryz.func334 2 Z cV (cO ?_);refine df (anG l a) (cO ?_);rfl
def w7(x:gc):gc:=(x.1,x.2.1,L)
def sZ(l:I gc)(a:V)(h:a<l.length):I gc:=if l[a].2.1=0 then l.set a (w7 l[a]) else l
inductive pG:I gc->V->I gc->V->Prop
 |stop (l:I gc) (a:V) (h:a<l.length) (Q:l[a].2.1=0) (c5:l[a].2.2=L):pG l a l a
 |go (l:I gc) (a:V) (h:a<l.length) (el:I gc) (fh:V) (c0:¬(l[a].2.1=0/\l[a].2.2=L)) (r:pG (sZ l a h) ((a+1)%l.length) el fh):pG l a el fh
def EF{l a h}:(sZ l a h).length=l.length:=by unfold sZ;grind
def Qv{l:I gc}{a i:V}{h:a<l.length}(cK:i<l.length):((sZ l a h)[i]' MO).1=l[i].1/\ ((sZ l a h)[i]' MO).2.1=l[i].2.1:=by
 unfold sZ;split
 .rw[As];split
  .rename_i e;subst e;exact g_
  .exact g_
 .exact g_
def GJ(l:I gc):V:=l.countP λx=>gy (x.2.1=0)&&x.2.2
def GK(n a b:V):V:=(b+n-a)%n
def C'(j:V)(l:I gc)(a:V):V:=GJ l*l.length+GK l.length a j
def aos{l a}(h:a<l.length)(Q:l[a].2.1=0)(b:l[a].2.2=N):GJ (l.set a (w7 l[a]))+1=GJ l:=by
 have O:0<GJ l:=CK.2 ⟨l[a],hF h,by grind⟩
 unfold GJ at*
 rw[Z6 h];simp[Q,b,w7,decide_true,Bool.and_self,nz,Bool.and_false,rG,qF];omega
def aou{n a b}(f:a<n)(c:b<n)(d:a≠b):GK n ((a+1)%n) b<GK n a b:=by
 unfold GK
 by_cases h:a<b
 .rw[nH (show a+1<n by omega),show b+n-a=(b-a)+n by omega,show b+n-(a+1)=(b-a-1)+n by omega,Z7,Z7,nH R,nH R];omega
 .by_cases e:a+1=n
  .rw[e,Nat.mod_self,Nat.sub_zero,Z7,nH c,nH R];omega
  .rw[nH (show a+1<n by omega),nH R,nH R];omega
def aov{n a b}(c0:0<n):GK n a b<n:=lp _ c0
def Qw{j l a}(c)(g:j<l.length)(i:l[j].2.1=0)(c0:¬(l[a].2.1=0/\l[a].2.2=L)):C' j (sZ l a c) ((a+1)%l.length)<C' j l a:=by
 unfold C';rw[EF]
 by_cases Q:l[a].2.1=0
 .have f:l[a].2.2=N:=by cases e:l[a].2.2 with|true=>rfl|false=>simp_all
  have u:=aos c Q f;rw[show sZ l a c=l.set a (w7 l[a]) from if_pos Q];have hw:=aov (n:=l.length) (a:=(a+1)%l.length) (b:=j) R;rw[<-u,Nat.succ_mul];omega
 .rw[show sZ l a c=l from cS Q]
  have d:a≠j:=λe=>by simp_all
  have:=aou c g d;omega
def Z8{j}:∀(n) {l a} (b:a<l.length) (c:j<l.length),l[j].2.1=0->C' j l a<n->∃el fh,pG l a el fh
 |0,_,_,_,_,_,h=>dN h (qc _)
 |n+1,l,a,b,c,d,h=>by
  by_cases s:l[a].2.1=0/\l[a].2.2=L
  .exact⟨l,a,.stop l a b s.1 s.2⟩
  .have cP:=Qw b c d s;have⟨el,fh,r⟩:=Z8 n (l:=sZ l a b) (a:=(a+1)%l.length) (by rw[EF];exact lp _ R) (by rwa[EF]) (by rwa[(Qv c).2]) R;exact⟨el,fh,.go l a b el fh s r⟩
def pG.out{l el a fh}(h:pG l a el fh):el.length=l.length/\fh<l.length/\ (∀i (cK:i<l.length) (b:i<el.length),el[i].1=l[i].1/\el[i].2.1=l[i].2.1) /\ ∃c5,el[fh].2.1=0:=by
 induction h with
 |stop l a h Q c5=>simp_all|go l a h el fh c0 r e=>have⟨c,d,f,g⟩:=e;rw[EF]at c d;exact⟨c,d,λi cK b=>have Q:=f i MO b;have c5:=Qv (h:=h) cK;⟨Q.1.trans c5.1,Q.2.trans c5.2⟩,g⟩
def aow{l}:∀ {k},q6 l k<0\/ ∃i,q6 l k=((k+i:V):J) /\ ∃h,l[i].2.1=0:=by
 induction l with
 |nil=>intro k;exact .inl (show(-1:J)<0 by decide)
 |cons p r a=>
  intro k;simp[q6]
  by_cases h:p.2.1=0
  .exact .inr ⟨0,by simp[h],by simp,by grind⟩
  .rw[cS h];rcases a (k:=k+1) with Q|⟨i,Q,b,c⟩
   .omega
   .exact .inr ⟨i+1,by omega,by simp_all,by simp_all⟩
def Z9{l}:∀ {k},q6 l k<0->∀i (h:i<l.length),l[i].2.1≠0:=by
 induction l with
 |nil=>simp_all|cons p r b=>intro k a i h;simp[q6]at a;grind
def aox(l h)(c0:Au l h=L\/q6 l 0<0)(b:l.length<=1000000):d0 cQ 324 [Gz l h] (.dS [Gz l h,.int .i64 0,.bool L]):=by
 refine d5 aoy 1 Z cV (c7 ?_);refine df (Qb l h) (cO ?_)
 refine yr (λQ=>?_) λQ=>?_
 .rfl
 refine df (Zp l b) (cO ?_)
 refine kl (λa=>?_) λa=>?_
 .exact dg Z Z
 .exfalso;grind
def aoz(l)(h:V)(m:w1 l h){el fh}(gJ:pG l h el fh):d0 cQ 324 [Gz l h] (.dS [Gz el (((fh+1)%l.length:V):J),fh,.bool N]):=by
 refine d5 aoy 1 Z cV (cO ?_);have z:=m.one;have A:=m.g1;have c9:=m.Q;refine dF ?_;refine df (Qb l h) (cO ?_);refine wp (by simp[Kt.2 m]) (c7 ?_)
 have dU:∃j,∃dU:j<l.length,l[j].2.1=0:=by have⟨n,g,u,c5,B⟩:=gJ.out;have:=u fh g c5;exact⟨fh,g,by omega⟩
 have⟨j,dU,q⟩:=dU;refine df (Zp l R) (cO ?_);have C:¬q6 l 0<0:=λe=>Z9 e j dU q
 refine wp (by simp;omega) (c7 ?_);refine gT (Qc l R) (c7 ?_);refine eW (D:=I gc×V) (λs=>[(1,.ptr 1 0 0),(2,.ptr 2 0 0),(5,.d (.fn 333 [])),(6,.d s.2)]) (λs=>[(1,.box [.own 19,.d h] L),(2,.box [.nil,.d (.int .i64 0)] L),(19,.row (s.1.map fl) 3 L)])
  (λs=>s.1.length=l.length/\s.2<l.length/\pG s.1 s.2 el fh/\ ∃dU:j<s.1.length,s.1[j].2.1=0) (λs=>C' j s.1 s.2) (l,h) ⟨Z,by omega,gJ,dU,q⟩ (dX (dH ⟨Z,Z,Z,Z,dM⟩ ⟨Z,Z,Z,dM⟩ ⟨Z,Z,Z,Z⟩)) ?_
 rintro⟨b,a⟩ ⟨iB,dt,gJ,f,i⟩;simp only at iB dt gJ f i⊢;have c:a<b.length:=R
 have d6:(b.map fl).length=b.length:=ec ..
 conv=>whnf
 refine dF ?_;refine ea R (cO ?_);refine d2 (x:=fl b[a]) (by simp[c]) (c7 ?_);refine df (Kv b[a]) (cO ?_)
 have o:(((a:J)+1)%(b.map fl).length:J)=(((a+1)%b.length:V):J):=by rw[d6];norm_cast
 refine wT (λQ=>?_) λQ=>?_
 .have p:¬(b[a].2.1=0/\b[a].2.2=L):=λe=>Q e.1;have O:sZ b a c=b:=cS Q
  have dQ:pG b ((a+1)%b.length) el fh:=by
   cases gJ with|stop _ _ h n g=>omega|go _ _ h _ _ c0 r=>simp_all
  have cP:=Qw c f i p;rw[O]at cP;refine dF ?_;refine ea R (cO ?_);refine d2 (x:=fl b[a]) (by simp[c]) (c7 ?_);refine df (Kv b[a]) (cO ?_);refine eH ?_;rw[o];refine dF ?_;exact⟨(b,(a+1)%b.length),⟨iB,by simp only[];rw[<-iB];exact lp _ R,dQ,f,i⟩,cP,dX (dH ⟨Z,Z,Z,Z,dM⟩ ⟨Z,Z,Z,dM⟩ ⟨Z,Z,Z,Z⟩)⟩
 .refine dF ?_;refine ea R (cO ?_);refine d2 (x:=fl b[a]) (by simp[c]) (c7 ?_)
  refine hV (λc5=>?_) λc5=>?_
  .have p:¬(b[a].2.1=0/\b[a].2.2=L):=λe=>by simp_all
   have O:sZ b a c=b.set a (w7 b[a]):=if_pos Q
   have dQ:pG (b.set a (w7 b[a])) ((a+1)%b.length) el fh:=by
    cases gJ with|stop _ _ h n g=>simp_all|go _ _ h _ _ c0 r=>simp_all
   have cP:=Qw c f i p;have v:=Qv (h:=c) f
   have E:((b.map fl).set a (fl (w7 b[a]))).length=b.length:=by rw[iu,d6]
   refine dF ?_;refine ea R (cO ?_);refine d2 (x:=fl b[a]) (by simp[c]) (c7 ?_);refine df (Kv b[a]) (cO ?_);refine sA (by simp[Q]) (c7 ?_);refine ea R (cO ?_);refine d2 (x:=fl b[a]) (by simp[c]) (c7 ?_);refine zr (by rw[iu];omega) R (c7 ?_)
   refine⟨(b.set a (w7 b[a]),(a+1)%b.length),⟨by simp only[];rw[iu];exact iB,by simp only[];rw[<-iB];exact lp _ R,dQ,by rw[iu];exact f,?_⟩,by simp only[];rw[O]at cP;exact cP,dX (dH ⟨Z,Z,Z,by
    show dp.d (((a:J)+1)%((List.set (b.map fl) a _).length:J))=dp.d (((a+1)%b.length:V):J);rw[iu,o],dM⟩ ⟨Z,Z,by
    show U (d4.row ((b.map fl).set a (fl (w7 b[a]))) 3 L)=_;rw[rQ],dM⟩ ⟨Z,Z,Z,Z⟩)⟩
   have t:=v.2;simp[O]at t;rw[t];exact i
  .have y:b=el/\a=fh:=by
    cases gJ with|stop _ _ h n g=>simp_all|go _ _ h _ _ c0 r=>simp_all
   obtain⟨rfl,rfl⟩:=y;refine eH ?_;rw[o,iB];refine dF ?_;exact dg Z Z
namespace Dt
open Go.Proofs Go.RowKit
def o'(n:J):di:=gy (1<=n)&&decide (n<=16)
def q_(n:J):di:=gy (0<=n)&&decide (n<=2147483647)
def Z_(n):d0 cQ 254 [.int .i64 n] (.bool (o' n)):=by
 refine d5 Tryz.func254 1 Z cV (cO ?_)
 refine dT (λh=>?_) λh=>?_
 .exact dg Z (by simp[o',h])
 .exact dg Z (by simp[o',h])
def Z'(n):d0 cQ 255 [.int .i64 n] (.bool (q_ n)):=by
 refine d5 Tryz.func255 1 Z cV (cO ?_)
 refine dT (λh=>?_) λh=>?_
 .exact dg Z (by simp[q_,h])
 .exact dg Z (by simp[q_,h])
def gI(l:I (J×J))(n:J)(k:V):J:=
 match l with
 | []=>-1
 |p::r=>if p.1=n then(k:J) else gI r n (k+1)
def s0(l n)(dv:l.length<=1000000):d0 cQ 256 [hk l,.int .i64 n] (.int .i64 (gI l n 0)):=by
 refine d5 Tryz.func256 2 Z cV (cO ?_);refine eW (D:=V) (λk=>[(1,.d n),(7,.d (hk l)),(8,.d (.int .i64 (l.map gf).length)),(9,.d (.int .i64 k))]) (λ_=>[])
  (λk=>k<=l.length/\gI (l.drop k) n k=gI l n 0) (λk=>l.length-k) 0 ⟨eY _,Z⟩ (dX (dH ff dM dV)) ?_
 rintro k ⟨c_,fL⟩
 conv=>whnf
 refine dT (λh=>?_) λh=>?_
 .have eR:k<l.length:=by simpa using h
  refine ea Ew (cO ?_);refine d2 (x:=gf l[k]) iJ (cO ?_);refine fz Z (cO ?_);refine fz Z (cO ?_);rw[rN eR,gI]at fL
  refine dT (λc5=>?_) λc5=>?_
  .rw[if_pos c5]at fL;exact dg Z nu
  .rw[cS c5]at fL;refine eH ?_;exact⟨k+1,⟨R,fL⟩,R,dX (dH ff dM dV)⟩
 .have:k=l.length:=by simp at h;omega
  subst this;simp at fL;exact dg Z nu
def qf(l:I (J×J))(i:V):di:=
 match l[i]? with
 |none=>N
 |some p=>o' p.1&&q_ p.2&&!(decide (0<=gI (l.take i) p.1 0))&&!(decide (0<i)&&decide (p.2<(l[i-1]?.getD (0,0)).2))
def hm(l:I (J×J)):di:=gy (l.length<=16)&&(iz l.length).all (qf l)
def KJ{l k}(c_:k<l.length)(h:qf l k=L):hm l=L:=by unfold hm;grind
def t4(l)(dv:l.length<=1000000):d0 cQ 192 [hk l] (.bool (hm l)):=by
 refine d5 Tryz.func192 1 Z cV (cO ?_)
 refine dT (λcW=>?_) λcW=>?_
 .simp at cW;exact dg Z (by simp[hm];omega)
 have i:l.length<=16:=by simp at cW;omega
 refine eW (D:=V) (λk=>[(0,.d (hk l)),(8,.d (hk l)),(9,.d (l.map gf).length),(10,.d k)]) (λ_=>[])
  (λk=>k<=l.length/\ ∀j,j<k->qf l j=N) (λk=>l.length-k) 0 ⟨eY _,λj h=>dN h (qc _)⟩ (dX (dH ff dM dV)) ?_
 rintro k ⟨c_,c⟩
 conv=>whnf
 refine dT (λh=>?_) λh=>?_
 .have a:k<l.length:=by simpa using h
  have f:qf l k=(o' l[k].1&&q_ l[k].2&&!(decide (0<=gI (l.take k) l[k].1 0))&&!(decide (0<k)&&decide (l[k].2<(l[k-1]?.getD (0,0)).2))):=by simp[qf,a]
  refine ea R (cO ?_);refine d2 (x:=gf l[k]) (by simp[a]) (cO ?_);refine fz Z (cO ?_);refine fz Z (cO ?_);refine df (Z_ _) (cO ?_)
  refine hV (λQ=>?_) λQ=>?_
  .simp at Q;exact dg Z (eL c3.bool (KJ a eM).symm)
  refine fz Z (cO ?_);refine df (Z' _) (cO ?_)
  refine hV (λc5=>?_) λc5=>?_
  .simp at c5;exact dg Z (eL c3.bool (KJ a eM).symm)
  simp at Q c5;refine fz (λe he=>YA he) (cO ?_);refine oV R (cO ?_);refine fz Z (cO ?_);refine df (d:=.int .i64 (gI (l.take k) l[k].1 0)) (by simpa[hk,yg]using s0 (l.take k) l[k].1 (by simp;omega)) (cO ?_);refine eH ?_
  refine dT (λb=>?_) λb=>?_
  .exact dg Z (eL c3.bool (KJ a eM).symm)
  refine iG (λm=>?_) λm=>?_
  .refine kn R (by simp;omega) (cO ?_);refine d2 (x:=gf l[k-1]) (by rw[show((k:J)-1).toNat=k-1 by omega];simp[show k-1<l.length by omega]) (c7 ?_)
   refine dT (λdu=>?_) λdu=>?_
   .apply dg Z;rw[KJ a (by rw[f];simp[show k-1<l.length by omega,du];intros;omega)];rfl
   refine dF ?_
   have g:qf l k=N:=by
    have:k-1<l.length:=R
    simp at b;rw[f];simp[Q,c5,b,this];right;omega
   exact⟨k+1,⟨by omega,λj dU=>(yy.1 dU).elim (c j) (λe=>e▸g)⟩,by omega,dX (dH ff dM dV)⟩
  .refine dF ?_
   have g:qf l k=N:=by
    have n:decide (0<k)=L:=by simp;omega
    simp at b;rw[f,Q,c5,n];simp[b]
   exact⟨k+1,⟨by omega,λj dU=>(yy.1 dU).elim (c j) (λe=>e▸g)⟩,by omega,dX (dH ff dM dV)⟩
 .have:k=l.length:=by simp at h;omega
  subst this;apply dg Z
  have:(iz l.length).all (qf l)=N:=by rw[of];exact λx o=>c x eM
  simp[hm,i];omega
def t5{l}(h:hm l=N):l.length<=16/\ ∀k (c_:k<l.length),qf l k=N/\1<=l[k].1/\l[k].1<=16/\0<=l[k].2/\l[k].2<=2147483647:=by simp[hm,lV,GL,of,F2]at h;refine⟨h.1,λk c_=>⟨h.2 k c_,?_⟩⟩;have:=h.2 k c_;simp[qf,c_,o',q_]at this;omega
def vw(now g2:J)(a:J×J):dB J:=if g2<=now-a.2 then U a.1 else cL
def pa(l:I (J×J))(now g2:J):I J:=if g2<0\/now<0\/hm l=L then [] else l.filterMap (vw now g2)
def Da{l n}:∀ {k},gI l n k<0\/ ∃i,gI l n k=((k+i:V):J) /\ ∃h,l[i].1=n:=by
 induction l with
 |nil=>intro k;exact .inl (show(-1:J)<0 by decide)
 |cons p r a=>
  intro k;simp[gI]
  by_cases h:p.1=n
  .exact .inr ⟨0,by simp[h],by simp,by grind⟩
  .rw[cS h];rcases a (k:=k+1) with Q|⟨i,Q,c5,b⟩
   .omega
   .exact .inr ⟨i+1,by omega,by simp_all,by simp_all⟩
def qg(l:I (J×J))(n:J):J×di:=
 if hm l=L\/gI l n 0<0 then(0,L) else((l[(gI l n 0).toNat]?.getD (0,0)).2,N)
def aaa(l n)(dv:l.length<=1000000):d0 cQ 230 [hk l,.int .i64 n] (.dS [.int .i64 (qg l n).1,.bool (qg l n).2]):=by
 refine d5 Tryz.func230 2 Z (by kernel_rfl) (cO ?_);refine df (t4 l dv) (cO ?_)
 refine hV (λh=>?_) λh=>?_
 .simp at h;exact dg Z (by simp[qg,h];rfl)
 refine df (s0 l n dv) (cO ?_)
 refine dT (λQ=>?_) λQ=>?_
 .exact dg Z (by simp[qg,Q];rfl)
 simp at h;obtain c5|⟨i,c5,a,b⟩:=Da (l:=l) (n:=n) (k:=0)
 .exact dN c5 Q
 rw[mM]at c5;refine kn R eM (cO ?_);refine d2 (x:=gf l[i]) eM (c7 ?_);exact dg Z (by simp[qg,h,c5,a,show ¬((i:J)<0) by omega];rfl)
def nm(l:I (J×J))(t:J):di:=gy (0<l.length)&&decide (t<(l[l.length-1]?.getD (0,0)).2)
def hX(l:I (J×J))(p t:J):I (J×J)×J:=
 if hm l=L\/o' p=L\/q_ t=L then(l,1)
 else if nm l t=N then(l,1)
 else if 0<=gI l p 0 then(l,0) else(l++[(p,t)],0)
def aab(l p t)(dv:l.length<=1000000):d0 cQ 288 [hk l,.int .i64 p,.int .i64 t] (.dS [hk (hX l p t).1,.int .i64 (hX l p t).2]):=by
 refine d5 Tryz.func288 3 Z (by kernel_rfl) (cO ?_);refine df (t4 l dv) (cO ?_)
 refine hV (λQ=>?_) λQ=>?_
 .simp at Q;exact dg Z (by simp[hX,Q];rfl)
 simp at Q;refine df (Z_ p) (cO ?_)
 refine hV (λc5=>?_) λc5=>?_
 .simp at c5;exact dg Z (by simp[hX,c5];rfl)
 simp at c5;refine df (Z' t) (cO ?_)
 refine hV (λa=>?_) λa=>?_
 .simp at a;exact dg Z (by simp[hX,a];rfl)
 simp at a;have⟨d,e⟩:=t5 Q
 have d6:(l.map gf).length=l.length:=ec ..
 refine dT (λc=>?_) λc=>?_
 .simp at c;refine dF ?_;refine kn R R (cO ?_);refine d2 (x:=gf l[l.length-1]) (by rw[show(((l.map gf).length:J)-1).toNat=l.length-1 by omega];grind) (c7 ?_)
  refine dT (λdu=>?_) λdu=>?_
  .have:nm l t=N:=by simp[nm,show l.length-1<l.length by omega,c,du]
   exact dg Z (by simp[hX,this,Q,c5,a];rfl)
  have dY:nm l t=L:=by simp[nm,show l.length-1<l.length by omega];omega
  refine df (s0 l p dv) (cO ?_)
  refine mj (λb=>?_) λb=>?_
  .exact dg Z (by simp[hX,dY,Q,c5,a,b];rfl)
  refine fO 1000100 100 R cZ cZ cZ (cO ?_);refine fz (J8 l) (cO ?_);refine fO 1000100 100 hN cZ cZ cZ (c7 ?_);refine fO 1000100 100 (by show pt _+1<=1000100;simp;omega) cZ cZ cZ (cO ?_);exact dg Z (by simp[hX,dY,Q,c5,a,b,hk];rfl)
 .simp at c
  have dY:nm l t=L:=by simp[nm,c]
  refine df (s0 l p dv) (cO ?_)
  refine mj (λb=>?_) λb=>?_
  .exact dg Z (by simp[hX,dY,Q,c5,a,b];rfl)
  refine fO 1000100 100 R cZ cZ cZ (cO ?_);refine fz (J8 l) (cO ?_);refine fO 1000100 100 eM cZ cZ cZ (c7 ?_);refine fO 1000100 100 (by show pt _+1<=1000100;simp;omega) cZ cZ cZ (cO ?_);exact dg Z (by simp[hX,dY,Q,c5,a,b,hk];rfl)
def aac{α:Type}{l i}{x:α}:(l++[x]).eraseIdx i=if i=l.length then l else l.eraseIdx i++[x]:=by
 by_cases h:i=l.length
 .subst h;grind
 .rw[cS h]
  by_cases a:i<l.length
  .grind
  .rw[aad hy,aad R]
def oD(l:I (J×J))(p:J):I (J×J)×J:=
 if hm l=L then(l,1) else if gI l p 0<0 then(l,3) else(l.eraseIdx (gI l p 0).toNat,0)
def GM(l p)(dv:l.length<=1000000):d0 cQ 310 [hk l,.int .i64 p] (.dS [hk (oD l p).1,.int .i64 (oD l p).2]):=by
 refine d5 Tryz.func310 2 Z cV (cO ?_);refine df (t4 l dv) (cO ?_)
 refine hV (λQ=>?_) λQ=>?_
 .simp at Q;exact dg Z (by simp[oD,Q];rfl)
 simp at Q;refine df (s0 l p dv) (cO ?_)
 refine dT (λc5=>?_) λc5=>?_
 .exact dg Z (by simp[oD,Q,c5];rfl)
 obtain a|⟨i,a,b,du⟩:=Da (l:=l) (n:=p) (k:=0)
 .exact dN a c5
 rw[mM]at a
 have d6:(l.map gf).length=l.length:=ec ..
 have⟨c,e⟩:=t5 Q
 have dj:oD l p=(l.eraseIdx i,0):=by simp[oD,Q,a]
 rw[dj];refine eW (D:=V) (λk=>[(6,.d i),(7,.own 33),(20,.d (hk l)),(21,.d (l.map gf).length),(22,.d k)]) (λk=>[(33,.row (((l.take k).eraseIdx i).map gf) 2 L)])
  (λk=>k<=l.length) (λk=>l.length-k) 0 (eY _) (nd (.row 7 33 2) g_ (dH ⟨by rw[<-a];rfl,Z,Z,Z,Z,dM⟩ ez dV)) ?_
 intro k c_
 conv=>whnf
 refine dT (λh=>?_) λh=>?_
 .have eR:k<l.length:=by simpa using h
  refine ea Ew (cO ?_);refine d2 (x:=gf l[k]) iJ (c7 ?_);have f:=R
  refine kV (λdY=>?_) λdY=>?_
  .refine fO 1000100 100 (by show pt _+1<=1000100;grind) cZ cZ cZ (c7 ?_)
   exact⟨k+1,R,R,dX (dH gO ⟨by rw[mb eR,aac,cS hN,jl];rfl,dM⟩ dV)⟩
  .refine dF ?_
   exact⟨k+1,R,R,dX (dH gO ⟨by rw[mb eR,aac,if_pos hN,aad hN];rfl,dM⟩ dV)⟩
 .have:k=l.length:=by simp at h;omega
  subst this;exact dg Z My
def Qx:∀(n) (l:I V),l.Nodup->(∀x∈l,x<n)->l.length<=n
 |0,[],_,_=>fi _|0,x::r,_,h=>dN (h x (mK ..)) (qc _)
 |n+1,l,c0,h=>by
  by_cases m:n∈l
  .have:=Qx n (l.erase n) (c0.erase n) λx a=>by
    grind
   simp_all
  .have:=Qx n l c0 λx a=>by
    grind
   omega
def aae{l x i}(h:i<l.length):qf (l++[x]) i=qf l i:=by unfold qf;grind
def aaf{l x}:qf (l++[x]) l.length=(o' x.1&&q_ x.2&&!(decide (0<=gI l x.1 0))&&!(nm l x.2)):=by unfold qf nm;grind
def Qy{l x}:hm (l++[x])=N↔hm l=N/\l.length<16/\o' x.1=N/\q_ x.2=N/\gI l x.1 0<0/\nm l x.2=L:=by
 simp[hm,lV,GL,of,F2,kv,nF,wJ];constructor
 .rintro⟨Q,c5⟩;have a:=c5 l.length R;rw[aaf]at a;simp at a;refine⟨⟨R,λi cK=>?_⟩,R,a.1.1.1,a.1.1.2,a.1.2,a.2⟩;rw[<-aae cK];exact c5 i R
 .rintro⟨⟨Q,c5⟩,a,b,du,dY,c⟩;refine⟨R,λi cK=>?_⟩
  by_cases e:i<l.length
  .rw[aae e];grind
  .obtain rfl:i=l.length:=R
   rw[aaf];simp_all
def q'{l n}:∀ {k},0<=gI l n k↔∃x∈l,x.1=n:=by
 induction l with
 |nil=>intro k;exact⟨λh=>dN h (show ¬(0<= (-1:J)) by decide),λ⟨x,h,_⟩=>by cases h⟩|cons p r a=>intro k;simp[gI];grind
def aag{α:Type}{motive:I α->Prop}(cW:motive [])(Q:∀l x,motive l->motive (l++[x]))(l):motive l:=by
 have:∀n (l:I α),l.length=n->motive l:=by
  intro n
  induction n with
  |zero=>simp_all
  |succ n i=>
   intro l h
   have a:l≠[]:=λe=>by simp_all
   rw[<-List.dropLast_concat_getLast a];simp_all
 simp_all
def aoA{l}:hm l=N->(l.map λx=>x.1.toNat).Nodup/\ ∀x∈l,1<=x.1/\x.1<=16:=by
 refine aag (motive:=λl=>hm l=N->(l.map λx=>x.1.toNat).Nodup/\ ∀x∈l,1<=x.1/\x.1<=16) (λ_=>⟨GN,λx h=>hh⟩) (λl x d h=>?_) l;have⟨Q,c5,f,i,du,dY⟩:=Qy.1 h;have⟨dI,g⟩:=d Q
 have j:1<=x.1/\x.1<=16:=by simpa[o']using f
 refine⟨?_,λy c=>?_⟩
 .rw[jl,pH];refine⟨dI,dw,λa dt b hb e=>?_⟩;simp at hb;subst hb e;have⟨y,c,e⟩:=is.1 dt;have:=g y c;have:0<=gI l x.1 0:=q'.2 ⟨y,c,R⟩;omega
 grind
def aoB{l p}(h:hm l=N)(O:o' p=N)(c0:gI l p 0<0):l.length<16:=by
 have⟨Q,c5⟩:=aoA h
 have d:1<=p/\p<=16:=by simpa[o']using O
 have:=Qx 16 ((p.toNat-1)::l.map λx=>x.1.toNat-1) (by
  rw[tH];refine⟨λd6=>?_,?_⟩
  .have⟨y,c,e⟩:=is.1 d6;have:=c5 y c;have:0<=gI l p 0:=q'.2 ⟨y,c,R⟩;omega
  .rw[show(l.map λx=>x.1.toNat-1)=(l.map λx=>x.1.toNat).map (·-1) by simp];refine List.pairwise_map.2 (Q.imp_of_mem fun {a b} dt hb e=>?_);grind) (by
  grind)
 grind
def aoC{l p t}(h:(hX l p t).2=0):hm l=N/\o' p=N/\q_ t=N/\nm l t=L/\
  ((0<=gI l p 0/\ (hX l p t).1=l) \/ (gI l p 0<0/\ (hX l p t).1=l++[(p,t)])):=by
 unfold hX at h⊢;grind
def aah{l p t}(h:(hX l p t).2=0):hm (hX l p t).1=N:=by
 obtain⟨Q,c5,a,b,du|du⟩:=aoC h
 .simp_all
 .rw[du.2];exact Qy.2 ⟨Q,aoB Q c5 du.1,c5,a,du.1,b⟩
def Qz(l:I (J×J)):Prop:=l.length<=16/\ (∀x∈l,o' x.1=N/\q_ x.2=N) /\l.Pairwise (λa b=>a.1≠b.1) /\l.Pairwise (λa b=>a.2<=b.2)
def aai{l t}(c':l.Pairwise (λa b=>a.2<=b.2)):nm l t=L↔∀a∈l,a.2<=t:=by
 constructor
 .intro h a dt;obtain⟨i,cK,rfl⟩:=kr.1 dt
  have O:0<l.length:=R
  simp[nm,show l.length-1<l.length by omega]at h;have h:=h O
  by_cases e:i=l.length-1
  .simp_all
  .have:=yh.1 c' i (l.length-1) cK R R;omega
 .intro h;simp[nm];grind
def GO{l}:hm l=N↔Qz l:=by
 refine aag (motive:=λl=>hm l=N↔Qz l) ⟨λ_=>⟨dw,λx h=>hh,.nil,.nil⟩,λ_=>Z⟩ (λl x g=>?_) l;rw[Qy,g];unfold Qz;simp only[kv,nF,wJ,iY,p6,KL];constructor
 .rintro⟨⟨Q,c5,c,d⟩,du,dY,j,k,i⟩;refine⟨R,λy f=>?_,⟨c,dw,λa dt b hb e=>?_⟩,⟨d,dw,λa dt b hb=>?_⟩⟩
  .grind
  .subst hb;have:0<=gI l b.1 0:=q'.2 ⟨a,dt,e⟩;omega
  .subst hb;exact(aai d).1 i a dt
 .rintro⟨Q,c5,⟨c,_,d⟩,⟨du,_,dY⟩⟩;refine⟨⟨R,λy f=>c5 y (.inl f),c,du⟩,R,(c5 x (.inr Z)).1,(c5 x (.inr Z)).2,?_,(aai du).2 λa dt=>dY a dt x Z⟩
  by_cases h:0<=gI l x.1 0
  .have⟨y,f,e⟩:=q'.1 h;grind
  .omega
def QA{l p t}(dQ:hm l=N)(h:(p,t)∈l):qg l p=(t,N):=by
 have O:0<=gI l p 0:=q'.2 ⟨_,h,Z⟩;obtain a|⟨i,a,du,dY⟩:=Da (l:=l) (n:=p) (k:=0)
 .omega
 rw[mM]at a
 have cK:l[i]=(p,t):=by
  have⟨j,dU,e⟩:=kr.1 h;have c0:=yh.1 (GO.1 dQ).2.2.1
  by_cases b:i=j
  .simp_all
  .grind
 simp[qg,dQ,a,du,cK]
def aaj{p}:∀ {l:I (J×J)} {i} (h:i<l.length),l.Pairwise (λa b=>a.1≠b.1)->l[i].1=p->l.eraseIdx i=l.filter (λx=>x.1 !=p)
 |a::r,0,_,c0,e=>by
  have⟨Q,c⟩:=vg.1 c0;have e:a.1=p:=e;rw[List.eraseIdx_cons_zero,List.filter_cons_of_neg uD];exact(List.filter_eq_self.2 λx d=>by grind).symm
 |a::r,i+1,h,c0,e=>by
  have⟨Q,c⟩:=vg.1 c0;have cK:=xz;have e:=MI;have:=Q _ (hF cK);rw[e]at this;rw[List.eraseIdx_cons_succ,aaj cK c e,aak Ub]
def aoD{l}(dQ:hm l=N)(f):hm (l.filter f)=N:=by have⟨Q,c5,a,b⟩:=GO.1 dQ;refine GO.2 ⟨fG (Db _ _) Q,λx c=>c5 x (ou.1 c).1,a.filter f,b.filter f⟩
def QB{l p}(dQ:hm l=N):oD l p=if 0<=gI l p 0 then(l.filter (λx=>x.1 !=p),0) else(l,3):=by
 unfold oD;rw[cS (by simp[dQ])]
 by_cases h:0<=gI l p 0
 .obtain a|⟨i,a,du,dY⟩:=Da (l:=l) (n:=p) (k:=0)
  .omega
  rw[mM]at a;rw[cS R,if_pos h,a,gz,aaj du (GO.1 dQ).2.2.1 dY]
 simp_all
end Dt
namespace Tb
open Go.Proofs Go.RowKit
abbrev j6:=I (J×J)
def rT(x:J×J):c3:=.agg (gf x)
def w8(l:j6):c3:=.agg [hk l]
def fU(x:J×J):di:=gy (x.1=0)&&decide (x.2=0)
def s3(p f:J):di:=gy (1<=p)&&(decide (p<=2147483647)&&(decide (0<=f)&&decide (f<=2147483647)))
def Dc(x):d0 cQ 250 [rT x] (.bool (fU x)):=by
 refine d5 Tryz.func250 1 Z cV (c7 ?_)
 refine pA (λh=>?_) λh=>?_
 .exact dg Z (by simp[fU,h])
 .exact dg Z (by simp[fU,h])
def aal(p f):d0 cQ 251 [.int .i64 p,.int .i64 f] (.bool (s3 p f)):=by
 refine d5 Tryz.func251 2 Z cV (cO ?_)
 refine mj (λh=>?_) λh=>?_
 .refine mj (λc5=>?_) λc5=>?_
  .refine dT (λa=>?_) λa=>?_
   .exact dg Z (by simp[s3,h,c5,a])
   .exact dg Z (by simp[s3,h,c5,a])
  .exact dg Z (by simp[s3,h,c5])
 .exact dg Z (by simp[s3,h])
def yD(n)(h:0<=n):d0 cQ 252 [.int .i64 n] (.int .i64 (n%16)):=by refine d5 Tryz.func252 1 Z cV (cO ?_);refine eH ?_;rfl
def QC(n)(h:0<=n)(Q:n<=100):d0 cQ 253 [.int .i64 n] (.int .i64 ((n+1)%16)):=by refine d5 Tryz.func253 1 Z cV (c7 ?_);refine eH ?_;rfl
def aam(a b)(h:0<=a)(Q:a<=15)(c:0<=b)(d:b<=15):d0 cQ 325 [.int .i64 a,.int .i64 b] (.int .i64 ((b-a+16)%16)):=by refine d5 Tryz.func325 2 Z cV (c7 ?_);refine eH ?_;rfl
def QD(l:j6)(dv:l.length<=1000000):kg cQ 95 [hk l] (l.map gf) 2:=by
 refine lZ Tryz.func95 1 Z cV (cO (oX (cO ?_)));intro r dQ
 conv=>whnf
 refine nk (λh=>?_) λh=>?_
 .have:=dQ h;exact⟨2,Z,.inr ⟨Z,this⟩⟩
 .refine fz (J8 l) (cO ?_);refine fO 1000100 100 Bq cZ cZ cZ (cO ?_);exact⟨2,Z,.inl ⟨5,Z,Z⟩⟩
def QE:d0 cQ 173 [] (w8 (eQ 16 (0,0))):=by refine d5 Tryz.func173 0 Z cV (c7 ?_);refine fO 100 100 cZ cZ cZ cZ (c7 ?_);rfl
def gI(l:j6)(n:J)(k:V):J:=
 match l with
 | []=>-1
 |p::r=>if p.1=n then(k:J) else gI r n (k+1)
def kY(l:j6)(p:J):J×di:=if p<1\/gI l p 0<0 then(0,L) else(gI l p 0,N)
def s0(l n)(dv:l.length<=1000000):d0 cQ 257 [w8 l,.int .i64 n] (.dS [.int .i64 (kY l n).1,.bool (kY l n).2]):=by
 refine d5 Tryz.func257 2 Z cV (cO ?_)
 refine mj (λcW=>?_) λcW=>?_
 .exact dg Z (by simp[kY,cW];rfl)
 refine eW (D:=V) (λk=>[(1,.d n),(11,.d (hk l)),(12,.d (l.map gf).length),(13,.d k)]) (λ_=>[])
  (λk=>k<=l.length/\gI (l.drop k) n k=gI l n 0) (λk=>l.length-k) 0 ⟨eY _,Z⟩ (dX (dH ff dM dV)) ?_
 rintro k ⟨c_,a⟩
 conv=>whnf
 refine dT (λh=>?_) λh=>?_
 .have eR:k<l.length:=by simpa using h
  refine ea Ew (cO ?_);refine d2 (x:=gf l[k]) iJ (c7 ?_);rw[rN eR,gI]at a
  refine dT (λc5=>?_) λc5=>?_
  .rw[if_pos c5]at a;apply dg Z
   have:kY l n=((k:J),N):=by rw[kY,<-a,cS R]
   rw[this];rfl
  .rw[cS c5]at a;refine dF ?_;exact⟨k+1,⟨R,a⟩,R,dX (dH ff dM dV)⟩
 .have:k=l.length:=by simp at h;omega
  subst this;simp[gI]at a;apply dg Z
  have:kY l n=(0,L):=by rw[kY,<-a,if_pos R]
  rw[this];rfl
def at'(l:j6)(i:V):J×J:=l[i]?.getD (0,0)
def mo{l i}(h:i<l.length):at' l i=l[i]:=by simp[at',h]
def fR(p:J):V:=(p%16).toNat
def kx(a b:V):V:=(b+16-a)%16
def s4(x:J×J):Prop:=fU x=N\/s3 x.1 x.2=N
def KM(l:j6)(i:V):Prop:=fU (at' l i)=N\/ ((∀j,j<i->(at' l j).1≠(at' l i).1) /\ ∀d,d<kx (fR (at' l i).1) i->fU (at' l ((fR (at' l i).1+d)%16))=L)
structure iP(l:j6):Prop where
 len:l.length=16
 rU:∀i,i<16->s4 (at' l i)
 places:∀i,i<16->KM l i
open Classical in
def hm(l:j6):di:=gy (iP l)
def t6{l}:hm l=N↔iP l:=by simp[hm]
def KN{l}:hm l=L↔¬iP l:=by simp[hm]
def yG{p f}:s3 p f=N↔1<=p/\p<=2147483647/\0<=f/\f<=2147483647:=by simp[s3]
def aoE{x}:fU x=N↔x.1=0/\x.2=0:=by simp[fU]
def t4(l)(dv:l.length<=1000000):d0 cQ 191 [w8 l] (.bool (hm l)):=by
 refine d5 Tryz.func191 1 Z cV (cO ?_)
 have d6:(l.map gf).length=l.length:=ec ..
 refine dF ?_
 refine wT (λcW=>?_) λcW=>?_
 .exact dg Z (eL c3.bool (KN.2 λh=>cW (by rw[d6,h.len];rfl)).symm)
 have p:l.length=16:=R
 refine dF ?_;refine eW (D:=V) (λk=>[(1,.ptr 1 0 0),(15,.d (hk l)),(16,.d (l.map gf).length),(17,.d k)]) (λ_=>[(1,.box [.d (hk l)] L)])
  (λk=>k<=16/\ ∀j,j<k->s4 (at' l j)) (λk=>16-k) 0 ⟨eY _,λj h=>dN h (qc _)⟩ (dX (dH ff ez dV)) ?_
 rintro k ⟨c_,c⟩
 conv=>whnf
 refine dT (λh=>?_) λh=>?_
 .have f:k<l.length:=R
  have b:=mo f;have g (c':s4 l[k]):∀j,j<k+1->s4 (at' l j):=λj dU=>(yy.1 dU).elim (c j) (λe=>by simp_all);refine ea R (cO ?_);refine d2 (x:=gf l[k]) (by simp[f]) (c7 ?_);refine df (Dc l[k]) (cO ?_)
  refine yr (λQ=>?_) λQ=>?_
  .refine df (aal _ _) (cO ?_)
   refine nk (λc5=>?_) λc5=>?_
   .refine dg Z (eL c3.bool (KN.2 λh=>?_).symm);have:=h.rU k R;rw[b]at this;simp[s4]at this Q c5;simp_all
   .simp at c5;exact⟨k+1,⟨by omega,g (.inr c5)⟩,by omega,dX (dH ff ez dV)⟩
  .simp at Q;exact⟨k+1,⟨by omega,g (.inl Q)⟩,by omega,dX (dH ff ez dV)⟩
 have gJ:∀j,j<16->s4 (at' l j):=λj dU=>c j R;clear c c_ h
 refine dF ?_;refine eW (D:=V) (λk=>[(1,.ptr 1 0 0),(34,.d (hk l)),(35,.d (l.map gf).length),(36,.d k)]) (λ_=>[(1,.box [.d (hk l)] L)])
  (λk=>k<=16/\ ∀j,j<k->KM l j) (λk=>16-k) 0 ⟨eY _,λj h=>dN h (qc _)⟩ (dX (dH ff ez dV)) ?_
 rintro k ⟨c_,c⟩
 conv=>whnf
 refine dT (λh=>?_) λh=>?_
 .have f:k<l.length:=R
  have b:=mo f;have g (c':KM l k):∀j,j<k+1->KM l j:=λj dU=>(yy.1 dU).elim (c j) (λe=>by simp_all);have r:=gJ k R;refine ea R (cO ?_);refine d2 (x:=gf l[k]) (by simp[f]) (c7 ?_);refine df (Dc l[k]) (cO ?_)
  refine kl (λQ=>?_) λQ=>?_
  .exact⟨k+1,⟨by omega,g (.inl eM)⟩,by omega,dX (dH ff ez dV)⟩
  have B:1<=l[k].1:=by
   rcases r with c5|c5
   .simp_all
   .rw[b]at c5;exact(yG.1 c5).1
  refine dF ?_;refine fz (λe he=>YA he) (cO ?_);refine oV R (c7 ?_)
  have C:(z7 0 (CH k (l.map gf))).length=k:=by simp;omega
  refine eW (D:=V) (λq=>[(1,.ptr 1 0 0),(5,.d k),(6,.ptr 6 0 0),(34,.d (hk l)),(35,.d (l.map gf).length),(36,.d k),(46,.d (.dm (z7 0 (CH k (l.map gf))))),(47,.d (z7 0 (CH k (l.map gf))).length),(48,.d q)]) (λ_=>[(1,.box [.d (hk l)] L),(6,.box [.d (.int .i64 l[k].1),.d (.int .i64 l[k].2)] L)])
   (λq=>q<=k/\ ∀j,j<q->(at' l j).1≠(at' l k).1) (λq=>k-q) 0 ⟨eY _,λj h=>dN h (qc _)⟩ (dX (dH By lO dV)) ?_
  rintro q ⟨s,m⟩
  conv=>whnf
  refine dT (λc5=>?_) λc5=>?_
  .have t:q<k:=R
   have n:q<l.length:=R
   refine ea R (cO ?_);refine d2 (x:=gf l[q]) eM (c7 ?_)
   refine mj (λi=>?_) λi=>?_
   .refine dg Z (eL c3.bool (KN.2 λh=>?_).symm);rcases h.places k R with a|⟨a,_⟩
    .simp_all
    .exact a q t (by rw[mo n,b,i])
   .exact⟨q+1,⟨by omega,λj dU=>(yy.1 dU).elim (m j) (λe=>by subst e;rwa[mo n,b])⟩,by omega,dX (dH By lO dV)⟩
  have u:∀j,j<k->(at' l j).1≠(at' l k).1:=λj dU=>m j R;clear m s c5;refine dF ?_;refine df (yD l[k].1 R) (cO ?_)
  have E:((fR l[k].1:V):J)=l[k].1%16:=by simp[fR];omega
  have F:fR l[k].1<16:=by simp[fR];omega
  refine eW (D:=V) (λd=>[(1,.ptr 1 0 0),(5,.d k),(9,.d (((fR l[k].1+d)%16:V):J)),(34,.d (hk l)),(35,.d (l.map gf).length),(36,.d k)]) (λ_=>[(1,.box [.d (hk l)] L)])
   (λd=>d<=kx (fR l[k].1) k/\ ∀o,o<d->fU (at' l ((fR l[k].1+o)%16))=L) (λd=>16-d) 0 ⟨eY _,λj h=>dN h (qc _)⟩ (dX (dH ⟨Z,Z,by rw[show(((fR l[k].1+0)%16:V):J)=l[k].1%16 by omega];rfl,Z,Z,Z,dM⟩ ez dV)) ?_
  rintro d ⟨cP,v⟩
  conv=>whnf
  have y:kx (fR l[k].1) k<16:=by simp[kx];omega
  refine wT (λc5=>?_) λc5=>?_
  .have z:d<kx (fR l[k].1) k:=by
    by_cases e:d=kx (fR l[k].1) k
    .exfalso;apply c5;rw[e];simp[kx];omega
    .omega
   have dU:(fR l[k].1+d)%16<l.length:=R
   refine dF ?_;refine ea R (cO ?_);refine d2 (x:=gf l[(fR l[k].1+d)%16]) (by simp[dU]) (c7 ?_);refine df (Dc l[(fR l[k].1+d)%16]) (cO ?_)
   refine hV (λi=>?_) λi=>?_
   .refine dg Z (eL c3.bool (KN.2 λh=>?_).symm);rcases h.places k R with a|⟨_,a⟩
    .rw[b,Q]at a;cases a
    .rw[b]at a;have:=a d z;rw[mo dU,i]at this
     cases this
   .refine df (QC (((fR l[k].1+d)%16:V):J) R R) (cO ?_)
    exact⟨d+1,⟨by omega,λj A=>(yy.1 A).elim (v j) (λe=>by subst e;rwa[mo dU])⟩,by omega,dX (dH ⟨Z,Z,by rw[show(((fR l[k].1+(d+1))%16:V):J)=((((fR l[k].1+d)%16:V):J)+1)%16 by omega];rfl,Z,Z,Z,dM⟩ ez dV)⟩
  .have G:d=kx (fR l[k].1) k:=by simp[kx]at cP y⊢;omega
   refine dF ?_;refine⟨k+1,⟨by omega,g (.inr ⟨u,?_⟩)⟩,by omega,dX (dH ff ez dV)⟩;simp_all
 exact dg Z (eL c3.bool (t6.2 ⟨p,gJ,λj dU=>c j R⟩).symm)
def Da{l n}:∀ {k},gI l n k<0\/ ∃i,gI l n k=((k+i:V):J) /\ ∃h,l[i].1=n:=by
 induction l with
 |nil=>intro k;exact .inl (show(-1:J)<0 by decide)
 |cons p r a=>
  intro k;simp[gI]
  by_cases h:p.1=n
  .exact .inr ⟨0,by simp[h],by simp,by grind⟩
  .rw[cS h];rcases a (k:=k+1) with Q|⟨i,Q,c5,b⟩
   .omega
   .exact .inr ⟨i+1,by omega,by simp_all,by simp_all⟩
def rV(l:j6)(h d:V):V->dB V
 |0=>cL
 |n+1=>if fU (at' l ((h+d)%16))=N then U ((h+d)%16) else rV l h (d+1) n
def pb(l:j6)(p f:J):j6×J:=
 if hm l=L\/s3 p f=L then(l,1) else if(kY l p).2=N then(l,4) else match rV l (fR p) 0 16 with
  |some i=>(l.set i (p,f),0)
  |none=>(l,7)
def GP(l:j6)(i x):(l.map gf).set i (gf x)=(l.set i x).map gf:=EC
def C5(l p f)(dv:l.length<=1000000):d0 cQ 308 [w8 l,.int .i64 p,.int .i64 f] (.dS [w8 (pb l p f).1,.int .i64 (pb l p f).2]):=by
 refine d5 Tryz.func308 3 Z (by kernel_rfl) (c7 ?_);refine df (t4 l dv) (cO ?_)
 refine kl (λQ=>?_) λQ=>?_
 .simp at Q;exact dg Z (by simp[pb,Q];rfl)
 simp at Q;refine df (aal p f) (cO ?_)
 refine kl (λc5=>?_) λc5=>?_
 .simp at c5;exact dg Z (by simp[pb,c5];rfl)
 simp at c5;refine dF ?_;refine df (s0 l p dv) (cO ?_)
 refine kl (λb=>?_) λb=>?_
 .exact dg Z (by simp[pb,Q,c5,b];rfl)
 have O:=yG.1 c5;have i:=(t6.1 Q).len
 have d6:(l.map gf).length=l.length:=ec ..
 have j:((fR p:V):J)=p%16:=by simp[fR];omega
 have m:fR p<16:=by simp[fR];omega
 refine df (yD p R) (cO ?_);refine eW (D:=V) (λd=>[(1,.d p),(2,.d f),(3,.ptr 3 0 0),(6,.ptr 6 0 0),(10,.d (.int .i64 (((fR p+d)%16:V):J))),(32,.d (.int .i64 d))]) (λ_=>[(3,.box [.d (hk l)] L),(6,.box [.nil] L)])
  (λd=>d<=16/\rV l (fR p) d (16-d)=rV l (fR p) 0 16) (λd=>16-d) 0 ⟨eY _,Z⟩ (dX (dH ⟨Z,Z,Z,Z,by show dp.d (.int .i64 (p%16))=dp.d (.int .i64 (((fR p+0)%16:V):J));simp_all,Z,dM⟩ lO dV)) ?_
 rintro d ⟨cP,a⟩
 conv=>whnf
 refine dT (λh=>?_) λh=>?_
 .have dU:(fR p+d)%16<l.length:=R
  rw[show 16-d=(16-(d+1))+1 by omega,rV,mo dU]at a;refine dF ?_;refine ea R (cO ?_);refine d2 (x:=gf l[(fR p+d)%16]) (by simp[dU]) (c7 ?_);refine df (Dc l[(fR p+d)%16]) (cO ?_)
  refine hV (λc=>?_) λc=>?_
  .rw[if_pos c]at a
   have e:pb l p f=(l.set ((fR p+d)%16) (p,f),0):=by simp[pb,Q,c5,b,<-a]
   rw[e];refine dF ?_;refine gT (QD l dv) (cO ?_);refine ea R (cO ?_);refine d2 (x:=gf l[(fR p+d)%16]) (by simp[dU]) (c7 ?_);apply dg Z;show c3.dS [.agg [.dm ((l.map gf).set _ (gf (p,f)))],.int .i64 0]=_;rw[GP];rfl
  .rw[cS (by simp[c])]at a;refine df (QC (((fR p+d)%16:V):J) R R) (c7 ?_)
   exact⟨d+1,⟨by omega,a⟩,by omega,dX (dH ⟨Z,Z,Z,Z,by rw[show(((fR p+(d+1))%16:V):J)=((((fR p+d)%16:V):J)+1)%16 by omega];rfl,Z,dM⟩ lO dV)⟩
 .have g:d=16:=R
  subst g
  have e:pb l p f=(l,7):=by simp[pb,Q,c5,b,<-a];rfl
  rw[e];refine dF ?_;exact dg Z Z
def ra(l:j6)(h_ i:V):V->j6
 |0=>l
 |n+1=>if fU (at' l ((i+1)%16))=N then l
  else if kx (fR (at' l ((i+1)%16)).1) h_<kx (fR (at' l ((i+1)%16)).1) ((i+1)%16) then ra ((l.set h_ (at' l ((i+1)%16))).set ((i+1)%16) (0,0)) ((i+1)%16) ((i+1)%16) n
  else ra l h_ ((i+1)%16) n
def qh(l:j6)(p:J):j6×J:=
 if hm l=L then(l,1) else if(kY l p).2=L then(l,3) else(ra (l.set (kY l p).1.toNat (0,0)) (kY l p).1.toNat (kY l p).1.toNat 15,0)
def aan{a b}(dt:a<16)(hb:b<16):((b)-(a)+16)%16=((kx a b:V):J):=by simp[kx];omega
def GQ{l p}(h:(kY l p).2=N):∃i:V,(kY l p).1=i/\ ∃h,l[i].1=p:=by
 unfold kY at h⊢
 by_cases e:p<1\/gI l p 0<0
 .simp_all
 .rw[cS e];obtain a|⟨i,a,du,dY⟩:=Da (l:=l) (n:=p) (k:=0)
  .omega
  grind
def yH:s4 (0,0):=.inl Z
def aoF(l p)(dv:l.length<=1000000):d0 cQ 309 [w8 l,.int .i64 p] (.dS [w8 (qh l p).1,.int .i64 (qh l p).2]):=by
 refine d5 Tryz.func309 2 Z (by kernel_rfl) (c7 ?_);refine df (t4 l dv) (cO ?_)
 refine kl (λQ=>?_) λQ=>?_
 .simp at Q;exact dg Z (by simp[qh,Q];rfl)
 simp at Q;refine dF ?_;refine df (s0 l p dv) (cO ?_)
 refine kl (λg=>?_) λg=>?_
 .simp at g;exact dg Z (by simp[qh,Q,g];rfl)
 simp at g;have q:=t6.1 Q;have t:=q.len
 have d6:(l.map gf).length=l.length:=ec ..
 have⟨a,dt,u,C⟩:=GQ g
 have v:qh l p=(ra (l.set a (0,0)) a a 15,0):=by simp[qh,Q,g,dt]
 rw[v,dt];refine dF ?_;refine gT (QD l dv) (c7 ?_);refine ea R (cO ?_);refine d2 (x:=gf l[a]) (by simp[u]) (cO ?_);refine eW (D:=V×j6×V×V) (λs=>[(4,.ptr 4 0 0),(6,.d s.2.2.1),(8,.own 26),(9,.d s.2.2.2),(32,.d s.1)]) (λs=>[(4,.box [.nil] L),(26,.row (s.2.1.map gf) 2 L)])
  (λs=>s.1<=15/\s.2.1.length=16/\s.2.2.1<16/\s.2.2.2<16/\ (∀j,j<16->s4 (at' s.2.1 j)) /\ra s.2.1 s.2.2.1 s.2.2.2 (15-s.1)=ra (l.set a (0,0)) a a 15) (λs=>15-s.1) (0,l.set a (0,0),a,a)
  ⟨eY _,by simp[t],by grind,by grind,λj dU=>?_,rfl⟩ (dX (dH gO ⟨Z,by show U (d4.row ((l.map gf).set a (gf (0,0))) 2 L)=_;rw[GP],dM⟩ dV)) ?_
 .unfold at';rw[ly];split
  .first|exact yH|(split<;>exact yH)
  .exact q.rU j dU
 rintro⟨n,c,h,i⟩ ⟨c0,o,c9,cK,gJ,e⟩;simp only at c0 o c9 cK gJ e⊢
 have E:(c.map gf).length=c.length:=ec ..
 conv=>whnf
 refine dT (λy=>?_) λy=>?_
 .rw[show 15-n=(15-(n+1))+1 by omega,ra]at e
  have f:(i+1)%16<16:=R
  have dU:(i+1)%16<c.length:=R
  generalize F:(i+1)%16=b at e dU f
  have z:((i:J)+1)%16=(b:J):=R
  rw[mo dU]at e;refine df (d:=.int .i64 (b:J)) (by rw[<-z];exact QC (i:J) R R) (c7 ?_);refine ea R (cO ?_);refine d2 (x:=gf c[b]) (by simp[dU]) (c7 ?_);refine df (Dc c[b]) (cO ?_)
  refine hV (λm=>?_) λm=>?_
  .rw[if_pos m]at e;rw[<-e];refine dF ?_;exact dg Z Z
  rw[cS (by simp[m])]at e
  have G:1<=c[b].1:=by
   rcases gJ b f with c5|c5
   .rw[mo dU,m]at c5;cases c5
   .rw[mo dU]at c5;exact(yG.1 c5).1
  have A:((fR c[b].1:V):J)=c[b].1%16:=by simp[fR];omega
  have r:fR c[b].1<16:=by simp[fR];omega
  refine dF ?_;refine ea R (cO ?_);refine d2 (x:=gf c[b]) (by simp[dU]) (c7 ?_);refine df (d:=.int .i64 ((fR c[b].1:V):J)) (by rw[A];exact yD c[b].1 R) (c7 ?_);refine df (d:=.int .i64 ((kx (fR c[b].1) h:V):J)) (by rw[<-aan r c9];exact aam _ _ R R R R) (c7 ?_);refine df (d:=.int .i64 ((kx (fR c[b].1) b:V):J)) (by rw[<-aan r f];exact aam _ _ R R R R) (cO ?_)
  refine dT (λdu=>?_) λdu=>?_
  .rw[if_pos R]at e;refine dF ?_;refine ea R (cO ?_);refine d2 (x:=gf c[b]) (by simp[dU]) (c7 ?_);refine ea R (cO ?_);refine d2 (x:=gf (at' c h)) (by simp[at',show h<c.length by omega]) (c7 ?_);refine ea (by rw[iu];omega) (cO ?_);refine d2 (x:=gf (at' (c.set h c[b]) b)) ?_ ?_
   .show((c.map gf).set h (gf c[b]))[b]?=_;rw[GP,ir,at',fq eM];rfl
   conv=>whnf
   refine dF ?_
   refine⟨(n+1,(c.set h c[b]).set b (0,0),b,b),⟨by simp only[];omega,by simpa using o,f,f,λj B=>?_,e⟩,by simp only[];omega,dX (dH gO ⟨Z,by show U (d4.row (((c.map gf).set h (gf c[b])).set b (gf (0,0))) 2 L)=_;rw[GP,GP],dM⟩ dV)⟩
   unfold at';simp only[];rw[ly];split
   .first|exact yH|(split<;>exact yH)
   .rw[ly];have dY:=gJ b f;rw[mo dU]at dY;split
    .first|exact dY|(split;exact dY;exact yH)
    .exact gJ j B
  .rw[cS R]at e;refine dF ?_;exact⟨(n+1,c,h,b),⟨by omega,o,c9,f,gJ,e⟩,by omega,dX (dH gO lO dV)⟩
 .have:n=15:=R
  subst this;replace e:c=ra (l.set a (0,0)) a a 15:=e;rw[<-e];refine dF ?_;exact dg Z Z
end Tb
open Go.Proofs Go.RowKit
def aoO(x):d0 cQ 322 [.int .i64 x] (.bool L):=by refine d5 Tryz.func322 1 Z cV (cO ?_);exact dg Z dw
def aao(x y):d0 cQ 301 [.int .i64 x,.int .i64 y] (.bool (decide (x<y))):=by refine d5 Tryz.func301 2 Z cV (cO ?_);refine df (aoO x) (c7 ?_);rfl
def Dd{l:I J}{i:V}{x}(h:l[i]?=U x):(l.map h1)[i]?=U (h1 x):=eM
def aoP(l)(E:l.length<=12):fI cQ 312 [.own 1000000,.d (.int .i64 0),.d l.length] [(1000000,.row (l.map h1) 1 L)] [(1000000,.row ((Ins.mq l).map h1) 1 L)] (.dS []):=by
 refine hl Tryz.func312 3 Z cV f0 (c7 ?_)
 have cW:Ins.mq (l.take 1)++l.drop 1=l:=by
  match l with
  | []=>simp[Ins.mq]|x::r=>simp[Ins.mq]
 refine eW (D:=V) (λk=>[(0,.own 1000000),(1,.d (.int .i64 0)),(2,.d l.length),(6,.d k)]) (λk=>[(1000000,.row ((Ins.mq (l.take k)++l.drop k).map h1) 1 L)])
  (λk=>1<=k/\ (k<=l.length\/k=1)) (λk=>l.length-k) 1 ⟨fi _,.inr Z⟩ (dX (dH ff ⟨by rw[cW];rfl,dM⟩ ⟨by rw[cW],Z,Z,Z⟩)) ?_
 rintro k ⟨k1,eK⟩
 conv=>whnf
 refine dT (λh=>?_) λh=>?_
 .have u:k<l.length:=R
  have w:(Ins.mq (l.take k)).length=k:=by rw[Ins.mq,aap,o5];omega
  have⟨S,b⟩:∃S,Ins.mq (l.take k)=S:=⟨_,Z⟩;have⟨x,v⟩:∃x,l[k]?=U x:=⟨l[k],by simp⟩
  have n:l.drop k=x::l.drop (k+1):=by rw[qT u];congr 1;simpa[u]using v
  rw[b]at w;have s:=b▸Ins.aoG _
  have i:S.Perm (l.take k):=b▸aoJ ..
  have B:l.take k++[x]=l.take (k+1):=by rw[J3,v];rfl
  have f:∀j,(∀y∈S.take j,y<=x)->(∀y∈S.drop j,x<=y)->Ins.lF S x j++l.drop (k+1)=Ins.mq (l.take (k+1))++l.drop (k+1):=λj Q g=>by
   rw[Ins.aoI (Ins.aoM s Q g) ((Ins.aoL S x j).trans (B▸i.append_right [x]))]
  have M:Ins.mq (l.take k)++l.drop k=Ins.lF S x k++l.drop (k+1):=by rw[b,n];unfold Ins.lF;rw[vm (show S.length<=k by omega),CY (show S.length<=k by omega)];simp
  refine eW (D:=V) (λj=>[(0,.own 1000000),(1,.d (.int .i64 0)),(2,.d l.length),(6,.d k),(7,.d j)]) (λj=>[(1000000,.row ((Ins.lF S x j++l.drop (k+1)).map h1) 1 L)])
   (λj=>j<=k/\ ∀y∈S.drop j,x<=y) (λj=>j) k ⟨fi _,λy a=>by grind⟩ (dX (dH gO ⟨by rw[<-M];rfl,dM⟩ ⟨by rw[<-M],Z,Z,Z⟩)) ?_
  rintro j ⟨F,d⟩
  conv=>whnf
  refine dT (λz=>?_) λz=>?_
  .obtain⟨m,rfl⟩:∃m,j=m+1:=⟨j-1,by omega⟩
   have c:m<S.length:=R
   have⟨q,t,G⟩:=Ins.aoN (cU:=l.drop (k+1)) (x:=x) c
   have A:((Ins.lF S x (m+1)++l.drop (k+1)).map h1).length=l.length:=by rw[ec,kv,Ins.aoK _ _ R,List.length_drop];omega
   have p:((m+1:V):J)-1=(m:V):=R
   refine ea R (cO ?_);refine d2 (Dd t) (c7 ?_);rw[p];refine ea R (cO ?_);refine d2 (Dd q) (c7 ?_);refine df (aao x S[m]) (c7 ?_)
   refine iG (λg=>?_) λg=>?_
   .rw[p];refine ea R (cO ?_);refine d2 (Dd q) (c7 ?_);refine ea R (cO ?_);refine d2 (Dd t) (c7 ?_);refine ea R (cO ?_);refine d2 (Dd t) (c7 ?_)
    have s1:((Ins.lF S x (m+1)++l.drop (k+1)).map h1).set (m+1) (iC (h1 x) 0 (h1 S[m]))=((Ins.lF S x (m+1)++l.drop (k+1)).set (m+1) S[m]).map h1:=by rw[rQ];rfl
    have o:((Ins.lF S x (m+1)++l.drop (k+1)).set (m+1) S[m])[m]?=U S[m]:=by rwa[List.getElem?_set_ne R]
    have s2:(((Ins.lF S x (m+1)++l.drop (k+1)).map h1).set (m+1) (iC (h1 x) 0 (h1 S[m]))).set m (iC (h1 S[m]) 0 (h1 x))=(Ins.lF S x m++l.drop (k+1)).map h1:=by rw[s1,<-G];exact(rQ ..).symm
    try rw[p]
    refine ea (by rw[iu];omega) (cO ?_);refine d2 (x:=h1 S[m]) (by show(List.set _ _ (iC (h1 x) 0 (h1 S[m])))[_]?=_;rw[s1];exact Dd o) (c7 ?_)
    try rw[p]
    refine⟨m,⟨by omega,λy a=>?_⟩,by omega,dX (dH gO ⟨by rw[<-s2];rfl,dM⟩ ⟨by rw[<-s2];rfl,Z,Z,Z⟩)⟩;rw[qT c]at a;rcases nG.1 a with rfl|a
    .omega
    .exact d y a
   .refine dF ?_
    have Q:∀y∈S.take (m+1),y<=x:=λy a=>by
     rw[J3]at a;simp only[c,fq,Option.toList_some,iY,p6]at a
     have C:y<=S[m]:=by
      rcases a with a|rfl
      .have:=KL.1 (by rw[JB];exact s:Ins.AB (S.take m++S.drop m));exact this.2.2 y a S[m] (by rw[qT c];exact .head _)
      .exact kX _
     omega
    exact⟨k+1,⟨by omega,.inl R⟩,by omega,dX (dH ff ⟨by rw[<-f _ Q d];rfl,dM⟩ ⟨by rw[<-f _ Q d],Z,Z,Z⟩)⟩
  .refine dF ?_
   have Q:∀y∈S.take j,y<=x:=λy a=>by
    simp_all
   exact⟨k+1,⟨by omega,.inl R⟩,by omega,dX (dH ff ⟨by rw[<-f _ Q d];rfl,dM⟩ ⟨by rw[<-f _ Q d],Z,Z,Z⟩)⟩
 .have:k=l.length\/(k=1/\l.length<=1):=R
  have e:Ins.mq (l.take k)++l.drop k=Ins.mq l:=by rw[vm R,CY R,qW]
  rw[e];exact ge Z Z Z ez
def mq(l:I J):I J:=l.mergeSort λx y=>gy (x<=y)
def aoQ{n}(cW:0<=n)(Q:n<=9223372036854775807):Gq.wrap n=n:=by show n%18446744073709551616=n;omega
def aoR{n}(cW:0<=n)(Q:n<=255):CR.wrap n=n:=by show n%256=n;omega
def PL(n:V)(h:n<=12):∃k,d0 cQ 242 [.int .u64 n] (.int .i64 k):=by refine⟨if n=0 then 0 else if n=1 then 1 else if n<=3 then 2 else if n<=7 then 3 else 4,?_⟩;apply d5 alB 1 Z cV;refine dk ?_;refine md (aoR R R) (c7 ?_);refine ea (Nat.lt_of_le_of_lt h EB) (c7 ?_);refine zF (c7 ?_);refine zF (c7 ?_);apply dg Z;have:n=0\/n=1\/n=2\/n=3\/n=4\/n=5\/n=6\/n=7\/n=8\/n=9\/n=10\/n=11\/n=12:=R;rcases this with rfl|rfl|rfl|rfl|rfl|rfl|rfl|rfl|rfl|rfl|rfl|rfl|rfl<;>(change _=_;kernel_rfl)
def aoS(n:V)(h:n<=12):∃k:J,d0 cQ 298 [.int .u64 n] k:=by have⟨k,a⟩:=PL n h;refine⟨k,d5 Tryz.func298 1 Z cV (c7 ?_)⟩;refine eH ?_;rfl
def aoT(l)(k:J)(m:l.length<=12):fI cQ 297 [.own 1000000,.d (.int .i64 0),.d l.length,.d k] [(1000000,.row (l.map h1) 1 L)] [(1000000,.row ((mq l).map h1) 1 L)] (.dS []):=by
 refine hl Tryz.func297 4 Z cV f0 (c7 ?_);refine eW (D:=Unit) (λ_=>[(0,.own 1000000),(1,.d (.int .i64 0)),(2,.d l.length),(3,.d k),(8,.eN),(9,.eN)]) (λ_=>[(1000000,.row (l.map h1) 1 L)])
  (λ_=>True) (λ_=>0) () dM (dX (dH mc ez dV)) ?_
 intro _ _
 conv=>whnf
 refine dk ?_;refine JQ (aoP l m) [(1000000,1000000)] Z ez Z (c7 ?_);exact ge Z Z Z ez
def aoU(l)(m:l.length<=12):fI cQ 258 [.own 1000000] [(1000000,.row (l.map h1) 1 L)] [(1000000,.row ((mq l).map h1) 1 L)] (.dS []):=by
 have a:(l.map h1).length=l.length:=ec ..
 have⟨k,b⟩:=aoS l.length m;refine hl Tryz.func258 1 Z cV f0 (c7 ?_);refine md (by rw[a];exact aoQ R R) (c7 ?_);refine df (by rwa[a]) (c7 ?_);have H:=aoT l k m;rw[<-a]at H;refine JQ H [(1000000,1000000)] Z ez Z (c7 ?_);exact ge Z Z Z ez
namespace Tb
open Go.Proofs Go.RowKit
def ih(l:j6)(p:J):J×di:=if hm l=L\/ (kY l p).2=L then(0,L) else((at' l (kY l p).1.toNat).2,N)
def QF(l p)(dv:l.length<=1000000):d0 cQ 194 [w8 l,.int .i64 p] (.dS [.int .i64 (ih l p).1,.bool (ih l p).2]):=by
 refine d5 Tryz.func194 2 Z cV (c7 ?_);refine df (t4 l dv) (cO ?_)
 refine kl (λQ=>?_) λQ=>?_
 .simp at Q;exact dg Z (by simp[ih,Q];rfl)
 simp at Q;refine dF ?_;refine df (s0 l p dv) (cO ?_)
 refine kl (λb=>?_) λb=>?_
 .simp at b;exact dg Z (by simp[ih,b];rfl)
 simp at b;have⟨a,dt,c,d⟩:=GQ b;rw[dt];refine dF ?_;refine ea eM (cO ?_);refine d2 (x:=gf l[a]) (by simp[c]) (c7 ?_);exact dg Z (by simp[ih,Q,b,dt,mo c];rfl)
def uC(x:J×J):dB J:=if fU x=N then cL else U x.1
def AC(l:j6):I J:=if hm l=L then [] else mq (l.filterMap uC)
def aoV(l)(dv:l.length<=1000000)(b:(l.filterMap uC).length<=12):d0 cQ 195 [w8 l] (Gi (AC l)):=by
 refine d5 Tryz.func195 1 Z cV (c7 ?_);refine df (t4 l dv) (cO ?_)
 refine kl (λQ=>?_) λQ=>?_
 .simp at Q;exact dg Z (by simp[AC,Q];rfl)
 simp at Q;have c:=(t6.1 Q).len
 have d6:(l.map gf).length=l.length:=ec ..
 refine dF ?_;refine eW (D:=V) (λk=>[(3,.own 23),(10,.d (hk l)),(11,.d (l.map gf).length),(12,.d k)]) (λk=>[(23,.row (((l.take k).filterMap uC).map h1) 1 L)])
  (λk=>k<=l.length) (λk=>l.length-k) 0 (eY _) (nd (.row 3 23 1) g_ (dH ff ez dV)) ?_
 intro k c_
 conv=>whnf
 refine dT (λh=>?_) λh=>?_
 .have eR:k<l.length:=R
  refine ea R (cO ?_);refine d2 (x:=gf l[k]) iJ (c7 ?_);refine df (Dc l[k]) (cO ?_)
  refine yr (λc5=>?_) λc5=>?_
  .simp at c5;have MJ:=aaq uC (l.take k);refine fO 100 100 T9 cZ cZ cZ (c7 ?_);exact⟨k+1,R,R,dX (dH ff ⟨TF,dM⟩ dV)⟩
  .simp at c5;exact⟨k+1,R,R,dX (dH ff ⟨TF,dM⟩ dV)⟩
 have MJ:=aaq uC (l.take k);have a:k=l.length:=R;refine JQ (aoU ((l.take k).filterMap uC) hN) [(1000000,23)] Z ez Z (c7 ?_);apply dg Z;rw[a,rW,ak6];simp[AC,Q,Gi]
def AD{l i j x}(cK:i<l.length):at' (l.set i x) j=if j=i then x else at' l j:=by unfold at';grind
def AE{p}(h:0<=p):fR p<16:=afN
def De{x}(h:s4 x)(ee:fU x=L):1<=x.1:=by
 rcases h with h|h
 .simp_all
 .exact(yG.1 h).1
def aar{p f}(h:s3 p f=N):fU (p,f)=L:=by have:=yG.1 h;simp[fU];omega
def pos(z j:V):V:=(j+15-z)%16
def AF(l:j6)(z:V):Prop:=z<16/\ ∀i,i<16->fU (at' l i)=L->pos z (fR (at' l i).1) <=pos z i
def rb(l:j6):Prop:=∃z,AF l z
def KP(l:j6):Prop:=∀i j,i<16->j<16->fU (at' l i)=L->fU (at' l j)=L->(at' l i).1=(at' l j).1->i=j
def iP.distinct{l}(h:iP l):KP l:=by
 intro i j cK dU a b e;rcases Nat.lt_trichotomy i j with Q|Q|Q
 .rcases h.places j dU with c5|⟨c5,_⟩
  .simp_all
  simp_all
 .exact Q
 .rcases h.places i cK with c5|⟨c5,_⟩
  .simp_all
  grind
def iP.path{l}(h:iP l){i}(cK:i<16)(a:fU (at' l i)=L){d}(cP:d<kx (fR (at' l i).1) i):fU (at' l ((fR (at' l i).1+d)%16))=L:=by
 rcases h.places i cK with c5|⟨_,c5⟩
 .simp_all
 simp_all
def iP.mk'{l}(dv:l.length=16)(c':∀i,i<16->s4 (at' l i))(cP:KP l)(O:∀i,i<16->fU (at' l i)=L->∀d,d<kx (fR (at' l i).1) i->fU (at' l ((fR (at' l i).1+d)%16))=L):iP l:=by
 refine⟨dv,c',λi cK=>?_⟩
 cases a:fU (at' l i) with
 |true=>exact .inl a
 |false=>
  refine .inr ⟨λj dU e=>?_,O i cK a⟩
  have b:fU (at' l j)=L:=by
   cases b:fU (at' l j) with
   |false=>rfl
   |true=>have Q:=De (c' i cK) a;have c5:=aoE.1 b;omega
  have:=cP j i R cK b a e;omega
def aat{z h i k}(a:z<16)(c9:h<16)(cK:i<16)(c_:k<16)(b:pos z h<=pos z i):(∃d,d<kx h i/\ (h+d)%16=k)↔pos z h<=pos z k/\pos z k<pos z i:=by
 simp[pos,kx]at*
 constructor
 .omega
 .intro Q;exact⟨(k+16-h)%16,R,R⟩
def Df{z j}:pos z j<16:=lp _ cZ
def aau{z i j}(b:z<16)(cK:i<16)(a:j<16)(h:pos z i=pos z j):i=j:=by simp[pos]at h;omega
def QG{l}(h:iP l){z}(b:z<16)(f:fU (at' l z)=N):AF l z:=by
 refine⟨b,λi cK a=>?_⟩;have c9:=AE (p:=(at' l i).1) (by have:=De (h.rU i cK) a;omega)
 by_cases c:pos z (fR (at' l i).1) <=pos z i
 .exact c
 .exfalso
  have g:i≠z:=λe=>by simp_all
  have:=h.path cK a (d:=(z+16-fR (at' l i).1)%16) (by simp[pos,kx]at*;omega);grind
def iP.aav{l z}(dv:l.length=16)(c':∀i,i<16->s4 (at' l i))(cP:KP l)(dj:AF l z)(O:∀i k,i<16->k<16->fU (at' l i)=L->pos z (fR (at' l i).1) <=pos z k->pos z k<pos z i->fU (at' l k)=L):iP l:=by refine .mk' dv c' cP λi cK a d b=>?_;have c9:=AE (p:=(at' l i).1) (by have:=De (c' i cK) a;omega);have⟨Q,c5⟩:=(aat dj.1 c9 cK (lp _ cZ) (dj.2 i cK a)).1 ⟨d,b,Z⟩;grind
def iP.aaw{l z i k}(h:iP l)(dj:AF l z)(cK:i<16)(c_:k<16)(a:fU (at' l i)=L)(Q:pos z (fR (at' l i).1) <=pos z k)(c5:pos z k<pos z i):fU (at' l k)=L:=by have c9:=AE (p:=(at' l i).1) (by have:=De (h.rU i cK) a;omega);have⟨d,b,c⟩:=(aat dj.1 c9 cK c_ (dj.2 i cK a)).2 ⟨Q,c5⟩;have:=h.path cK a b;simp_all
def QH{l h}:∀ {n d i},rV l h d n=U i->∃e,e<n/\i=(h+(d+e))%16/\fU (at' l i)=N/\ ∀a,a<e->fU (at' l ((h+(d+a))%16))=L
 |0,d,i,ee=>by cases ee
 |n+1,d,i,ee=>by
  simp[rV]at ee
  by_cases e:fU (at' l ((h+d)%16))=N
  .rw[if_pos e]at ee
   cases ee
   exact⟨0,by omega,Z,e,λa h=>by omega⟩
  .rw[cS e]at ee;have⟨b,Q,c5,c,f⟩:=QH ee;refine⟨b+1,by omega,by omega,c,λa du=>?_⟩
   cases a with|zero=>grind|succ a=>grind
def aax{l h}:∀ {n d},rV l h d n=cL->∀e,e<n->fU (at' l ((h+(d+e))%16))=L
 |0,d,_,e,he=>by omega
 |n+1,d,ee,e,he=>by
  simp[rV]at ee
  by_cases a:fU (at' l ((h+d)%16))=N
  .simp_all
  .rw[cS a]at ee
   cases e with|zero=>simp_all|succ e=>rw[show h+(d+(e+1))=h+(d+1+e) by omega];exact aax ee e R
def aoW{l p f i}(h:iP l)(ee:s3 p f=N)(c0:∀j,j<16->fU (at' l j)=L->(at' l j).1≠p)(cK:rV l (fR p) 0 16=U i):
  i<16/\fU (at' l i)=N/\iP (l.set i (p,f)) /\rb (l.set i (p,f)):=by
 have⟨e,Q,c5,r,v⟩:=QH cK;have O:=yG.1 ee;have c9:=AE (p:=p) R
 have m:i<16:=R
 have x:i<l.length:=by rwa[h.len]
 have dj:=QG h m r;have z:=aar ee;have d:∀j,at' (l.set i (p,f)) j=if j=i then(p,f) else at' l j:=λj=>AD x
 have s:AF (l.set i (p,f)) i:=by
  refine⟨m,λj dU g=>?_⟩;rw[d]at g⊢
  by_cases c:j=i
  .subst c;rw[if_pos Z];simp[pos];omega
  .rw[cS c]at g⊢;exact dj.2 j dU g
 refine⟨m,r,.aav (by rw[iu];exact h.len) (λj dU=>?_) ?_ s ?_,i,s⟩
 .rw[d]
  by_cases c:j=i
  .rw[if_pos c];exact .inr ee
  .rw[cS c];exact h.rU j dU
 .intro a b dt hb n o c;rw[d]at n o;rw[d,d]at c
  by_cases t:a=i
  .grind
  .by_cases u:b=i
   .simp_all
   .rw[cS t]at n;rw[cS u]at o;rw[cS t,cS u]at c;exact h.distinct a b dt hb n o c
 .intro j k dU c_ g du dY;rw[d]at g du;rw[d]
  by_cases y:k=i
  .simp_all
  .rw[cS y]
   by_cases q:j=i
   .rw[if_pos q]at du;subst q;have:=v ((k+16-fR p)%16) (by simp[pos]at*;omega);grind
   .rw[cS q]at g du;exact h.aaw dj dU c_ g du dY
def ii(l:j6):V:=l.countP λx=>!fU x
def KQ{l i x}(h:i<l.length):ii (l.set i x)+(if fU (at' l i)=N then 0 else 1)=ii l+(if fU x=N then 0 else 1):=by
 have a:(if(!fU l[i])=N then 1 else 0) <=ii l:=by
  cases ee:fU l[i]with
  |true=>simp|false=>have:0<ii l:=CK.2 ⟨l[i],hF h,by simp[ee]⟩;simp;omega
 unfold ii at*
 rw[Z6 h,mo h];grind
def aay(e_ l:j6):Prop:=∀x,fU x=L->((∃j,j<16/\at' l j=x)↔∃j,j<16/\at' e_ j=x)
structure QI(z:V)(e_ l:j6)(h_ i:V):Prop where
 len:l.length=16
 rU:∀j,j<16->s4 (at' l j)
 Dg:h_<16
 i16:i<16
 free:fU (at' l h_)=N
 GR:KP l
 cut:AF l z
 ph:pos z h_<=pos z i
 paths:∀j k,j<16->k<16->fU (at' l j)=L->pos z (fR (at' l j).1) <=pos z k->pos z k<pos z j->fU (at' l k)=N->k=h_/\pos z i<pos z j
 same:aay e_ l
 cnt:ii l=ii e_
structure QJ(e_ l:j6):Prop where
 rt:iP l
 free:∃j,j<16/\fU (at' l j)=N
 same:aay e_ l
 cnt:ii l=ii e_
def QI.done{z e_ l h_ i}(h:QI z e_ l h_ i)(O:∀j k,j<16->k<16->fU (at' l j)=L->pos z (fR (at' l j).1) <=pos z k->pos z k<pos z j->fU (at' l k)=L):QJ e_ l:=
 ⟨.aav h.len h.rU h.GR h.cut O,⟨h_,h.Dg,h.free⟩,h.same,h.cnt⟩
def aaz{l}(h:iP l){h_}(b:h_<16)(ee:fU (at' l h_)=N):∀n i,ra l h_ i n=l
 |0,i=>rfl
 |n+1,i=>by
  rw[ra]
  by_cases f:fU (at' l ((i+1)%16))=N
  .grind
  .have a:fU (at' l ((i+1)%16))=L:=by simpa using f
   have cK:(i+1)%16<16:=lp _ cZ;have c9:=AE (p:=(at' l ((i+1)%16)).1) (by have:=De (h.rU _ cK) a;omega);rw[cS f,cS,aaz h b ee n];intro hw;have:=h.path cK a hw;rw[show(fR (at' l ((i+1)%16)).1+kx (fR (at' l ((i+1)%16)).1) h_)%16=h_ by simp[kx];omega,ee]at this
   cases this
def aoX{z e_}:∀(n) {l h_ i},QI z e_ l h_ i->15<=pos z i+n->QJ e_ (ra l h_ i n):=by
 intro n
 induction n with
 |zero=>
  intro l h_ i h c0
  have M:pos z i=15:=by have:=Df (z:=z) (j:=i);omega
  exact h.done λj k dU c_ d Q c5=>by
   cases g:fU (at' l k) with
   |false=>rfl
   |true=>have:=(h.paths j k dU c_ d Q c5 g).2;have:=Df (z:=z) (j:=j);omega
 |succ n H=>
  intro l h_ i h c0;have C:=h.cut.1;have cK:=h.i16
  by_cases M:pos z i=15
  .have cP:=h.done λj k dU c_ d Q c5=>by
    cases g:fU (at' l k) with
    |false=>rfl
    |true=>have:=(h.paths j k dU c_ d Q c5 g).2;have:=Df (z:=z) (j:=j);omega
   rwa[aaz cP.rt h.Dg h.free]
  .rw[ra];have m:(i+1)%16<16:=lp _ cZ
   have O:pos z ((i+1)%16)=pos z i+1:=by simp[pos]at*;omega
   generalize (i+1)%16=c at m O
   have P:h_≠c:=λe=>by have:=h.ph;grind
   by_cases f:fU (at' l c)=N
   .rw[if_pos f];refine h.done λj k dU c_ d Q c5=>?_
    cases g:fU (at' l k) with
    |false=>rfl
    |true=>
     have⟨D,o⟩:=h.paths j k dU c_ d Q c5 g;exfalso;subst D
     have E:j≠c:=λe=>by simp_all
     have S:pos z j≠pos z c:=λe=>E (aau C dU m e);have:=(h.paths j c dU m d (by have:=h.ph;omega) R f).1;omega
   .have t:fU (at' l c)=L:=by simpa using f
    have W:=De (h.rU c m) t;have c9:=AE (p:=(at' l c).1) R;have X:=h.cut.2 c m t
    have I:kx (fR (at' l c).1) h_<kx (fR (at' l c).1) c↔pos z (fR (at' l c).1)<=pos z h_:=by
     have Q:=h.ph;have c5:=h.Dg
     simp[pos,kx]at*
     omega
    rw[cS f]
    by_cases hw:kx (fR (at' l c).1) h_<kx (fR (at' l c).1) c
    .rw[if_pos hw];have T:=I.1 hw
     have F:h_<l.length:=by rw[h.len];exact h.Dg
     have J:c<(l.set h_ (at' l c)).length:=by rwa[iu,h.len]
     have q:∀j,at' ((l.set h_ (at' l c)).set c (0,0)) j=if j=c then(0,0) else if j=h_ then at' l c else at' l j:=λj=>by
      rw[AD J]
      by_cases e:j=c
      .simp_all
      .rw[cS e,cS e,AD F]
     refine H ⟨by simp[h.len],λj dU=>?_,m,m,by rw[q,if_pos Z];rfl,?_,⟨C,λj dU d=>?_⟩,fi _,?_,?_,?_⟩ R
     .rw[q]
      by_cases e:j=c
      .rw[if_pos e];exact yH
      .rw[cS e]
       by_cases o:j=h_
       .rw[if_pos o];exact h.rU c m
       .rw[cS o];exact h.rU j dU
     .intro a b dt hb r s e;rw[q]at r s;rw[q,q]at e
      by_cases A:a=c
      .rw[if_pos A]at r;cases r
      .by_cases B:b=c
       .rw[if_pos B]at s;cases s
       .rw[cS A]at r;rw[cS B]at s;rw[cS A,cS B]at e
        by_cases y:a=h_
        .by_cases u:b=h_
         .omega
         .rw[if_pos y,cS u]at e;rw[cS u]at s;exact dN (h.GR c b m hb t s e).symm B
        .by_cases u:b=h_
         .rw[cS y,if_pos u]at e;rw[cS y]at r;exact dN (h.GR a c dt m r t e) A
         .rw[cS y]at r;rw[cS u]at s;rw[cS y,cS u]at e;exact h.GR a b dt hb r s e
     .rw[q]at d⊢
      by_cases e:j=c
      .rw[if_pos e]at d;cases d
      .rw[cS e]at d⊢
       by_cases o:j=h_
       .simp_all
       .rw[cS o]at d⊢;exact h.cut.2 j dU d
     .intro j k dU c_ d Q c5 g;rw[q]at d Q g
      by_cases e:j=c
      .rw[if_pos e]at d;cases d
      .rw[cS e]at d Q
       by_cases V:k=c
       .simp_all
       .rw[cS V]at g
        by_cases K:k=h_
        .simp_all
        .rw[cS K]at g;exfalso
         by_cases o:j=h_
         .rw[if_pos o]at Q;have:=(h.paths c k m c_ t Q (by have:=h.ph;grind) g).1;omega
         .rw[cS o]at d Q;exact K (h.paths j k dU c_ d Q c5 g).1
     .intro x v;rw[<-h.same x v];constructor
      .rintro⟨j,dU,rfl⟩;rw[q]at v⊢
       by_cases e:j=c
       .rw[if_pos e]at v;cases v
       grind
      .rintro⟨j,dU,rfl⟩
       by_cases e:j=c
       .exact⟨h_,h.Dg,by simp_all⟩
       .have o:j≠h_:=λo=>by rw[o,h.free]at v;cases v
        grind
     .have hi:=KQ (x:=at' l c) F;have G:=KQ (x:=(0,0)) J;rw[AD F,cS P.symm]at G;rw[h.free,t]at hi;rw[t,show fU (0,0)=N from Z]at G;simp at hi G;have:=h.cnt;omega
    .rw[cS hw];have T:=λe=>hw (I.2 e);refine H ⟨h.len,h.rU,h.Dg,m,h.free,h.GR,h.cut,by omega,λj k dU c_ d Q c5 g=>have⟨D,o⟩:=h.paths j k dU c_ d Q c5 g;⟨D,?_⟩,h.same,h.cnt⟩ R
     have E:j≠c:=λe=>by grind
     have S:pos z j≠pos z c:=λe=>E (aau C dU m e);omega
def aoY{l a z}(h:iP l)(dj:AF l z)(dt:a<16)(o:fU (at' l a)=L):QJ (l.set a (0,0)) (ra (l.set a (0,0)) a a 15):=by
 have mS:a<l.length:=by rwa[h.len]
 have c:∀j,at' (l.set a (0,0)) j=if j=a then(0,0) else at' l j:=λj=>AD mS;refine aoX (z:=z) 15 ⟨by simp[h.len],λj dU=>?_,dt,dt,by rw[c,if_pos Z];rfl,?_,⟨dj.1,λj dU b=>?_⟩,fi _,?_,λx p=>Iff.rfl,Z⟩ R
 .rw[c]
  by_cases e:j=a
  .rw[if_pos e];exact yH
  .rw[cS e];exact h.rU j dU
 .intro i j cK dU d b e;rw[c]at d b;rw[c,c]at e
  by_cases f:i=a
  .rw[if_pos f]at d;cases d
  .by_cases g:j=a
   .rw[if_pos g]at b;cases b
   .rw[cS f]at d;rw[cS g]at b;rw[cS f,cS g]at e;exact h.distinct i j cK dU d b e
 .rw[c]at b⊢
  by_cases e:j=a
  .rw[if_pos e]at b;cases b
  .rw[cS e]at b⊢;exact dj.2 j dU b
 .intro j k dU c_ b Q c5 m;rw[c]at b Q m
  by_cases e:j=a
  .rw[if_pos e]at b;cases b
  .rw[cS e]at b Q
   by_cases n:k=a
   .simp_all
   .rw[cS n]at m;have:=h.aaw dj dU c_ b Q c5;simp_all
def q'{l n}:∀ {k},0<=gI l n k↔∃j,j<l.length/\ (at' l j).1=n:=by
 have a:∀ {k:V},0<=gI l n k↔∃x∈l,x.1=n:=by
  induction l with
  |nil=>intro k;exact⟨λh=>dN h (show ¬(0<= (-1:J)) by decide),λ⟨x,h,_⟩=>by cases h⟩|cons p r c=>intro k;simp[gI];grind
 intro k;rw[a];constructor
 .rintro⟨x,b,e⟩;obtain⟨j,dU,rfl⟩:=kr.1 b;exact⟨j,dU,by rwa[mo dU]⟩
 .rintro⟨j,dU,e⟩;exact⟨l[j],hF dU,by rwa[<-mo dU]⟩
def aoZ{l p}(O:1<=p):(kY l p).2=N↔∃j,j<l.length/\ (at' l j).1=p:=by rw[<-q' (k:=0)];unfold kY;grind
def ao0{l p}(h:∀j,j<l.length->(at' l j).1≠p):(kY l p).2=L:=by
 cases e:(kY l p).2 with|false=>rfl|true=>have⟨i,_,cK,a⟩:=GQ e;exact dN (by rwa[mo cK]) (h i cK)
def vx{x}(h:1<=x.1):fU x=L:=by simp[fU];omega
def aaA{l}(h:iP l){p j}(O:1<=p)(dU:j<16)(e:(at' l j).1=p):(kY l p).2=N/\ (kY l p).1=j:=by
 have c5:=(aoZ O).2 ⟨j,by rwa[h.len],e⟩;have⟨i,c,cK,a⟩:=GQ c5
 have b:i<16:=by rwa[h.len]at cK
 rw[<-mo cK]at a;have:=h.distinct i j b dU (vx R) (vx R) (by rw[a,e]);simp_all
def ao1{l}(h:iP l){p f j}(O:1<=p)(dU:j<16)(e:at' l j=(p,f)):ih l p=(f,N):=by have⟨Q,c5⟩:=aaA h O dU Bx;simp[ih,t6.2 h,Q,c5,e]
def aaB{l}(h:l.length=16):ii l=16↔∀j,j<16->fU (at' l j)=L:=by
 rw[<-h];unfold ii;rw[List.countP_eq_length];constructor
 .intro Q j dU;have:=Q l[j] (hF dU);rw[mo dU];simp_all
 .intro Q x a;obtain⟨j,dU,rfl⟩:=kr.1 a;rw[<-mo dU,Q j dU];rfl
def ao3{l p}(dv:l.length=16)(O:0<=p):rV l (fR p) 0 16=cL↔ii l=16:=by
 rw[aaB dv];have c9:=AE O;constructor
 .intro h j dU;have:=aax h ((j+16-fR p)%16) R;grind
 .intro h
  cases e:rV l (fR p) 0 16 with|none=>rfl|some i=>have⟨d,Q,c5,a,b⟩:=QH e;grind
def ao4:iP (eQ 16 (0,0)):=by
 have a:∀j,at' (eQ 16 (0,0)) j=(0,0):=λj=>by
  unfold at';grind
 exact⟨dw,λi _=>by rw[a];exact yH,λi _=>.inl (by rw[a];rfl)⟩
def aaC{l}(h:iP l):(AC l).length=ii l:=by
 rw[AC,cS (by simp[t6.2 h]),mq,aap]
 have:∀l:j6,(l.filterMap uC).length=ii l:=by
  intro l
  induction l with
  |nil=>rfl
  |cons x r a=>
   rw[List.filterMap_cons,ii,QK]
   cases e:fU x with|true=>simp[uC,e,nz];assumption|false=>simp[uC,e];simp[a,ii]
 grind
def nR(l:j6)(x:J×J):Prop:=∃j,j<16/\at' l j=x
def ao6{l p f}(h:iP l)(ee:s3 p f=N)(c0:∀j,j<16->(at' l j).1≠p)(dj:ii l<16):
  ∃a i,i<16/\fU (at' l i)=N/\a=l.set i (p,f) /\pb l p f=(a,0) /\iP a/\rb a/\ii a=ii l+1/\ ∀x,fU x=L->(nR a x↔x=(p,f) \/nR l x):=by
 have O:=yG.1 ee;have m:=ao0 (p:=p) (λj dU=>c0 j (by rwa[h.len]at dU))
 cases b:rV l (fR p) 0 16 with
 |none=>have:=(ao3 h.len R).1 b;omega
 |some i=>
  have⟨d,g,n,o⟩:=aoW h ee (λj dU _=>c0 j dU) b
  have k:i<l.length:=by rwa[h.len]
  have q:∀j,at' (l.set i (p,f)) j=if j=i then(p,f) else at' l j:=λj=>AD k;refine⟨_,i,d,g,Z,by rw[pb,cS (by simp[t6.2 h,ee]),cS (by simp[m]),b],n,o,?_,λx s=>?_⟩
  .have c:=KQ (x:=(p,f)) k;rw[g,aar ee]at c;assumption
  .constructor
   .rintro⟨j,dU,e⟩;rw[q]at e
    by_cases r:j=i
    .simp_all
    .rw[cS r]at e;exact .inr ⟨j,dU,e⟩
   .rintro (e|⟨j,dU,e⟩)
    .exact⟨i,d,by simp_all⟩
    .refine⟨j,dU,?_⟩;grind
def ao7{l p f}(h:iP l)(dj:rb l)(O:1<=p)(d6:nR l (p,f)):
  ∃b,qh l p=(b,0) /\iP b/\rb b/\ii b+1=ii l/\ ∀x,fU x=L->(nR b x↔x.1≠p/\nR l x):=by
 have⟨a,dt,i⟩:=d6;have⟨m,n⟩:=aaA h O dt (by rw[i])
 have base:qh l p=(ra (l.set a (0,0)) a a 15,0):=by rw[qh,cS (by simp[t6.2 h]),cS (by simp[m]),n];rfl
 have⟨z,o⟩:=dj
 have d:fU (at' l a)=L:=by rw[i];exact vx O
 have cP:=aoY h o dt d
 have mS:a<l.length:=by rwa[h.len]
 have q:∀j,at' (l.set a (0,0)) j=if j=a then(0,0) else at' l j:=λj=>AD mS;have c:=KQ (x:=(0,0)) mS;rw[d,show fU (0,0)=N from Z]at c;simp at c;have⟨r,s,t⟩:=cP.free;refine⟨_,base,cP.rt,⟨r,QG cP.rt s t⟩,by have:=cP.cnt;omega,λx k=>?_⟩;unfold nR;rw[cP.same x k];constructor
 .rintro⟨j,dU,e⟩;rw[q]at e
  by_cases g:j=a
  .rw[if_pos g]at e;subst e;cases k
  .rw[cS g]at e;refine⟨λu=>g (h.distinct j a dU dt eM d hN),j,dU,e⟩
 grind
end Tb
open Go.Proofs Go.RowKit
structure hv where
 cN:I gc
 hand:J
 eg:I (J×J)
 dJ:I e'
 dK:I (J×J)
def hv.cells(f:hv):I c3:=[.dm (f.cN.map fl),f.hand,hk f.eg,.dm (f.dJ.map eC),hk f.dK]
def l4(f:hv):c3:=.agg f.cells
def hv.box(f:hv):I dp:=[.d (.dm (f.cN.map fl)),.d f.hand,.d (hk f.eg),.d (.dm (f.dJ.map eC)),.d (hk f.dK)]
def mU:e':=(0,0,.empty)
def KR(f:hv)(i:V):Prop:=∀(h:i<f.cN.length) (c5:i<f.dJ.length),(f.cN[i].1=0/\f.cN[i].2.1=0/\f.dJ[i]=mU) \/ (f.cN[i].1≠0/\f.cN[i].1=f.dJ[i].1/\gB f.dJ[i]=N/\Tb.ih f.eg f.dJ[i].1=((i:J),N))
def lj(l:I gc):V:=l.countP λx=>!decide (x.1=0)
structure rX(f:hv):Prop where
 ij:w1 f.cN f.hand
 eg:Tb.iP f.eg
 dK:Dt.hm f.dK=N
 len:f.dJ.length=f.cN.length
 place:∀i,i<f.cN.length->KR f i
 cnt:Tb.ii f.eg=lj f.cN
 t7:∀i (h:i<f.dK.length),(Tb.ih f.eg f.dK[i].1).2=N
open Classical in
def yI(f:hv):di:=gy (rX f)
def Dh{f}:yI f=N↔rX f:=by simp[yI]
def GS{f}:yI f=L↔¬rX f:=by simp[yI]
def s5{f}(h:¬rX f):c3.bool L=c3.bool (yI f):=eL c3.bool (GS.2 h).symm
def ao8{l:I gc}{k}(h:k<l.length):lj (l.take (k+1))=lj (l.take k)+(if l[k].1=0 then 0 else 1):=by unfold lj;rw[mb h,List.countP_append,QK,List.countP_nil];simp_all
def t8(l:Tb.j6):Prop:=l.length<=1000000/\Tb.ii l<=12
def KS(f)(Q:t8 f.eg)(c5:f.dK.length<=1000000):d0 cQ 141 [l4 f] (.bool (yI f)):=by
 refine d5 Tryz.func141 1 Z cV (cO ?_)
 have H:(f.cN.map fl).length=f.cN.length:=ec ..
 have I:(f.dJ.map eC).length=f.dJ.length:=ec ..
 have aa:(f.dK.map gf).length=f.dK.length:=ec ..
 refine dF ?_;refine df (Qb f.cN f.hand) (cO ?_)
 refine kl (λdI=>?_) λdI=>?_
 .exact dg Z (s5 λh=>by have:=Kt.2 h.ij;simp_all)
 simp at dI;refine dF ?_;refine df (Tb.t4 f.eg Q.1) (cO ?_)
 refine kl (λo=>?_) λo=>?_
 .exact dg Z (s5 λh=>by have:=Tb.t6.2 h.eg;simp_all)
 simp at o;refine dF ?_;refine df (Dt.t4 f.dK c5) (cO ?_)
 refine kl (λp=>?_) λp=>?_
 .exact dg Z (s5 λh=>by have:=h.dK;simp_all)
 simp at p;have hC:=Kt.1 dI;have cT:=Tb.t6.1 o;have ab:=hC.g1;refine dF ?_
 refine wT (λt=>?_) λt=>?_
 .exact dg Z (s5 λh=>t (by rw[I,H,h.len]))
 have K:f.dJ.length=f.cN.length:=R
 refine dF ?_;refine eW (D:=V) (λk=>[(1,.ptr 1 0 0),(3,.d (lj (f.cN.take k))),(39,.d (.dm (f.cN.map fl))),(40,.d (f.cN.map fl).length),(41,.d k)]) (λ_=>[(1,.box f.box L)])
  (λk=>k<=f.cN.length/\ ∀i,i<k->KR f i) (λk=>f.cN.length-k) 0 ⟨eY _,λj h=>dN h (qc _)⟩ (dX (dH gO ez dV)) ?_
 rintro k ⟨c_,u⟩;have ac:lj (f.cN.take k) <=8:=fG JD hy
 conv=>whnf
 refine dT (λh=>?_) λh=>?_
 .have eR:k<f.cN.length:=R
  have m:k<f.dJ.length:=R;have v:=ao8 eR;have y (c':KR f k):∀j,j<k+1->KR f j:=λj dU=>(yy.1 dU).elim (u j) (λe=>by simp_all);refine ea R (cO ?_);refine d2 (x:=fl f.cN[k]) iJ (c7 ?_);refine ea R (cO ?_);refine d2 (x:=eC f.dJ[k]) (by simp[m]) (c7 ?_)
  refine dT (λg=>?_) λg=>?_
  .refine dF ?_
   refine sU (λz=>?_) λz=>?_
   .exact dg Z (s5 λh=>by rcases h.place k eR eR m with⟨_,e,_⟩|⟨e,_⟩;exact z e;exact e g)
   have A:f.dJ[k]=mU↔(f.dJ[k].1=0/\f.dJ[k].2.1=0/\f.dJ[k].2.2=fB):=⟨λe=>by rw[e];exact af3,λ⟨a,b,c⟩=>Prod.ext a (Prod.ext b c)⟩
   refine nk (λr=>?_) λr=>?_
   .refine dg Z (s5 λh=>?_);rcases h.place k eR eR m with⟨_,_,e⟩|⟨e,_⟩
    .have:=A.1 e;simp[this]at r
    .exact e g
   .have M:=A.2 (by simpa using r)
    exact⟨k+1,⟨R,y λ_ _=>.inl ⟨g,R,M⟩⟩,R,dX (dH ⟨Z,by rw[v,if_pos g];rfl,Z,Z,Z,dM⟩ ez dV)⟩
  .have n (hb:¬(f.cN[k].1≠0/\f.cN[k].1=f.dJ[k].1/\gB f.dJ[k]=N/\Tb.ih f.eg f.dJ[k].1=((k:J),N))):¬rX f:=λh=>by
    rcases h.place k eR eR m with⟨e,_⟩|e
    .exact g e
    grind
   refine dF ?_
   refine sU (λB=>?_) λB=>?_
   .exact dg Z (s5 (n λe=>B e.2.1))
   refine df (GA f.dJ[k]) (cO ?_)
   refine kl (λl=>?_) λl=>?_
   .exact dg Z (s5 (n λe=>by rw[e.2.2.1]at l;cases l))
   simp at l;refine dF ?_;refine df (Tb.QF f.eg f.dJ[k].1 Q.1) (c7 ?_)
   refine kl (λs=>?_) λs=>?_
   .exact dg Z (s5 (n λe=>by rw[e.2.2.2]at s;cases s))
   refine dF ?_
   refine sU (λC=>?_) λC=>?_
   .exact dg Z (s5 (n λe=>C (by rw[e.2.2.2])))
   have O:Tb.ih f.eg f.dJ[k].1=((k:J),N):=Prod.ext R eM
   exact⟨k+1,⟨R,y λ_ _=>.inr ⟨g,R,l,O⟩⟩,R,dX (dH ⟨Z,by rw[v,cS g];rfl,Z,Z,Z,dM⟩ ez dV)⟩
 have P:k=f.cN.length:=R;subst P;rw[rW]
 have S:((Tb.AC f.eg).map h1).length=Tb.ii f.eg:=by rw[ec,Tb.aaC cT]
 refine dF ?_;refine df (Tb.aoV f.eg Q.1 (by have:=Tb.aaC cT;rw[Tb.AC,cS eM,mq,aap]at this;have:=Q.2;omega)) (c7 ?_)
 refine wT (λE=>?_) λE=>?_
 .exact dg Z (s5 λh=>E (by rw[S,h.cnt]))
 have T:Tb.ii f.eg=lj f.cN:=R
 refine dF ?_;refine eW (D:=V) (λk=>[(1,.ptr 1 0 0),(97,.d (hk f.dK)),(98,.d (f.dK.map gf).length),(99,.d k)]) (λ_=>[(1,.box f.box L)])
  (λk=>k<=f.dK.length/\ ∀i,i<k->∀h:i<f.dK.length,(Tb.ih f.eg f.dK[i].1).2=N) (λk=>f.dK.length-k) 0 ⟨eY _,λj h=>dN h (qc _)⟩ (dX (dH ff ez dV)) ?_
 rintro q ⟨ad,F⟩
 conv=>whnf
 refine dT (λW=>?_) λW=>?_
 .have G:q<f.dK.length:=R
  refine ea R (cO ?_);refine d2 (x:=gf f.dK[q]) (by simp[G]) (c7 ?_);refine df (Tb.QF f.eg f.dK[q].1 Q.1) (c7 ?_)
  refine yr (λX=>?_) λX=>?_
  .exact dg Z (s5 λh=>by have:=h.t7 q G;simp_all)
  .exact⟨q+1,⟨R,λj dU Y=>(yy.1 dU).elim (λh=>F j h Y) (λe=>by simp_all)⟩,R,dX (dH ff ez dV)⟩
 .exact dg Z (eL c3.bool (Dh.2 ⟨hC,cT,p,K,λi cK=>u i cK,T,λi cK=>F i R cK⟩).symm)
def vy(l:I gc)(k:V):J:=
 match l with
 | []=>-1
 |p::r=>if p.1=0 then(k:J) else vy r (k+1)
def pI(l:I gc):J×di:=if vy l 0<0 then(0,L) else(vy l 0,N)
def ao9{l}:∀ {k},(vy l k<0/\ ∀i (h:i<l.length),l[i].1≠0) \/ ∃i,vy l k=((k+i:V):J) /\ ∃h,l[i].1=0:=by
 induction l with
 |nil=>intro k;exact .inl ⟨show(-1:J)<0 by decide,λi h=>dN h (qc _)⟩
 |cons p r a=>
  intro k;simp[vy]
  by_cases h:p.1=0
  .exact .inr ⟨0,by simp[h],by simp,by grind⟩
  .rw[cS h];rcases a (k:=k+1) with⟨Q,cW⟩|⟨i,Q,b,c⟩
   .grind
   .exact .inr ⟨i+1,by omega,by simp_all,by simp_all⟩
def aaE(f)(c:f.cN.length<=1000000):d0 cQ 307 [l4 f] (.dS [(pI f.cN).1,.bool (pI f.cN).2]):=by
 refine d5 Tryz.func307 1 Z cV (c7 ?_)
 have m:(f.cN.map fl).length=f.cN.length:=ec ..
 refine eW (D:=V) (λk=>[(8,.d (.dm (f.cN.map fl))),(9,.d (f.cN.map fl).length),(10,.d k)]) (λ_=>[])
  (λk=>k<=f.cN.length/\vy (f.cN.drop k) k=vy f.cN 0) (λk=>f.cN.length-k) 0 ⟨eY _,Z⟩ (dX (dH eJ dM dV)) ?_
 rintro k ⟨b,cU⟩
 conv=>whnf
 refine dT (λh=>?_) λh=>?_
 .have eR:k<f.cN.length:=R
  refine ea R (cO ?_);refine d2 (x:=fl f.cN[k]) iJ (c7 ?_);rw[rN eR,vy]at cU
  refine dT (λa=>?_) λa=>?_
  .rw[if_pos a]at cU;apply dg Z
   have:pI f.cN=((k:J),N):=by rw[pI,<-cU,cS R]
   rw[this];rfl
  .rw[cS a]at cU;refine dF ?_;exact⟨k+1,⟨R,cU⟩,R,dX (dH eJ dM dV)⟩
 .have l:k=f.cN.length:=R
  subst l;simp[vy]at cU;apply dg Z
  have:pI f.cN=(0,L):=by rw[pI,<-cU,if_pos R]
  rw[this];rfl
def QL(f p)(Q:f.eg.length<=1000000):d0 cQ 142 [l4 f,.int .i64 p] (.dS [.int .i64 (Tb.ih f.eg p).1,.bool (Tb.ih f.eg p).2]):=by refine d5 Tryz.func142 2 Z cV (c7 ?_);refine df (Tb.QF f.eg p Q) (c7 ?_);rfl
open Classical in
def hO(f:hv)(p:J):J×J:=if rX f then(if(Tb.ih f.eg p).2=N then((Tb.ih f.eg p).1,0) else(0,3)) else(0,1)
def GT(f p)(Q:t8 f.eg)(a:f.dK.length<=1000000):d0 cQ 278 [l4 f,.int .i64 p] (.dS [.int .i64 (hO f p).1,.int .i64 (hO f p).2]):=by
 refine d5 Tryz.func278 2 Z cV (c7 ?_);refine df (KS f Q a) (cO ?_)
 refine yr (λdI=>?_) λdI=>?_
 .simp at dI;exact dg Z (by rw[hO,cS (GS.1 dI)];rfl)
 simp at dI;have cU:=Dh.1 dI;refine df (QL f p Q.1) (c7 ?_)
 refine yr (λg=>?_) λg=>?_
 .simp at g;exact dg Z (by rw[hO,if_pos cU,cS (by simp[g])];rfl)
 .simp at g;exact dg Z (by rw[hO,if_pos cU,if_pos g];rfl)
open Classical in
def jO(f:hv)(p:J):J×di:=if rX f then Tb.ih f.eg p else(0,L)
def t9(f p)(Q:t8 f.eg)(a:f.dK.length<=1000000):d0 cQ 107 [l4 f,.int .i64 p] (.dS [.int .i64 (jO f p).1,.bool (jO f p).2]):=by
 refine d5 Tryz.func107 2 Z cV (c7 ?_);refine df (KS f Q a) (cO ?_)
 refine yr (λdI=>?_) λdI=>?_
 .simp at dI;exact dg Z (by rw[jO,cS (GS.1 dI)];rfl)
 simp at dI;have cU:=Dh.1 dI;refine df (QL f p Q.1) (c7 ?_);exact dg Z (by rw[jO,if_pos cU];rfl)
def GU(f)(Q:f.cN.length<=1000000)(a:f.dJ.length<=1000000):Fa cQ 279 [l4 f] [.row (f.cN.map fl) 3,.d f.hand,.d (hk f.eg),.row (f.dJ.map eC) 3,.d (hk f.dK)]:=by refine alb Tryz.func279 1 Z cV (c7 ?_);refine gT (Qc f.cN Q) (c7 ?_);refine gT (C4 f.dJ a) (c7 ?_);exact⟨_,_,Z,Z,.inl ⟨_,Z,Z,Z,Z,Z,.inl ⟨_,Z,Z,Z,Z,dM⟩⟩⟩
def kZ(n:V):hv:=⟨eQ n (0,0,L),0,eQ 16 (0,0),eQ n mU,[]⟩
def aaF:hv:=⟨[],0,[],[],[]⟩
def aaG:∀ {a b:I J},a.Nodup->(∀x∈a,x∈b)->b.length<=a.length->∀x∈b,x∈a
 | [],b,_,_,h,x,c=>by
  simp_all
 |y::r,b,c0,s,h,x,c=>by
  rw[tH]at c0;have d:=s y (mK ..)
  by_cases e:x=y
  .simp_all
  .refine lX _ (aaG (b:=b.erase y) c0.2 (λz f=>?_) ?_ x ?_)
   .grind
   .simp_all
   simp_all
def pJ{l:I (J×J)}(h:Tb.iP l){p i}:Tb.ih l p=(i,N)↔1<=p/\Tb.nR l (p,i):=by
 constructor
 .intro ee;have dQ:=Tb.t6.2 h;unfold Tb.ih at ee;split at ee
  .cases ee
  .rename_i c0
   have O:(Tb.kY l p).2=N:=by
    cases e:(Tb.kY l p).2 with|true=>rfl|false=>simp_all
   have⟨j,a,b,c⟩:=Tb.GQ O;rw[a,gz]at ee
   have dU:j<16:=by rwa[<-h.len]
   refine⟨?_,j,dU,?_⟩
   .unfold Tb.kY at O;grind
   .have Q:=eL Prod.fst ee;simp only at Q;exact Prod.ext (by rwa[Tb.mo b]) Q
 .rintro⟨O,j,dU,e⟩;exact Tb.ao1 h O dU e
def apa{l:I (J×J)}(h:Tb.iP l){p}(O:1<=p):(Tb.ih l p).2=L↔∀i,¬Tb.nR l (p,i):=by
 constructor
 .intro Q i m;rw[(pJ h).2 ⟨O,m⟩]at Q;cases Q
 .intro Q
  cases e:(Tb.ih l p).2 with|false=>rfl|true=>exact dN ((pJ h).1 (Prod.ext Z e)).2 (Q _)
def aaH{l:I (J×J)}{p}(h:(Tb.ih l p).2=L):Tb.ih l p=(0,L):=by unfold Tb.ih at h⊢;grind
def aaI{l:I (J×J)}(h:Tb.iP l){p i j}(O:1<=p)(cK:Tb.nR l (p,i))(a:Tb.nR l (p,j)):i=j:=by have:=(pJ h).2 ⟨O,cK⟩;rw[(pJ h).2 ⟨O,a⟩]at this;simp_all
def apb(f:hv)(i:V):Prop:=∀(h:i<f.cN.length) (c5:i<f.dJ.length),(f.cN[i].1=0/\f.cN[i].2.1=0/\f.dJ[i]=mU) \/ (1<=f.cN[i].1/\f.cN[i].1=f.dJ[i].1/\gB f.dJ[i]=N/\Tb.nR f.eg (f.cN[i].1,(i:J)))
structure ey(f:hv):Prop where
 ij:w1 f.cN f.hand
 eg:Tb.iP f.eg
 dK:Dt.hm f.dK=N
 len:f.dJ.length=f.cN.length
 place:∀i,i<f.cN.length->apb f i
 cnt:Tb.ii f.eg=lj f.cN
 t7:∀x∈f.dK,∃i,Tb.nR f.eg (x.1,i)
def s6{f}:rX f↔ey f:=by
 constructor
 .intro h;refine⟨h.ij,h.eg,h.dK,h.len,λi cK Q a=>?_,h.cnt,λx k=>?_⟩
  .rcases h.place i cK Q a with e|⟨m,b,c,d⟩
   .grind
   .have⟨q,l⟩:=(pJ h.eg).1 d;simp_all
  .obtain⟨i,cK,rfl⟩:=kr.1 k;exact⟨_,((pJ h.eg).1 (Prod.ext Z (h.t7 i cK))).2⟩
 .intro h;refine⟨h.ij,h.eg,h.dK,h.len,λi cK Q a=>?_,h.cnt,λi cK=>?_⟩
  .rcases h.place i cK Q a with e|⟨m,b,c,d⟩
   .grind
   .exact .inr ⟨R,b,c,(pJ h.eg).2 ⟨R,by simp_all⟩⟩
  .have⟨j,g⟩:=h.t7 _ (hF cK);have cP:=(Dt.t5 h.dK).2 i cK;rw[(pJ h.eg).2 ⟨cP.2.1,g⟩]
def rY(l:I gc):I J:=(l.filter λx=>!decide (x.1=0)).map (·.1)
def QN(l):(rY l).length=lj l:=by unfold rY lj;grind
def QO{l p}:p∈rY l↔p≠0/\ ∃i,∃h:i<l.length,l[i].1=p:=by
 unfold rY;rw[is];constructor
 .rintro⟨x,a,rfl⟩;have⟨Q,b⟩:=ou.1 a;obtain⟨i,cK,rfl⟩:=kr.1 Q;grind
 grind
def ey.w9{f}(h:ey f){i j}(cK:i<f.cN.length)(a:j<f.cN.length)(cW:f.cN[i].1≠0)(e:f.cN[i].1=f.cN[j].1):i=j:=by
 rcases h.place i cK cK Eu with q|⟨b,_,_,c⟩
 .omega
 rcases h.place j a a (by rwa[h.len]) with r|⟨g,_,_,d⟩
 .omega
 have:=aaI h.eg b c (e▸d);omega
def aaJ:∀ {l},(∀i j,(cK:i<l.length)->(dU:j<l.length)->l[i].1≠0->l[i].1=l[j].1->i=j)->(rY l).Nodup
 | [],_=>by simp[rY]
 |x::r,h=>by
  have a:=aaJ (l:=r) λi j cK dU cW e=>by
   have:=h (i+1) (j+1) HI xA zf MI;omega
  unfold rY at a⊢
  by_cases eE:x.1=0
  .simp_all
  .rw[aak HT,kS,tH];refine⟨λm=>?_,a⟩;have⟨_,j,dU,e⟩:=QO.1 m;have:=h 0 (j+1) dw xA TX eM;omega
def QP(l:I (J×J)):I J:=(l.filter λx=>!Tb.fU x).map (·.1)
def ey.frame{f}(h:ey f){p k}(O:1<=p)(m:Tb.nR f.eg (p,k)):∃i:V,k=i/\ ∃cK,f.cN[i].1=p:=by
 have o:=h.eg.len
 have n:p∈QP f.eg:=by have⟨j,c,e⟩:=m;refine is.2 ⟨(p,k),ou.2 ⟨?_,by simp[Tb.vx (x:=(p,k)) O]⟩,Z⟩;rw[<-e,Tb.mo R];exact hF _
 have:=aaG (a:=rY f.cN) (b:=QP f.eg) (aaJ λi j cK c cW e=>h.w9 cK c cW e) (λx r=>?_) (by
   rw[QN,<-h.cnt];unfold QP Tb.ii
   grind) p n
 .have⟨cW,i,cK,e⟩:=QO.1 this;rcases h.place i cK cK Eu with q|⟨g,_,_,d⟩
  .omega
  .exact⟨i,aaI h.eg O m (e▸d),cK,e⟩
 .have⟨cW,i,cK,e⟩:=QO.1 r;rcases h.place i cK cK Eu with q|⟨g,_,_,d⟩
  .omega
  .have⟨j,c,l⟩:=d;refine is.2 ⟨(f.cN[i].1,(i:J)),ou.2 ⟨?_,by simp[Tb.vx (x:=(f.cN[i].1,(i:J))) g]⟩,e⟩;rw[<-l,Tb.mo R];simp_all
def ey.aaK{f}(h:ey f):Tb.ii f.eg<=8:=by rw[h.cnt];exact fG JD h.ij.g1
def apc{l:I (J×J)}(h:Tb.iP l)(dj:Tb.ii l<16):Tb.rb l:=by
 have:¬∀j,j<16->Tb.fU (Tb.at' l j)=L:=λQ=>by have:=(Tb.aaB h.len).2 Q;omega
 have⟨z,a⟩:=KT.1 this;have⟨b,c⟩:=Classical.not_imp.1 a;exact⟨z,Tb.QG h b eM⟩
structure hP(f:hv)(p:J)(i:V):Prop where
 right:ey f
 cK:i<f.cN.length
 O:i<f.dJ.length
 fD:1<=p
 AG:p<=16
 cN:f.cN[i].1=p
 dJ:f.dJ[i].1=p
 w_:gB f.dJ[i]=N
 mem:Tb.nR f.eg (p,(i:J))
def qi{f p i}(h:ey f)(O:p≠0)(cK:i<f.cN.length)(e:f.cN[i].1=p):hP f p i:=by
 rcases h.place i cK cK Eu with q|⟨a,b,c,d⟩
 .omega
 .exact⟨h,cK,Eu,e▸a,by have:=(lf.1 c).2.1;omega,e,by omega,c,e▸d⟩
def aaL(f p):(¬rX f/\hO f p=(0,1)) \/ (rX f/\Tb.ih f.eg p=(0,L) /\hO f p=(0,3)) \/ ∃i:V,Tb.ih f.eg p=((i:J),N) /\hO f p=((i:J),0) /\hP f p i:=by
 unfold hO
 by_cases h:rX f
 .rw[if_pos h]
  cases e:(Tb.ih f.eg p).2 with|false=>exact .inr (.inl ⟨h,aaH e,dw⟩)|true=>have m:=s6.1 h;have⟨O,a⟩:=(pJ m.eg).1 (Prod.ext Z e:Tb.ih f.eg p=((Tb.ih f.eg p).1,N));have⟨i,c,cK,b⟩:=m.frame O a;exact .inr (.inr ⟨i,Prod.ext c e,by simp_all,qi m R cK b⟩)
 simp_all
def mV(f:hv)(i:V)(p:J):hv:=⟨f.cN.set i (0,0,L),f.hand,(Tb.qh f.eg p).1,f.dJ.set i mU,(Dt.oD f.dK p).1⟩
def aaM{l p}(h:(Dt.oD l p).2≠0):(Dt.oD l p).1=l:=by unfold Dt.oD at h⊢;grind
def aaN{l:I (J×J)}{p}(h:(Tb.qh l p).2≠0):(Tb.qh l p).1=l:=by unfold Tb.qh at h⊢;grind
def KU(l:I gc)(i x):(l.map fl).set i (fl x)=(l.set i x).map fl:=EC
def QQ(l:I e')(i x):(l.map eC).set i (eC x)=(l.set i x).map eC:=EC
def aaO(f:hv)(i p)(h:i<f.cN.length)(a:i<f.dJ.length)(O:f.dJ[i].1=p)(b:f.cN.length<=1000000)(c:f.dJ.length<=1000000)(t:f.eg.length<=1000000)(cP:f.dK.length<=1000000):
  d0 cQ 282 [l4 f,i] (l4 (mV f i p)):=by
 refine d5 Tryz.func282 2 Z cV (cO ?_)
 have m:(f.cN.map fl).length=f.cN.length:=ec ..
 have d:(f.dJ.map eC).length=f.dJ.length:=ec ..
 refine dF ?_;refine ea R (cO ?_);refine d2 (x:=eC f.dJ[i]) (by simp[a]) (c7 ?_);rw[O];refine Fc (GU f b c) (show 2<=8 by decide) (c7 ?_);refine ea R (cO ?_);refine d2 (x:=fl f.cN[i]) (by simp[h]) (c7 ?_);refine ea R (cO ?_);refine d2 (x:=eC f.dJ[i]) (by simp[a]) (c7 ?_);refine df (Tb.aoF f.eg p t) (c7 ?_);have k1:=KU f.cN i (0,0,L);have eK:=QQ f.dJ i mU
 refine pA (λdI=>?_) λdI=>?_
 .refine df (Dt.GM f.dK p cP) (c7 ?_)
  refine pA (λg=>?_) λg=>?_
  .apply dg Z;rw[show((f.cN.map fl).set i (iC (fl f.cN[i]) 0 [.int .i64 0,.int .i64 0,.bool L]))=_ from k1];rw[show((f.dJ.map eC).set i (iC (eC f.dJ[i]) 0 [.int .i64 0,.int .i64 0,.str .empty]))=_ from eK];rfl
  .apply dg Z;rw[show((f.cN.map fl).set i (iC (fl f.cN[i]) 0 [.int .i64 0,.int .i64 0,.bool L]))=_ from k1];rw[show((f.dJ.map eC).set i (iC (eC f.dJ[i]) 0 [.int .i64 0,.int .i64 0,.str .empty]))=_ from eK];rw[show mV f i p=⟨f.cN.set i (0,0,L),f.hand,(Tb.qh f.eg p).1,f.dJ.set i mU,f.dK⟩ from by rw[mV,aaM g]];rfl
 .refine df (Dt.GM f.dK p cP) (c7 ?_)
  refine pA (λg=>?_) λg=>?_
  .apply dg Z;rw[show((f.cN.map fl).set i (iC (fl f.cN[i]) 0 [.int .i64 0,.int .i64 0,.bool L]))=_ from k1];rw[show((f.dJ.map eC).set i (iC (eC f.dJ[i]) 0 [.int .i64 0,.int .i64 0,.str .empty]))=_ from eK];rw[show mV f i p=⟨f.cN.set i (0,0,L),f.hand,f.eg,f.dJ.set i mU,(Dt.oD f.dK p).1⟩ from by rw[mV,aaN dI]];rfl
  .apply dg Z;rw[show((f.cN.map fl).set i (iC (fl f.cN[i]) 0 [.int .i64 0,.int .i64 0,.bool L]))=_ from k1];rw[show((f.dJ.map eC).set i (iC (eC f.dJ[i]) 0 [.int .i64 0,.int .i64 0,.str .empty]))=_ from eK];rw[show mV f i p=⟨f.cN.set i (0,0,L),f.hand,f.eg,f.dJ.set i mU,f.dK⟩ from by rw[mV,aaN dI,aaM g]];rfl
def rZ(l:I gc)(i:V):gc:=l[i]?.getD (0,0,L)
def nS(l:I e')(i:V):e':=l[i]?.getD mU
def j7{l i}(h:i<l.length):rZ l i=l[i]:=by simp[rZ,h]
def nT{l i}(h:i<l.length):nS l i=l[i]:=by simp[nS,h]
def AH(x:gc):gc:=(x.1,x.2.1+1,N)
def Di(x:gc):gc:=(x.1,x.2.1-1,x.2.2)
def vz(f:hv)(i:V)(x:gc):hv:=⟨f.cN.set i x,f.hand,f.eg,f.dJ,f.dK⟩
def l5(f:hv)(p:J):hv×J:=
 if(hO f p).2≠0 then(f,(hO f p).2)
 else if 2147483647<= (rZ f.cN (hO f p).1.toNat).2.1 then(f,7) else(vz f (hO f p).1.toNat (AH (rZ f.cN (hO f p).1.toNat)),0)
def mr(f:hv)(p:J):hv×J:=
 if(hO f p).2≠0 then(f,(hO f p).2)
 else if(rZ f.cN (hO f p).1.toNat).2.1=0 then(f,12) else(vz f (hO f p).1.toNat (Di (rZ f.cN (hO f p).1.toNat)),0)
def nU(x:e')(b:dG):e':=(x.1,x.2.1+1,b)
def i0(f:hv)(p:J)(b:dG)(now:J):hv×J:=
 if(hO f p).2≠0 then(f,(hO f p).2)
 else if(rZ f.cN (hO f p).1.toNat).2.1=0 then(f,12)
 else if 16<b.size then(f,5)
 else if 2147483647<= (nS f.dJ (hO f p).1.toNat).2.1 then(f,7)
 else if(Dt.hX f.dK p now).2≠0 then(f,(Dt.hX f.dK p now).2)
 else(⟨f.cN,f.hand,f.eg,f.dJ.set (hO f p).1.toNat (nU (nS f.dJ (hO f p).1.toNat) b),(Dt.hX f.dK p now).1⟩,0)
def rc(f:hv)(p:J):hv×J:=
 if(hO f p).2≠0 then(f,(hO f p).2)
 else if(Dt.oD f.dK p).2≠0 then(f,12) else(⟨f.cN,f.hand,f.eg,f.dJ,(Dt.oD f.dK p).1⟩,0)
def oE(f:hv)(p:J):hv×J:=
 if(hO f p).2≠0 then(f,(hO f p).2)
 else if 0<(rZ f.cN (hO f p).1.toNat).2.1 then(f,6) else(mV f (hO f p).1.toNat p,0)
def vA(f p):(hO f p).2≠0\/ ∃i:V,hO f p=((i:J),0) /\hP f p i:=by
 rcases aaL f p with⟨_,e⟩|⟨_,_,e⟩|⟨i,_,e,h⟩
 .simp_all
 .simp_all
 grind
def apd(f p)(Q:t8 f.eg)(a:f.dK.length<=1000000):d0 cQ 225 [l4 f,.int .i64 p] (.dS [l4 (l5 f p).1,.int .i64 (l5 f p).2]):=by
 refine d5 Tryz.func225 2 Z (by kernel_rfl) (cO ?_)
 have m:(f.cN.map fl).length=f.cN.length:=ec ..
 refine dF ?_;have h:=GT f p Q a;rcases vA f p with e|⟨i,e,c8⟩
 .refine df h (c7 ?_);refine sA (by simp[e]) (c7 ?_);exact dg Z (by rw[l5,if_pos e];rfl)
 have cK:=c8.cK;have b:=c8.right.ij.g1;have l:=c8.right.len;have k:=oC.1 (c8.right.ij.all i cK);rw[e]at h;refine df (d:=.dS [.int .i64 i,.int .i64 0]) h (c7 ?_);refine ea R (cO ?_);refine d2 (x:=fl f.cN[i]) (by simp[cK]) (c7 ?_)
 refine pA (λdI=>?_) λdI=>?_
 .exact dg Z (by simp only[l5,e,gz,j7 cK];rw[cS cZ,if_pos (by exact dI)];rfl)
 refine Fc (GU f R R) (show 2<=8 by decide) (c7 ?_);refine ea R (cO ?_);refine d2 (x:=fl f.cN[i]) (by simp[cK]) (c7 ?_);refine ea R (cO ?_);refine d2 (x:=fl f.cN[i]) (by simp[cK]) (c7 ?_);refine ea eM (cO ?_);refine d2 (x:=fl (f.cN[i].1,f.cN[i].2.1+1,f.cN[i].2.2)) (by rw[KV R];rfl) (c7 ?_);apply dg Z;rw[aaP];have k1:(f.cN.map fl).set i (fl (AH f.cN[i]))=(f.cN.set i (AH f.cN[i])).map fl:=KU f.cN i _;simp only[l5,e,gz,j7 cK];rw[cS cZ,cS (by exact dI)];exact eL (λq=>c3.dS [.agg [.dm q,f.hand,hk f.eg,.dm (f.dJ.map eC),hk f.dK],.int .i64 0]) k1
def ape(f p)(Q:t8 f.eg)(a:f.dK.length<=1000000):d0 cQ 234 [l4 f,.int .i64 p] (.dS [l4 (mr f p).1,.int .i64 (mr f p).2]):=by
 refine d5 Tryz.func234 2 Z (by kernel_rfl) (cO ?_)
 have m:(f.cN.map fl).length=f.cN.length:=ec ..
 refine dF ?_;have h:=GT f p Q a;rcases vA f p with e|⟨i,e,c8⟩
 .refine df h (c7 ?_);refine sA (by simp[e]) (c7 ?_);exact dg Z (by rw[mr,if_pos e];rfl)
 have cK:=c8.cK;have b:=c8.right.ij.g1;have l:=c8.right.len;have k:=oC.1 (c8.right.ij.all i cK);rw[e]at h;refine df (d:=.dS [.int .i64 i,.int .i64 0]) h (c7 ?_);refine ea R (cO ?_);refine d2 (x:=fl f.cN[i]) (by simp[cK]) (c7 ?_)
 refine pA (λdI=>?_) λdI=>?_
 .exact dg Z (by simp only[mr,e,gz,j7 cK];rw[cS cZ,if_pos (by exact dI)];rfl)
 refine Fc (GU f R R) (show 2<=8 by decide) (c7 ?_);refine ea R (cO ?_);refine d2 (x:=fl f.cN[i]) (by simp[cK]) (c7 ?_);refine ea R (cO ?_);refine d2 (x:=fl f.cN[i]) (by simp[cK]) (c7 ?_);apply dg Z;have k1:(f.cN.map fl).set i (fl (Di f.cN[i]))=(f.cN.set i (Di f.cN[i])).map fl:=KU f.cN i _;simp only[mr,e,gz,j7 cK];rw[cS cZ,cS (by exact dI)];exact eL (λq=>c3.dS [.agg [.dm q,f.hand,hk f.eg,.dm (f.dJ.map eC),hk f.dK],.int .i64 0]) k1
def GM(f p)(Q:t8 f.eg)(a:f.dK.length<=1000000):d0 cQ 286 [l4 f,.int .i64 p] (.dS [l4 (rc f p).1,.int .i64 (rc f p).2]):=by
 refine d5 Tryz.func286 2 Z cV (c7 ?_);have l:=GT f p Q a;rcases vA f p with e|⟨i,e,c8⟩
 .refine df l (c7 ?_);refine sA uD (c7 ?_);exact dg Z (by rw[rc,if_pos e];rfl)
 rw[e]at l;refine df (d:=.dS [.int .i64 i,.int .i64 0]) l (c7 ?_);refine df (Dt.GM f.dK p a) (c7 ?_)
 refine sU (λdI=>?_) λdI=>?_
 .exact dg Z (by rw[rc,cS uD,if_pos zg];rfl)
 .exact dg Z (by rw[rc,cS uD,cS zg];rfl)
def apf(f p)(Q:t8 f.eg)(a:f.dK.length<=1000000):d0 cQ 227 [l4 f,.int .i64 p] (.dS [l4 (oE f p).1,.int .i64 (oE f p).2]):=by
 refine d5 Tryz.func227 2 Z cV (cO ?_)
 have m:(f.cN.map fl).length=f.cN.length:=ec ..
 refine dF ?_;have l:=GT f p Q a;rcases vA f p with e|⟨i,e,c8⟩
 .refine df l (c7 ?_);refine sA uD (c7 ?_);exact dg Z (by rw[oE,if_pos e];rfl)
 have cK:=c8.cK;have b:=c8.right.ij.g1;have n:=c8.right.len;rw[e]at l;refine df (d:=.dS [.int .i64 i,.int .i64 0]) l (c7 ?_);refine ea R (cO ?_);refine d2 (x:=fl f.cN[i]) Mx (c7 ?_)
 refine pA (λdI=>?_) λdI=>?_
 .exact dg Z (by simp only[oE,e,gz,j7 cK];rw[cS cZ,if_pos T_];rfl)
 refine df (aaO f i p cK c8.O c8.dJ R R Q.1 a) (c7 ?_);exact dg Z (by simp only[oE,e,gz,j7 cK];rw[cS cZ,cS T_];rfl)
def apg(f p b now)(Q:t8 f.eg)(c:f.dK.length<=1000000):
  d0 cQ 233 [l4 f,.int .i64 p,.str b,.int .i64 now] (.dS [l4 (i0 f p b now).1,.int .i64 (i0 f p b now).2]):=by
 refine d5 Tryz.func233 4 Z (by kernel_rfl) (cO ?_)
 have m:(f.cN.map fl).length=f.cN.length:=ec ..
 have o:(f.dJ.map eC).length=f.dJ.length:=ec ..
 refine dF ?_;have l:=GT f p Q c;rcases vA f p with e|⟨i,e,c8⟩
 .refine df l (c7 ?_);refine sA (by simp[e]) (c7 ?_);exact dg Z (by rw[i0,if_pos e];rfl)
 have cK:=c8.cK;have h:=c8.O;have k:=c8.right.ij.g1;have n:=c8.right.len;have r:=lf.1 c8.w_;rw[e]at l;refine df (d:=.dS [.int .i64 i,.int .i64 0]) l (c7 ?_);refine ea R (cO ?_);refine d2 (x:=fl f.cN[i]) (by simp[cK]) (c7 ?_)
 refine iG (λdI=>?_) λdI=>?_
 .exact dg Z (by simp only[i0,e,gz,j7 cK];rw[cS cZ,if_pos (by exact dI)];rfl)
 refine dF ?_
 refine pA (λj=>?_) λj=>?_
 .exact dg Z (by simp only[i0,e,gz,j7 cK];rw[cS cZ,cS (by exact dI),if_pos R];rfl)
 refine ea R (cO ?_);refine d2 (x:=eC f.dJ[i]) (by simp[h]) (c7 ?_)
 refine pA (λg=>?_) λg=>?_
 .exact dg Z (by simp only[i0,e,gz,j7 cK,nT h];rw[cS cZ,cS (by exact dI),cS R,if_pos (by exact g)];rfl)
 refine df (Dt.aab f.dK p now c) (c7 ?_)
 refine sU (λa=>?_) λa=>?_
 .exact dg Z (by simp only[i0,e,gz,j7 cK,nT h];rw[cS cZ,cS (by exact dI),cS R,cS (by exact g),if_pos (by exact a)];rfl)
 refine Fc (GU f R R) (show 2<=8 by decide) (c7 ?_);refine ea R (cO ?_);refine d2 (x:=eC f.dJ[i]) (by simp[h]) (c7 ?_);refine ea eM (cO ?_);refine d2 (x:=[f.dJ[i].1,f.dJ[i].2.1,.str b]) (by rw[KV R];rfl) (c7 ?_);refine ea eM (cO ?_);refine d2 (x:=[f.dJ[i].1,f.dJ[i].2.1,.str b]) (by rw[KV R];rfl) (c7 ?_);apply dg Z;rw[aaP];have k1:(f.dJ.map eC).set i (eC (nU f.dJ[i] b))=(f.dJ.set i (nU f.dJ[i] b)).map eC:=QQ f.dJ i _;simp only[i0,e,gz,j7 cK,nT h];rw[cS cZ,cS (by exact dI),cS R,cS (by exact g),cS R];exact eL (λq=>c3.dS [.agg [.dm (f.cN.map fl),f.hand,hk f.eg,.dm q,hk (Dt.hX f.dK p now).1],.int .i64 0]) k1
def vB(f:hv)(p:e')(now:J):Prop:=¬rX f\/gB p=L\/now<0\/2147483647<now
def ms(f:hv)(p:e')(i:V):hv:=⟨f.cN.set i (p.1,1,N),f.hand,(Tb.pb f.eg p.1 i).1,f.dJ.set i p,f.dK⟩
open Classical in
def mW(f:hv)(p:e')(now:J)(gl:di):hv×J:=
 if vB f p now then(f,1)
 else if(Tb.ih f.eg p.1).2=N then(f,4)
 else if(pI f.cN).2=L then(f,7)
 else if(Tb.pb f.eg p.1 (pI f.cN).1.toNat).2≠0 then(f,(Tb.pb f.eg p.1 (pI f.cN).1.toNat).2)
 else if gl=N then(if(Dt.hX f.dK p.1 now).2≠0 then(f,(Dt.hX f.dK p.1 now).2) else({ms f p (pI f.cN).1.toNat with dK:=(Dt.hX f.dK p.1 now).1},0))
 else(ms f p (pI f.cN).1.toNat,0)
def GV(l):(pI l=(0,L) /\ ∀i (h:i<l.length),l[i].1≠0) \/ ∃i:V,pI l=((i:J),N) /\ ∃h,l[i].1=0:=by
 unfold pI;rcases ao9 (l:=l) (k:=0) with⟨Q,a⟩|⟨i,Q,a,b⟩
 .simp_all
 grind
def QR{a d8 b c h t d e}(Q:a=d8)(f:b=c):c3.dS [.agg [.dm a,h,t,.dm b,d],e]=c3.dS [.agg [.dm d8,h,t,.dm c,d],e]:=by rw[Q,f]
def aph(f p now gl)(Q:t8 f.eg)(j:f.dK.length<=1000000):
  d0 cQ 281 [l4 f,.agg (eC p),.int .i64 now,.bool gl] (.dS [l4 (mW f p now gl).1,.int .i64 (mW f p now gl).2]):=by
 refine d5 Tryz.func281 4 Z (by kernel_rfl) (cO ?_)
 have o:(f.cN.map fl).length=f.cN.length:=ec ..
 have s:(f.dJ.map eC).length=f.dJ.length:=ec ..
 have B (k:vB f p now):mW f p now gl=(f,1):=if_pos k;refine dF ?_;have r:=KS f Q j
 cases cU:yI f with
 |false=>rw[cU]at r;refine df r (c7 ?_);exact dg Z (by rw[B (.inl (GS.1 cU))];rfl)
 |true=>
 rw[cU]at r;refine df r (c7 ?_);have r:=GA p
 cases P:gB p with
 |false=>rw[P]at r;refine df r (c7 ?_);exact dg Z (by rw[B (.inr (.inl P))];rfl)
 |true=>
 rw[P]at r;refine df r (c7 ?_)
 refine iG (λdI=>?_) λdI=>?_
 .exact dg Z (by rw[B (.inr (.inr (.inl dI)))];rfl)
 refine dF ?_
 refine iG (λg=>?_) λg=>?_
 .exact dg Z (by rw[B (.inr (.inr (.inr g)))];rfl)
 have n:¬vB f p now:=λh=>by
  rcases h with h|h|h|h
  .exact h (Dh.1 cU)
  .simp_all
  .exact dI h
  omega
 have F:=Dh.1 cU;have m:=F.ij.g1;have l:=F.len;refine dF ?_;have r:=QL f p.1 Q.1
 cases q:(Tb.ih f.eg p.1).2 with
 |true=>rw[q]at r;refine eH ?_;exact dg Z (by rw[mW,cS n,if_pos q];rfl)
 |false=>
 rw[q]at r;refine df r (c7 ?_);have r:=aaE f R;rcases GV f.cN with⟨e,t⟩|⟨i,e,cK,z⟩
 .rw[e]at r;refine df (d:=.dS [.int .i64 0,.bool L]) r (c7 ?_);exact dg Z (by rw[mW,cS n,cS (by simp[q]),if_pos (by rw[e])];rfl)
 rw[e]at r;refine df (d:=.dS [i,.bool N]) r (c7 ?_);refine Fc (GU f R R) (show 2<=8 by decide) (c7 ?_);refine ea R (cO ?_);refine d2 (x:=fl f.cN[i]) (by simp[cK]) (c7 ?_)
 have a:i<f.dJ.length:=R
 refine ea R (cO ?_);refine d2 (x:=eC f.dJ[i]) (by simp[a]) (c7 ?_)
 have u:mW f p now gl=if(Tb.pb f.eg p.1 i).2≠0 then(f,(Tb.pb f.eg p.1 i).2)
   else if gl=N then(if(Dt.hX f.dK p.1 now).2≠0 then(f,(Dt.hX f.dK p.1 now).2) else({ms f p i with dK:=(Dt.hX f.dK p.1 now).1},0))
   else(ms f p i,0):=by
  rw[mW,cS n,cS (by simp[q]),cS (by rw[e];simp),e];rfl
 rw[u];have k1:(f.cN.map fl).set i (fl (p.1,1,N))=(f.cN.set i (p.1,1,N)).map fl:=KU f.cN i _;have eK:=QQ f.dJ i p;refine df (Tb.C5 f.eg p.1 i Q.1) (c7 ?_)
 refine sU (λb=>?_) λb=>?_
 .exact dg Z (by rw[if_pos b];rfl)
 rw[cS R]
 cases gl with
 |false=>refine dF ?_;apply dg Z;rw[cS cZ];exact QR k1 eK
 |true=>
  rw[if_pos Z];refine dF ?_;refine df (Dt.aab f.dK p.1 now j) (c7 ?_)
  refine sU (λc=>?_) λc=>?_
  .exact dg Z (by rw[if_pos c];rfl)
  .apply dg Z;rw[cS R];exact QR k1 eK
open Classical in
def KW(l:I gc)(a:V):dB (I gc×V):=if h:∃q:I gc×V,pG l a q.1 q.2 then U (JM h) else cL
def t_(f:hv)(q:I gc×V):hv:=⟨q.1,(((q.2+1)%f.cN.length:V):J),f.eg,f.dJ,f.dK⟩
open Classical in
def hA(f:hv):hv×e'×di×J:=
 if ¬rX f then(f,mU,L,1)
 else if(pI f.cN).2=N then(f,mU,L,0)
 else match KW f.cN f.hand.toNat with
  |none=>(f,mU,L,6)
  |some q=>if(Dt.qg f.dK (nS f.dJ q.2).1).2=N then(t_ f q,nS f.dJ q.2,N,0) else(mV (t_ f q) q.2 (nS f.dJ q.2).1,nS f.dJ q.2,L,0)
def aaQ{l h}(cU:w1 l h):(KW l h.toNat=cL/\q6 l 0<0) \/ ∃q,KW l h.toNat=U q/\pG l h.toNat q.1 q.2:=by
 unfold KW
 by_cases x:∃q:I gc×V,pG l h.toNat q.1 q.2
 .grind
 .refine .inl ⟨dif_neg x,?_⟩;rcases aow (l:=l) (k:=0) with Q|⟨i,Q,cK,b⟩
  .exact Q
  .have⟨el,fh,s⟩:=Z8 (j:=i) (C' i l h.toNat+1) (l:=l) (a:=h.toNat) (by have:=cU.cW;have:=cU.Q;omega) cK b R;simp_all
def api(f)(Q:t8 f.eg)(c5:f.dK.length<=1000000):
  d0 cQ 306 [l4 f] (.dS [l4 (hA f).1,.agg (eC (hA f).2.1),.bool (hA f).2.2.1,(hA f).2.2.2]):=by
 refine d5 Tryz.func306 1 Z cV (cO ?_)
 have h:(f.cN.map fl).length=f.cN.length:=ec ..
 have j:(f.dJ.map eC).length=f.dJ.length:=ec ..
 refine dF ?_;have dQ:=KS f Q c5
 cases a:yI f with
 |false=>rw[a]at dQ;refine df dQ (c7 ?_);exact dg Z (by rw[hA,if_pos (GS.1 a)];rfl)
 |true=>
 rw[a]at dQ;refine df dQ (c7 ?_);have qC:=Dh.1 a;have l:=qC.ij.one;have m:=qC.ij.g1;have n:=qC.len;have dQ:=aaE f R;rcases GV f.cN with⟨e,o⟩|⟨i,e,cK,p⟩
 rotate_left
 .rw[e]at dQ;refine eH ?_;exact dg Z (by rw[hA,cS zk,if_pos Bx];rfl)
 rw[e]at dQ;refine df (d:=.dS [.int .i64 0,.bool L]) dQ (c7 ?_);rcases aaQ qC.ij with⟨eq,c⟩|⟨q,eq,c'⟩
 .refine df (aox f.cN f.hand (.inr c) R) (c7 ?_);exact dg Z (by rw[hA,cS zk,cS v7,eq];rfl)
 have c9:((f.hand.toNat:V):J)=f.hand:=by have:=qC.ij.cW;omega
 have b:=aoz f.cN f.hand.toNat (by rw[c9];exact qC.ij) c';rw[c9]at b;have⟨r,s,t,g,u⟩:=c'.out;have xF:q.2<f.dJ.length:=R;refine df b (c7 ?_);refine ea R (cO ?_);refine d2 (x:=eC f.dJ[q.2]) af1 (c7 ?_);have dQ:=Dt.aaa f.dK f.dJ[q.2].1 c5
 cases cP:(Dt.qg f.dK f.dJ[q.2].1).2 with
 |true=>rw[cP]at dQ;refine df dQ (c7 ?_);apply dg Z;rw[hA,cS zk,cS v7,eq];simp[nT xF];rw[if_pos cP];rfl
 |false=>rw[cP]at dQ;refine df dQ (c7 ?_);refine df (aaO (t_ f q) q.2 f.dJ[q.2].1 (by exact g) xF Z (by show q.1.length<=_;omega) (by show f.dJ.length<=_;omega) Q.1 c5) (c7 ?_);apply dg Z;rw[hA,cS zk,cS v7,eq];simp[nT xF];rw[cS eM];rfl
def QE(n):d0 cQ 130 [.int .i64 n] (.dS [l4 (if n<1\/8<n then aaF else kZ n.toNat),.int .i64 (if n<1\/8<n then 1 else 0)]):=by
 refine d5 Tryz.func130 1 Z cV (c7 ?_)
 refine iG (λdI=>?_) λdI=>?_
 .exact dg Z (by rw[if_pos (.inl dI),if_pos (.inl dI)];rfl)
 refine dF ?_
 refine pA (λg=>?_) λg=>?_
 .exact dg Z (by rw[if_pos (.inr g),if_pos (.inr g)];rfl)
 obtain⟨m,rfl⟩:∃m:V,n=m:=⟨n.toNat,R⟩;rw[cS R,cS R];refine dF ?_;refine fO 8 100 R cZ cZ cZ (c7 ?_);refine df Tb.QE (c7 ?_);refine dF ?_;refine fO 8 100 R cZ cZ cZ (c7 ?_);apply dg Z;rw[show kZ (m:J).toNat=kZ m from Z]
 have k1:eQ (m:J).toNat (T 180).zero=(eQ m (0,0,L)).map fl:=by rw[Y9];rfl
 have eK:eQ (m:J).toNat (T 139).zero=(eQ m mU).map eC:=by rw[Y9];rfl
 exact QR k1 eK
def QS{l i x}(h:i<l.length):lj (l.set i x)+(if l[i].1=0 then 0 else 1)=lj l+(if x.1=0 then 0 else 1):=by
 have O:(if l[i].1=0 then 0 else 1) <=lj l:=by
  by_cases e:l[i].1=0
  .simp_all
  .rw[cS e];exact CK.2 ⟨l[i],hF h,uD⟩
 have a:lj (l.set i x)=lj l-(if(!decide (l[i].1=0))=N then 1 else 0)+(if(!decide (x.1=0))=N then 1 else 0):=by unfold lj;exact Z6 h
 grind
def QT{l h i x}(cU:w1 l h)(a:yx x=N):w1 (l.set i x) h:=by
 refine⟨by rw[iu];exact cU.one,by rw[iu];exact cU.g1,cU.cW,by rw[iu];exact cU.Q,λj dU=>?_⟩;rw[As];split
 .exact a
 .exact cU.all j HM
def ey.pins{f p i x}(c8:hP f p i)(g:yx x=N)(Q:x.1=p):ey (vz f i x):=by
 have h:=c8.right;have cK:=c8.cK;show ey ⟨f.cN.set i x,f.hand,f.eg,f.dJ,f.dK⟩;refine⟨QT h.ij g,h.eg,h.dK,by rw[iu];exact h.len,λj c d b=>?_,?_,h.t7⟩
 .have a:j<f.cN.length:=by have:=c;rwa[iu]at this
  by_cases e:i=j
  .subst e;rw[t',Q];exact .inr ⟨c8.fD,c8.dJ.symm,c8.w_,c8.mem⟩
  .rw[xa e];exact h.place j a a b
 .show Tb.ii f.eg=lj (f.cN.set i x);have:=QS (x:=x) cK;rw[cS (by rw[c8.cN];have:=c8.fD;omega),cS (by rw[Q];have:=c8.fD;omega)]at this;rw[h.cnt];omega
def ey.aaR{f p i x l}(c8:hP f p i)(k:gB x=N)(Q:x.1=p)(g:Dt.hm l=N)(m:∀y∈l,y∈f.dK\/y.1=p):ey ⟨f.cN,f.hand,f.eg,f.dJ.set i x,l⟩:=by
 have h:=c8.right;refine⟨h.ij,h.eg,g,by rw[iu];exact h.len,λj c d b=>?_,h.cnt,λy n=>?_⟩
 .have a:j<f.dJ.length:=by have:=b;rwa[iu]at this
  by_cases e:i=j
  .subst e;refine .inr ?_;rw[t'];exact⟨by rw[c8.cN];exact c8.fD,by rw[c8.cN,Q],k,by rw[c8.cN];exact c8.mem⟩
  .rw[xa e];exact h.place j c c a
 .rcases m y n with q|q
  .exact h.t7 y q
  .exact⟨_,by rw[q];exact c8.mem⟩
def ey.apj{f l}(h:ey f)(a:Dt.hm l=N)(m:∀y∈l,y∈f.dK):ey ⟨f.cN,f.hand,f.eg,f.dJ,l⟩:=
 ⟨h.ij,h.eg,a,h.len,h.place,h.cnt,λy b=>h.t7 y (m y b)⟩
def QU{l p}(h:Dt.hm l=N):Dt.hm (Dt.oD l p).1=N/\ ∀x,x∈(Dt.oD l p).1↔x∈l/\x.1≠p:=by
 rw[Dt.QB h]
 by_cases e:0<=Dt.gI l p 0
 .rw[if_pos e];exact⟨Dt.aoD h _,λx=>by simp_all⟩
 .rw[cS e];exact⟨h,λx=>⟨λa=>⟨a,λb=>e (Dt.q'.2 ⟨x,a,b⟩)⟩,λa=>a.1⟩⟩
def apk{f p i}(c8:hP f p i):∃l,Tb.qh f.eg p=(l,0) /\Tb.iP l/\Tb.rb l/\Tb.ii l+1=Tb.ii f.eg/\ ∀x,Tb.fU x=L->(Tb.nR l x↔x.1≠p/\Tb.nR f.eg x):=
 Tb.ao7 c8.right.eg (apc c8.right.eg (by have:=c8.right.aaK;omega)) c8.fD c8.mem
def ey.rel{f p i}(c8:hP f p i):ey (mV f i p):=by
 have h:=c8.right;have cK:=c8.cK;have u:=c8.fD;have⟨l,D,m,_,B,c⟩:=apk c8;have⟨hi,E⟩:=QU (p:=p) h.dK
 have r:mV f i p=⟨f.cN.set i (0,0,L),f.hand,l,f.dJ.set i mU,(Dt.oD f.dK p).1⟩:=by rw[mV,D]
 rw[r];refine⟨QT h.ij cZ,m,hi,by simp[h.len],λj n o s=>?_,?_,λy w=>?_⟩
 .have a:j<f.cN.length:=by have:=n;rwa[iu]at this
  have b:j<f.dJ.length:=by rwa[h.len]
  by_cases e:i=j
  .subst e;rw[t',t'];simp_all
  .rw[xa e,xa e];rcases h.place j a a b with q|⟨d,z,F,G⟩
   .exact .inl q
   .exact .inr ⟨d,z,F,(c _ (Tb.vx (x:=(f.cN[j].1,(j:J))) d)).2 ⟨λC=>e (h.w9 cK a (by rw[c8.cN];omega) (by rw[c8.cN];omega)),G⟩⟩
 .show Tb.ii l=lj (f.cN.set i (0,0,L));have:=QS (x:=(0,0,L)) cK;rw[cS (by rw[c8.cN];omega)]at this;simp at this;have:=h.cnt;omega
 .have⟨g,A⟩:=(E y).1 w;have⟨k,t⟩:=h.t7 y g;refine⟨k,(c _ ?_).2 ⟨A,t⟩⟩;obtain⟨q,v,rfl⟩:=kr.1 g;exact Tb.vx (x:=(f.dK[q].1,k)) ((Dt.t5 h.dK).2 q v).2.1
def QV{f p i}(h:ey f)(b:1<=p)(c:p<=16)(cK:i<f.cN.length)(ee:Tb.ih f.eg p=(0,L)):
  ∃a,Tb.pb f.eg p i=(a,0) /\Tb.iP a/\Tb.ii a=Tb.ii f.eg+1/\ ∀x,Tb.fU x=L->(Tb.nR a x↔x=(p,(i:J)) \/Tb.nR f.eg x):=by
 have d:=h.ij.g1;have⟨a,k,_,_,_,g,l,_,m,n⟩:=Tb.ao6 (p:=p) (f:=(i:J)) h.eg (Tb.yG.2 ⟨b,R,R,R⟩) (λj dU e=>(apa h.eg b).1 (by rw[ee]) _ ⟨j,dU,Prod.ext e Z⟩) (by have:=h.aaK;omega);simp_all
def ey.QW{f p i l}(h:ey f)(O:gB p=N)(cK:i<f.cN.length)(G:f.cN[i].1=0)(s:Tb.ih f.eg p.1=(0,L))(A:Dt.hm l=N)(B:∀y∈l,y∈f.dK\/y.1=p.1):
  ey {ms f p i with dK:=l} /\hP {ms f p i with dK:=l} p.1 i:=by
 have r:=lf.1 O;have⟨d,D,n,dh,c⟩:=QV h r.1 r.2.1 cK s
 have t:i<f.dJ.length:=by rwa[h.len]
 have o:({ms f p i with dK:=l}:hv)=⟨f.cN.set i (p.1,1,N),f.hand,d,f.dJ.set i p,l⟩:=by rw[ms,D]
 have C:=Tb.vx (x:=(p.1,(i:J))) r.1
 have M:ey {ms f p i with dK:=l}:=by
  rw[o];refine⟨QT h.ij (oC.2 ⟨by omega,by omega,show(0:J) <=1 by decide,show(1:J) <=2147483647 by decide⟩),n,A,by simp[h.len],λj u v w=>?_,?_,λy F=>?_⟩
  .have a:j<f.cN.length:=by have:=u;rwa[iu]at this
   have b:j<f.dJ.length:=by rwa[h.len]
   by_cases e:i=j
   .subst e;rw[t',t'];simp_all
   .rw[xa e,xa e];rcases h.place j a a b with q|⟨m,H,I,K⟩
    .exact .inl q
    .exact .inr ⟨m,H,I,(c _ (Tb.vx (x:=(f.cN[j].1,(j:J))) m)).2 (.inr K)⟩
  .show Tb.ii d=lj (f.cN.set i (p.1,1,N));have:=QS (x:=(p.1,1,N)) cK;rw[if_pos G,cS (show ¬p.1=0 by omega)]at this;have:=h.cnt;omega
  .rcases B y F with q|q
   .have⟨k,z⟩:=h.t7 y q;obtain⟨g,E,rfl⟩:=kr.1 q;exact⟨k,(c _ (Tb.vx (x:=(f.dK[g].1,k)) ((Dt.t5 h.dK).2 g E).2.1)).2 (.inr z)⟩
   grind
 exact⟨M,qi M R eM (by simp[ms])⟩
def QX{l p t}(h:(Dt.hX l p t).2=0):Dt.hm (Dt.hX l p t).1=N/\ (∀y∈(Dt.hX l p t).1,y∈l\/y.1=p) /\ (∀y∈l,y∈(Dt.hX l p t).1) /\ ∃y∈(Dt.hX l p t).1,y.1=p:=by
 refine⟨Dt.aah h,?_⟩;unfold Dt.hX at h⊢;split
 .simp_all
 .rename_i Q;rw[cS Q]at h;split
  .simp_all
  .rename_i c5;rw[cS c5]at h;split
   .rename_i b;have⟨x,c,e⟩:=Dt.q'.1 b;grind
   .refine⟨λy a=>?_,λy a=>ot _ a,(p,t),dw,Z⟩;grind
def ey.KX{f q}(h:ey f)(v:pG f.cN f.hand.toNat q.1 q.2):ey (t_ f q):=by
 have⟨p,A,o,B,C⟩:=v.out;have u:=h.ij.one
 have n:lj q.1=lj f.cN:=by
  rw[<-QN,<-QN]
  have:rY q.1=rY f.cN:=by
   have:∀(a b:I gc),a.length=b.length->(∀i (cK:i<b.length) (c:i<a.length),a[i].1=b[i].1)->rY a=rY b:=by
    intro a
    induction a with
    |nil=>grind
    |cons x r w=>
     intro b t m
     cases b with|nil=>simp at t|cons y s=>have z:x.1=y.1:=m 0 dw dw;have k:=w s eM λi cK c=>m (i+1) eM eM;unfold rY at k⊢;grind
   exact this _ _ p λi cK c=>(o i cK c).1
  rw[this]
 refine⟨⟨by show 1<=q.1.length;omega,by show q.1.length<=8;have:=h.ij.g1;omega,Int.natCast_nonneg _,?_,λj l=>?_⟩,h.eg,h.dK,by show f.dJ.length=q.1.length;rw[h.len,p],λj l e g=>?_,by show Tb.ii f.eg=lj q.1;rw[n];exact h.cnt,h.t7⟩
 .show(((q.2+1)%f.cN.length:V):J)<(q.1.length:J);have:=lp (q.2+1) (show 0<f.cN.length by omega);omega
 .have d:j<q.1.length:=l;show yx q.1[j]=N;have D:=o j R d;have:=oC.1 (h.ij.all j R);exact oC.2 R
 .have d:j<q.1.length:=e;have D:=o j R d;show(q.1[j].1=0/\q.1[j].2.1=0/\f.dJ[j]=mU) \/ (1<=q.1[j].1/\q.1[j].1=f.dJ[j].1/\gB f.dJ[j]=N/\Tb.nR f.eg (q.1[j].1,(j:J)));rw[D.1,D.2];exact h.place j R R g
def ey.new{n}(Q:1<=n)(c:n<=8):ey (kZ n):=by
 refine⟨⟨by simpa[kZ]using Q,by simpa[kZ]using c,show(0:J) <=0 by decide,by simp[kZ];omega,λi cK=>by simp[kZ];decide⟩,Tb.ao4,Z,by simp[kZ],λi cK a b=>.inl (by simp[kZ]),?_,λx h=>by cases h⟩;show Tb.ii (eQ 16 (0,0))=lj (eQ n (0,0,L))
 have:lj (eQ n (0,0,L))=0:=by
  unfold lj;rw[List.countP_eq_zero];intro x h;rw[Gt h]
  decide
 rw[this];decide
def ey.xb{f}(h:ey f){q}(b:q≠0):(Tb.ih f.eg q=(0,L) /\ ∀i (cK:i<f.cN.length),f.cN[i].1≠q) \/ ∃i:V,Tb.ih f.eg q=((i:J),N) /\hP f q i:=by
 rcases aaL f q with⟨Q,_⟩|⟨_,e,_⟩|⟨i,e,_,c8⟩
 .exact dN (s6.2 h) Q
 .refine .inl ⟨e,λi cK a=>?_⟩;have c8:=qi h b cK a;rw[(pJ h.eg).2 ⟨c8.fD,c8.mem⟩]at e
  cases e
 grind
def qj{f p i}(h:hP f p i):jO f p=((i:J),N):=by rw[jO,if_pos (s6.2 h.right)];exact(pJ h.right.eg).2 ⟨h.fD,h.mem⟩
def qk{f p}(h:ey f)(c0:∀i (cK:i<f.cN.length),f.cN[i].1≠p)(O:p≠0):jO f p=(0,L):=by
 rw[jO,if_pos (s6.2 h)];rcases h.xb O with⟨e,_⟩|⟨i,_,c8⟩
 .exact e
 .exact dN c8.cN (c0 i c8.cK)
def Dj{f}(h:ey f):(∃i,∃cK:i<f.cN.length,f.cN[i].1=0/\hA f=(f,mU,L,0)) \/
  ((∀i (cK:i<f.cN.length),f.cN[i].1≠0) /\ (∀i (cK:i<f.cN.length),f.cN[i].2.1≠0) /\hA f=(f,mU,L,6)) \/
  ((∀i (cK:i<f.cN.length),f.cN[i].1≠0) /\ ∃(l:I gc) (a:V) (p:J) (c8:hP f p a),pG f.cN f.hand.toNat l a/\hP (t_ f (l,a)) p a/\ (f.cN[a]'c8.cK).2.1=0/\
   hA f=if(Dt.qg f.dK p).2=N then(t_ f (l,a),f.dJ[a]'c8.O,N,0) else(mV (t_ f (l,a)) a p,f.dJ[a]'c8.O,L,0)):=by
 have qC:=s6.2 h;rcases GV f.cN with⟨e,b⟩|⟨i,e,cK,g⟩
 rotate_left
 .exact .inl ⟨i,cK,g,by rw[hA,cS zk,if_pos Bx]⟩
 refine .inr ?_;rcases aaQ h.ij with⟨eq,j⟩|⟨⟨l,a⟩,eq,c'⟩
 .exact .inl ⟨b,λi cK=>Z9 j i cK,by rw[hA,cS zk,cS v7,eq]⟩
 refine .inr ⟨b,l,a,have⟨r,c,k,d,s⟩:=c'.out;have c8:=qi h (b a c) c Z;have m:=h.KX (q:=(l,a)) c';have n:=qi m (b a c) (by exact d) (k a c d).1;⟨f.cN[a].1,c8,c',n,by simp_all,?_⟩⟩;have o:=c8.O;rw[hA,cS zk,cS v7,eq];simp[nT o];rw[c8.dJ]
structure Act where
 kind:J
 id:J
 now:J
 body:dG
 p:e'
def j8(l:I gc)(w:V->J):Prop:=∀q:V,1<=q->q<=16->(∃i,∃cK:i<l.length,l[i].1=(q:J) /\w q=l[i].2.1) \/ ((∀i (cK:i<l.length),l[i].1≠(q:J)) /\w q=0)
def j8.set{l w w' i}{x:gc}(h:j8 l w)(cK:i<l.length)(u:∀j (dU:j<l.length),l[j].1≠0->l[j].1=l[i].1->j=i)
  (f:∀q:V,1<=q->q<=16->(x.1=(q)->w' q=x.2.1) /\ (x.1≠(q)->l[i].1=(q)->w' q=0) /\ (x.1≠(q)->l[i].1≠(q)->w' q=w q)):j8 (l.set i x) w':=by
 intro q Q a;have⟨g,fh,k⟩:=f q Q a
 have t:∀j (dU:j<(l.set i x).length),(l.set i x)[j]=if i=j then x else l[j]' xA:=λj dU=>by grind
 by_cases m:x.1=(q:J)
 .grind
 by_cases b:l[i].1=(q:J)
 .grind
 rcases h q Q a with⟨j,dU,c,d⟩|⟨c,d⟩
 .have n:i≠j:=λe=>b eM;refine .inl ⟨j,xA,?_,?_⟩
  .simp_all
  simp_all
 .refine .inr ⟨λj dU e=>?_,by omega⟩;grind
def j8.same{l a w}(h:j8 l w)(g:a.length=l.length)(s:∀i (cK:i<l.length) (d:i<a.length),a[i].1=l[i].1/\a[i].2.1=l[i].2.1):j8 a w:=by
 intro q Q b;rcases h q Q b with⟨j,f,e,c⟩|⟨e,c⟩
 .grind
 simp_all
def hP.w9{f p i j}(h:hP f p i)(a:j<f.cN.length)(e:f.cN[j].1=p):j=i:=
 h.right.w9 a h.cK (by rw[e];have:=h.fD;omega) (by rw[e,h.cN])
def hP.uniq{f p i}(h:hP f p i):∀j (a:j<f.cN.length),f.cN[j].1≠0->f.cN[j].1=(f.cN[i]'h.cK).1->j=i:=λj a cW e=>h.right.w9 a h.cK cW e
def j8.at{f w p i}(h:j8 f.cN w)(c8:hP f p i):w p.toNat=(f.cN[i]'c8.cK).2.1:=by
 have c:=c8.fD;have a:=c8.AG;have cK:=c8.cK;rcases h p.toNat R R with⟨j,b,d,e⟩|⟨d,_⟩
 .have d:f.cN[j].1=p:=by rw[d];omega
  have:=c8.w9 b d;simp_all
 .exact dN (c8.cN.trans (by omega:p=((p.toNat:V):J))) (d i c8.cK)
def GW(w:V->J)(p v:J):V->J:=λq=>if q=p.toNat then v else w q
def s7(w:V->J)(a:Act)(e:J):V->J:=
 if e≠0 then w else if a.kind=1 then GW w a.id (w a.id.toNat+1) else if a.kind=2 then GW w a.id (w a.id.toNat-1) else if a.kind=6 then GW w a.p.1 1 else w
def QY{w}{p v:J}{q:V}(h:p=(q)):GW w p v q=v:=if_pos R
def QZ{w}{p v:J}{q:V}(O:0<=p)(h:p≠(q)):GW w p v q=w q:=cS R
structure oF(f:hv)(w:V->J)(a:Act)(r:hv×J):Prop where
 fm:ey r.1
 pins:j8 r.1.cN (s7 w a r.2)
 id:r.2=0->a.kind=1\/a.kind=2->1<=a.id/\a.id<=16/\0<=w a.id.toNat/\w a.id.toNat<=2147483647
 dJ:r.2=0->a.kind=6->1<=a.p.1/\a.p.1<=16
def oF.none{f w a e}(h:ey f)(hw:j8 f.cN w)(b:e≠0):oF f w a (f,e):=by refine⟨h,?_,λh=>dN h b,λh=>dN h b⟩;rwa[s7,if_pos b]
def oF.AI{f w a}(h:ey f)(hw:j8 f.cN w)(k:a.kind=1):oF f w a (l5 f a.id):=by
 rcases vA f a.id with e|⟨i,e,c8⟩
 .rw[l5,if_pos e];exact .none h hw e
 have cK:=c8.cK;have j:=c8.fD;have r:=oC.1 (h.ij.all i cK);have c:=hw.at c8;rw[l5,cS v7,e,gz,j7 cK]
 by_cases g:2147483647<=f.cN[i].2.1
 .rw[if_pos g];exact .none h hw cZ
 rw[cS g];refine⟨ey.pins c8 (oC.2 ?_) c8.cN,?_,λ_ _=>⟨c8.fD,c8.AG,R,R⟩,λ_ dY=>R⟩
 .show 0<=f.cN[i].1/\f.cN[i].1<=16/\0<=f.cN[i].2.1+1/\f.cN[i].2.1+1<=2147483647;omega
 .show j8 (f.cN.set i (AH f.cN[i])) (s7 w a 0);rw[s7,cS cZ,if_pos k];refine hw.set cK c8.uniq λq Q d=>⟨λe=>?_,λe b=>dN b e,λe b=>?_⟩
  .have e:=e;rw[QY (by rwa[<-c8.cN]),c];rfl
  .rw[QZ R (by rwa[<-c8.cN])]
def oF.apm{f w a}(h:ey f)(hw:j8 f.cN w)(k:a.kind=2):oF f w a (mr f a.id):=by
 rcases vA f a.id with e|⟨i,e,c8⟩
 .rw[mr,if_pos e];exact .none h hw e
 have cK:=c8.cK;have j:=c8.fD;have r:=oC.1 (h.ij.all i cK);have c:=hw.at c8;rw[mr,cS v7,e,gz,j7 cK]
 by_cases g:f.cN[i].2.1=0
 .rw[if_pos g];exact .none h hw cZ
 rw[cS g];refine⟨ey.pins c8 (oC.2 ?_) c8.cN,?_,λ_ _=>⟨c8.fD,c8.AG,R,R⟩,λ_ dY=>R⟩
 .show 0<=f.cN[i].1/\f.cN[i].1<=16/\0<=f.cN[i].2.1-1/\f.cN[i].2.1-1<=2147483647;omega
 .show j8 (f.cN.set i (Di f.cN[i])) (s7 w a 0);rw[s7,cS cZ,cS R,if_pos k];refine hw.set cK c8.uniq λq Q d=>⟨λe=>?_,λe b=>dN b e,λe b=>?_⟩
  .have e:=e;rw[QY (by rwa[<-c8.cN]),c];rfl
  .rw[QZ R (by rwa[<-c8.cN])]
def oF.write{f w a}(h:ey f)(hw:j8 f.cN w)(k:a.kind=3):oF f w a (i0 f a.id a.body a.now):=by
 rcases vA f a.id with e|⟨i,e,c8⟩
 .rw[i0,if_pos e];exact .none h hw e
 have cK:=c8.cK;have b:=c8.O;have r:=lf.1 c8.w_;rw[i0,cS (by rw[e];simp),e,gz,j7 cK,nT b]
 by_cases g:f.cN[i].2.1=0
 .rw[if_pos g];exact .none h hw cZ
 rw[cS g]
 by_cases g:16<a.body.size
 .rw[if_pos g];exact .none h hw cZ
 rw[cS g]
 by_cases g:2147483647<=f.dJ[i].2.1
 .rw[if_pos g];exact .none h hw cZ
 rw[cS g]
 by_cases g:(Dt.hX f.dK a.id a.now).2≠0
 .rw[if_pos g];exact .none h hw g
 rw[cS g];have⟨c,d,_⟩:=QX (show(Dt.hX f.dK a.id a.now).2=0 by omega);refine⟨ey.aaR c8 (lf.2 ?_) c8.dJ c d,?_,λ_ dY=>R,λ_ dY=>R⟩
 .show 1<=f.dJ[i].1/\f.dJ[i].1<=16/\1<=f.dJ[i].2.1+1/\f.dJ[i].2.1+1<=2147483647/\a.body.size<=16;omega
 .show j8 f.cN (s7 w a 0);rw[s7,cS cZ,cS R,cS R,cS R];exact hw
def j8.rel{f w p i}(hw:j8 f.cN w)(c8:hP f p i)(cW:(f.cN[i]'c8.cK).2.1=0):j8 (mV f i p).cN w:=by
 have cK:=c8.cK;have c:=hw.at c8;have b:=c8.fD;refine hw.set cK c8.uniq λq Q h=>⟨λe=>?_,λe a=>?_,λ_ _=>Z⟩
 .omega
 .have:p.toNat=q:=by rw[<-c8.cN,a];exact gz q
  simp_all
def oF.drop{f w a}(h:ey f)(hw:j8 f.cN w)(k:a.kind=5):oF f w a (oE f a.id):=by
 rcases vA f a.id with e|⟨i,e,c8⟩
 .rw[oE,if_pos e];exact .none h hw e
 have cK:=c8.cK;have r:=oC.1 (h.ij.all i cK);rw[oE,cS v7,e,gz,j7 cK]
 by_cases g:0<f.cN[i].2.1
 .rw[if_pos g];exact .none h hw cZ
 rw[cS g];refine⟨ey.rel c8,?_,λ_ dY=>R,λ_ dY=>R⟩;show j8 (mV f i a.id).cN (s7 w a 0);rw[s7,cS cZ,cS R,cS R,cS R];exact hw.rel c8 R
def apn(f p now gl):((mW f p now gl).1=f/\ (mW f p now gl).2≠0) \/
  ∃(i:V) (cK:i<f.cN.length) (l:I (J×J)),f.cN[i].1=0/\gB p=N/\ey f/\pI f.cN=((i:J),N) /\Tb.ih f.eg p.1=(0,L) /\mW f p now gl=({ms f p i with dK:=l},0) /\ey {ms f p i with dK:=l} /\hP {ms f p i with dK:=l} p.1 i/\
   (gl=L->l=f.dK) /\ (gl=N->l=(Dt.hX f.dK p.1 now).1):=by
 unfold mW
 by_cases b:vB f p now
 .rw[if_pos b];simp_all
 rw[cS b];have cU:=nA λh=>b (.inl h);have M:=s6.1 cU
 have P:gB p=N:=by
  cases e:gB p with
  |true=>rfl
  |false=>exact dN (.inr (.inl e)) b
 by_cases c:(Tb.ih f.eg p.1).2=N
 .rw[if_pos c];simp_all
 rw[cS c];have a:=aaH (p:=p.1) (l:=f.eg) eM;rcases GV f.cN with⟨e,n⟩|⟨i,e,cK,z⟩
 .rw[if_pos (by rw[e])];simp_all
 rw[cS (by rw[e];simp),e,gz];have⟨j,t,_⟩:=QV M (lf.1 P).1 (lf.1 P).2.1 cK a;rw[cS hN]
 cases gl with
 |false=>rw[cS cZ];have⟨k,m⟩:=M.QW P cK z a M.dK λy d=>.inl d;exact .inr ⟨i,cK,f.dK,z,P,M,Z,a,Z,k,m,λ_=>Z,λh=>by cases h⟩
 |true=>
  rw[if_pos Z]
  by_cases g:(Dt.hX f.dK p.1 now).2≠0
  .rw[if_pos g];simp_all
  rw[cS g];have⟨k1,eK,_⟩:=QX (show(Dt.hX f.dK p.1 now).2=0 by omega);have⟨k,m⟩:=M.QW P cK z a k1 eK;exact .inr ⟨i,cK,_,z,P,M,Z,a,Z,k,m,(λh=>by cases h),λ_=>Z⟩
def oF.load{f w a}(b)(h:ey f)(hw:j8 f.cN w)(k:a.kind=6):oF f w a (mW f a.p a.now b):=by
 rcases apn f a.p a.now b with⟨s,c⟩|⟨i,cK,l,z,P,_,_,g,e,r,o,_⟩
 .have:=oF.none (a:=a) h hw c;grind
 rw[e];have m:=o.fD;refine⟨r,?_,λ_ dY=>R,λ_ _=>⟨o.fD,o.AG⟩⟩;show j8 (f.cN.set i (a.p.1,1,N)) (s7 w a 0);rw[s7,cS cZ,cS R,cS R,if_pos k];refine hw.set cK (λj n cW e=>by omega) λq Q d=>⟨λe=>?_,λ_ c=>?_,λe _=>?_⟩
 .exact QY e
 .omega
 .exact QZ R e
namespace Dt
open Go.Proofs Go.RowKit
def apC(l now g2)(dv:l.length<=1000000)(c0:now<=9223372036854775807):d0 cQ 232 [hk l,.int .i64 now,.int .i64 g2] (Gi (pa l now g2)):=by
 refine d5 Tryz.func232 3 Z cV (cO ?_)
 refine dT (λQ=>?_) λQ=>?_
 .exact dg Z (by simp[pa,Q];rfl)
 refine dT (λc5=>?_) λc5=>?_
 .exact dg Z (by simp[pa,c5];rfl)
 refine df (t4 l dv) (cO ?_)
 refine hV (λa=>?_) λa=>?_
 .exact dg Z (by simp at a;simp[pa,a];rfl)
 simp at a;have⟨e,b⟩:=t5 a
 have c:pa l now g2=l.filterMap (vw now g2):=by simp[pa,Q,c5,a]
 refine eW (D:=V) (λk=>[(1,.d (.int .i64 now)),(2,.d (.int .i64 g2)),(7,.own 37),(21,.d (hk l)),(22,.d (.int .i64 (l.map gf).length)),(23,.d (.int .i64 k))]) (λk=>[(37,.row (((l.take k).filterMap (vw now g2)).map h1) 1 L)])
  (λk=>k<=l.length) (λk=>l.length-k) 0 (eY _) (nd (.row 7 37 1) g_ (dH mc ez dV)) ?_
 intro k c_
 conv=>whnf
 refine dT (λh=>?_) λh=>?_
 .have eR:k<l.length:=by simpa using h
  have⟨f,g,i,j,m⟩:=b k eR;refine ea Ew (cO ?_);refine d2 (x:=gf l[k]) iJ (cO ?_);refine fz Z (c7 ?_);have n (x:I (J×J)) (o:l.take (k+1)=x):True:=trivial
  refine pA (λdu=>?_) λdu=>?_
  .have MJ:=aaq (vw now g2) (l.take k);refine fO 100 100 T9 cZ cZ cZ (c7 ?_);exact⟨k+1,R,R,dX (dH mc ⟨by rw[mb eR,aa0,jl];simp[vw,du];rfl,dM⟩ dV)⟩
  .exact⟨k+1,R,R,dX (dH mc ⟨by rw[mb eR,aa0];simp[vw,du];rfl,dM⟩ dV)⟩
 .have:k=l.length:=by simp at h;omega
  subst this;exact dg Z (by rw[c,rW];rfl)
end Dt
namespace Dk
section
open Go.Conc Go.Proofs
set_option maxRecDepth 100000
def X'{P f dx d}(k:nC P f)(h:∀(cX:jy) (w M vs),lS M dx vs->g7 P cX.main cX.F f vs w λv w'=>w'=w/\e4 M d v):d0 P f dx d:=
 ⟨k,λcX w M vs c a cP=>(h cX w M vs cP).mono λv w' q=>by
  obtain⟨rfl,q⟩:=q
  exact⟨v,M,Z,⟨Z,Z,Z,fi _,λ_ _ _=>Z⟩,.refl M,a,λb o v h=>.inl h,q⟩⟩
def JX{M d1 d vs}(h:lS M [d1,d] vs):∃b v,vs=#[b,v] /\e4 M d1 b/\e4 M d v:=by
 have⟨Q,a⟩:=h
 match vs,Q with
 |⟨[x,y]⟩,_=>exact⟨x,y,Z,a 0 _ x Z Z,a 1 _ y Z Z⟩
def Ya(s c w):(callFunc 166 #[.string s,.int .u8 c]).run cQ w=.ok (.value (.int .i64 (kU s.data.toList c.toNat.toUInt8))) w:=by rw[JY aki cV cV cV (e:=akj) cV,Lib.run_indexByteString];rfl
def Yb(s c w es):(callFunc 166 #[.string s,.int .u8 c]).events cQ w es=es.push ⟨.mark (.extern 166),L,N⟩:=by
 rw[JZ aki cV cV cV (e:=akj) cV]
 change Sem.events cQ (do
  let b <-akk (.string s)
  let a <-akl (.int .u8 c)
  match (iz b.size).find? λi=>b[i]! ==a with
  |some i=>pure (goInt i)|none=>pure (goInt (-1))) w _=_
 simp[akk,akl,jz,hU,px,kT];split<;>rfl
def akm(s c w):(callFunc 128 #[.string s,.int .u8 c]).run cQ w=.ok (.value (.int .i64 (wR s.data.toList c.toNat.toUInt8))) w:=by rw[JY akn cV cV cV (e:=ako) cV,Lib.run_countString];rfl
def akp{P a o f fn dD ats vs v}(c:o.op=.call {callee:=.value (.func f),args:=dD,argTypes:=ats})(cY:dD.map a.eval=vs)
  (r:∀w,(callFunc f vs).run P w=.ok (.value v) w)(h:∀w es,(callFunc f vs).events P w es=es.push ⟨.mark (.extern f),L,N⟩)(w):
  (execOp a.eval o).run P w=.ok (.value v) w/\listed P fn a o w=#[]:=by
 have e:execOp a.eval o=callFunc f vs:=by have b:a.eval (.func f)=.func (.func f) #[] #[]:=Z;subst cY;simp[execOp,c,ip,b,sH,iq]
 unfold listed;rw[e];exact⟨r w,by rw[h];rfl⟩
def dE.x{main cU c3 f vs v g w}{S:dP->da->Prop}(e:∀w,c3 w w #[])(r:∀w,(callFunc f vs).run cQ w=.ok (.value v) w)(i:∀w es,(callFunc f vs).events cQ w es=es.push ⟨.mark (.extern f),L,N⟩)(k:∀c2,cU w c2->dR cQ main cU c3 S (put g v) c2)
 (o:(e6 g).op=.call {callee:=.value (.func f),args:=u' g,argTypes:=FO g}:=by kernel_rfl)(y:(u' g).map (eA g).eval=vs:=by kernel_rfl)(h:iD g:=by exact kP):dR cQ main cU c3 S g w:=
 dR.val h λc2 a=>have⟨p,q⟩:=akp (fn:=g.frame.fn) o y r i c2;⟨_,c2,p,by rw[q];exact e c2,k _ a⟩
def akq(s c):d0 cQ 122 [.str s,.int .u8 c] (.int .i64 (kU s.data.toList c.toNat.toUInt8)):=by
 refine X' ⟨Tryz.f122,akr,cV,cV⟩ λcX w M vs cP=>?_;obtain⟨e,v,rfl,Q,b⟩:=JX cP
 cases Q;cases b
 exact qV akr λcs dy d=>dE.p 8 (dE.x oZ (Ya s c) (Yb s c) λ_ a=>dE.p 3 (dR.rely tC.trans (d.z ⟨Z,.int _ _⟩) a))
def aks(s):d0 cQ 92 [.str s,.str ⟨#[32]⟩] (.int .i64 (wR s.data.toList 32)):=by
 refine X' ⟨Tryz.f92,akt,cV,cV⟩ λcX w M vs cP=>?_;obtain⟨c,v,rfl,Q,b⟩:=JX cP
 cases Q;cases b
 exact qV akt λcs dy d=>dE.p 26 (dE.x oZ (akm s 32) (λw es=>by rw[JZ akn cV cV cV (e:=ako) cV];rfl) λ_ a=>dE.p 3 (dR.rely tC.trans (d.z ⟨Z,.int _ _⟩) a))
end
section
open Go.Conc Go.Lib Go.Proofs
set_option maxRecDepth 100000
section
variable {P:en} {w:da}
theorem aku(a es):(sameAddr a a).events P w es=es:=by simp[sameAddr]
theorem akv{yp CQ j}(a)(O:P.underlying yp=U (.pointer CQ))(t:P.info? CQ=U j)(es):(binOp .neq yp (.pointer (U a)) (.pointer (U a))).events P w es=es:=by
 have h:∀(d:V),(oh (d+1) yp (.pointer (U a)) (.pointer (U a))).run P w=.ok N w:=λd=>by
  simp[oh,fx O,sizeOf,typeInfo,t,akw]
 have b:∀(d:V) (es:d' hJ),(oh (d+1) yp (.pointer (U a)) (.pointer (U a))).events P w es=es:=λd es=>by
  simp[oh,fx O,sizeOf,typeInfo,t,akw,aku]
 simp[binOp];simp[Op.equal,Op.maxDepth,h 9999,b 9999]
theorem akx{fT dst u e j c}(a)(b:P.underlying fT=U .unsafePointer)(cP:P.underlying dst=U (.pointer u))(d:P.info? u=U j)
  (s:w.shape? a.block=U (e,c))(h:liesAt P P.depth e (c/P.cellsOf e) a.off u 1=N)(es):
  (convert fT dst (.pointer (U a))).events P w es=es:=by
 simp[convert,fx b,fx cP,Conv.unsafePointer,Conv.seenAt,viewAt,s,Yd,h,sizeOf,typeInfo,d]
theorem aky{a:e8}{o yp t2 CQ j x y eb}(b:o.op=.binOp .neq yp x y t2)(c:a.eval x=.pointer (U eb))(d:a.eval y=.pointer (U eb))(O:P.underlying yp=U (.pointer CQ))(e:P.info? CQ=U j)(w):
  (execOp a.eval o).run P w=.ok (.value (.bool L)) w/\ (execOp a.eval o).events P w #[]=#[]:=by
 have Q:=run_neq_ptr_same (P:=P) w eb O e;have c5:=λes=>akv (w:=w) eb O e es;constructor
 .simp[execOp,b,c,d,eqGuard,Q]
 .simp[execOp,b,c,d,eqGuard,Q,c5]
theorem akz{a:e8}{o fT dst t x eb v}(b:o.op=.convert fT dst x)(c:a.eval x=.pointer (U eb))(s:P.underlying fT=U (.pointer t))(cP:P.underlying dst=U .unsafePointer)
  (z:(P.info? t).map (λi=>gy (i.size=0))=U L){w}(h:w.cell? eb=U v):(execOp a.eval o).run P w=.ok (.value (.pointer (U eb))) w/\ (execOp a.eval o).events P w #[]=#[]:=by
 have r:=run_convert_to_unsafe (P:=P) s cP z h;have e:=events_convert_to_unsafe (P:=P) s cP z h #[];constructor
 .simp[execOp,b,c,hc,r,hj,hU]
 .simp[execOp,b,c,jz,r,e,kT,px]
theorem akA{a:e8}{o fT dst u e j cells x eb}(b:o.op=.convert fT dst x)(c:a.eval x=.pointer (U eb))(c':P.underlying fT=U .unsafePointer)(cP:P.underlying dst=U (.pointer u))(d:P.info? u=U j)
  {w}(f:w.shape? eb.block=U (e,cells))(g:liesAt P P.depth e (cells/P.cellsOf e) eb.off u 1=N):(execOp a.eval o).run P w=.ok (.value (.pointer (U eb))) w/\ (execOp a.eval o).events P w #[]=#[]:=by
 have dQ:=run_from_unsafe (P:=P) w eb c' cP d f g;have he:=akx (P:=P) (w:=w) eb c' cP d f g #[];constructor
 .simp[execOp,b,c,hc,dQ,hj,hU]
 .simp[execOp,b,c,jz,dQ,he,kT,px]
theorem akB{a:e8}{o t x y eb v old w}(d:o.op=.store t x y)(f:a.eval x=.pointer (U eb))(i:a.eval y=v)(g:(sizeOf t).run P w=.ok 1 w)(Q:v.oneCell'=N)(cY:v.cells=#[v])(c:w.cell? eb=U old)(k:w.frozen? eb=L):
  (execOp a.eval o).run P w=.ok .skip (w.setCell eb v) /\ ∀e∈(execOp a.eval o).events P w #[],e=⟨.cell eb,N,L⟩:=by
 have b:eb.add 0=eb:=by simp[o0]
 have r:(store (eb.add 0) v).run P w=.ok () (w.setCell eb v):=by rw[b,I7 P w _ v _ Q,c];simp[k]
 have j:∀es,(store (eb.add 0) v).events P w es=es.push ⟨.cell eb,N,L⟩:=λes=>by
  rw[b,I8 P w es _ v _ Q,c];grind
 constructor
 .simp[execOp,d,f,i,z5,lU,storeVar,g,cY,storeCells,r]
 .intro e h
  have l:(sizeOf t).events P w #[]=#[]:=by
   have s:∀es,(typeInfo t).events P w es=es:=λes=>by
    simp[typeInfo]
    cases P.info? t<;>simp
   simp[sizeOf]
  simpa[execOp,d,f,i,z5,lU,storeVar,g,cY,storeCells,r,j,l]using h
end
end
section
open Go.Conc Go.Lib Go.Proofs
set_option maxRecDepth 100000
structure h9(F S:V->Prop)(w w':da):Prop where
 os:w'.os=w.os
 tape:w'.tape=w.tape
 output:w'.output=w.output
 size:w.heap.size<=w'.heap.size
 block:∀k,k<w.heap.size->¬F k->¬S k->w'.heap[k]?=w.heap[k]?
theorem h9.refl{F S}(w):h9 F S w w:=⟨Z,Z,Z,fi _,λ_ _ _ _=>Z⟩
theorem h9.trans{F S a b c}(h:h9 F S a b)(d:h9 F S b c):h9 F S a c:=
 ⟨d.os.trans h.os,d.tape.trans h.tape,d.output.trans h.output,fG h.size d.size,λk q e f=>(d.block k (sR q h.size) e f).trans (h.block k q e f)⟩
theorem h9.sS{F S w w'}(h:e0 F w w'):h9 F S w w':=⟨h.os,h.tape,h.output,tD h.size.symm,λk _ q _=>h.block k q⟩
theorem h9.mono{F S a w w'}(h:h9 F S w w')(s:∀k,k<w.heap.size->S k->a k):h9 F a w w':=⟨h.os,h.tape,h.output,h.size,λk b c d=>h.block k b c λq=>d (s k b q)⟩
theorem h9.Ye{F r w w'}(h:w.grownBy w' r):h9 F (λk=>U k=r) w w':=⟨h.os,h.tape,h.output,h.size,λk q _ a=>h.block k q a⟩
theorem vk{w:da}{b o cs T f}(h:w.heap[b]?=U (.cells cs T f))(v):(w.setCell ⟨b,o,cL⟩ v).heap[b]?=U (.cells (cs.setIfInBounds o v) T f):=by simp[Ux,VV,h]
theorem tR{w:da}{b o k}(h:k≠b)(v):(w.setCell ⟨b,o,cL⟩ v).heap[k]?=w.heap[k]?:=by simp[Ux,VV,Ne.symm h]
theorem h9.J0{F w b o}(v):h9 F (λk=>k=b) w (w.setCell ⟨b,o,cL⟩ v):=
 ⟨rfl,rfl,rfl,MM,λk _ _ q=>tR q v⟩
theorem Ge{F w b o}(a:¬F b)(v):oS F w (w.setCell ⟨b,o,cL⟩ v):=
 ⟨rfl,rfl,rfl,MM,λk q=>tR (w:=w) (λe:k=b=>a (by simp_all)) v⟩
theorem Yf{F w es}(h:es=#[]):jd F w w es:=h▸.idle F w
theorem Ps{P fn a o w}(h:(execOp a.eval o).events P w #[]=#[]):listed P fn a o w=#[]:=by unfold listed;rw[h,B_]
theorem Yg{F b o}(a:¬F b){es}(h:∀e∈es,e=⟨.cell ⟨b,o,cL⟩,L,L⟩)(w):jd F w w es:=⟨.refl _ _,λe c=>by rw[h e c];exact⟨Z,a⟩⟩
theorem akC{F w b o}(a:¬F b)(v){es}(h:∀e∈es,e=⟨.cell ⟨b,o,cL⟩,N,L⟩):jd F w (w.setCell ⟨b,o,cL⟩ v) es:=⟨Ge a v,λe c=>by rw[h e c];exact⟨Z,a⟩⟩
noncomputable def akD:TypeInfo:=(cQ.info? 52).getD default
theorem Yh:cQ.info? 52=U akD:=cV
theorem Pt:cQ.underlying 50=U (.pointer 52):=cV
theorem Yi:cQ.underlying 78=U .unsafePointer:=cV
abbrev eZ(B:V):dr:=.pointer (U ⟨B,0,cL⟩)
theorem ni{w:da}{b o cs T f x}(h:w.heap[b]?=U (.cells cs T f))(a:cs[o]?=U x):w.cell? ⟨b,o,cL⟩=U x:=by rwa[sJ h]
theorem akE{w:da}{b x y T f}(h:w.heap[b]?=U (.cells #[x,y] T f)):w.shape? b=U (T,2):=by simp[Gf,h]
section
variable {main:di} {F:V->Prop} {B b:V} {u v:dr} {w:da} {dy:dP->da->Prop} {g:dP} {a:d' dr} {T:eF}
theorem dE.wS(z:V)(v)(r:∀c2,e0 F w c2->(execOp (eA g).eval (e6 g)).run cQ c2=.ok (.value v) c2/\ (execOp (eA g).eval (e6 g)).events cQ c2 #[]=#[])(k:∀c2,e0 F w c2->dE main F dy (e7 z (f' g v)) c2)(h:mi g:=by exact sM)(p:j1 cQ main (f' g v) (e7 z (f' g v)):=by exact o3):dE main F dy g w:=
 dR.zZ h λc2 q=>⟨_,c2,(r c2 q).1,Yf (Ps (r c2 q).2),dR.pure tC.trans oZ p (k _ q)⟩
theorem dE.eB(z off:V)(n:¬F b)(c:∀c2,e0 F w c2->c2.cell? ⟨b,off,cL⟩=U v)(k:∀c2,e0 F w c2->dE main F dy (e7 z (f' g v)) c2)(o:(e6 g).op=.load (o2 g) (pw g):=by kernel_rfl)(j:(eA g).eval (pw g)=.pointer (U ⟨b,off,cL⟩):=by kernel_rfl)(t:∀w,(isAgg (o2 g)).run cQ w=.ok L w:=by intro w;kernel_rfl)
 (h:mi g:=by exact sM)(p:j1 cQ main (f' g v) (e7 z (f' g v)):=by exact o3):dE main F dy g w:=
 dR.zZ h λc2 r=>have⟨x,y⟩:=N2 o j t (c c2 r);⟨_,c2,x,Yg n (λe h=>y e (mem_listed h)) c2,dR.pure tC.trans oZ p (k _ r)⟩
theorem dE.s1(z off v)(n:¬F b)(c:∀c2,e0 F w c2->c2.heap[b]?=U (.cells a T (0,0)))(k:∀c2,e0 F w c2->dE main F dy (e7 z (f' g undef)) (c2.setCell ⟨b,off,cL⟩ v))(d:a[off]?=U u:=by rfl)(Q:v.oneCell'=N:=by rfl)(c5:v.cells=#[v]:=by rfl)(o:(e6 g).op=.store (o2 g) (pw g) (x9 g):=by kernel_rfl)
 (j:(eA g).eval (pw g)=.pointer (U ⟨b,off,cL⟩):=by kernel_rfl)(y:(eA g).eval (x9 g)=v:=by kernel_rfl)(t:∀w,(sizeOf (o2 g)).run cQ w=.ok 1 w:=by intro w;kernel_rfl)(h:mi g:=by exact sM)(p:j1 cQ main (f' g undef) (e7 z (f' g undef)):=by exact o3):dE main F dy g w:=
 dR.Wd h λfv r=>have c:=c fv r;have⟨x,f⟩:=akB o j y (t fv) Q c5 (ni c d) (frozen_of_heap c off);⟨_,x,akC n _ λe h=>f e (mem_listed h),dR.pure tC.trans oZ p (k _ r)⟩
theorem Pu{p}(O:p=.pointer cL\/p=eZ B)(a:¬F B)(h:w.heap[B]?=U (.cells #[p,v] 52 (0,0))):
  g7 cQ main F 45 #[eZ B] w λr w'=>r=.tuple #[] /\w'.heap[B]?=U (.cells #[eZ B,v] 52 (0,0)) /\h9 F (λk=>k=B) w w':=by
 have st:∀c2,e0 F w c2->c2.heap[B]?=U (.cells #[p,v] 52 (0,0)):=λ_ r=>(r.block _ a).trans h
 refine qV Tryz.func45 λcs dy l=>dE.p 5 ?_;rcases O with rfl|rfl
 .refine dE.eB 6 0 a (λ_ r=>ni (st _ r) Z) λw r=>?_;refine dE.wS 0 (eZ B) (λ_ q=>akz (fT:=50) (dst:=78) (t:=52) (x:=.tmp 8) cV cV Pt Yi cV (ni (st _ (r.trans q)) Z)) λw q=>?_;have r:=r.trans q
  refine dE.x (f:=64) (vs:=#[eZ B]) (v:=eZ B) oZ (λw=>by rw[JY akF cV cV cV (e:=akG) cV];rfl) (λw es=>by rw[JZ akF cV cV cV (e:=akG) cV];rfl) λw q=>?_;have r:=r.trans q
  refine dE.wS 2 (eZ B) (λ_ q=>akA (fT:=78) (dst:=50) (u:=52) (x:=.tmp 10) cV cV Yi Pt Yh (akE (st _ (r.trans q))) cV) λw q=>?_;have r:=r.trans q
  exact dE.s1 2 0 (eZ B) a (λ_ q=>st _ (r.trans q)) λw q=>have r:=r.trans q;l.z ⟨Z,vk (st _ r) _,(h9.sS r).trans (.J0 _)⟩
 .refine dE.eB 8 0 a (λ_ r=>ni (st _ r) Z) λw r=>?_;refine dE.eB 1 0 a (λ_ q=>ni (st _ (r.trans q)) Z) λw q=>?_;have r:=r.trans q
  exact dE.wS 4 (.bool L) (λw q=>aky (eb:=⟨B,0,cL⟩) (yp:=50) (t2:=50) (CQ:=52) (x:=.tmp 17) (y:=.tmp 18) cV cV cV Pt Yh w) λw q=>have r:=r.trans q;l.z ⟨Z,st _ r,.sS r⟩
end
end
section
open Go.Conc Go.Lib Go.Proofs
set_option maxRecDepth 100000
theorem pu.k'{cN w w' v n dD}(h:pu cN w v n dD)(b:∀k,v.ownBlock=U k->k<w.heap.size->w'.heap[k]?=w.heap[k]?):pu cN w' v n dD:=by
 cases cN
 .refine⟨h.1,?_⟩;rcases h.2 with h|⟨g,cap,c,rfl,Q,a,eG⟩
  .grind
  .exact .inr ⟨g,cap,c,Z,Q,(b g Z (kL.1 a).1).trans a,eG⟩
 .refine⟨h.1,?_⟩;rcases h.2 with h|⟨g,cap,c,f,rfl,Q,a,eG⟩
  .grind
  .exact .inr ⟨g,cap,c,f,Z,Q,(b g Z (kL.1 a).1).trans a,eG⟩
theorem pu.lt{cN w v n dD}(h:pu cN w v n dD):∀k,v.ownBlock=U k->k<w.heap.size:=λk a=>(h.f.lt k a).2
theorem pu.one{cN w v n dD}(h:pu cN w v n dD):v.oneCell'=N/\v.cells=#[v]:=by rcases h.f.2 with⟨rfl,_⟩|⟨g,cap,c,f,rfl,_⟩<;>exact g_
def ig(cN:di)(B:V)(p:dr)(r:dB V)(l:I gM)(w:da):Prop:=∃v,w.heap[B]?=U (.cells #[p,v] 52 (0,0)) /\pu cN w v l.length (byteCells l) /\v.ownBlock=r
theorem ig.ne{cN B p r l w}(h:ig cN B p r l w):r≠U B:=by obtain⟨v,Q,c5,rfl⟩:=h;exact Yj c5.f Q cZ
theorem ig.lt{cN B p r l w}(h:ig cN B p r l w):B<w.heap.size/\ ∀k,r=U k->k<w.heap.size:=by obtain⟨v,Q,a,rfl⟩:=h;exact⟨(kL.1 Q).1,a.lt⟩
theorem ig.k'{cN B p r l w w'}(h:ig cN B p r l w)(b:w'.heap[B]?=w.heap[B]?)(d:∀k,r=U k->w'.heap[k]?=w.heap[k]?):ig cN B p r l w':=by have⟨v,Q,a,eG⟩:=h;exact⟨v,b.trans Q,a.k' λk c _=>d k (eG▸c),eG⟩
theorem akH{a:e8}{o x y t u v s fN w w'}(h:o.op=.call {callee:=.builtin .append,args:=#[x,y],argTypes:=#[t,u]})(b:a.eval x=v)(c:a.eval y=s)
  (r:(ie #[t,u] o.type #[v,s]).run cQ w=.ok fN w'):(execOp a.eval o).run cQ w=.ok (.value fN) w'/\ (execOp a.eval o).events cQ w #[]=(ie #[t,u] o.type #[v,s]).events cQ w #[]:=by
 constructor
 .unfold execOp;simp[h,ip,iq,builtin,hc,hU,hj,Ag,kS,q1,b,c,r]
 .unfold execOp;simp[h,ip,iq,builtin,hc,jz,hU,px,hj,kT,Ag,kS,q1,b,c,r]
theorem Yk{F r w w'}(h:w.grownBy w' r)(a:∀k,r=U k->¬F k)(b:∀k,w.heap.size<=k->¬F k):oS F w w':=
 ⟨h.os,h.tape,h.output,h.size,λk q=>h.block k (Pv λe=>b k e q) λe=>a k e.symm q⟩
theorem akI{F r e}(d:∀k,r=U k->¬F k)(b:Ox r e):jc F e:=by
 rcases b with⟨Q,eb,f,eG⟩|⟨m,rfl,c0⟩
 .unfold jc;simp_all
 .unfold x8 at c0;subst c0;trivial
section
variable {main:di} {F:V->Prop} {B:V} {v fN p:dr} {w:da} {s:dG} {cN:di} {r:dB V} {l:I gM} {g:dP} {dy:dP->da->Prop}
theorem dE.Yl{u s}(x y z)(r:∀c2 dn,e0 F w c2->∃fN w',(ie #[26,u] dn #[v,s]).run cQ c2=.ok fN w'/\oS F c2 w'/\ (∀e∈(ie #[26,u] dn #[v,s]).events cQ c2 #[],jc F e) /\dE main F dy (e7 z (f' g fN)) w')
 (o:(e6 g).op=.call {callee:=.builtin .append,args:=#[x,y],argTypes:=#[26,u]}:=by kernel_rfl)(b:(eA g).eval x=v:=by kernel_rfl)(c:(eA g).eval y=s:=by kernel_rfl)(h:mi g:=by exact sM)(p:∀v,j1 cQ main (f' g v) (e7 z (f' g v)):=by intro v;exact o3):dE main F dy g w:=
 dR.zZ h λc2 q=>have⟨fN,w',i,j,k,l⟩:=r c2 _ q;have⟨m,n⟩:=akH o b c i;⟨fN,w',m,⟨j,λe d=>k e (n▸mem_listed d)⟩,dR.pure tC.trans oZ (p fN) l⟩
theorem akJ(l s):byteCells l++strCells s=byteCells (l++s.data.toList):=by rw[akK];rfl
theorem Pw(b:¬F B)(dQ:∀k,r=U k->¬F k)(C:∀k,w.heap.size<=k->¬F k)(O:p=.pointer cL\/p=eZ B)(h:ig cN B p r l w)(S:l.length+s.size<=1000000000000):
  g7 cQ main F 21 #[eZ B,.string s] w λq w'=>q=.tuple #[.int .i64 s.size,.nilIface] /\ ∃io,ig cN B (eZ B) io (l++s.data.toList) w'/\ (io=r\/ ∃k,io=U k/\w.heap.size<=k) /\ (r=cL->s.size=0->io=cL) /\h9 F (λk=>k=B\/r=U k) w w':=by
 have t:=h.ne;obtain⟨v,Q,c5,rfl⟩:=h;have st:∀ {c2 d:da} {x},c2.heap[B]?=x->e0 F c2 d->d.heap[B]?=x:=λh r=>(r.block _ b).trans h
 refine qV Tryz.func21 λcs dy dj=>dE.p 8 (dE.k (Pu O b Q) λq c2 D=>?_);obtain⟨rfl,g,i⟩:=D;have E:=c5.k' λk c_ c=>i.block k c (dQ k c_) λe=>t (e▸c_)
 refine dE.p 7 ?_;refine dE.eB 1 1 b (λ_ r=>ni (st g r) Z) λd G=>?_;refine dE.Yl (.tmp 12) (.tmp 13) 2 (u:=9) (v:=v) (s:=.string s) λH dn a=>?_;have a:=G.trans a;have y:=E.k' λk c_ _=>a.block k (dQ k c_)
 have T:w.heap.size<=H.heap.size:=by rw[a.size];exact i.size
 have⟨fN,w',I,fh,j,A,J⟩:=aij y s dn (by unfold sK;omega) R;refine⟨fN,w',I,Yk j dQ (λk c_=>C k R),λe he=>akI dQ (ail y.f s _ (by unfold sK;omega) R e he),?_⟩;have c:=(kL.1 (st g a)).1;have m:=(j.block B c (λe=>t e.symm)).trans (st g a)
 have K:∀k,fN.ownBlock=U k->¬F k:=λk c_=>by
  rcases A with e|⟨fo,n,M⟩
  .exact dQ k (e▸c_)
  .rw[n]at c_;cases c_;grind
 refine dE.s1 9 1 fN b (λ_ q=>st m q) (λV o=>?_) (Q:=fh.one.1) (c5:=fh.one.2);have hb:=st m o;have P:=Yj fh.f m cZ;refine dj.z ⟨Z,fN.ownBlock,⟨fN,vk hb _,?_,Z⟩,?_,J,?_⟩
 .rw[akJ]at fh;rw[kv,lz];exact fh.k' λk c_ c=>(tR (λe:k=B=>P (by rwa[<-e])) _).trans (o.block k (K k c_))
 .exact A.imp id λ⟨k,n,M⟩=>⟨k,n,R⟩
 .refine(i.mono λk _ e=>.inl e).trans ((h9.sS a).trans (((h9.Ye j).mono λk _ e=>.inr e.symm).trans ((h9.sS o).trans ((h9.J0 _).mono λk _ e=>.inl e))))
end
end
section
open Go.Conc Go.Lib Go.Proofs
set_option maxRecDepth 100000
def akL{w:da}{v:dr}{n:V}{dD:I dr}(h:w.ownsRow 0 5 1 v n dD)(dn:eF){a:g3}{x:dr}(G:w.cell? a=U x)(Q:x.oneCell'=N)(y:n+1<=1000000000000):
  ∃fN w',(ie #[26,26] dn #[v,.slice (U a) 1 1]).run cQ w=.ok fN w'/\w'.ownsRow 0 5 1 fN (n+1) (dD++[x])/\w.grownBy w' v.ownBlock/\V' w v fN:=by
 have s:∀j u,[x][j]?=U u->w.cell? (a.add j)=U u:=λj u d=>by
  cases j with
  |zero=>
   have e:a.add 0=a:=by simp[o0]
   simp_all
  |succ j=>simp at d
 have b:∀u∈[x],u.oneCell'=N:=by intro u d;simp at d;rw[d];exact Q
 have z:(Value.int CR 0).cells.size=1:=Z;rcases h.2 with⟨rfl,rfl⟩|⟨g,cap,i,rfl,A,E,F,B,C,t⟩
 .have m:dD=[]:=by have:=h.1;simpa using this
  subst m;obtain⟨fN,w',c,f,q,_⟩:=akM (P:=cQ) w w.heap.size 26 dn 5 nI (.int .u8 0) 1 1 oj pv tL oi tK z cZ (.slice cL 0 0) 0 [] (Ou _ _ _ _) a 1 1 [x] Z s b (by unfold sK;omega) R (fi _);refine⟨fN,w',c,ownsRow.base f,q,?_⟩
  cases cY:fN.ownBlock with
  |none=>exact .inl (by rw[cY];rfl)
  |some k=>exact .inr ⟨k,cY,(f.lt k cY).1⟩
 .obtain⟨fN,w',c,f,q,_⟩:=akM (P:=cQ) w 0 26 dn 5 nI (.int .u8 0) 1 1 oj pv tL oi tK z cZ _ n dD h a 1 1 [x] Z s b (by unfold sK;omega) R (eY _)
  refine⟨fN,w',c,f,q,?_⟩
  by_cases r:n+1<=cap
  .have l:=run_append_room (P:=cQ) w 26 dn 5 nI oj pv g n cap i E a 1 1 [x] (by rw[oi];rfl) s b r (by rw[oi];simp;omega)
   rw[l]at c
   cases c
   exact .inl Z
  .have o:∀j u,dD[j]?=U u->w.cell? ((⟨g,0,cL⟩:g3).add j)=U u:=h.cells (g:=g) Z
   have l:=run_append_grow (P:=cQ) w 26 dn 5 nI (.int .u8 0) oj pv tL ⟨g,0,cL⟩ n cap dD (by rw[oi];exact h.1) o a 1 1 [x] (by rw[oi];rfl) s R R (by rw[tK];exact Ow R R);rw[l]at c
   cases c
   exact .inr ⟨_,Z,fi _⟩
def J1(b:V)(r:dB V)(e:hJ):Prop:=(e.sync=L/\ ∃eb,e.loc=.cell eb/\ (eb.block=b\/U eb.block=r)) \/ ∃m,e=⟨.mark m,L,N⟩ /\x8 m
def akN{w:da}{v:dr}{n:V}{dD:I dr}(o:w.ownsRow 0 5 1 v n dD)(dn:eF){a:g3}{x:dr}(dc:w.cell? a=U x)(Q:x.oneCell'=N)(F:n+1<=1000000000000):
  ∀dq∈(ie #[26,26] dn #[v,.slice (U a) 1 1]).events cQ w #[],J1 a.block v.ownBlock dq:=by
 have i:∀e∈(#[]:d' hJ),J1 a.block v.ownBlock e:=by intro e A;simp at A
 have s:∀j u,[x][j]?=U u->w.cell? (a.add j)=U u:=λj u t=>by
  cases j with
  |zero=>
   have e:a.add 0=a:=by simp[o0]
   simp_all
  |succ j=>simp at t
 have y:∀u∈[x],u.oneCell'=N:=by intro u t;simp at t;rw[t];exact Q
 have fT:∀(w':da),(∀eb,w'.cell? eb=w.cell? eb)->∀es,∀dq∈(lx 1 1 (.slice (U a) 1 1)).events cQ w' es,dq∈es \/ J1 a.block v.ownBlock dq:=λw' cM es dq A=>by
  rcases FN (a:=U a) rfl (λb e j cX=>by simp_all) dq A with h|⟨q,eb,k,p⟩
  .grind
  .exact .inr (.inl ⟨q,eb,k,.inl (by simpa[Ov]using p)⟩)
 intro dq c;rcases o.2 with⟨rfl,rfl⟩|⟨g,cap,l,rfl,G,dh,K,H,z,C⟩
 .have f:¬ (9223372036854775807<((1:V):J)):=R
  have d:¬ (281474976710656<wK 1 0*nI.bytes):=by rw[aim R,tK];omega
  have m:=Ji (P:=cQ) w.drew 1 1 a 1 1 [x] Z (by assumption);simp[ie,fx oj,sizeOf,typeInfo,zeroValue,pv,oi,tL,p7,f,d,uN,ain,m,newRow]at c;rcases fT w.drew (λ_=>Z) _ dq c with h|h
  .rcases FN (a:=cL) rfl (λb e=>ss) dq h with h|⟨q,eb,k,p⟩
   .exact(Cv _ _ _ dq h).elim (i dq) .inr
   .exact .inl ⟨q,eb,k,.inr p⟩
  .exact h
 .have holds:∀j u,dD[j]?=U u->w.cell? ((⟨g,0,cL⟩:g3).add j)=U u:=o.cells (g:=g) Z
  have E:l.size=cap:=by simpa using z
  have M:dD.length=n:=by simpa using o.1
  by_cases r:n+1<=cap
  .have m:=Ji (P:=cQ) w 1 1 a 1 1 [x] Z s
   simp[ie,fx oj,sizeOf,typeInfo,pv,oi,p7,r,m,aio]at c;rcases Oy g n 5 (0,0) [x] 0 l w _ dh dw (by simp;omega) y dq c with h|⟨q,eb,k,p⟩
   .grind
   .exact .inl ⟨q,eb,k,.inr (by simp[Ov,p])⟩
  .have f:¬ (9223372036854775807<((n:J)+1)):=R
   have d:¬ (281474976710656<wK (n+1) cap*nI.bytes):=by have:=Ow (need:=n+1) (old:=cap) (bytes:=nI.bytes) R (by rw[tK];omega);omega
   have m:=Ji (P:=cQ) w.drew 1 1 a 1 1 [x] Z (by assumption);have B:=Ji (P:=cQ) w.drew 1 n ⟨g,0,cL⟩ n cap dD R Ue;simp[ie,fx oj,sizeOf,typeInfo,zeroValue,pv,oi,tL,p7,r,f,d,uN,m,B,newRow]at c;rcases fT w.drew (λ_=>Z) _ dq c with h|h
   .rcases FN (a:=U ⟨g,0,cL⟩) rfl (λb e j cX=>by cases e;exact isSome_of_list Ue R) dq h with h|⟨q,eb,k,p⟩
    .exact(Cv _ _ _ dq h).elim (i dq) .inr
    .exact .inl ⟨q,eb,k,.inr p⟩
   .exact h
end
section
open Go.Conc Go.Lib Go.Proofs
set_option maxRecDepth 100000
section
variable {main:di} {F:V->Prop} {B:V} {v p:dr} {w:da} {c:gM} {r:dB V} {l:I gM} {g:dP} {dy:dP->da->Prop}
theorem yq(w:da)(o){k}(h:k<w.heap.size):(w.alloc o).heap[k]?=w.heap[k]?:=Ym w o h
theorem CS{F w}(a:∀k,w.heap.size<=k->¬F k)(o):oS F w (w.alloc o):=⟨Z,Z,Z,dw,λk q=>Ym w o (Pv λe=>a k e q)⟩
theorem akO{F S}(w o):h9 F S w (w.alloc o):=⟨Z,Z,Z,dw,λk q _ _=>Ym w o q⟩
theorem J2(w:da)(o):(w.alloc o).heap.size=w.heap.size+1:=dw
theorem akP{b r e}(i:¬F b)(f:∀k,r=U k->¬F k)(c:J1 b r e):jc F e:=by
 rcases c with⟨Q,eb,g,eG⟩|⟨m,rfl,c0⟩
 .unfold jc;grind
 .unfold x8 at c0;subst c0;trivial
theorem dE.nj(z:V)(o)(v:V->dr)(n:∀k,w.heap.size<=k->¬F k)(k:∀c2,e0 F w c2->dE main F dy (e7 z (f' g (v c2.heap.size))) (c2.alloc o))(r:∀w,(execOp (eA g).eval (e6 g)).run cQ w=.ok (.value (v w.heap.size)) (w.alloc o):=by intro w;kernel_rfl)(e:∀w,(execOp (eA g).eval (e6 g)).events cQ w #[]=#[]:=by intro w;kernel_rfl)
 (h:mi g:=by exact sM)(p:∀n,j1 cQ main (f' g (v n)) (e7 z (f' g (v n))):=by intro n;exact o3):dE main F dy g w:=
 dR.zZ h λfv q=>⟨_,_,r fv,by rw[Ps (e fv)];exact⟨CS (λk a=>n k (q.size▸a)) o,dw⟩,dR.pure tC.trans oZ (p _) (k _ q)⟩
theorem akQ(l c):byteCells l++[.int .u8 c.toNat]=byteCells (l++[c]):=by rw[akK];rfl
theorem Yn(m:¬F B)(dQ:∀k,r=U k->¬F k)(o:∀k,w.heap.size<=k->¬F k)(O:p=.pointer cL\/p=eZ B)(h:ig L B p r l w)(H:l.length+1<=1000000000000):
  g7 cQ main F 23 #[eZ B,.int .u8 c.toNat] w λq w'=>q=.nilIface/\ ∃io,ig L B (eZ B) io (l++[c]) w'/\ (io=r\/ ∃k,io=U k/\w.heap.size<=k) /\h9 F (λk=>k=B\/r=U k) w w':=by
 have I:=h.ne;obtain⟨v,Q,c5,rfl⟩:=h;have st:∀ {c2 y:da} {x},c2.heap[B]?=x->e0 F c2 y->y.heap[B]?=x:=λh r=>(r.block _ m).trans h
 refine qV Tryz.func23 λcs dy dj=>dE.p 7 (dE.k (Pu O m Q) λq c2 V=>?_);obtain⟨rfl,A,t⟩:=V;have W:=c5.k' λk c_ g=>t.block k g (dQ k c_) λe=>I (e▸c_)
 refine dE.p 7 ?_;refine dE.eB 1 1 m (λ_ r=>ni (st A r) Z) λy J=>?_;refine dE.nj 0 (.cells #[.int .u8 c.toNat] 5) (λn=>.slice (U ⟨n,0,cL⟩) 1 1) (λk q=>o k (by rw[J.size]at q;exact fG t.size q)) λb d=>?_;have d:=J.trans d;have X:=W.k' λk c_ _=>d.block k (dQ k c_)
 have ag:w.heap.size<=b.heap.size:=by rw[d.size];exact t.size
 have Y:∀k,b.heap.size<=k->¬F k:=λk c_=>o k R;have c':=Y _ (fi _);have aa:pu L (b.alloc (.cells #[.int .u8 c.toNat] 5)) v l.length (byteCells l):=X.k' λk c_ g=>yq _ _ g;have K:=(yq b (.cells #[.int .u8 c.toNat] 5) (kL.1 (st A d)).1).trans (st A d);have ab:=Gg b (.cells #[.int .u8 c.toNat] 5)
 refine dE.Yl (.tmp 11) (.tmp 13) 2 (u:=26) (v:=v) (s:=.slice (U ⟨b.heap.size,0,cL⟩) 1 1) λM dn i=>?_;have P:M.ownsRow 0 5 1 v l.length (byteCells l):=aa.k' λk c_ _=>i.block k (dQ k c_);have S:=(i.block _ c').trans ab
 have ah:M.heap.size=b.heap.size+1:=by rw[i.size,J2]
 have⟨fN,w',ac,fh,C,T⟩:=akL P dn (a:=⟨b.heap.size,0,cL⟩) (ni S Z) Z H;refine⟨fN,w',ac,Yk C dQ (λk c_=>o k R),λe he=>akP c' dQ (akN (a:=⟨b.heap.size,0,cL⟩) P _ (ni S Z) Z H e he),?_⟩;have g:=(kL.1 (st K i)).1;have D:=(C.block B g (λe=>I e.symm)).trans (st K i)
 have ad:∀k,fN.ownBlock=U k->¬F k:=λk c_=>by
  rcases T with e|⟨fo,E,ae⟩
  .exact dQ k (e▸c_)
  .rw[E]at c_;cases c_;exact o _ R
 have j:pu L w' fN (l.length+1) (byteCells l++[.int .u8 c.toNat]):=fh;refine dE.s1 6 1 fN m (λ_ q=>st D q) (λai G=>?_) (Q:=j.one.1) (c5:=j.one.2);have hb:=st D G;have af:=Yj j.f D cZ;refine dj.z ⟨Z,fN.ownBlock,⟨fN,vk hb _,?_,Z⟩,?_,?_⟩
 .rw[akQ]at j;rw[kv];exact j.k' λk c_ g=>(tR (λe:k=B=>af (by rwa[<-e])) _).trans (G.block k (ad k c_))
 .exact T.imp id λ⟨k,E,ae⟩=>⟨k,E,R⟩
 .refine(t.mono λk _ e=>.inl e).trans ((h9.sS d).trans ((akO _ _).trans ((h9.sS i).trans (((h9.Ye C).mono λk _ e=>.inr e.symm).trans ((h9.sS G).trans ((h9.J0 _).mono λk _ e=>.inl e))))))
end
end
section
open Go.Conc Go.Lib Go.Proofs
set_option maxRecDepth 100000
abbrev g0(main:di)(F:V->Prop)(dy:dP->da->Prop)(g:dP)(S:da->Prop):=AnyCH cQ (e0 F) (jd F) g.frame.fn .any (j2 g) (λe b x=>e=.normal/\ ∀c,e0 F x c->dE main F dy (G (g.frame.at b g.frame.todo.tail) g.callers) c) S
def oz(g:dP)(i:V):Oper:=(j2 g)[i]?.getD default
def Yo(o:Oper):eF:=match o.op with
 | .load t _=>t
 |_=>0
def Yp(o:Oper):Operand:=match o.op with
 | .load _ x=>x
 |_=>.tmp 0
section
variable {main:di} {F:V->Prop} {dy:dP->da->Prop} {g:dP} {w:da} {S:da->Prop} {n:V} {l:d' di} {a:e8}
theorem Gh{F es}(h:es=#[]):∀e∈es,jc F e:=by grind
theorem dE.d(n)(S)(m:cQ.follows .mixedOrders=N)(f:∀c2,e0 F w c2->g0 main F dy g S n (Array.replicate n L) (eA g) c2)(d:g=G (g.frame.at (eA g) (.code (.region (IM g) (j2 g) N)::g.frame.todo.tail)) g.callers:=by kernel_rfl)(c_:(g.frame.kind==zP)=L:=by kernel_rfl)(c0:(j2 g).size=n:=by kernel_rfl):dE main F dy g w:=by
 have y:(Code.region (IM g) (j2 g) N).wpC cQ main (e0 F) (jd F) g.frame.fn ((j2 g).size+1+1) (λe b x=>e=.normal/\ ∀c,e0 F x c->dE main F dy (G (g.frame.at b g.frame.todo.tail) g.callers) c) (eA g) w:=
  wpC_region_held tC ahx m λc2 a=>by
   have:=f _ (a.trans (.drawn F c2 (c2.drawn+1)))
   subst c0;exact this
 rw[d]
 have:=y g.frame g.frame.todo.tail g.callers (λg' w'=>dE main F dy g' w') 0 Z uB λe b x h=>by
  obtain⟨rfl,h⟩:=h
  exact .stop h
 exact(dR.sw this).bind (e0.refl F) λg' w' h=>h
theorem g0.t{fN}(i:V)(v:dr)(h:(∀x y,S x->e0 F x y->S y)/\S w)(k:g0 main F dy g S n (l.setIfInBounds i N) (a.put (oz g i).dst v) w)(e:fN=v:=by rfl)(cY:∀w,S w->(execOp a.eval (oz g i)).run cQ w=.ok (.value fN) w/\ ∀e∈(execOp a.eval (oz g i)).events cQ w #[],jc F e:=by intro w _;exact⟨by kernel_rfl,Gh cV⟩)
 (s:N4 (j2 g)=N:=by kernel_rfl)(cK:(j2 g)[i]?=U (oz g i):=by kernel_rfl)(c:N3 .any (j2 g) l i=N:=by kernel_rfl)(j:(mF .any (j2 g) l).contains i=N:=by kernel_rfl)(hw:js (oz g i) (yielded (j2 g) a.tmps)=N:=by kernel_rfl):g0 main F dy g S (n+1) l a w:=
 anyCH_take tC h.1 (λb x y h r=>⟨h.1,λc q=>h.2 c (r.trans q)⟩) cK s c j (.inl ⟨hw,λx d=>⟨e▸(cY x d).1,.refl _ _,λe f=>(cY x d).2 e (mem_listed f)⟩⟩) h.2 k
theorem g0.nK{b off}(i:V)(v)(h:(∀x y,S x->e0 F x y->S y)/\S w)(d:∀w,S w->w.cell? ⟨b,off,cL⟩=U v)(f:¬F b)(k:g0 main F dy g S n (l.setIfInBounds i N) (a.put (oz g i).dst v) w)(o:(oz g i).op=.load (Yo (oz g i)) (Yp (oz g i)):=by kernel_rfl)(x:a.eval (Yp (oz g i))=.pointer (U ⟨b,off,cL⟩):=by kernel_rfl)(t:∀w,(isAgg (Yo (oz g i))).run cQ w=.ok L w:=by intro w;kernel_rfl)
 (s:N4 (j2 g)=N:=by kernel_rfl)(cK:(j2 g)[i]?=U (oz g i):=by kernel_rfl)(c:N3 .any (j2 g) l i=N:=by kernel_rfl)(j:(mF .any (j2 g) l).contains i=N:=by kernel_rfl)(hw:js (oz g i) (yielded (j2 g) a.tmps)=N:=by kernel_rfl):g0 main F dy g S (n+1) l a w:=
 g0.t i v h k Z (λw hw=>have⟨r,m⟩:=N2 o x t (d w hw);⟨r,λe he=>by rw[m e he];exact⟨Z,f⟩⟩) s cK c j hw
theorem g0.o(i:V)(cY:∀c2,e0 F w c2->∃v w',((execOp a.eval (oz g i)).run cQ c2=.ok (.value v) w'/\ ∀e∈(execOp a.eval (oz g i)).events cQ c2 #[],jc F e) /\oS F c2 w'/\S w'/\g0 main F dy g S n (l.setIfInBounds i N) (a.put (oz g i).dst v) w')
 (cK:(j2 g)[i]?=U (oz g i):=by kernel_rfl)(d:mF .any (j2 g) l=[i]:=by kernel_rfl)(hw:js (oz g i) (yielded (j2 g) a.tmps)=N:=by kernel_rfl):g0 main F dy g S (n+1) l a w:=
 anyCH_all d dw λj c=>by
  simp at c;subst c;unfold OpC;simp[cK,hw,nz];intro c2 b;have⟨v,w',⟨r,e⟩,g,s,k⟩:=cY c2 b;rw[r];exact⟨⟨g,λx f=>e x (mem_listed f)⟩,s,k⟩
end
section
variable {v p:dr} {n:V} {s:dG}
theorem akR{a:e8}{o x eb n c}(h:o.op=.call {callee:=.builtin .len,args:=#[x],argTypes:=#[26]})(b:a.eval x=.slice eb n c)(w):
  (execOp a.eval o).run cQ w=.ok (.value (.int .i64 n)) w/\ (execOp a.eval o).events cQ w #[]=#[]:=by
 have Q:(x_ #[26] o.type #[.slice eb n c]).run cQ w=.ok (.int .i64 n) w:=Z;have d:(x_ #[26] o.type #[.slice eb n c]).events cQ w #[]=#[]:=Z;constructor
 .unfold execOp;simp[h,ip,iq,builtin,hc,hU,hj,Ag,kS,q1,b,Q]
 .unfold execOp;simp[h,ip,iq,builtin,hc,jz,hU,px,hj,kT,Ag,kS,q1,b,Q,d]
theorem akS{a:e8}{o x v q}(h:o.op=.call {callee:=.builtin .unsafeSliceData,args:=#[x],argTypes:=#[26]})(b:a.eval x=v){w}
  (Q:(Px #[26] o.type #[v]).run cQ w=.ok q w)(c:(Px #[26] o.type #[v]).events cQ w #[]=#[]):
  (execOp a.eval o).run cQ w=.ok (.value q) w/\ (execOp a.eval o).events cQ w #[]=#[]:=by
 constructor
 .unfold execOp;simp[h,ip,iq,builtin,hc,hU,hj,Ag,kS,q1,b,Q]
 .unfold execOp;simp[h,ip,iq,builtin,hc,jz,hU,px,hj,kT,Ag,kS,q1,b,Q,c]
theorem akT{a:e8}{o x y p}{n:V}{q w w'}(h:o.op=.call {callee:=.builtin .unsafeString,args:=#[x,y],argTypes:=#[101,3]})(b:a.eval x=.pointer p)(c:a.eval y=.int .i64 n)
  (Q:(CT #[101,3] o.type #[.pointer p,.int .i64 n]).run cQ w=.ok q w'):
  (execOp a.eval o).run cQ w=.ok (.value q) w'/\ (execOp a.eval o).events cQ w #[]=(CT #[101,3] o.type #[.pointer p,.int .i64 n]).events cQ w #[]:=by
 constructor
 .unfold execOp;simp[h,ip,iq,builtin,hc,hU,hj,Ag,kS,q1,b,c,Q]
 .unfold execOp;simp[h,ip,iq,builtin,hc,jz,hU,px,hj,kT,Ag,kS,q1,b,c,Q]
theorem Yq:cQ.underlying 101=U (.pointer 5):=cV
theorem Py:cQ.cellsOf 5=1:=cV
theorem Yr(w):∀(l:I gM) (a) (c) (es),(∀j x,l[j]?=U x->w.cell? (a.add j)=U (.int .u8 x.toNat))->
  ∀e∈(loadBytes a c l.length).events cQ w es,e∈es\/e.sync=L/\ ∃eb,e.loc=.cell eb/\eb.block=a.block
 | [],a,c,es,h=>λe b=>.inl (by assumption)
 |x::l,a,c,es,h=>λe b=>by
  have cW:w.cell? a=U (.int .u8 x.toNat):=by have:=h 0 x Z;simpa[o0]using this
  have r:(load a).run cQ w=.ok (.int .u8 x.toNat) w:=by simp[cW]
  simp only[nF,loadBytes,jz,r,kT]at b
  rcases Yr w l (a.add 1) _ _ (λj y afZ=>by
   have:=h (j+1) y afY
   have e:(a.add 1).add j=a.add (j+1):=by
    unfold o0
    by_cases f:j=0
    .grind
    .grind
   simp_all) e b with h|⟨Q,eb,d,eG⟩
  .rcases Oo w a es cW e h with h|⟨Q,d⟩
   .grind
   simp_all
  .exact .inr ⟨Q,eb,d,eG.trans (V7 a 1)⟩
theorem akU(dn p w):(CT #[101,3] dn #[.pointer p,.int .i64 0]).events cQ w #[]=#[]:=by
 have h:sN.max=9223372036854775807:=rfl
 cases p with|none=>rfl|some a=>rfl
theorem akV(dn w g cells)(b:w.shape? g=U (5,cells))(l:I gM)(cW:l≠[])(c0:l.length<=cells)(o:l.length<=9223372036854775807)
  (a:∀j x,l[j]?=U x->w.cell? ((⟨g,0,cL⟩:g3).add j)=U (.int .u8 x.toNat)):
  ∀e∈(CT #[101,3] dn #[.pointer (U ⟨g,0,cL⟩),.int .i64 l.length]).events cQ w #[],e.sync=L/\ ∃eb,e.loc=.cell eb/\eb.block=g:=by
 have dv:=zf;have c:=run_loadBytes (P:=cQ) w l ⟨g,0,cL⟩ .empty a;have d:=liesAt_bytes (P:=cQ) Py (cells/cQ.cellsOf 5) l.length (by rw[Py];omega);have f:¬(9223372036854775807:J)<(l.length:J):=R
 have i:CT #[101,3] dn #[.pointer (U ⟨g,0,cL⟩),.int .i64 l.length]=
   (do
    let n <-asInt (.int .i64 l.length)
    if n<0 then runtimePanic (.error _)
    if n>sN.max then unsupported (.unsafePointer _)
    if n=0 then pure (.string .empty)
    else if <-Yd ⟨g,0,cL⟩ (<-elemOf 101) n.toNat then do
     let s <-loadBytes ⟨g,0,cL⟩ .empty n.toNat
     Go.freeze ⟨g,0,cL⟩ n.toNat
     pure (.string s)
    else unsupported (.unsafePointer _)):=rfl
 intro e he;rw[i]at he;have k:sN.max=9223372036854775807:=Z;have m:=R;simp[asInt,asIntOf,k,f,m,dv,Yd,b,elemOf,fx Yq,d,c]at he;rcases Yr w l ⟨g,0,cL⟩ .empty #[] a e he with h|h
 .simp at h
 .exact h
end
end
section
open Go.Conc Go.Lib Go.Proofs
set_option maxRecDepth 100000
theorem ig.f{cN B p r l w}(h:ig cN B p r l w):ig N B p r l w:=by have⟨v,Q,a,eG⟩:=h;exact⟨v,Q,a.f,eG⟩
section
variable {main:di} {F:V->Prop} {B:V} {v p q:dr} {w:da} {r:dB V} {l:I gM} {n:V}
theorem Pz{w:da}{g n k}(h:k≠g):(w.freeze ⟨g,0,cL⟩ n).heap[k]?=w.heap[k]?:=by unfold Ys;grind
theorem Yt{w:da}{a n}:(w.freeze a n).heap.size=w.heap.size:=by unfold Ys;grind
theorem CU{w:da}{a n}:(w.freeze a n).os=w.os/\ (w.freeze a n).tape=w.tape/\ (w.freeze a n).output=w.output:=by unfold Ys;grind
theorem Yu(m:cQ.follows .mixedOrders=N){S:da->Prop}{s}{dO:da->Prop}(a:¬F B)(cU:∀x y,S x->e0 F x y->S y)(g:S w){eb cap q2}(Q:∀w,S w->w.heap[B]?=U (.cells #[q,.slice eb n cap] 52 (0,0)))
  (fb:∀w dn,S w->(Px #[26] dn #[.slice eb n cap]).run cQ w=.ok (.pointer q2) w/\ (Px #[26] dn #[.slice eb n cap]).events cQ w #[]=#[])
  (l:∀w dn,S w->∃w',(CT #[101,3] dn #[.pointer q2,.int .i64 n]).run cQ w=.ok (.string s) w'/\oS F w w'/\ (∀e∈(CT #[101,3] dn #[.pointer q2,.int .i64 n]).events cQ w #[],jc F e) /\S w')
  (k:∀x,S x->dO x):g7 cQ main F 24 #[eZ B] w λj w'=>j=.string s/\dO w':=by
 refine qV Tryz.func24 λcs dy i=>dE.p 5 (dE.d 12 S m λc2 b=>?_);have h:=And.intro cU (cU _ _ g b);have c:=λw hw=>ni (o:=1) (Q w hw) Z
 refine g0.t 0 (eZ B) h ?_;refine g0.t 1 (eZ B) h ?_;refine g0.t 2 (.pointer (U ⟨B,1,cL⟩)) h ?_;refine g0.nK 3 _ h c a ?_;refine g0.t 4 (.pointer q2) h ?_ (cY:=λw hw=>PA id Gh (akS (x:=.tmp 6) cV cV (fb w _ hw).1 (fb w _ hw).2))
 refine g0.t 5 (eZ B) h ?_;refine g0.t 6 (eZ B) h ?_;refine g0.t 7 (.pointer (U ⟨B,1,cL⟩)) h ?_;refine g0.nK 8 _ h c a ?_;refine g0.t 9 (.int .i64 n) h ?_ (cY:=λw _=>PA id Gh (akR (x:=.tmp 11) (eb:=eb) (c:=cap) cV cV w))
 refine g0.o 10 λc2 f=>(l c2 _ (cU _ _ h.2 f)).elim λw' H=>⟨_,w',PA id (λy e he=>H.2.2.1 e (y▸he)) (akT (x:=.tmp 7) (y:=.tmp 12) (p:=q2) (n:=n) cV cV cV H.1),H.2.1,H.2.2.2,?_⟩
 exact g0.t 11 (.string s) ⟨cU,H.2.2.2⟩ (anyCH_done cV ⟨Z,λx r=>dE.p 1 (i.z ⟨Z,k _ (cU _ _ H.2.2.2 r)⟩)⟩ 0)
theorem Yv(d6:cQ.follows .mixedOrders=N)(c:¬F B)(dQ:∀k,r=U k->¬F k)(h:ig N B q r l w)(dv:r≠cL->l≠[])(ab:l.length<=1000000000000):
  g7 cQ main F 24 #[eZ B] w λx w'=>x=.string ⟨l.toArray⟩ /\ig N B q r l w'/\h9 F (λk=>r=U k) w w':=by
 have E:=h.ne;have⟨v,Q,c5,s⟩:=h;have d:(byteCells l).length=l.length:=byteCells_length l;have G:=c5;rcases c5.2 with⟨rfl,cW⟩|⟨g,cap,ac,ad,rfl,ae,af,ag,ah,ai,aj,ak⟩
 .have H:=FT cW;subst H;have I:=s.symm;subst I;refine Yu d6 (S:=λx=>x.heap[B]?=U (.cells #[q,.slice cL 0 0] 52 (0,0)) /\h9 F (λk=>cL=U k) w x) (n:=0) (q2:=cL) (eb:=cL) (cap:=0) c (λx y a b=>⟨(b.block _ c).trans a.1,a.2.trans (.sS b)⟩) ⟨Q,.refl _⟩ (λx a=>a.1) (λx dn a=>g_) (λx dn a=>⟨x,run_unsafeString_none (P:=cQ) x 101 3 dn cL,.refl _ _,Gh (akU dn cL x),a⟩) (λx a=>⟨⟨_,a.1,World.ownsRowF_nil x 0 5 1,Z⟩,a.2⟩)
 .have J:r=U g:=s.symm;subst J;have o:=dQ g Z;have K:g≠B:=λe=>E Bx;have p:=dv dw;have al:=Cz.2 p
  let S:da->Prop:=λx=>x.heap[B]?=U (.cells #[q,.slice (U ⟨g,0,cL⟩) l.length cap] 52 (0,0)) /\pu N x (.slice (U ⟨g,0,cL⟩) l.length cap) l.length (byteCells l) /\h9 F (λk=>U g=U k) w x
  have M:∀x y,S x->e0 F x y->S y:=λx y a b=>⟨(b.block _ c).trans a.1,a.2.1.k' λk c_ _=>by cases c_;exact b.block _ o,a.2.2.trans (.sS b)⟩;refine Yu d6 (S:=S) (n:=l.length) (q2:=U ⟨g,0,cL⟩) (eb:=U ⟨g,0,cL⟩) (cap:=cap) c M ⟨Q,G,.refl _⟩ (λx a=>a.1) (λx dn a=>?_) (λx dn a=>?_) (λx a=>⟨⟨_,a.1,a.2.1,Z⟩,a.2.2⟩)
  .obtain⟨k,rfl⟩:∃k,cap=k+1:=⟨cap-1,R⟩;exact g_
  .have⟨i,t,O⟩:=a;rcases t.f.2 with⟨h,_⟩|⟨g',am,m,an,cY,ao,T,ap,aq,ar,V,au⟩
   .cases h
   .cases cY
    have u:∀j y,l[j]?=U y->x.cell? ((⟨g,0,cL⟩:g3).add j)=U (.int .u8 y.toNat):=λj y b=>t.f.cells (g:=g) Z j _ (by simp[byteCells,b])
    have z:x.shape? g=U (5,m.size):=by simp[Gf,T]
    have A:l.length<=m.size:=by rw[V];omega
    refine⟨_,run_unsafeString_row (P:=cQ) x 101 3 dn 5 Yq Py g m.size z l p A R u,⟨CU.1,CU.2.1,CU.2.2,tD Yt.symm,λk c_=>Pz λe=>o (e▸c_)⟩,λe he=>?_,?_⟩
    .have⟨W,eb,X,Y⟩:=akV dn x g m.size z l p A R u e he;unfold jc;rw[X];exact⟨W,Y▸o⟩
    .have hb:BuilderAtF 52 5 0 B q (byteCells l) x:=⟨eY _,_,i,by rwa[d],by assumption⟩;have dj:=hb.froze (g:=g) (cap:=cap) (ni i (by rw[d];rfl));rw[d]at dj;have⟨_,fN,hi,C,av⟩:=dj;have D:(x.freeze ⟨g,0,cL⟩ l.length).heap[B]?=x.heap[B]?:=Pz (Ne.symm K);rw[D,i]at hi
     cases hi
     rw[d]at C;have aa:S (x.freeze ⟨g,0,cL⟩ l.length):=⟨D.trans i,C,O.trans ⟨CU.1,CU.2.1,CU.2.2,tD Yt.symm,λk _ _ c_=>Pz λe=>c_ Bx⟩⟩;exact aa
end
end
open Go.Proofs Go.RowKit
def pB(w:dG):V:=
 if w=⟨#[110,101,119]⟩ then 1 else if w=⟨#[114,101,97,100]⟩ then 2 else if w=⟨#[119,114,105,116,101]⟩ then 3 else if w=⟨#[100,101,108,101,116,101]⟩ then 4 else 0
def alo(w):d0 cQ 67 [.str w] (pB w):=by
 refine d5 Tryz.func67 1 Z cV (cO ?_)
 refine dT (λQ=>?_) λQ=>?_
 .exact dg Z (by simp[pB,Q])
 refine dT (λa=>?_) λa=>?_
 .exact dg Z (by simp[pB,Q,a])
 refine dT (λb=>?_) λb=>?_
 .exact dg Z (by simp[pB,Q,a,b])
 refine dT (λc=>?_) λc=>?_
 .exact dg Z (by simp[pB,Q,a,b,c])
 exact dg Z (by simp[pB,Q,a,b,c])
def Aj(w:dG):di:=gy (w=⟨#[112,117,109,112]⟩)||(decide (w=⟨#[114,111,117,110,100]⟩)||(decide (w=⟨#[104,105,115,116,111,114,121]⟩)||(decide (w=⟨#[112,97,103,101,115]⟩)||decide (w=⟨#[99,108,111,99,107]⟩))))
def YH(w:dG):di:=gy (w=⟨#[115,116,101,112]⟩)||(decide (w=⟨#[102,105,110,105,115,104]⟩)||(decide (w=⟨#[102,97,117,108,116]⟩)||(decide (w=⟨#[97,103,101]⟩)||(decide (w=⟨#[114,117,110]⟩)||(decide (w=⟨#[115,116,97,116,101]⟩)||decide (w=⟨#[114,101,97,100]⟩))))))
def o7(w:dG):J:=if Aj w=N then 0 else if YH w=N then 1 else-1
def alp(w):d0 cQ 50 [.str w] (o7 w):=by
 refine d5 Tryz.func50 1 Z cV (cO ?_)
 refine dT (λcW=>?_) λcW=>?_
 .refine eH ?_;exact dg Z (by simp[o7,Aj,cW])
 refine dT (λQ=>?_) λQ=>?_
 .refine eH ?_;exact dg Z (by simp[o7,Aj,Q])
 refine dT (λa=>?_) λa=>?_
 .refine eH ?_;exact dg Z (by simp[o7,Aj,a])
 refine dT (λh=>?_) λh=>?_
 .refine eH ?_;exact dg Z (by simp[o7,Aj,h])
 refine dT (λi=>?_) λi=>?_
 .exact dg Z (by simp[o7,Aj,cW,Q,a,h,i])
 refine dT (λg=>?_) λg=>?_
 .exact eH (dg Z (by subst g;kernel_rfl))
 refine dT (λdI=>?_) λdI=>?_
 .exact eH (dg Z (by subst dI;kernel_rfl))
 refine dT (λb=>?_) λb=>?_
 .exact eH (dg Z (by subst b;kernel_rfl))
 refine dT (λc=>?_) λc=>?_
 .exact eH (dg Z (by subst c;kernel_rfl))
 refine dT (λd=>?_) λd=>?_
 .exact eH (dg Z (by subst d;kernel_rfl))
 refine dT (λe=>?_) λe=>?_
 .exact eH (dg Z (by subst e;kernel_rfl))
 refine dT (λf=>?_) λf=>?_
 .exact dg Z (by subst f;kernel_rfl)
 exact dg Z (by simp[o7,Aj,YH,cW,Q,a,h,i,g,dI,b,c,d,e,f])
def J'(b):d0 cQ 73 [.bool b] (.str (if b then ⟨#[111,107,32,121,101,115]⟩ else ⟨#[111,107,32,110,111]⟩)):=by
 refine d5 Tryz.func73 1 Z cV (cO ?_)
 refine hV (λh=>?_) λh=>?_
 .exact dg Z EA
 .exact dg Z EA
def yt(s:dG):J:=kU s.data.toList 32
def alq(s):d0 cQ 90 [.str s,.str ⟨#[32]⟩] (yt s):=by
 refine d5 Tryz.func90 2 Z cV (cO ?_);refine wp cV (cO ?_)
 refine dT (λQ=>?_) λQ=>?_
 .exact dg Z (by subst Q;kernel_rfl)
 refine sA cV (cO ?_);refine kn cZ cZ (cO ?_);refine df (akq s 32) (c7 ?_);exact dg Z Z
def PJ(s):d0 cQ 93 [.str s,.str ⟨#[32]⟩] (yt s):=by refine d5 Tryz.func93 2 Z cV (cO ?_);refine df (alq s) (c7 ?_);rfl
def i_:V->I gM->dB V
 |n,[]=>U n
 |n,c::l=>if c.toNat<48\/57<c.toNat then cL else i_ (10*n+(c.toNat-48)) l
def l0(w:dG):dB V:=if w.size<1\/ (9<w.size\/ (1<w.size/\w.data.getD 0 0=48)) then cL else i_ 0 w.data.toList
def alr(o:dB V):c3:=match o with
 |some n=>.dS [n,.bool N]
 |none=>.dS [.int .i64 0,.bool L]
def Uf{n}:CR.wrap n=n%256:=Mt
def YI{s:dG}{k}(h:k<s.size):s.data.toList.drop k=s.data.getD k 0::s.data.toList.drop (k+1):=by
 have l:k<s.data.toList.length:=by rwa[lz]
 rw[qT l];simp_all
def Ak(w)(o:w.size<=9223372036854775807):d0 cQ 66 [.str w] (alr (l0 w)):=by
 refine d5 Tryz.func66 1 Z cV (c7 ?_)
 refine iG (λQ=>?_) λQ=>?_
 .exact dg Z (by rw[l0,if_pos (.inl R)];rfl)
 refine dF ?_
 refine pA (λj=>?_) λj=>?_
 .exact dg Z (by rw[l0,if_pos (.inr (.inl R))];rfl)
 have r:∀l n,i_ n l=cL->i_ n l=cL:=λ_ _ h=>h
 have loop:¬(w.size<1\/ (9<w.size\/ (1<w.size/\w.data.getD 0 0=48)))->l0 w=i_ 0 w.data.toList:=λh=>by rw[l0,cS h]
 refine mj (λu=>?_) λu=>?_
 .refine eH ?_
  refine mj (λp=>?_) λp=>?_
  .have k:((w.data.getD 0 0).toNat:J)=48:=p;refine dF ?_;exact dg Z (by rw[l0,if_pos (.inr (.inr ⟨by omega,UInt8.toNat_inj.1 hN⟩))];rfl)
  have m:=loop (by rintro (q|q|⟨q,g⟩)<;>first|omega|exact p (by show((w.data.getD 0 0).toNat:J)=48;rw[g];rfl));refine eW (D:=V×V) (λx=>[(0,.d (.str w)),(4,.d x.2),(25,.d w.size),(26,.d x.1)]) (λ_=>[])
   (λx=>x.1<=w.size/\ (x.2<10^x.1/\i_ x.2 (w.data.toList.drop x.1)=i_ 0 w.data.toList)) (λx=>w.size-x.1) (0,0) ⟨by omega,by decide,Z⟩ (dX (dH ff dM dV)) ?_
  rintro⟨i,n⟩ ⟨cK,c0,a⟩;simp only at cK c0 a;have f:=sR c0 (Gn cZ (show i<=9 by omega))
  conv=>whnf
  refine dT (λdu=>?_) λdu=>?_
  .have dY:i<w.size:=R
   have cP:=YI dY;rw[cP]at a;refine eH ?_;have⟨c,b⟩:∃c:gM,w.data.getD i 0=c:=⟨_,Z⟩;have d:=c.toNat_lt;rw[b]at a⊢
   refine dT (λs=>?_) λs=>?_
   .refine dF ?_
    have:i_ 0 w.data.toList=cL:=by rw[<-a,i_,if_pos (.inl R)]
    exact dg Z (by rw[m,this];rfl)
   refine eH ?_;rw[b]
   refine dT (λt=>?_) λt=>?_
   .refine dF ?_
    have:i_ 0 w.data.toList=cL:=by rw[<-a,i_,if_pos (.inr R)]
    exact dg Z (by rw[m,this];rfl)
   refine eH ?_;rw[b];refine eH ?_
   have O:10^(i+1)=10*10^i:=by rw[PK];omega
   have e:(10:J)*(n:J)+((c.toNat:J)-48)=((10*n+(c.toNat-48):V):J):=R
   rw[e];refine⟨(i+1,10*n+(c.toNat-48)),⟨by omega,by grind,?_⟩,by omega,(dX (dH ff dM dV))⟩;rw[<-a,i_,cS R]
  .have e:i=w.size:=R
   have:i_ 0 w.data.toList=U n:=by rw[<-a,e,CY eM];rfl
   refine dF ?_;exact dg Z (by rw[m,this];rfl)
 have m:=loop (by rintro (q|q|⟨q,g⟩)<;>omega);refine eW (D:=V×V) (λx=>[(0,.d (.str w)),(4,.d x.2),(25,.d w.size),(26,.d x.1)]) (λ_=>[])
  (λx=>x.1<=w.size/\ (x.2<10^x.1/\i_ x.2 (w.data.toList.drop x.1)=i_ 0 w.data.toList)) (λx=>w.size-x.1) (0,0) ⟨by omega,by decide,Z⟩ (dX (dH ff dM dV)) ?_
 rintro⟨i,n⟩ ⟨cK,c0,a⟩;simp only at cK c0 a;have f:=sR c0 (Gn cZ (show i<=9 by omega))
 conv=>whnf
 refine dT (λdu=>?_) λdu=>?_
 .have dY:i<w.size:=R
  have cP:=YI dY;rw[cP]at a;refine eH ?_;have⟨c,b⟩:∃c:gM,w.data.getD i 0=c:=⟨_,Z⟩;have d:=c.toNat_lt;rw[b]at a⊢
  refine dT (λs=>?_) λs=>?_
  .refine dF ?_
   have:i_ 0 w.data.toList=cL:=by rw[<-a,i_,if_pos (.inl R)]
   exact dg Z (by rw[m,this];rfl)
  refine eH ?_;rw[b]
  refine dT (λt=>?_) λt=>?_
  .refine dF ?_
   have:i_ 0 w.data.toList=cL:=by rw[<-a,i_,if_pos (.inr R)]
   exact dg Z (by rw[m,this];rfl)
  refine eH ?_;rw[b];refine eH ?_
  have O:10^(i+1)=10*10^i:=by rw[PK];omega
  have e:(10:J)*(n:J)+((c.toNat:J)-48)=((10*n+(c.toNat-48):V):J):=R
  rw[e];refine⟨(i+1,10*n+(c.toNat-48)),⟨by omega,by grind,?_⟩,by omega,(dX (dH ff dM dV))⟩;rw[<-a,i_,cS R]
 .have e:i=w.size:=R
  have:i_ 0 w.data.toList=U n:=by rw[<-a,e,CY eM];rfl
  refine dF ?_;exact dg Z (by rw[m,this];rfl)
def alu(b):d0 cQ 243 [.bool b] (.int .i64 (if b then 1 else 0)):=by
 refine d5 Tryz.func243 1 Z cV (cO ?_)
 refine hV (λh=>?_) λh=>?_
 .exact dg Z EA
 .exact dg Z EA
def qa(x:V):V:=x*78913/262144
def alv(x:V)(a:x<=64):d0 cQ 241 [x] (qa x):=by
 refine d5 Tryz.func241 1 Z cV (dk ?_)
 have e:((x:J)*78913).fdiv (2^min (Gp 18) sN.bits)=((qa x:V):J):=by rw[show(2:J)^min (Gp 18) sN.bits=262144 from Z,Ka _ cZ];unfold qa;omega
 exact dg Z (by rw[e];rfl)
def oA:dG:=⟨#[0,1,2,2,3,3,3,3,4,4,4,4,4,4,4,4,5,5,5,5,5,5,5,5,5,5,5,5,5,5,5,5,6,6,6,6,6,6,6,6,6,6,6,6,6,6,6,6,6,6,6,6,6,6,6,6,6,6,6,6,6,6,6,6,7,7,7,7,7,7,7,7,7,7,7,7,7,7,7,7,7,7,7,7,7,7,7,7,7,7,7,7,7,7,7,7,7,7,7,7,7,7,7,7,7,7,7,7,7,7,7,7,7,7,7,7,7,7,7,7,7,7,7,7,7,7,7,7,8,8,8,8,8,8,8,8,8,8,8,8,8,8,8,8,8,8,8,8,8,8,8,8,8,8,8,8,8,8,8,8,8,8,8,8,8,8,8,8,8,8,8,8,8,8,8,8,8,8,8,8,8,8,8,8,8,8,8,8,8,8,8,8,8,8,8,8,8,8,8,8,8,8,8,8,8,8,8,8,8,8,8,8,8,8,8,8,8,8,8,8,8,8,8,8,8,8,8,8,8,8,8,8,8,8,8,8,8,8,8,8,8,8,8,8,8,8,8,8,8,8,8,8,8,8,8,8]⟩
def gb(d:V):V:=if 65536<=d then(if 256<=d/65536 then 24+(oA.data.getD (d/65536/256) 0).toNat else 16+(oA.data.getD (d/65536) 0).toNat) else if 256<=d then 8+(oA.data.getD (d/256) 0).toNat else(oA.data.getD d 0).toNat
def alw(d:V):(d:J).fdiv (2^min (Gp 16) Gq.bits)=((d/65536:V):J):=by rw[show(2:J)^min (Gp 16) Gq.bits=65536 from Z,Ka _ cZ];omega
def YJ(d:V):(d:J).fdiv (2^min (Gp 8) Gq.bits)=((d/256:V):J):=by rw[show(2:J)^min (Gp 8) Gq.bits=256 from Z,Ka _ cZ];omega
def afW:oA.size=256:=cV
def Kb(c:gM):sN.wrap (c.toNat:J)=c.toNat:=by have:=c.toNat_lt;rw[rM];omega
def Kc(n)(cW:0<=n)(h:n<=1000)(c:gM):sN.wrap (n+(c.toNat:J))=n+c.toNat:=by have:=c.toNat_lt;rw[rM];omega
def alx{d}(Q:65536<=d)(h:256<=d/65536):ps [((0:J)+16+8+((oA.data.getD (d/65536/256) 0).toNat:J))]=.int .i64 (gb d):=by rw[gb,if_pos Q,if_pos h];congr 1
def aly{d}(Q:65536<=d)(h:¬256<=d/65536):ps [((0:J)+16+((oA.data.getD (d/65536) 0).toNat:J))]=.int .i64 (gb d):=by rw[gb,if_pos Q,cS h];congr 1
def alz{d}(Q:¬65536<=d)(h:256<=d):ps [((0:J)+8+((oA.data.getD (d/256) 0).toNat:J))]=.int .i64 (gb d):=by rw[gb,cS Q,if_pos h];congr 1
def alA{d}(Q:¬65536<=d)(h:¬256<=d):ps [((0:J)+((oA.data.getD d 0).toNat:J))]=.int .i64 (gb d):=by rw[gb,cS Q,cS h,Int.zero_add];rfl
def PL(d:V)(h:d<4294967296):d0 cQ 242 [.int .u64 d] (gb d):=by
 refine d5 alB 1 Z cV (dk ?_)
 refine dT (λa=>?_) λa=>?_
 .refine dk ?_;rw[alw]
  refine dT (λb=>?_) λb=>?_
  .refine dk ?_;rw[YJ];refine eH ?_;have x:(d/65536/256)<oA.size:=HR;refine ea x (dk ?_);refine md (Kb _) (dk ?_);refine md (Kc _ cZ cZ _) (dk ?_);exact dg Z (alx R R)
  .refine eH ?_;have x:(d/65536)<oA.size:=HR;refine ea x (dk ?_);refine md (Kb _) (dk ?_);refine md (Kc _ cZ cZ _) (dk ?_);exact dg Z (aly R R)
 .refine dk ?_
  refine dT (λb=>?_) λb=>?_
  .refine dk ?_;rw[YJ];refine eH ?_;have x:(d/256)<oA.size:=HR;refine ea x (dk ?_);refine md (Kb _) (dk ?_);refine md (Kc _ cZ cZ _) (dk ?_);exact dg Z (alz R R)
  .refine eH ?_;have x:(d)<oA.size:=HR;refine ea x (dk ?_);refine md (Kb _) (dk ?_);refine md (Kc _ cZ cZ _) (dk ?_);exact dg Z (alA R R)
def eT(n:V):gM:=UInt8.ofNat (48+n%10)
def lb:V->V->I gM
 |0,_=>[]
 |k+1,n=>if n<10 then [eT n] else lb k (n/10)++[eT n]
def oB(n:V):I gM:=lb 20 n
def f2(n:V):dG:=⟨(oB n).toArray⟩
def PM:dG:=⟨#[48,49,50,51,52,53,54,55,56,57,97,98,99,100,101,102,103,104,105,106,107,108,109,110,111,112,113,114,115,116,117,118,119,120,121,122]⟩
def Al:dG:=⟨#[48,48,48,49,48,50,48,51,48,52,48,53,48,54,48,55,48,56,48,57,49,48,49,49,49,50,49,51,49,52,49,53,49,54,49,55,49,56,49,57,50,48,50,49,50,50,50,51,50,52,50,53,50,54,50,55,50,56,50,57,51,48,51,49,51,50,51,51,51,52,51,53,51,54,51,55,51,56,51,57,52,48,52,49,52,50,52,51,52,52,52,53,52,54,52,55,52,56,52,57,53,48,53,49,53,50,53,51,53,52,53,53,53,54,53,55,53,56,53,57,54,48,54,49,54,50,54,51,54,52,54,53,54,54,54,55,54,56,54,57,55,48,55,49,55,50,55,51,55,52,55,53,55,54,55,55,55,56,55,57,56,48,56,49,56,50,56,51,56,52,56,53,56,54,56,55,56,56,56,57,57,48,57,49,57,50,57,51,57,52,57,53,57,54,57,55,57,56,57,57]⟩
def alC:PM.size=36:=cV
def YK:Al.size=200:=cV
def alD:∀i,i<10->PM.extract i (i+1)=f2 i:=EB
def alE:∀i,i<100->10<=i->Al.extract (i*2) (i*2+2)=f2 i:=EB
def alF(i:V)(h:i<100):d0 cQ 178 [i] (.str (f2 i)):=by
 refine d5 Tryz.func178 1 Z cV (cO ?_)
 refine dT (λQ=>?_) λQ=>?_
 .refine dk ?_;rw[show(i:J)+1=((i+1:V):J) by omega]
  have x:i+1<=PM.size:=by rw[alC];omega
  exact tv (Nat.le_succ i) x (cO (dg Z (eL c3.str (alD i R))))
 .refine dk ?_;rw[show(i:J)*2+2=((i*2+2:V):J) by omega,show(i:J)*2=((i*2:V):J) by omega]
  have x:i*2+2<=Al.size:=by rw[YK];omega
  exact tv R x (cO (dg Z (eL c3.str (alE i h R))))
def YO {n:J}:rO.wrap n=n%4294967296:=by simp [la,PN,alL]
def YP {n:J}:Gq.wrap n=n%18446744073709551616:=by simp [la,PN,alL]
def PO {k:IntKind} {a b:J} {K:J->Prop} (hb:b≠0) (dt:0<=a) (hw:k.wrap (a/b)=a/b) (h:K (a/b)):BS N k a b K:=ag3 hb (by rw [if_pos Z,Int.tdiv_eq_ediv_of_nonneg dt,hw];exact h)
def ld (n:V):I (I c3):=eQ n [.int .u8 0]
def alM{i:J}(h:i<200):i<((Al.size:V):J):=by rw[YK];exact h
def YQ:∀ i,i<200->Al.data.getD i 0=if i%2=1 then eT (i/2) else eT (i/20):=by decide+kernel
def fe (c:gM):I c3:=[.int .u8 c.toNat]
def YR {x y:V} (h:x%10=y%10):eT x=eT y:=by unfold eT;rw [h]
def alN {i:J} {t:dG} (a:t=Al) (y:V) (h:0<=i/\i<200/\i%2=1/\i/2%10=(y:J)%10):[c3.int .u8 ((t.data.getD i.toNat 0).toNat:J)]=fe (eT y):=by rw [a,YQ i.toNat (by omega),if_pos (by omega),YR (y:=y) (by omega)];rfl
def alO {i:J} {t:dG} (a:t=Al) (y:V) (h:0<=i/\i<200/\i%2=0/\i/20%10=(y:J)%10):[c3.int .u8 ((t.data.getD i.toNat 0).toNat:J)]=fe (eT y):=by rw [a,YQ i.toNat (by omega),cS (by omega),YR (y:=y) (by omega)];rfl
def alP {i:J} (y:V) (h:i=(y:J) /\y<10):[c3.int .u8 (48+i)]=fe (eT y):=by
 rw [h.1];have:(eT y).toNat=48+y:=(by decide+kernel:∀ x,x<10->(eT x).toNat=48+x) y h.2
 unfold fe;rw [this];rfl
def alQ {α:Type} {a b:α} {l m:I α} (h:a=b) (k:l=m):a::l=b::m:=by rw [h,k]
def Ke {q:Prop}(h:q:=by
  apply congrArg (fun l => some (d4.row l 1 false))
  repeat' first
    | with_reducible rfl
    | refine alQ (α := List c3) ?_ ?_
    | (show [c3.int .u8 _] = _
       first
       | with_reducible exact alN (by kernel_rfl) _ (by omega)
       | with_reducible exact alO (by kernel_rfl) _ (by omega)
       | with_reducible exact alP _ (by omega)
       | exact rfl)):q:=h
def PP {K G:Prop} (k:K) (h:j5 K->G:=by
 intro k;refine dk ?_
 repeat first
  |refine md (by rw [YO];omega) (dk ?_)
  |refine zr (by omega) (by omega) (dk ?_)
  |refine PO (by omega) (by omega) (by rw [YO];omega) (dk ?_)
  |refine PO (by omega) (by omega) (by rw [YP];omega) (dk ?_)
  |refine kn (by omega) (alM (by omega)) (dk ?_)
  |refine kn (by decide) (by decide) (cO ?_)
  |refine d2 rfl (dk ?_)
  |refine md (by rw [Uf];omega) (dk ?_)
 exact k.k):G:=h ⟨k⟩
def Gs {q:Prop} (h:q:=by
 refine hl Tryz.func180 2 rfl (by kernel_rfl) (by rfl) (cO ?_);apply eW (D:=Nat) (fun _=>[(0,.win 1000000 1 _ (some 23)),(1,.d (.int .u64 u)),(4,.d (.int .i64 _))]) (fun _=>[(1000000,.row (ld 24) 1 false)]) (fun _=>True) (fun _=>0) 0 trivial (dX (dH ⟨rfl,rfl,rfl,trivial⟩ ⟨rfl,trivial⟩ ⟨rfl,rfl,rfl,rfl⟩))
 rintro k-
 conv=>whnf
 refine PP ?_
 exact ge rfl rfl rfl ⟨Ke,trivial⟩):q:=h
def alR (u:V) (cW:100000<=u) (Q:u<1000000):fI cQ 180 [.win 1000000 1 6 (U 23),.d (.int .u64 u)] [(1000000,.row (ld 24) 1 L)] [(1000000,.row ([.int .u8 0]::[fe (eT (u/100000)),fe (eT (u/10000)),fe (eT (u/1000)),fe (eT (u/100)),fe (eT (u/10)),fe (eT u)]++ld 17) 1 L)] (.dS []):=Gs
def alS (u:V) (cW:1000000<=u) (Q:u<10000000):fI cQ 180 [.win 1000000 1 7 (U 23),.d (.int .u64 u)] [(1000000,.row (ld 24) 1 L)] [(1000000,.row ([.int .u8 0]::[fe (eT (u/1000000)),fe (eT (u/100000)),fe (eT (u/10000)),fe (eT (u/1000)),fe (eT (u/100)),fe (eT (u/10)),fe (eT u)]++ld 16) 1 L)] (.dS []):=Gs
def YS (u:V):I (I c3):=[fe (eT (u/10000000)),fe (eT (u/1000000)),fe (eT (u/100000)),fe (eT (u/10000)),fe (eT (u/1000)),fe (eT (u/100)),fe (eT (u/10)),fe (eT u)]
def YT {q:Prop} (h:q:=by
 refine hl Tryz.func180 2 rfl (by kernel_rfl) (by rfl) (cO ?_);apply eW (D:=Bool) (fun k=>[(0,.win 1000000 1 _ (some 23)),(1,.d (.int .u64 (bif k then ((u/100000000:Nat):Int) else (u:Int)))),(4,.d (.int .i64 (bif k then PQ else PQ+8)))]) (fun k=>[(1000000,.row (bif k then YU else ld 24) 1 false)]) (fun _=>True) (fun k=>bif k then 0 else 1) false trivial (dX (dH ⟨rfl,rfl,rfl,trivial⟩ ⟨rfl,trivial⟩ ⟨rfl,rfl,rfl,rfl⟩))
 rintro k-
 cases k with
 |false=>
  simp only [cond_false]
  conv=>whnf
  refine PP ?_;refine ⟨true,trivial,Nat.zero_lt_one,(dX (dH ⟨rfl,congrArg (fun z=>dp.d (.int .u64 z)) (show (u:Int)/100000000=((u/100000000:Nat):Int) by omega),rfl,trivial⟩ ⟨Ke,trivial⟩ ⟨Eq.symm Ke,rfl,rfl,rfl⟩))⟩
 |true=>
  simp only [cond_true]
  conv=>whnf
  refine PP ?_
  exact ge rfl rfl rfl ⟨Ke,trivial⟩):q:=h
def alT (u:V) (cW:10000000<=u) (Q:u<100000000):fI cQ 180 [.win 1000000 1 8 (U 23),.d (.int .u64 u)] [(1000000,.row (ld 24) 1 L)] [(1000000,.row ([.int .u8 0]::[fe (eT (u/10000000)),fe (eT (u/1000000)),fe (eT (u/100000)),fe (eT (u/10000)),fe (eT (u/1000)),fe (eT (u/100)),fe (eT (u/10)),fe (eT u)]++ld 15) 1 L)] (.dS []):=by
 let PQ:J:=0
 let YU:=[.int .u8 0]::YS u++ld 15
 exact YT
def alU (u:V) (cW:100000000<=u) (Q:u<1000000000):fI cQ 180 [.win 1000000 1 9 (U 23),.d (.int .u64 u)] [(1000000,.row (ld 24) 1 L)] [(1000000,.row ([.int .u8 0]::[fe (eT (u/100000000)),fe (eT (u/10000000)),fe (eT (u/1000000)),fe (eT (u/100000)),fe (eT (u/10000)),fe (eT (u/1000)),fe (eT (u/100)),fe (eT (u/10)),fe (eT u)]++ld 14) 1 L)] (.dS []):=by
 let PQ:J:=1
 let YU:=[.int .u8 0]::[.int .u8 0]::YS u++ld 14
 exact YT
def fs(w:dG):I c3:=[.str w]
def f1(n:V):I c3:=[n]
def jM:I dG->dB (I V)
 | []=>U []
 |w::r=>match l0 w with
  |some n=>(jM r).map (n::·)
  |none=>cL
def amx(o:dB (I V)):c3:=match o with
 |some l=>.dS [.dm (l.map f1),.bool N]
 |none=>.dS [.dm [],.bool L]
def Y0(ws)(l:ws.length<=1000000)(b:∀w∈ws,w.size<=9223372036854775807):d0 cQ 49 [.dm (ws.map fs)] (amx (jM ws)):=by
 have m:(ws.map fs).length=ws.length:=ec ..
 refine d5 Tryz.func49 1 Z cV (c7 ?_);refine eW (D:=V×I V) (λx=>[(4,.own 25),(9,.d (.dm (ws.map fs))),(10,.d (ws.map fs).length),(11,.d x.1)]) (λx=>[(25,.row (x.2.map f1) 1 L)])
  (λx=>x.1<=ws.length/\ (x.2.length=x.1/\jM ws=(jM (ws.drop x.1)).map (x.2++·))) (λx=>ws.length-x.1) (0,[]) ⟨eY _,Z,dw⟩ (nd (.row 4 25 1) g_ (dH ff ez dV)) ?_
 rintro⟨k,a⟩ ⟨f,c,c0⟩;simp only at f c c0
 conv=>whnf
 refine dT (λdu=>?_) λdu=>?_
 .have eR:k<ws.length:=R
  have cP:=qT eR;refine ea R (cO ?_);refine d2 (x:=fs ws[k]) iJ (c7 ?_);have o:=Ak ws[k] (b _ (hF eR))
  cases hw:l0 ws[k]with
  |none=>
   rw[hw]at o;refine df o (c7 ?_)
   have e:jM ws=cL:=by rw[c0,cP,jM,hw];rfl
   exact dg Z (by rw[e];rfl)
  |some n=>
   rw[hw]at o;refine df o (c7 ?_);refine fO 1000100 100 (by show pt _+1<=1000100;grind) cZ cZ cZ (c7 ?_);refine⟨(k+1,a++[n]),⟨by omega,by simp[c],?_⟩,by omega,(dX (dH ff ⟨xw,dM⟩ dV))⟩;rw[c0,cP,jM,hw]
   cases jM (ws.drop (k+1))<;>simp
 .have e:k=ws.length:=R
  have d:jM ws=U a:=by rw[c0,e,CY (fi _)];simp[jM]
  exact dg Z (by rw[d];rfl)
def mQ:I gM->I (I gM)
 | []=>[[]]
 |c::l=>if c=32 then []::mQ l else match mQ l with
  |x::dD=>(c::x)::dD
  | []=>[[c]]
def TC:∀l,mQ l≠[]
 | []=>by simp[mQ]
 |c::l=>by
  unfold mQ;grind
def PU:∀ {l},kU l 32=-1->mQ l=[l]
 | [],_=>rfl
 |b::l,h=>by
  unfold kU at h
  by_cases hb:(b==32)=N
  .simp_all
  .rw[cS hb]at h;have a:=zi
   have Q:kU l 32=-1:=by
    by_cases c:(kU l 32==-1)=N
    .simp_all
    .rw[cS c]at h;have:=Kf l 32;omega
   simp[mQ,a,PU Q]
def PV:∀ {l} {n:V},kU l 32=n->n+1<=l.length/\mQ l=l.take n::mQ (l.drop (n+1))
 | [],n,h=>by simp[kU]at h
 |b::l,n,h=>by
  unfold kU at h
  by_cases hb:(b==32)=N
  .rw[if_pos hb]at h;have:n=0:=R;subst this;have a:=zi;simp[mQ,a]
  .rw[cS hb]at h;have a:=zi
   by_cases c:(kU l 32==-1)=N
   .simp_all
   .rw[cS c]at h;obtain⟨m,rfl⟩:∃m,n=m+1:=⟨n-1,by grind⟩;have⟨d,e⟩:=PV (l:=l) (n:=m) R;refine⟨hy,?_⟩
    conv=>lhs;unfold mQ
    simp_all
def Y1:∀l,(mQ l).length=wR l 32+1
 | []=>rfl
 |c::l=>by
  have i:=Y1 l;unfold mQ
  by_cases h:c=32
  .rw[if_pos h];simp[wR,amy,h]at i⊢;omega
  .rw[cS h]
   have:wR (c::l) 32=wR l 32:=by simp[wR,amy,h]
   grind
def jU(s:dG):I dG:=(mQ s.data.toList).map λl=>⟨l.toArray⟩
def Gu(s):(jU s).length=wR s.data.toList 32+1:=by rw[jU,ec,Y1]
def Y2(s):(⟨s.data.toList.toArray⟩:dG)=s:=ByteArray.ext (z4.1 dw)
def Y3{s}(h:yt s<0):jU s=[s]:=by
 have Q:kU s.data.toList 32=-1:=by have:=Kf s.data.toList 32;unfold yt at h;omega
 rw[jU,PU Q];rfl
def Y4{s}{n:V}(h:yt s=n):n+1<=s.size/\jU s=s.extract 0 n::jU (s.extract (n+1) s.size):=by
 have zm:s.data.toList.length=s.size:=lz;have⟨Q,a⟩:=PV (l:=s.data.toList) (n:=n) h;have b:(⟨(s.data.toList.take n).toArray⟩:dG)=s.extract 0 n:=ByteArray.ext (z4.1 eM)
 have e:(s.extract (n+1) s.size).data.toList=s.data.toList.drop (n+1):=by rw[Y5];simp;rw[vm T8]
 refine⟨R,?_⟩;rw[jU,a,jU,e,<-b];rfl
def Y6{ws dc}(h:ws.length<=dc):((ws++eQ (dc+1-ws.length) fB).map fs)[ws.length]?=U (fs fB):=hN
def Y7{ws dc}(h:ws.length<=dc)(x):((ws++eQ (dc+1-ws.length) fB).map fs).set ws.length (fs x)=((ws++[x])++eQ (dc+1-(ws++[x]).length) fB).map fs:=by have⟨m,a⟩:∃m,dc+1-ws.length=m+1:=⟨dc-ws.length,R⟩;grind
def Y8(l):wR l 32<=l.length:=List.count_le_length
def amA(s)(d:s.size<=1000000):d0 cQ 65 [.str s,.str ⟨#[32]⟩,.int .i64 0,.int .i64 (-1)] (.dm ((jU s).map fs)):=by
 have j:=Y8 s.data.toList;have z:s.data.toList.length=s.size:=lz;have w:=Gu s;refine d5 Tryz.func65 4 Z (by kernel_rfl) (c7 ?_);refine df (aks s) (c7 ?_);have⟨dc,q⟩:∃dc,wR s.data.toList 32=dc:=⟨_,Z⟩;rw[q]at j w⊢;rw[show min ((dc:J)+1) ((s.size:J)+1)=(dc:J)+1 by omega];rw[show((dc:J)+1).toNat=dc+1 by omega];refine fO 1000100 100 R cZ cZ cZ (c7 ?_);have cW:=w;refine eW (D:=I dG×dG) (λx=>[(0,.d (.str x.2)),(1,.d (.str ⟨#[32]⟩)),(2,.d (.int .i64 0)),(3,.d dc),(9,.own 31),(10,.d x.1.length)])
  (λx=>[(31,.row ((x.1++eQ (dc+1-x.1.length) fB).map fs) 1 L)])
  (λx=>x.1++jU x.2=jU s/\x.2.size<=1000000) (λx=>dc-x.1.length) ([],s) ⟨Z,d⟩ (dX (dH ⟨Z,Z,Z,by show dp.d (.int .i64 _)=dp.d (.int .i64 _);grind,Z,Z,dM⟩ ⟨by rw[vh,Y9];rfl,dM⟩ dV)) ?_
 rintro⟨ws,r⟩ ⟨hw,k⟩;simp only at hw k;have l:=eL pt hw;rw[kv,cW,Gu]at l
 conv=>whnf
 refine dT (λdu=>?_) λdu=>?_
 .have c:(ws.length:J)<dc:=du
  have o:0<=yt r:=by
   rcases Y_ (yt r) 0 with h|h
   .have:=eL pt (Y3 h);grind
   .exact h
  have⟨m,a⟩:=PW o;have⟨dY,p⟩:=Y4 a;have i:=PJ r;rw[a]at i;refine eH ?_;rw[show(m:J)+0=(m:J) by omega];refine oV hN (cO ?_);refine ea hN (cO ?_);refine d2 (x:=fs fB) (Y6 (dc:=dc) (ws:=ws) R) (c7 ?_);rw[show((⟨#[32]⟩:dG).size:J)=1 from Z];refine eH ?_;rw[show(m:J)+1=((m+1:V):J) by omega];refine pW (by exact dY) (c7 ?_);have b:=Y7 (dc:=dc) (ws:=ws) R (r.extract 0 m);refine⟨(ws++[r.extract 0 m],r.extract (m+1) r.size),⟨by simp_all,by simp;omega⟩,by simp;omega,(dX (dH ⟨Z,Z,Z,Z,Z,by show dp.d (.int .i64 _)=dp.d (.int .i64 _);grind,dM⟩ ⟨by rw[<-b];rfl,dM⟩ dV))⟩
 .have c:¬(ws.length:J)<dc:=du
  have e:ws.length=dc:=R
  refine ea eM (cO ?_);refine d2 (x:=fs fB) (Y6 (dc:=dc) (ws:=ws) R) (c7 ?_);refine md (by show sN.wrap ((ws.length:J)+1)=(ws.length:J)+1;rw[rM];omega) (cO ?_);rw[show(((ws,r).fst.length:V):J)+1=((ws.length+1:V):J) by rfl];have b:=Y7 (dc:=dc) (ws:=ws) R r
  have g:dc+1-(ws++[r]).length=0:=by simp;omega
  rw[g,List.replicate_zero,qW]at b;rw[show((List.map fs ((ws,r).fst++eQ (dc+1-(ws,r).fst.length) fB)).set (ws,r).fst.length (iC (fs fB) 0 ((λdx=>c3.str (ws,r).snd::dx) [])))=(ws++[r]).map fs from b];refine oV dw (cO ?_)
  have f:jU r=[r]:=by
   rcases Y_ (yt r) 0 with h|h
   .exact Y3 h
   .have⟨m,a⟩:=PW h;have p:=eL pt (Y4 a).2;rw[nF,Gu,Gu]at p;omega
  rw[<-hw,f]
  exact dg Z (by
   have n:(((ws++[r]).map fs).drop 0).take (ws.length+1-0)=(ws++[r]).map fs:=by rw[C0];exact vm dw
   simp_all)
def amB(s)(a:s.size<=1000000):d0 cQ 46 [.str s,.str ⟨#[32]⟩] (.dm ((jU s).map fs)):=by refine d5 Tryz.func46 2 Z cV (cO ?_);refine df (amA s a) (c7 ?_);rfl
