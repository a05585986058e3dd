/- What is proved here: what functions of the program compute, and what follows; no condition beyond each theorem's own. -/
import Derived.ChangeArms
import Derived.ChangeSame
import Derived.Conc.Neutral
import Derived.Lib.Builder
import Derived.Lib.Bytealg
import Derived.Lib.FrozenHead
import Derived.OpenShut
import Derived.ReadAgain
import Derived.RowKit
import Derived.WideShapes
import Derived.Test.YtfnijfdfhgpimaaGreatDoorWc
set_option linter.all false
noncomputable section
set_option maxHeartbeats 0
open And renaming imp->OE
open Array renaming getElem?_modify->UX
open BitVec renaming allOnes->amb,eq_of_toNat_eq->al1,ofInt->qv,ofNat->tB,toNat_ofInt->amf,toNat_ofNat->Pf,toNat_shiftLeft->Yy,toNat_ushiftRight->Pe,toNat_xor->al6,xor_assoc->alZ
open Bool renaming false->L,true->N
open ByteArray renaming data_extract->OZ,empty->fI
open Classical renaming choose->IZ,choose_spec->Wz,not_forall->J4
open Decidable renaming decide->gV
open Go renaming Act->e7,Addr->gP,Event->hB,Goroutine->dN,Program->el,TypeId->eH,Value->dp,World->c',growslice_fits->Ny,heap_alloc_old->Xl,invoke->ij,mapM_some_length->ajH,nextslicecap_zero->ag2,resolve->ii,run_append_own->ajs,run_firstCells_none->ag3,run_sameAddr_same->ajc,variablesAt->Xc
open Go.Addr renaming add->oN,add_lit->ag4
open Go.Builtin renaming append_->h9,firstCells->k_,lenOf->pZ,len_->xF,nextslicecap->wc,unsafeSliceData_->OB,unsafeString_->B'
open Go.CallKind renaming early->ze
open Go.Conc renaming Neutral->xE
open Go.DataW renaming trod->Xx
open Go.Deferred renaming ofValue->sd
open Go.Extern.AbiNoEscape renaming same->ajm
open Go.Extern.BytealgCount renaming count->ai4
open Go.Extern.BytealgIndexByte renaming indexByte->aiZ
open Go.Extern.Bytes renaming asByte->ai1,bytesOf->ai0
open Go.Instr renaming storeAt->zv,sureAddr->lA
open Go.IntKind renaming bits->OQ,i64->sj,signed->akp,u32->rr,u64->Fy,u8->B9,wrap->kU
open Go.Lib renaming byteCells_append->ajq,countByte->wn,indexByte->kF,ownBlock_neF->Xi,run_append_own_string->ag0,run_firstCells_string->Vc
open Go.Op renaming equalIn->n2
open Go.Proofs.Tryz renaming func122->ai7,func128->ai3,func166->aiY,func242->akf,func324->anz,func64->ajl,func92->ai9,prog->cR
open Go.Question renaming forced->un
open Go.Region renaming free->M5,noSelect->M6,ready->ms,wanted->jf
open Go.Value renaming cells->Jg,okWide->Jf,ownBlock->Nx
open Go.World renaming cell?->j3,cells?->ajG,freeze->Xr,ownsRowF_of->agY,ownsRow_nil->Nw,setCell->Tv,shape?->Fq
open Int renaming eq_ofNat_of_zero_le->O0,lt_or_le->X9,toNat->Fx
open List renaming countP_cons->PR,countP_set->Zn,count_cons->alb,drop->zx,eraseIdx_of_length_le->Zw,ext_getElem->Pj,filterMap_append->Qd,filter_cons_of_pos->ZD,getElem?_set_self->Z9,getElem_map->JH,getElem_range->YD,length->pY,length_filterMap_le->ZJ,length_mergeSort->ZI,map_replicate->X8,mergeSort_perm->anK,pairwise_mergeSort->anI,range->iB,replicate->eL,set_set->aog,take->BZ,take_add->ajI,take_add_one->Je
open Nat renaming add_comm->IF,add_mod_right->Zo,blt->xq,lt_of_not_le->Oz,pow_succ->ON,shiftLeft_eq->al2,shiftRight_eq_div_pow->Yz,xor_lt_two_pow->ame
open Option renaming bind_eq_some_iff->ajF,none->cM,some->U
open _root_ renaming Array->ea,Bool->dh,ByteArray->dS,Decidable->qu,Int->I,List->J,Nat->V,Option->dB,UInt8->hj,absurd->dQ,rfl->Z,trivial->dU
namespace Go.Lk
def m6:=@Array.length_toList
def rp:=@IntKind.wrap_i64
def Jr:=@Lib.indexByte_ge
def Fr:=@heap_alloc_new
def Iv:=@run_firstCells_some
def Jm:=@Int.fdiv_eq_ediv_of_nonneg
def kZ:=@Int.le_refl
def gl:=@Int.toNat_natCast
def pr:=@List.cons_append
def Ce:=@List.drop_of_length_le
def Cg:=@List.drop_zero
def FB:=@List.eq_of_mem_replicate
def Cc:=@List.getElem?_eq_none
def zX:=@List.getElem_set
def wK:=@List.getElem_set_ne
def tN:=@List.getElem_set_self
def kG:=@List.length_append
def CA:=@List.length_filter_le
def ef:=@List.length_map
def h':=@List.length_set
def jt:=@List.map_append
def qK:=@List.map_nil
def sv:=@List.map_set
def zH:=@List.map_toArray
def py:=@List.nodup_append
def FX:=@List.nodup_nil
def Cz:=@List.pairwise_append
def p9:=@List.take_length
def u1:=@List.take_of_length_le
def x7:=@Nat.lt_succ_iff_lt_or_eq
def ps:=@Nat.not_lt_zero
def Fw:=@Nat.pow_le_pow_right
def It:=@decide_eq_false_iff_not
def FV:=@decide_eq_true_eq
namespace Dk
section
open Go.Conc Go.Lib Go.Proofs
set_option maxRecDepth 100000
def pi(cN:dh)(w:c')(v:dp)(n:V)(dD:J dp):Prop:=if cN=N then w.ownsRowF 0 5 1 v n dD else w.ownsRow 0 5 1 v n dD
def pi.f{cN w v n dD}(h:pi cN w v n dD):w.ownsRowF 0 5 1 v n dD:=by
 cases cN
 .exact agY h
 .exact h
noncomputable def nr:TypeInfo:=(cR.info? 5).getD default
def pj:cR.info? 5=U nr:=c2
def n3:nr.size=1:=c2
def to:nr.bytes=1:=c2
def tp:nr.zero=U (.int .u8 0):=c2
def n4:cR.underlying 26=U (.slice 5):=c2
def tq:cR.underlying 9=U .string:=c2
def ownsRow.base{w:c'}{b e cQ:V}{v n dD}(h:w.ownsRow b e cQ v n dD):w.ownsRow 0 e cQ v n dD:=by
 refine⟨h.1,?_⟩;rcases h.2 with h|⟨g,cap,u,a,b,c⟩
 .grind
 grind
def Vb(w:c')(v fN:dp):Prop:=fN.ownBlock=v.ownBlock\/ ∃k,fN.ownBlock=U k/\w.heap.size<=k
def agZ{cN w v n dD}(h:pi cN w v n dD)(s dm)(b:n+s.size<=maxLen)(hb:n+s.size<=140737488355328):
  ∃fN w',(h9 #[26,9] dm #[v,.string s]).run cR w=.ok fN w'/\pi cN w' fN (n+s.size) (dD++strCells s) /\w.grownBy w' v.ownBlock/\Vb w v fN/\ (v.ownBlock=cM->s.size=0->fN.ownBlock=cM):=by
 have c6:=h.f;rcases c6.2 with⟨rfl,rfl⟩|⟨g,cap,c,d,rfl,p,i,q,r,t,j,u⟩
 .have l:dD=[]:=by have:=c6.1;simpa using this
  subst l;have⟨fN,w',Q,c5,a,m⟩:=ag0 (P:=cR) w w.heap.size 26 9 dm 5 nr n4 tq pj tp n3 to (.slice cM 0 0) 0 [] (Nw _ _ _ _) s b hb (fB _);refine⟨fN,w',Q,?_,a,?_,λ_ c7=>by simp_all⟩
  .cases cN
   .exact ownsRow.base c5
   .exact agY (ownsRow.base c5)
  .cases cU:fN.ownBlock with|none=>exact .inl (by rw[cU];rfl)|some k=>exact .inr ⟨k,cU,(c5.lt k cU).1⟩
 .have⟨fN,w',Q,c5,a,m⟩:∃fN w',(h9 #[26,9] dm #[.slice (U ⟨g,0,cM⟩) n cap,.string s]).run cR w=.ok fN w'/\pi cN w' fN (n+s.size) (dD++strCells s) /\w.grownBy w' (Nx (.slice (U ⟨g,0,cM⟩) n cap)) /\True:=by
   cases cN
   .have⟨fN,w',Q,c5,a,_⟩:=ag0 (P:=cR) w 0 26 9 dm 5 nr n4 tq pj tp n3 to _ n dD (show w.ownsRow 0 5 1 _ n dD from h) s b hb (e3 _);exact⟨fN,w',Q,c5,a,dU⟩
   .have⟨fN,w',Q,c5,a,_⟩:=run_append_own_stringF (P:=cR) w 0 26 9 dm 5 nr n4 tq pj tp n3 to _ n dD (show w.ownsRowF 0 5 1 _ n dD from h) s b hb (e3 _);exact⟨fN,w',Q,c5,a,dU⟩
  refine⟨fN,w',Q,c5,a,?_,λe=>by cases e⟩
  have x:c.size=cap:=by simpa using j
  by_cases o:n+s.size<=cap
  .have dI:=run_append_room_stringF (P:=cR) w 26 9 dm 5 nr n4 tq pj n3 g n cap c d i R s o R;rw[dI]at Q
   cases Q
   exact .inl Z
  .have y:dD.length=n:=by simpa using c6.1
   have holds:=c6.cells (g:=g) Z;have dI:=run_append_grow_string (P:=cR) w 26 9 dm 5 nr (.int .u8 0) n4 tq pj tp ⟨g,0,cM⟩ n cap dD (by rw[n3];omega) holds s R R (by rw[to];exact Ny R R);rw[dI]at Q
   cases Q
   exact .inr ⟨_,Z,fB _⟩
def Nz(r:dB V)(e:hB):Prop:=(e.sync=L/\ ∃eb,e.loc=.cell eb/\U eb.block=r) \/ ∃m,e=⟨.mark m,L,N⟩ /\xE m
def EV{w s n v l c a}(cU:v=.slice a l c){es}(h:∀b,a=U b->∀j,j<n*s->(w.cell? (b.add j)).isSome):
  ∀du∈(k_ s n v).events cR w es,du∈es\/du.sync=L/\ ∃eb,du.loc=.cell eb/\U eb.block=v.ownBlock:=by
 subst cU
 cases a with
 |none=>exact λdu h=>.inl h
 |some b=>
  intro du e;rcases Ir b (n*s) 0 #[] w es (λj f=>by simp_all) du e with h|⟨Q,eb,d,g⟩
  .grind
  .exact .inr ⟨Q,eb,d,by rw[g];rfl⟩
def NA(g o t z):∀vs i c w es,w.heap[g]?=U (.cells c t z)->z.2<=o+i->o+i+vs.length<=c.size->(∀v∈vs,v.oneCell'=N)->
  ∀du∈(storeCells ⟨g,o,cM⟩ vs i).events cR w es,du∈es\/du.sync=L/\ ∃eb,du.loc=.cell eb/\eb.block=g
 | [],_,_,_,_,_,_,_,_=>λdu h=>.inl (by assumption)
 |v::rest,i,c,w,es,b,j,l,Q=>λdu h=>by
  have cK:o+i<c.size:=by simp at l;omega
  have a:(⟨g,o,cM⟩:gP).add i=⟨g,o+i,cM⟩:=by unfold oN;split<;>simp_all
  have e:w.cell? ⟨g,o+i,cM⟩=U c[o+i]:=by simp[j3,b,cK]
  have f:w.frozen? ⟨g,o+i,cM⟩=L:=by have⟨dy,k⟩:=z;simp only[World.frozen?,b,Bool.and_eq_false_iff,It];right;simp only at j;omega
  have s:(store ((⟨g,o,cM⟩:gP).add i) v).run cR w=.ok () (w.setRow g (c.setIfInBounds (o+i) v)):=by rw[a,Ii cR w _ v _ (Q v dt),e];simp[f,setCell_eq_setRow w g (o+i) c t z v b]
  have d:(store ((⟨g,o,cM⟩:gP).add i) v).events cR w es=es.push ⟨.cell ⟨g,o+i,cM⟩,N,L⟩:=by rw[a,Ij cR w es _ v _ (Q v dt),e];simp[f,rh,qp];rfl
  simp[storeCells,jn,s,kE,d]at h;rcases NA g o t z rest (i+1) (c.setIfInBounds (o+i) v) (w.setRow g (c.setIfInBounds (o+i) v)) _ (setRow_heap w g c _ t _ b) R (by grind) (λx eC=>Q x G7) du h with h|h
  .grind
  simp_all
def Iu{w i n s es}:(k_ i n (.string s)).events cR w es=es:=rfl
def ag1{w v n dD}(d:w.ownsRowF 0 5 1 v n dD)(s dm)(o:n+s.size<=maxLen)(hb:n+s.size<=140737488355328):
  ∀du∈(h9 #[26,9] dm #[v,.string s]).events cR w #[],Nz v.ownBlock du:=by
 have k:∀e∈(#[]:ea hB),Nz v.ownBlock e:=by intro e he;simp at he
 have x:n+s.size<=9223372036854775807:=by simp[maxLen]at o;omega
 intro du c;rcases d.2 with⟨rfl,rfl⟩|⟨g,cap,l,p,rfl,y,q,z,A,B,r,C⟩
 .by_cases d8:s.size=0
  .simp[h9,fv n4,fv tq,sizeOf,typeInfo,pj,n3,pZ,d8,Iu]at c
  .have f:¬(9223372036854775807<(s.size:I)):=R
   have i:¬(281474976710656<wc s.size 0*nr.bytes):=by rw[ag2 R,to];omega
   have ee:=Vc (P:=cR) w.drew 1 s;simp[h9,fv n4,fv tq,sizeOf,typeInfo,zeroValue,pj,n3,tp,pZ,d8,f,i,un,ag3,ee,newRow,Iu]at c;rcases EV (a:=cM) rfl (λb e=>by cases e) du c with h|h
   .exact(BP _ _ _ du h).elim (k du) .inr
   .exact .inl h
 .have holds:=d.cells (g:=g) Z
  have D:l.size=cap:=by simpa using r
  have E:dD.length=n:=by simpa using d.1
  by_cases m:n+s.size<=cap
  .have ee:=Vc (P:=cR) w 1 s;simp[h9,fv n4,fv tq,sizeOf,typeInfo,pj,n3,pZ,m,ee,ag4,Iu]at c;rcases NA g n 5 p (strCells s) 0 l w _ q R (by rw[strCells_length];omega) (strCells_oneCell s) du c with h|⟨Q,eb,c5,t⟩
   .simp at h
   .exact .inl ⟨Q,eb,c5,by simp[Nx,t]⟩
  .have f:¬(9223372036854775807<((n:I)+(s.size:I))):=R
   have i:¬(281474976710656<wc (n+s.size) cap*nr.bytes):=by have:=Ny (need:=n+s.size) (old:=cap) (bytes:=nr.bytes) R (by rw[to];omega);omega
   have ee:=Vc (P:=cR) w.drew 1 s;have u:=Iv (P:=cR) w.drew 1 n ⟨g,0,cM⟩ n cap dD R (by assumption);simp[h9,fv n4,fv tq,sizeOf,typeInfo,zeroValue,pj,n3,tp,pZ,m,f,i,un,ee,u,newRow,Iu]at c;rcases EV (a:=U ⟨g,0,cM⟩) rfl (λb e j dL=>by simp_all) du c with h|h
   .exact(BP _ _ _ du h).elim (k du) .inr
   .exact .inl h
end
end Dk
open Go.ChangeShapes Go.RowKit Go.WideShapes
def OF(F:eH->J c3->Prop):J (V×eH)->J c3->Prop
 | [],dx=>dx=[]
 |(_,t)::r,dx=>∃a b,dx=a++b/\F t a/\OF F r b
def OG(F:J c3->Prop):V->J c3->Prop
 |0,dx=>dx=[]
 |n+1,dx=>∃a b,dx=a++b/\F a/\OG F n b
def iQ(T:fL):V->eH->J c3->Prop
 |0,_,_=>False
 |n+1,t,dx=>match (T t).k with
  | .int k=>∃x,dx=[.int k x] /\ (Lit.int k x).wf=N
  | .bool=>∃b,dx=[.bool b]
  | .str=>∃s:dS,dx=[.str s] /\s.size<=maxLen
  | .slice e=>∃l:J (J c3),dx=[.dk l] /\l.length<=maxLen/\ ∀x∈l,iQ T n e x
  | .struct ir=>OF (iQ T n) ir dx
  | .arr m e=>OG (iQ T n e) m dx
  |_=>False
def oP(T:fL):V->eH->dh
 |0,_=>L
 |m+1,t=>match (T t).k with
  | .int _=>N
  | .bool=>N
  | .str=>N
  | .slice e=>oP T m e
  | .arr _ e=>oP T m e
  | .struct ir=>ir.all λp=>oP T m p.2
  |_=>L
theorem Xw{T m t}(h:oP T m t=N):(T t).k.known=N:=by
 cases m with
 |zero=>cases h
 |succ m=>
  simp[oP]at h
  cases k:(T t).k<;>simp_all [nU.known]
def uY(T:fL)(n:V)(t:eH)(d:c3):Prop:=if(T t).k.agg=N then ∃dx,d=.agg dx/\iQ T n t dx else iQ T n t [d]
def tx(M:eE)(cs:J dp)(dx:J c3):Prop:=cs.length=dx.length/\ ∀(i:V) (d:c3) (v:dp),dx[i]?=U d->cs[i]?=U v->e1 M d v
theorem tx.app{M a b x y}(h:tx M a x)(e:tx M b y):tx M (a++b) (x++y):=by
 refine⟨by simp[h.1,e.1],λi d v Q c=>?_⟩
 by_cases cK:i<x.length
 .rw[v' cK]at Q;rw[v' (by rwa[h.1])]at c;exact h.2 i d v Q c
 .rw[xD R]at Q;rw[xD (by rw[h.1];omega),h.1]at c;exact e.2 _ d v Q c
theorem tx.one{M v d}(h:e1 M d v):tx M [v] [d]:=by refine⟨Z,λi a fN Q b=>?_⟩;grind
def ty(w:c'):eE:=λb o=>w.cell? ⟨b,o,cM⟩
section
variable {H:Type} {enc:eH×dp->H} {P:el} {T:fL} (cS:jB P T) {w:c'} {Cb:V->dh} {held:dh}
include cS in
theorem ajC{t}(h:(T t).k.known=N):P.cellsOf t=(T t).size:=by have⟨d,i,_,cK,_,s,_⟩:=(lC cS h).desc;simp[Program.cellsOf,cK,s]
include cS in
theorem ajD(K:Kids P (·<P.types.size)):∀(n) (t:eH) (cs) (x),t<P.types.size->(∃m,oP T m t=N)->
 Xx enc P w 0 Cb held n t cs=U x->∃dx,iQ T n t dx/\tx (ty w) cs dx:=by
 intro n
 induction n with
 |zero=>intro t cs x _ _ h;simp[Xx]at h
 |succ n D=>
  intro t cs x I z h;have⟨q,z⟩:=z;have c6:=Xw z
  cases q with
  |zero=>cases z
  |succ aa=>
  have⟨eW,aK,aL,_,aM,_,_,_,aN,_⟩:=(lC cS c6).desc
  cases r:(T t).k with
  |other=>rw[r]at c6;cases c6
  |ptr e=>simp[oP,r]at z
  |int k=>obtain⟨m,rfl,_,hw⟩:=DataW.trod_int (vB cS r) h;exact⟨[.int k m],by simp[iQ,r];simp_all,.one (.int k m)⟩
  |bool=>obtain⟨b,rfl,_⟩:=DataW.trod_bool (xw cS r) h;exact⟨[.bool b],by simp only[iQ,r];simp_all,.one (.bool b)⟩
  |str=>obtain⟨s,rfl,_,c7⟩:=DataW.trod_string (v5 cS r) h;exact⟨[.str s],by simp[iQ,r];simp_all,.one (.str s)⟩
  |slice e=>
   have⟨da,W⟩:=kC cS r;have ab:=K.slice I da;rcases DataW.trod_slice da h with⟨rfl,_⟩|⟨a,len,cap,y,rest,m,d8,rfl,_,_,aO,aP,aQ,u,_,_⟩
   .exact⟨[.dk []],by simp only[iQ,r];simp_all,.one (.emp _ _)⟩
   .obtain rfl:n=m:=R
    by_cases au:len=0
    .subst au;exact⟨[.dk []],by simp only[iQ,r];exact⟨[],Z,dt,dt⟩,.one (.emp _ _)⟩
    have dr:=ajC cS W;have dj:=pV cS W
    have ak:∀i,i<len->∃dx,iQ T n e dx/\dx.length=(T e).size/\a.spot=cM/\ ∀(j:V) (d:c3),dx[j]?=U d->∃v,w.cell? ⟨a.block,a.off+i*(T e).size+j,cM⟩=U v/\e1 (ty w) d v:=by
     intro i cK;have cL:=u i cK;have he:y[i]?=U (y[i]' R):=dt;rw[he]at cL;simp[ajF]at cL;have⟨C,c,av⟩:=cL;have⟨dx,aw,S⟩:=D e C _ ab ⟨aa,by simpa[oP,r]using z⟩ av
     have al:(iB (P.cellsOf e)).mapM (λj=>w.cell? ((a.add (i*P.cellsOf e)).add j))=U C:=by
      unfold ajG at c;split at c
      .exact c
      .cases c
     have A:C.length=(T e).size:=by have:=ajH al;simpa[dr]using this
     have ax:=λj M=>mapM_some_get al j j (by rw[In (by rwa[dr])])
     have ay:∀b:gP,w.cell? b≠cM->b.spot=cM:=by
      intro b hb;unfold j3 at hb
      cases c7:b.spot with
      |none=>rfl
      |some s=>exfalso;apply hb;split<;>simp[c7]
     have ac:a.spot=cM:=by
      have Y:=u 0 R;have az:y[0]?=U (y[0]' R):=dt;rw[az]at Y;simp[ajF]at Y;have⟨am,E,_⟩:=Y;unfold ajG at E;split at E
      .have e0:=ajH E;have:=mapM_some_get E 0 0 (by rw[In (by rwa[dr])])
       have an:am[0]?≠cM:=by
        have:0<am.length:=by rw[e0];simpa[dr]using dj
        rw[fe this];simp
       rw[<-this]at an;have:=ay _ an;simpa[oN]using this
      .cases E
     refine⟨dx,aw,by rw[<-S.1,A],ac,λj d M=>?_⟩
     have aA:j<(T e).size:=by rw[<-A,S.1];exact(fM.1 M).1
     have cU:C[j]?=U (C[j]' R):=dt;refine⟨_,?_,S.2 j d _ M cU⟩;rw[<-cU,<-ax j aA]
     congr 1
     obtain⟨ad,kA,aB⟩:=a;simp only at ac;subst ac;rw[mA,mA,dr]
    have⟨f,ee⟩:∃f:V->J c3,∀i,i<len->iQ T n e (f i)/\ (f i).length=(T e).size/\a.spot=cM/\ ∀(j:V) (d:c3),(f i)[j]?=U d->∃v,w.cell? ⟨a.block,a.off+i*(T e).size+j,cM⟩=U v/\e1 (ty w) d v:=by refine⟨λi=>if h:i<len then IZ (ak i h) else [],λi cK=>?_⟩;simp[EI cK];exact Wz (ak i cK)
    have O:=(ee 0 R).2.2.1;have⟨ad,kA,aB⟩:=a;simp only at O ee;subst O
    let l:J (J c3):=(iB len).map f
    have B:∀(i:V) (cV:J c3),l[i]?=U cV->i<len/\cV=f i:=by
     intro i cV cK;simp only[l,iO]at cK
     by_cases Q:i<len
     .rw[In Q]at cK;simp at cK;exact⟨Q,cK.symm⟩
     .rw[Cc hd]at cK;cases cK
    have ao:l.length=len:=by simp[l]
    refine⟨[.dk l],?_,?_⟩
    .simp only[iQ,r];refine⟨l,Z,by rw[ao];omega,λx aC=>?_⟩;have⟨i,cK,aD⟩:=List.getElem_of_mem aC;have⟨Q,cX⟩:=B i x (by rw[fe cK,aD]);rw[cX];exact(ee i Q).1
    .refine .one ?_;rw[show len=l.length from ao.symm];refine .dk l ad kA cap (T e).size (λi j=>(w.cell? ⟨ad,kA+i*(T e).size+j,cM⟩).getD undef) R (λi cV cK=>?_) (λi j cV d cK M=>?_) λi j cV d cK M=>?_
     .have⟨Q,cX⟩:=B i cV cK;rw[cX];exact(ee i Q).2.1
     .have⟨Q,cX⟩:=B i cV cK;subst cX;have⟨v,cU,_⟩:=(ee i Q).2.2.2 j d M;show w.cell? _=U _;rw[cU];rfl
     .have⟨Q,cX⟩:=B i cV cK;subst cX;have⟨v,cU,cP⟩:=(ee i Q).2.2.2 j d M;rwa[cU]
  |struct ir=>
   have⟨F,da,ae,aE,_⟩:=By cS r;have⟨X,c,aF⟩:=K.struct I da;have⟨dD,m,d8,_,A,ap,u⟩:=DataW.trod_struct da h;obtain rfl:n=m:=R
   have af:∀(G:J Field) (k o:V),F.toList.drop k=G->o=((F.toList.take k).map λf=>P.cellsOf f.type).sum->∃dx,OF (iQ T n) (G.map λf=>(f.offset,f.type)) dx/\tx (ty w) ((cs.drop o).take ((G.map λf=>P.cellsOf f.type).sum)) dx:=by
    intro G
    induction G with
    |nil=>intro k o _ _;exact⟨[],Z,by simp[tx]⟩
    |cons g G aG=>
     intro k o aq ar
     have H:F.toList[k]?=U g:=by have:=eR (·[0]?) aq;simpa using this
     have aH:F.toList.drop (k+1)=G:=by have:=eR (zx 1) aq;simpa[IF]using this
     have aI:g.offset=o:=by rw[aF k g H,ar]
     have dc:=jg H;have aR:=aE (g.offset,g.type) (by rw[<-ae];exact h4.2 ⟨g,dc,Z⟩);have cL:=u k g (by rwa[<-ER]);have ag:dD[k]?=U (dD[k]'(by rw[ap];have:=(fM.1 H).1;simpa using this)):=dt;rw[ag]at cL
     have⟨d1,ah,g6⟩:=D g.type _ _ (X g dc) ⟨aa,by
      simp only[oP,r,n0]at z
      exact z (g.offset,g.type) (by rw[<-ae];exact h4.2 ⟨g,dc,Z⟩)⟩ cL
     have⟨p,ai,aj⟩:=aG (k+1) (o+P.cellsOf g.type) aH (by
      rw[ar]
      have:F.toList.take (k+1)=F.toList.take k++[g]:=by rw[Je,H];rfl
      rw[this];simp)
     refine⟨d1++p,⟨d1,p,Z,ah,ai⟩,?_⟩
     have:(cs.drop o).take (((g::G).map λf=>P.cellsOf f.type).sum)=(cs.drop g.offset).take (P.cellsOf g.type)++(cs.drop (o+P.cellsOf g.type)).take ((G.map λf=>P.cellsOf f.type).sum):=by rw[aI];simp;rw[ajI,BM]
     rw[this];exact g6.app aj
   have⟨dx,k1,eF⟩:=af F.toList 0 0 Z Z;refine⟨dx,by simp[iQ,r];rwa[<-ae],?_⟩;rw[<-c,<-A]at eF;simpa using eF
  |arr m e=>
   have⟨da,W⟩:=Bx cS r;have⟨ab,c⟩:=K.array I da;have⟨dD,kV,aS,_,A,ap,u⟩:=DataW.trod_array da h;obtain rfl:n=kV:=R
   have af:∀(q k:V),k+q=m->∃dx,OG (iQ T n e) q dx/\tx (ty w) ((cs.drop (k*P.cellsOf e)).take (q*P.cellsOf e)) dx:=by
    intro q
    induction q with
    |zero=>intro k _;exact⟨[],Z,by simp[tx]⟩
    |succ q aJ=>
     intro k aT;have cL:=u k R;have ag:dD[k]?=U (dD[k]' R):=dt;rw[ag]at cL;have⟨d1,ah,g6⟩:=D e _ _ ab ⟨aa,by simpa[oP,r]using z⟩ cL;have⟨p,ai,aj⟩:=aJ (k+1) R;refine⟨d1++p,⟨d1,p,Z,ah,ai⟩,?_⟩
     have:(cs.drop (k*P.cellsOf e)).take ((q+1)*P.cellsOf e)=(cs.drop (k*P.cellsOf e)).take (P.cellsOf e)++(cs.drop ((k+1)*P.cellsOf e)).take (q*P.cellsOf e):=by rw[show(q+1)*P.cellsOf e=P.cellsOf e+q*P.cellsOf e by rw[qD,ES,IF],ajI,BM,show k*P.cellsOf e+P.cellsOf e=(k+1)*P.cellsOf e by rw[qD,ES]]
     rw[this];exact g6.app aj
   have⟨dx,k1,eF⟩:=af m 0 R;refine⟨dx,by simp[iQ,r];exact k1,?_⟩;grind
include cS in
theorem ajK(K:Kids P (·<P.types.size)){t:eH}{v d q r base}(s:t<P.types.size)(g:∃m,oP T m t=N)(b:Jf P w r base t v)(h:DataW.Trod enc P w 0 Cb held t v d q):
  ∃n f,uY T n t f/\e1 (ty w) f v:=by
 have⟨n,cY⟩:=h;have⟨dx,u,j⟩:=ajD cS K n t _ _ s g cY;have⟨m,g⟩:=g;have c6:=Xw g
 have p:∀cs:ea dp,v=.agg cs->(T t).k.agg=N->∃n f,uY T n t f/\e1 (ty w) f v:=by intro cs cU dq;subst cU;refine⟨n,.agg dx,by unfold uY;simp_all,.agg dx cs (by simpa[Jg]using j.1) λi d v Q c5=>j.2 i d v Q (by simpa[Jg]using c5)⟩
 have one:v.cells=#[v]->(T t).k.agg=L->∃n f,uY T n t f/\e1 (ty w) f v:=by
  intro cU dq
  have dw:dx.length=1:=by rw[<-j.1,cU];rfl
  obtain⟨d,rfl⟩:=List.length_eq_one_iff.1 dw;exact⟨n,d,by unfold uY;simp_all,j.2 0 d v Z (by rw[cU];rfl)⟩
 cases vF:(T t).k with|other=>rw[vF]at c6;cases c6|ptr e=>cases m<;>simp[oP,vF]at g|int k=>obtain⟨x,rfl⟩:=okWide_int (vB cS vF) b;exact one Z AR|bool=>obtain⟨x,rfl⟩:=okWide_bool (xw cS vF) b;exact one Z AR|str=>obtain⟨x,rfl⟩:=okWide_string (v5 cS vF) b;exact one Z AR|slice e=>obtain⟨a,l,c,rfl⟩:=okWide_slice (kC cS vF).1 b;exact one Z AR|struct ir=>have⟨F,o,_⟩:=By cS vF;have⟨cs,cU,_⟩:=okWide_struct o b;exact p cs cU AR|arr m e=>have o:=(Bx cS vF).1;unfold Jf at b;rw[o]at b;have⟨cs,cU,_⟩:=b;exact p cs cU AR
def wp(T:fL):J eH->J c3->Prop
 | [],dx=>dx=[]
 |t::a,dx=>∃n d r,dx=d::r/\uY T n t d/\wp T a r
include cS in
theorem Xy (K:Kids P (·<P.types.size)) {r} {base}:∀ {c:J eH} {vs} {dx} {f},(∀ t∈c,t<P.types.size/\ ∃ m,oP T m t=N)->
  (∀ (j:V) t v,c[j]?=U t->vs[j]?=U v->Jf P w r base t v)->DataW.TrodAll enc P w 0 Cb held c vs dx f->
  ∃ e,wp T c e/\e.length=vs.length/\dx.length=c.length/\ ∀ (i:V) (d) (v),e[i]?=U d->vs[i]?=U v->e1 (ty w) d v
 | [],vs,dx,f,_,_,h=>by
  obtain ⟨rfl,rfl,rfl⟩:=trodAll_nil h;exact ⟨[],Z,Z,Z,fun i d v h=>by simp at h⟩
 |t::c,vs,dx,f,g,l,h=>by
  obtain ⟨v,B,d,C,a,b,rfl,rfl,rfl,Q,c5⟩:=trodAll_cons h;obtain ⟨n,o,p,q⟩:=ajK cS K (g t (mz ..)).1 (g t (mz ..)).2 (l 0 t v Z Z) Q;obtain ⟨e,s,u,x,y⟩:=Xy K (fun t z=>g t (lD _ z)) (fun j t v Q c5=>l (j+1) t v (by simpa using Q) (by simpa using c5)) c5;refine ⟨o::e,⟨n,o,e,Z,p,s⟩,by simp [u],by simp [x],fun i A fN dG k=>?_⟩
  cases i with
  |zero=>
   simp only [uL,fx] at dG k;subst dG k;exact q
  |succ i=>exact y i A fN (by simpa using dG) (by simpa using k)
end
def pa{A B}(h:B):jy L A B:=⟨h⟩
def yR{A B}(h:A):jy N A B:=⟨h⟩
def AT{r:J Oper}{q:J oH}{i:V}{done:J oH}{p:J V}{K:Prop}(k:K)(h:uE r q i done p=N:=by kernel_rfl):jL (uE r q i done p=N) K:=fC h k
def AU{α:Type}{a:α}{K}(k:K):jL (a=a) K:=⟨⟨Z,k⟩⟩
def DN{c K:Prop}(k:K)(h:c:=by first|decide|omega):jL c K:=⟨⟨h,k⟩⟩
def yS{n:I}{K:I->Prop}(k:K n)(cW:-9223372036854775808<=n:=by omega)(Q:n<=9223372036854775807:=by omega):vV .i64 n K:=lZ (by rw[rp];omega) k
def rq{α}{l:J α}{k}(h:k<l.length):l.drop k=l[k]::l.drop (k+1):=rk h
def lX{α}{l:J α}{k}(h:k<l.length):l.take (k+1)=l.take k++[l[k]]:=by simp_all
def ajL{b A}(h:b=N)(k:A):bif b then A else False:=by simp_all
def dd{o}{d a:c3}(h:o=U a)(e:a=d):o=U d:=by rw[h,e]
@[simp] def ajM(d):pf [d]=d:=rfl
def fV{n bytes K}(m c)(cY:n<=m)(b:bytes<=c)(Q:m*c<=35184372088832)(h:m<=35184372088832)(k:K):r8 n bytes K:=
 HA (fJ (Nat.mul_le_mul cY b) Q) (fJ cY h) k
def ajN{P:el}{T}{fn:Func}(h:(fn.params.toList.all λt=>xq t P.types.size&&oP T 12 t)=N):∀t∈fn.params.toList,t<P.types.size/\ ∃m,oP T m t=N:=by intro t a;have:=n0.1 h t a;simp only[lB]at this;exact⟨ta this.1,12,this.2⟩
def ajO(P:el):dh:=(iB P.types.size).all λt=>match P.underlying t with
 |some (.slice e)=>xq 0 (P.cellsOf e)
 |_=>N
def ajP{P}(h:ajO P=N):∀t e,t<P.types.size->P.underlying t=U (.slice e)->0<P.cellsOf e:=by intro t e a u;have:=(n0.1 h) t (E_.2 a);simp_all
def Xz{T n t d}(a:(T t).k.agg=L)(h:uY T n t d):iQ T n t [d]:=by unfold uY at h;simp_all
def f8(p:I×I):J c3:=[.int .i64 p.1,.int .i64 p.2]
def g9(l:J (I×I)):c3:=.dk (l.map f8)
def XA{l:J (I×I)}{e}(h:e∈l.map f8):e.length=2:=by simp only[h4]at h;obtain⟨x,_,rfl⟩:=h;rfl
def Ji:∀(l:J (I×I)),gN 2 (l.map f8)=N
 | []=>rfl|_::r=>Ji r
def hT(n:I):J c3:=[.int .i64 n]
def Ft(l:J I):c3:=.dk (l.map hT)
def G9{p:Prop}[qu p]{A B:Prop}(k:A)(h:p:=by omega):jy (decide p) A B:=r7 (decide_eq_true h) k
def G8{p:Prop}[qu p]{A B:Prop}(k:B)(h:¬p:=by omega):jy (decide p) A B:=vU (decide_eq_false h) k
def ajQ{p:Prop}[qu p]{A B:Prop}(k:B)(h:p:=by omega):jy (!decide p) A B:=vU (by simp_all) k
structure jP(K:Prop):Prop where
 k:K
def cO{K G:Prop}(k:K)(h:jP K->G:=by intro k;(conv=>whnf);exact k.k):G:=h ⟨k⟩
def dH{K G:Prop}(k:K)(h:jP K->G:=by intro k;(repeat ((first|refine pa ?_|refine yR ?_|refine AT ?_|refine AU ?_|refine DN ?_|refine yS ?_);conv=>whnf));exact k.k):G:=h ⟨k⟩
def c9{K G:Prop}(k:K)(h:jP K->G:=by intro k;(conv=>whnf);(repeat ((first|refine pa ?_|refine yR ?_|refine AT ?_|refine AU ?_|refine DN ?_|refine yS ?_);conv=>whnf));exact k.k):G:=h ⟨k⟩
def di{K G:Prop}(k:K)(h:jP K->G:=by intro k;(conv=>whnf);(repeat ((first|refine pa ?_|refine yR ?_|refine AT ?_|refine AU ?_|refine DN ?_|refine yS ?_|refine G8 ?_|refine G9 ?_|refine ajQ ?_|refine awa ?_);conv=>whnf));exact k.k):G:=h ⟨k⟩
def d3{p}[qu p]{A B K cL:Prop}(k:p->K)(l:¬p->cL)(h:jP K->A:=by exact λk=>cO k.k)(i:jP cL->B:=by exact λk=>cO k.k):jy (decide p) A B:=pc (λz=>h ⟨k z⟩) λz=>i ⟨l z⟩
def l7{p}[qu p]{A B K cL:Prop}(k:p->K)(l:¬p->cL)(h:jP K->A:=by exact λk=>cO k.k)(i:jP cL->B:=by exact λk=>c9 k.k):jy (decide p) A B:=pc (λz=>h ⟨k z⟩) λz=>i ⟨l z⟩
def iv{p}[qu p]{A B K cL:Prop}(k:p->K)(l:¬p->cL)(h:jP K->A:=by exact λk=>c9 k.k)(i:jP cL->B:=by exact λk=>cO k.k):jy (decide p) A B:=pc (λz=>h ⟨k z⟩) λz=>i ⟨l z⟩
def pp{p}[qu p]{A B K cL:Prop}(k:p->K)(l:¬p->cL)(h:jP K->A:=by exact λk=>c9 k.k)(i:jP cL->B:=by exact λk=>c9 k.k):jy (decide p) A B:=pc (λz=>h ⟨k z⟩) λz=>i ⟨l z⟩
def wq{p}[qu p]{A B K cL:Prop}(k:¬p->K)(l:p->cL)(h:jP K->A:=by exact λk=>cO k.k)(i:jP cL->B:=by exact λk=>cO k.k):jy (!decide p) A B:=Mq (λz=>h ⟨k z⟩) λz=>i ⟨l z⟩
def sq{p}[qu p]{A B K cL:Prop}(k:¬p->K)(l:p->cL)(h:jP K->A:=by exact λk=>c9 k.k)(i:jP cL->B:=by exact λk=>c9 k.k):jy (!decide p) A B:=Mq (λz=>h ⟨k z⟩) λz=>i ⟨l z⟩
def kH{p}[qu p]{A B K cL:Prop}(k:¬p->K)(l:p->cL)(h:jP K->A:=by exact λk=>c9 k.k)(i:jP cL->B:=by exact λk=>cO k.k):jy (!decide p) A B:=Mq (λz=>h ⟨k z⟩) λz=>i ⟨l z⟩
def iD{b A B}{K cL:Prop}(k:b=N->K)(l:b=L->cL)(h:jP K->A:=by exact λk=>cO k.k)(i:jP cL->B:=by exact λk=>cO k.k):jy b A B:=y5 (λz=>h ⟨k z⟩) λz=>i ⟨l z⟩
def m8{b A B}{K cL:Prop}(k:b=N->K)(l:b=L->cL)(h:jP K->A:=by exact λk=>cO k.k)(i:jP cL->B:=by exact λk=>c9 k.k):jy b A B:=y5 (λz=>h ⟨k z⟩) λz=>i ⟨l z⟩
def xY{b A B}{K cL:Prop}(k:b=N->K)(l:b=L->cL)(h:jP K->A:=by exact λk=>c9 k.k)(i:jP cL->B:=by exact λk=>c9 k.k):jy b A B:=y5 (λz=>h ⟨k z⟩) λz=>i ⟨l z⟩
def j9{b A B}{K cL:Prop}(k:b=N->K)(l:b=L->cL)(h:jP K->A:=by exact λk=>c9 k.k)(i:jP cL->B:=by exact λk=>cO k.k):jy b A B:=y5 (λz=>h ⟨k z⟩) λz=>i ⟨l z⟩
instance:Coe I c3:=⟨λn=>.int .i64 n⟩
instance:Coe V c3:=⟨λn=>.int .i64 n⟩
instance:Coe I dp:=⟨λn=>.int .i64 n⟩
instance:Coe V dp:=⟨λn=>.int .i64 n⟩
def eG{p:Prop}(h:p:=by simp_all):p:=h
def g3{p:Prop}(h:p:=by grind):p:=h
abbrev lb:=BitVec 32
def Cp:lb:=0xEDB88320#32
def nz(x:lb):lb:=(x>>>1)^^^(if x.getLsbD 0 then Cp else 0#32)
def wy(x:lb):lb:=nz (nz (nz (nz (nz (nz (nz (nz x)))))))
def alY(a b):nz (a^^^b)=nz a^^^nz b:=by
 unfold nz;rw[BitVec.getLsbD_xor,BitVec.ushiftRight_xor_distrib]
 cases a.getLsbD 0<;>cases b.getLsbD 0<;>simp
 .grind
 .grind
 .rw[alZ,BitVec.xor_comm Cp,alZ,BitVec.xor_self,BitVec.xor_zero]
def al0(a b):wy (a^^^b)=wy a^^^wy b:=by unfold wy;simp[alY]
def x3(x:lb)(k)(h:x.toNat*2^(k+1)<4294967296):nz (x<<<(k+1))=x<<<k:=by
 have e:(x<<<(k+1)).getLsbD 0=L:=dt;unfold nz;rw[e];simp;apply al1
 have a:x.toNat*2^k<4294967296:=by have:x.toNat*2^k<=x.toNat*2^(k+1):=Nat.mul_le_mul_left _ (Fw c1 R);omega
 rw[Pe,Yy,Yy,al2,al2,Yz];rw[nq (show x.toNat*2^(k+1)<2^32 by omega),nq (show x.toNat*2^k<2^32 by omega)];rw[ON,<-Nat.mul_assoc,Nat.pow_one,Nat.mul_div_cancel _ c1]
def al4(x:lb)(h:x.toNat<16777216):wy (x<<<8)=x:=by unfold wy;rw[x3 x 7 R,x3 x 6 R,x3 x 5 R,x3 x 4 R,x3 x 3 R,x3 x 2 R,x3 x 1 R,x3 x 0 R];simp
def FH(i:V):lb:=wy (tB 32 i)
def al5(n b)(a:b<256):wy (n^^^tB 32 b)=FH ((n.toNat%256)^^^b)^^^(n>>>8):=by
 have c:n^^^tB 32 b=tB 32 ((n.toNat%256)^^^b)^^^((n>>>8)<<<8):=by
  apply al1;apply Nat.eq_of_testBit_eq;intro i;simp only[al6,Pf,Yy,Pe,Nat.testBit_xor,Nat.testBit_mod_two_pow,Nat.testBit_shiftLeft,Nat.testBit_shiftRight,show(256:V)=2^8 from Z]
  by_cases h:i<32
  .by_cases d:i<8
   .grind
   .simp[h,d,show 8<=i by omega,show 8+(i-8)=i by omega,Bool.xor_comm]
  .have:n.toNat.testBit i=L:=Nat.testBit_lt_two_pow (ro n.isLt (Fw c1 R));grind
 rw[c,al0,al4]
 .rfl
 .rw[Pe,Yz];omega
def al7{n}:rr.wrap n=n%4294967296:=Lu
def Pg{n}:B9.wrap n=n%256:=Lu
def x4{n}(cW:0<=n)(Q:n<=4294967295):rr.wrap n=n:=by rw[al7];omega
def YA{n}(cW:0<=n)(Q:n<=255):B9.wrap n=n:=by rw[Pg];omega
def JD(a:lb):(a.toNat:I) <=4294967295:=R
def Cq(a:lb):qv 32 (a.toNat:I)=a:=eG
def Ph(a b:lb):pL .xor .u32 (a.toNat:I) (b.toNat:I)=((a^^^b).toNat:I):=by show rr.wrap (((qv 32 (a.toNat:I)^^^qv 32 (b.toNat:I)).toNat:V):I)=_;rw[Cq,Cq,x4 R (JD _)]
def al8(a b:lb):pL .or .u32 (a.toNat:I) (b.toNat:I)=((a|||b).toNat:I):=by show rr.wrap (((qv 32 (a.toNat:I)|||BitVec.ofInt 32 (b.toNat:I)).toNat:V):I)=_;rw[Cq,Cq,x4 R (JD _)]
def al9(a b:lb):pL .and .u32 (a.toNat:I) (b.toNat:I)=((a&&& b).toNat:I):=by show rr.wrap (((qv 32 (a.toNat:I)&&& qv 32 (b.toNat:I)).toNat:V):I)=_;rw[Cq,Cq,x4 R (JD _)]
def ama(a:lb):pL .xor .u32 4294967295 (a.toNat:I)=((~~~ a).toNat:I):=by have:=Ph (amb 32) a;assumption
def amc(a:lb):decide (pL .and .u32 (a.toNat:I) 1=1)=a.getLsbD 0:=by
 have:=al9 a 1#32;rw[show(((1#32:lb)).toNat:I)=1 from Z]at this;rw[this]
 have e:(a&&& 1#32).toNat=(a.getLsbD 0).toNat:=by rw[BitVec.toNat_and,BitVec.getLsbD,Nat.testBit_zero];show a.toNat&&& 1=_;rw[Nat.and_one_is_mod];rcases Nat.mod_two_eq_zero_or_one a.toNat with h|h<;>rw[h]<;>rfl
 grind
def Pi(a:lb)(k):(a.toNat:I).fdiv (2^k)=((a>>>k).toNat:I):=by rw[Pe,Yz,Jm _ g3];simp
def amd{a b:V}(c:a<256)(d:b<256):pL .xor .u8 (a) (b)=((a^^^b:V):I):=by show B9.wrap (((qv 8 (a:I)^^^qv 8 (b:I)).toNat:V):I)=_;have h:a^^^b<2^8:=ame R R;rw[al6,amf,amf];rw[show((a:I)%((2^8:V):I)).toNat=a by omega,show((b:I)%((2^8:V):I)).toNat=b by omega];exact YA R R
def amg{a}(h:a.getLsbD 0=N):nz a=(a>>>1)^^^Cp:=by rw[nz,h];rfl
def amh{a}(h:a.getLsbD 0=L):nz a=a>>>1:=by rw[nz,h];simp
def zV:V->lb->lb
 |0,x=>x
 |k+1,x=>nz (zV k x)
def JE(n:lb)(b:hj):lb:=wy (n^^^tB 32 b.toNat)
def FI(l:J hj):lb:=l.foldl JE (amb 32)
def wz(s:dS):lb:= ~~~ FI s.data.toList
def ami(l b):FI (l++[b])=JE (FI l) b:=by simp[FI]
def amj(n b):JE n b=FH ((n.toNat%256)^^^b.toNat)^^^(n>>>8):=al5 n b.toNat b.toNat_lt
namespace Ins
def ma(l:J I):J I:=l.mergeSort λx y=>gV (x<=y)
def z6(l:J I):Prop:=l.Pairwise (· <= ·)
def anH(l):z6 (ma l):=by have:=anI (le:=λx y:I=>gV (x<=y)) (λa b c Q c5=>by grind) (λa b=>hd) l;exact this.imp λh=>AK
def anJ{l s}(c7:z6 s)(O:s.Perm l):s=ma l:=by
 have Q:(ma l).Perm l:=anK ..
 have c5:z6 (ma l):=by have:=anI (le:=λx y:I=>gV (x<=y)) (λa b c Q c5=>by grind) (λa b=>hd) l;exact this.imp λh=>AK
 exact(O.trans Q.symm).eq_of_pairwise (λa b _ _ Q c5=>Int.le_antisymm Q c5) c7 c5
def lg(S:J I)(x:I)(j:V):J I:=S.take j++x::S.drop j
def anL(S x){j}(dL:j<=S.length):(lg S x j).length=S.length+1:=by simp[lg];omega
def anM(S x j):(lg S x j).Perm (S++[x]):=by unfold lg;apply List.perm_middle.trans;rw[E9];grind
def anO{S x j}(c7:z6 S)(Q:∀y∈S.take j,y<=x)(c5:∀y∈S.drop j,x<=y):z6 (lg S x j):=by unfold lg z6;rw[Cz];refine⟨c7.sublist (List.take_sublist _ _),uT.2 ⟨c5,c7.sublist (List.drop_sublist _ _)⟩,λa dq b hb=>?_⟩;grind
def anP{S cX x j}(dL:j<S.length):
  (lg S x (j+1)++cX)[j]?=U S[j] /\ (lg S x (j+1)++cX)[j+1]?=U x/\ ((lg S x (j+1)++cX).set (j+1) S[j]).set j x=lg S x j++cX:=by
 have t1:S.take (j+1)=S.take j++[S[j]]:=by rw[Je];simp[dL]
 have d1:=rk dL
 have a:lg S x (j+1)++cX=S.take j++S[j]::x::(S.drop (j+1)++cX):=by unfold lg;rw[t1];simp only[jC,pr,uU]
 have b:lg S x j++cX=S.take j++x::S[j]::(S.drop (j+1)++cX):=by unfold lg;rw[d1];simp only[jC,pr]
 grind
end Ins
def LQ{b A B}(k:jy b B A):jy (!b) A B:=by
 cases b
 .exact yR k.out
 .exact pa k.out
def de{K G:Prop}(k:K)(h:jP K->G:=by intro k;(conv=>whnf);(repeat ((first|with_reducible refine pa ?_|with_reducible refine yR ?_|refine AT ?_|refine AU ?_|refine DN ?_|refine yS ?_|refine G8 ?_|refine G9 ?_|with_reducible refine LQ ?_);conv=>whnf));exact k.k):G:=h ⟨k⟩
namespace St
section
variable {E:Type}
variable {le:E->E->dh}
def nQ(le:E->E->dh)(x:E):J E->J E
 | []=>[x]
 |y::r=>if le x y=N then x::y::r else y::nQ le x r
end
end St
open Go.Proofs Go.RowKit
def nu:cR.follows .mixedOrders=N:=c2
def d6{f fn args d}(a:cR.funcs[f]?=U fn)(n)(cY:args.length=n)(dg:n_ fn n=N)(h:MQ T cR fn args d):dX cR f args d:=
 aiC sn nu a w9 h
def lH{f fn args l cQ}(a:cR.funcs[f]?=U fn)(n)(cY:args.length=n)(dg:n_ fn n=N)(h:MR T cR fn args l cQ):j5 cR f args l cQ:=
 aiD sn nu a w9 h
def ajR{f fn args cs}(a:cR.funcs[f]?=U fn)(n)(cY:args.length=n)(dg:n_ fn n=N)(h:MS T cR fn args cs):Ei cR f args cs:=
 aiF sn nu a w9 h
def g_{f fn args r o d}(a:cR.funcs[f]?=U fn)(n)(cY:args.length=n)(dg:n_ fn n=N)
  (l:(uV args&&(wj r&&(tt r o&&tv o)))=N)(h:Og T cR fn args r o d):fG cR f args r o d:=
 aiJ sn nu a w9 l h
def OL{f fn l b cQ rest r o}(c:cR.funcs[f]?=U fn)(n)(cY:rest.length+1=n)(dg:n_ fn n=N)
  (a:(uV rest&&(!eu.parts 1000004 rest&&(wj ((1000004,.row l cQ L)::r)&&(tt r o&&(tv ((1000004,.row b cQ L)::o)&&(zI r&&zI o))))))=N)(h:OI T cR fn l cQ rest r o b):u0 cR f l cQ rest r o b:=
 ajX sn nu c w9 a h
def aj3{f fn args cs r}(a:cR.funcs[f]?=U fn)(n)(cY:args.length=n)(dg:n_ fn n=N)(h:MT T cR fn args cs r):Ej cR f args cs r:=
 ajT sn nu a w9 h
def XG{f fn args l cQ}(b:cR.funcs[f]?=U fn)(n)(cY:args.length=n)(dg:n_ fn n=N)(a:Fv args=N)(h:OK T cR fn args l cQ)(O t):
  rc cR f args O ⟨.own t,[(t,.row l cQ L)],U t⟩:=
 aj1 sn nu b w9 a h O t
def i_(n:V):dS:=qx [((n%256:V):I),((n/256%256:V):I),((n/65536%256:V):I),((n/16777216%256:V):I)]
def amk(n k:V):((n:I)).fdiv (2^k)=((n/2^k:V):I):=g3
def JF(n:V)(cY:n<4294967296):dX cR 294 [n] (.str (i_ n)):=by refine d6 Tryz.func294 1 Z c2 (cO ?_);refine lZ (x4 R R) (c9 ?_);refine y6 (c9 ?_);refine y6 (c9 ?_);refine y6 (c9 ?_);refine y6 (c9 ?_);refine dd Z (eR c3.str ?_);simp[amk,Pg];rfl
def l8(s:dS)(i:V):V:=(s.data.getD i 0).toNat+256*(s.data.getD (i+1) 0).toNat+65536*(s.data.getD (i+2) 0).toNat+16777216*(s.data.getD (i+3) 0).toNat
def u6(s:dS)(i:V):V->V
 |0=>0
 |k+1=>u6 s i k+(s.data.getD (i+k) 0).toNat*2^(8*k)
def YB(s i):u6 s i 4=l8 s i:=by simp[u6,l8,BO];omega
def JG(s i):∀k,u6 s i k<2^(8*k)
 |0=>by simp[u6]
 |k+1=>by
  have Q:=JG s i k;have h:=(s.data.getD (i+k) 0).toNat_lt;have a:(s.data.getD (i+k) 0).toNat*2^(8*k) <=255*2^(8*k):=l4 _ R
  have b:2^(8*(k+1))=256*2^(8*k):=g3
  simp only[u6];omega
def aml{x y:V}{m}(a:x<2^m)(s:x+y*2^m<4294967296):pL .or .u32 (x) ((y*2^m:V):I)=((x+y*2^m:V):I):=by have:=al8 (tB 32 x) (tB 32 (y*2^m));rw[BitVec.toNat_or,Pf,Pf,nq R,nq R]at this;rw[this,Nat.or_comm,Nat.mul_comm,<-Nat.two_pow_add_eq_or_of_lt a,IF]
def zL(s)(i:V)(j:i+4<=s.size)(Q:s.size<=1000):dX cR 248 [.str s,i] (l8 s i):=by
 refine d6 Tryz.func248 2 Z c2 (cO ?_);refine eZ (D:=V) (λk=>[(0,.d (.str s)),(1,.d i),(5,.d (.int .u32 (u6 s i k))),(7,.d k)]) (λ_=>[])
  (λk=>k<=4) (λk=>4-k) 0 R (dZ (dT fj dU d0)) ?_
 intro k g
 conv=>whnf
 refine d3 (λdz=>?_) λdz=>?_
 .have f:k<4:=R
  refine dH ?_;rw[show(i:I)+(k:I)=((i+k:V):I) by omega];refine e' ?_;have⟨b,a,c⟩:∃b:V,(s.data.getD (i+k) 0).toNat=b/\b<256:=⟨_,Z,(s.data.getD (i+k) 0).toNat_lt⟩;rw[a];refine lZ (x4 R R) (c9 ?_);have t:=JG s i (k+1);have l:=JG s i k
  have d:u6 s i (k+1)=u6 s i k+b*2^(8*k):=by rw[u6,a]
  have O:2^(8*(k+1)) <=4294967296:=fJ (Fw c1 (show 8*(k+1) <=32 by omega)) c1
  have m:(b:I)*2^(min (8*(k:I)).toNat rr.bits)=((b*2^(8*k):V):I):=by rw[show min (8*(k:I)).toNat rr.bits=8*k by show min _ 32=_;omega];simp
  rw[m];refine lZ (x4 R R) (cO ?_);rw[aml l R,<-d];refine dH ?_;exact⟨k+1,by omega,by omega,(dZ (dT fj dU d0))⟩
 .refine dH ?_
  have e:k=4:=R
  subst e
  have a:l8 s i<4294967296:=by have:=JG s i 4;rw[YB]at this;simpa using this
  rw[YB];refine e' ?_;rfl
def zW(i j:V):J c3:=[.int .i64 (if j<i then((FH j).toNat:I) else 0)]
def oQ(i:V):J (J c3):=(iB 256).map (zW i)
def YC(i):(oQ i).length=256:=by simp[oQ]
def amm:eL 256 [c3.int .i64 0]=oQ 0:=by
 apply Pj
 .rw[uO,oQ,ef,List.length_range]
 .intro j Q h;rw[List.getElem_replicate];simp only[oQ,JH,YD,zW];rfl
def YE{i j}(h:j<256):(oQ i)[j]?=U (zW i j):=by simp[oQ,h]
def amo{i}(cK:i<256):(oQ i).set i [((FH i).toNat:I)]=oQ (i+1):=by
 apply Pj
 .simp[oQ]
 .intro j Q h;rw[zX];simp[oQ,JH,YD,zW];grind
def amp:j5 cR 296 [] (oQ 256) 1:=by
 refine lH Tryz.func296 0 Z c2 (c9 ?_);refine fV 1000 1000 c1 c1 c1 c1 (c9 ?_);rw[show eL (256:I).toNat (T 3).zero=oQ 0 from amm];refine eZ (D:=V) (λi=>[(1,.own 5),(7,.d (.int .i64 256)),(8,.d i)]) (λi=>[(5,.row (oQ i) 1 L)])
  (λi=>i<=256) (λi=>256-i) 0 R (dZ (dT ⟨Z,c2,Z,dU⟩ eN d0)) ?_
 intro i cK
 conv=>whnf
 refine l7 (λdz=>?_) λdz=>?_
 .have a:i<256:=R
  refine dH ?_;refine lZ (x4 R R) (c9 ?_);refine eZ (D:=V) (λk=>[(1,.own 5),(2,.d i),(3,.d (.int .u32 (zV k (tB 32 i)).toNat)),(7,.d (.int .i64 256)),(8,.d i),(13,.d k)]) (λk=>[(5,.row (oQ i) 1 L)])
   (λk=>k<=8) (λk=>8-k) 0 R (dZ (dT ⟨Z,Z,?_,Z,Z,Z,dU⟩ eN d0)) ?_
  .show _=dn.d (.int .u32 (((tB 32 i).toNat:V):I));rw[Pf,nq R];rfl
  intro k g;have⟨x,b⟩:∃x,zV k (tB 32 i)=x:=⟨_,Z⟩;simp[b]
  conv=>whnf
  refine pp (λdW=>?_) λdW=>?_
  .rw[amc x]
   refine iD (λh=>?_) λh=>?_
   .refine dH ?_
    have j:zV (k+1) (tB 32 i)=(x>>>1)^^^Cp:=by rw[zV,b,amg h]
    have e:pL .xor .u32 ((x.toNat:I).fdiv (2^min (1:I).toNat rr.bits)) 3988292384=(((x>>>1)^^^Cp).toNat:I):=by rw[show(x.toNat:I).fdiv (2^min (1:I).toNat rr.bits)=((x>>>1).toNat:I) from Pi x 1];exact Ph _ Cp
    rw[e,<-j];exact⟨k+1,R,R,(dZ (dT mS eN d0))⟩
   .refine dH ?_
    have j:zV (k+1) (tB 32 i)=x>>>1:=by rw[zV,b,amh h]
    rw[show(x.toNat:I).fdiv (2^min (1:I).toNat rr.bits)=((x>>>1).toNat:I) from Pi x 1,<-j];exact⟨k+1,R,R,(dZ (dT mS eN d0))⟩
  .have d:k=8:=R;subst d;have f:=b.symm;subst f;refine ec (by rw[YC];omega) (cO ?_);refine dY (x:=zW i i) (by exact YE a) (c9 ?_);refine⟨i+1,R,R,dZ (dT ⟨Z,c2,Z,dU⟩ ⟨?_,dU⟩ d0)⟩;rw[<-amo a];rfl
 .have c:i=256:=R;subst c;exact⟨0,Z,.inl ⟨5,Z,Z⟩⟩
def x5(s:dS)(k:V):lb:=FI (s.data.toList.take k)
def amq{s k}(c6:k<s.size):x5 s (k+1)=JE (x5 s k) (s.data.getD k 0):=by
 have a:=uc;rw[x5,lX a,ami]
 have:s.data.getD k 0=s.data.toList[k]:=by rw[um,yU uc];simp
 rw[this];rfl
def amr{s k}(c6:s.size<=k): ~~~ x5 s k=wz s:=by rw[x5,u1 uc];rfl
def ams(s)(r:s.size<=1000):dX cR 295 [.dk (oQ 256),.str s] (.dP [(wz s).toNat,.bool N]):=by
 have⟨eh,t⟩:∃eh,oQ 256=eh:=⟨_,Z⟩
 have o:eh.length=256:=by rw[<-t,YC]
 have m:∀j,j<256->eh[j]?=U (zW 256 j):=λj a=>t▸YE a
 rw[t];refine d6 Tryz.func295 2 Z c2 (cO ?_);refine vU g3 (c9 ?_);refine eZ (D:=V) (λk=>[(0,.d (.dk eh)),(1,.d (.str s)),(6,.d (.int .u32 (x5 s k).toNat)),(7,.d k)]) (λ_=>[])
  (λk=>k<=s.size) (λk=>s.size-k) 0 R (dZ (dT ⟨Z,Z,by kernel_rfl,Z,dU⟩ dU d0)) ?_
 intro k q;have⟨x,d⟩:∃x,x5 s k=x:=⟨_,Z⟩;simp only[d]
 conv=>whnf
 refine l7 (λdz=>?_) λdz=>?_
 .have b:k<s.size:=R
  refine dH ?_;refine y6 (c9 ?_);refine ec R (cO ?_);have⟨c,f⟩:∃c:hj,s.data.getD k 0=c:=⟨_,Z⟩;have l:=c.toNat_lt;rw[f]
  have h:pL .xor .u8 (B9.wrap (x.toNat:I)) (c.toNat:I)=(((x.toNat%256)^^^c.toNat:V):I):=by rw[Pg,show(x.toNat:I)%256=((x.toNat%256:V):I) by omega];exact amd (mu _ c1) R
  have a:(x.toNat%256)^^^c.toNat<256:=ame (n:=8) (mu _ c1) R;rw[h];refine ec R (cO ?_);refine dY (x:=zW 256 ((x.toNat%256)^^^c.toNat)) eG (cO ?_);have⟨y,g⟩:∃y,FH ((x.toNat%256)^^^c.toNat)=y:=⟨_,Z⟩
  have i:x5 s (k+1)=y^^^(x>>>8):=by rw[amq b,d,f,amj,g]
  rw[if_pos a,g];refine lZ (x4 R (JD y)) (c9 ?_);rw[show(x.toNat:I).fdiv (2^min (8:I).toNat rr.bits)=((x>>>8).toNat:I) from Pi x 8,Ph,<-i];refine dH ?_;exact⟨k+1,by omega,by omega,(dZ (dT fj dU d0))⟩
 .rw[show(if rr.signed=N then(-1:I) else rr.max)=4294967295 from Z,ama];refine e' ?_
  have e: ~~~ x=wz s:=by rw[<-d];exact amr R
  rw[e];rfl
abbrev f6:=I×I×dh
abbrev e_:=I×I×dS
def fp(x:f6):J c3:=[x.1,x.2.1,.bool x.2.2]
def eB(x:e_):J c3:=[x.1,x.2.1,.str x.2.2]
def FJ(l:J f6)(h:I):c3:=.agg [.dk (l.map fp),h]
def YJ:∀(l:J f6),gN 3 (l.map fp)=N
 | []=>rfl|_::r=>YJ r
def zY:∀(l:J e_),gN 3 (l.map eB)=N
 | []=>rfl|_::r=>zY r
def gp(x:e_):dh:=gV (1<=x.1)&&(decide (x.1<=16)&&(decide (1<=x.2.1)&&(decide (x.2.1<=2147483647)&&decide (x.2.2.size<=16))))
def kJ{x}:gp x=N↔1<=x.1/\x.1<=16/\1<=x.2.1/\x.2.1<=2147483647/\x.2.2.size<=16:=by simp[gp]
def FK(x):dX cR 193 [.agg (eB x)] (.bool (gp x)):=by
 refine d6 Tryz.func193 1 Z c2 (c9 ?_)
 refine d3 (λQ=>?_) λQ=>?_
 .exact dd Z (eR c3.bool w_)
 refine dH ?_
 refine d3 (λc=>?_) λc=>?_
 .exact dd Z (eR c3.bool w_)
 refine dH ?_
 refine d3 (λd=>?_) λd=>?_
 .exact dd Z (eR c3.bool w_)
 refine dH ?_
 refine d3 (λf=>?_) λf=>?_
 .exact dd Z (eR c3.bool w_)
 refine dH ?_
 exact dd Z (eR c3.bool (by
  have g:decide (1<=x.1)=N:=hd;have e:decide (x.1<=16)=N:=hd;have a:decide (1<=x.2.1)=N:=hd;have b:decide (x.2.1<=2147483647)=N:=hd
  rw[gp,g,e,a,b];simp;omega))
def x6(x:f6):dh:=gV (0<=x.1)&&(decide (x.1<=16)&&(decide (0<=x.2.1)&&decide (x.2.1<=2147483647)))
def oe{x}:x6 x=N↔0<=x.1/\x.1<=16/\0<=x.2.1/\x.2.1<=2147483647:=by simp[x6]
structure wA(l:J f6)(h:I):Prop where
 one:1<=l.length
 gW:l.length<=8
 cW:0<=h
 Q:h<l.length
 all:∀i,(cK:i<l.length)->x6 l[i]=N
open Classical in
def zZ(l:J f6)(h:I):dh:=gV (wA l h)
def JK{l h}:zZ l h=N↔wA l h:=by simp[zZ]
def FL{l h}:zZ l h=L↔¬wA l h:=by simp[zZ]
def JL{l h k}(a:k<l.length)(f:¬(0<=l[k].1/\l[k].1<=16/\0<=l[k].2.1/\l[k].2.1<=2147483647)):c3.bool L=c3.bool (zZ l h):=
 eR c3.bool (FL.2 λcX=>f (oe.1 (cX.all k a))).symm
def Pm(l h):dX cR 190 [FJ l h] (.bool (zZ l h)):=by
 refine d6 Tryz.func190 1 Z c2 (cO ?_)
 have m:(l.map fp).length=l.length:=ef ..
 refine dH ?_
 refine d3 (λQ=>?_) λQ=>?_
 .exact dd Z (eR c3.bool (FL.2 λcX=>by have:=cX.one;omega).symm)
 refine dH ?_
 refine d3 (λd=>?_) λd=>?_
 .exact dd Z (eR c3.bool (FL.2 λcX=>by have:=cX.gW;omega).symm)
 refine dH ?_
 refine d3 (λn=>?_) λn=>?_
 .exact dd Z (eR c3.bool (FL.2 λcX=>by have:=cX.cW;omega).symm)
 refine dH ?_
 refine l7 (λo=>?_) λo=>?_
 .exact dd Z (eR c3.bool (FL.2 λcX=>by have:=cX.Q;omega).symm)
 refine eZ (D:=V) (λk=>[(27,.d (.dk (l.map fp))),(28,.d (l.map fp).length),(29,.d k)]) (λ_=>[])
  (λk=>k<=l.length/\ ∀i,i<k->(cK:i<l.length)->x6 l[i]=N) (λk=>l.length-k) 0 ⟨e3 _,λj h=>dQ h (ps _)⟩ (dZ (dT eJ dU d0)) ?_
 rintro k ⟨f,cX⟩
 conv=>whnf
 refine d3 (λdz=>?_) λdz=>?_
 .have eM:k<l.length:=R
  refine ec R (cO ?_);refine dY (x:=fp l[k]) iy (c9 ?_)
  refine d3 (λdG=>?_) λdG=>?_
  .exact dd Z (JL eM R)
  refine dH ?_
  refine d3 (λg=>?_) λg=>?_
  .exact dd Z (JL eM R)
  refine dH ?_
  refine d3 (λb=>?_) λb=>?_
  .exact dd Z (JL eM R)
  refine dH ?_
  refine l7 (λc=>?_) λc=>?_
  .exact dd Z (JL eM R)
  exact⟨k+1,⟨R,λi cK a=>(x7.1 cK).elim (λh=>cX i h a) (λe=>by subst e;exact oe.2 R)⟩,R,dZ (dT eJ dU d0)⟩
 .exact dd Z (eR c3.bool (JK.2 ⟨R,R,R,R,λi cK=>cX i R cK⟩).symm)
def Pn(l:J f6)(b:l.length<=1000000):j5 cR 94 [.dk (l.map fp)] (l.map fp) 3:=by
 refine lH Tryz.func94 1 Z c2 (cO (oG (cO ?_)));intro r a
 conv=>whnf
 refine m8 (λh=>?_) λh=>?_
 .have:=a h;exact⟨2,Z,.inr ⟨Z,this⟩⟩
 .refine fC (YJ l) (cO ?_);refine fV 1000100 100 AL c1 c1 c1 (cO ?_);exact⟨2,Z,.inl ⟨5,Z,Z⟩⟩
def Cr(l:J e_)(b:l.length<=1000000):j5 cR 96 [.dk (l.map eB)] (l.map eB) 3:=by
 refine lH Tryz.func96 1 Z c2 (cO (oG (cO ?_)));intro r a
 conv=>whnf
 refine m8 (λh=>?_) λh=>?_
 .have:=a h;exact⟨2,Z,.inr ⟨Z,this⟩⟩
 .refine fC (zY l) (cO ?_);refine fV 1000100 100 AL c1 c1 c1 (cO ?_);exact⟨2,Z,.inl ⟨5,Z,Z⟩⟩
def JM(x):dX cR 333 [.agg (fp x)] (.bool (decide (x.2.1=0))):=by refine d6 Tryz.func333 1 Z c2 (c9 ?_);rfl
def qO(l:J f6)(k:V):I:=
 match l with
 | []=>-1
 |x::r=>if x.2.1=0 then(k:I) else qO r (k+1)
def amN(l)(c:l.length<=1000000):dX cR 336 [.dk (l.map fp),.fn 333 []] (qO l 0):=by
 refine d6 Tryz.func336 2 Z c2 (cO ?_);refine eZ (D:=V) (λk=>[(0,.d (.dk (l.map fp))),(1,.d (.fn 333 [])),(7,.d (l.map fp).length),(8,.d k)]) (λ_=>[])
  (λk=>k<=l.length/\qO (l.drop k) k=qO l 0) (λk=>l.length-k) 0 ⟨e3 _,Z⟩ (dZ (dT fj dU d0)) ?_
 rintro k ⟨b,fX⟩
 conv=>whnf
 refine d3 (λh=>?_) λh=>?_
 .have eM:k<l.length:=by simpa using h
  refine ec DD (cO ?_);refine dY (x:=fp l[k]) iy (c9 ?_);rw[rq eM,qO]at fX;refine df (JM l[k]) (cO ?_)
  refine d3 (λa=>?_) λa=>?_
  .rw[if_pos a]at fX;exact dd Z oA
  .rw[cT a]at fX;refine dH ?_;exact⟨k+1,⟨R,fX⟩,R,dZ (dT fj dU d0)⟩
 .have:k=l.length:=by simp at h;omega
  subst this;simp at fX;exact dd Z oA
def YK(l)(a:l.length<=1000000):dX cR 334 [.dk (l.map fp),.fn 333 []] (.bool (decide (0<=qO l 0))):=by refine d6 Tryz.func334 2 Z c2 (cO ?_);refine df (amN l a) (cO ?_);rfl
def wG(x:f6):f6:=(x.1,x.2.1,L)
def sy(l:J f6)(a:V)(h:a<l.length):J f6:=if l[a].2.1=0 then l.set a (wG l[a]) else l
inductive px:J f6->V->J f6->V->Prop
 |stop (l:J f6) (a:V) (h:a<l.length) (Q:l[a].2.1=0) (c5:l[a].2.2=L):px l a l a
 |go (l:J f6) (a:V) (h:a<l.length) (eo:J f6) (fb:V) (cY:¬(l[a].2.1=0/\l[a].2.2=L)) (r:px (sy l a h) ((a+1)%l.length) eo fb):px l a eo fb
def DM{l a h}:(sy l a h).length=l.length:=by unfold sy;grind
def PB{l:J f6}{a i:V}{h:a<l.length}(cK:i<l.length):((sy l a h)[i]' LO).1=l[i].1/\ ((sy l a h)[i]' LO).2.1=l[i].2.1:=by
 unfold sy;split
 .rw[zX];split
  .rename_i e;subst e;exact hg
  .exact hg
 .exact hg
def FT(l:J f6):V:=l.countP λx=>gV (x.2.1=0)&&x.2.2
def FU(n a b:V):V:=(b+n-a)%n
def Cx(j:V)(l:J f6)(a:V):V:=FT l*l.length+FU l.length a j
def ans{l a}(h:a<l.length)(Q:l[a].2.1=0)(b:l[a].2.2=N):FT (l.set a (wG l[a]))+1=FT l:=by
 have O:0<FT l:=B2.2 ⟨l[a],hS h,by grind⟩
 unfold FT at*
 rw[Zn h];simp[Q,b,wG,decide_true,Bool.and_self,ni,Bool.and_false,rh,qp];omega
def anu{n a b}(f:a<n)(c:b<n)(d:a≠b):FU n ((a+1)%n) b<FU n a b:=by
 unfold FU
 by_cases h:a<b
 .rw[nq (show a+1<n by omega),show b+n-a=(b-a)+n by omega,show b+n-(a+1)=(b-a-1)+n by omega,Zo,Zo,nq R,nq R];omega
 .by_cases e:a+1=n
  .rw[e,Nat.mod_self,Nat.sub_zero,Zo,nq c,nq R];omega
  .rw[nq (show a+1<n by omega),nq R,nq R];omega
def anv{n a b}(cY:0<n):FU n a b<n:=mu _ cY
def PC{j l a}(c)(g:j<l.length)(i:l[j].2.1=0)(cY:¬(l[a].2.1=0/\l[a].2.2=L)):Cx j (sy l a c) ((a+1)%l.length)<Cx j l a:=by
 unfold Cx;rw[DM]
 by_cases Q:l[a].2.1=0
 .have f:l[a].2.2=N:=by cases e:l[a].2.2 with|true=>rfl|false=>simp_all
  have u:=ans c Q f;rw[show sy l a c=l.set a (wG l[a]) from if_pos Q];have hw:=anv (n:=l.length) (a:=(a+1)%l.length) (b:=j) R;rw[<-u,Nat.succ_mul];omega
 .rw[show sy l a c=l from cT Q]
  have d:a≠j:=λe=>by simp_all
  have:=anu c g d;omega
def Zp{j}:∀(n) {l a} (b:a<l.length) (c:j<l.length),l[j].2.1=0->Cx j l a<n->∃eo fb,px l a eo fb
 |0,_,_,_,_,_,h=>dQ h (ps _)
 |n+1,l,a,b,c,d,h=>by
  by_cases s:l[a].2.1=0/\l[a].2.2=L
  .exact⟨l,a,.stop l a b s.1 s.2⟩
  .have cP:=PC b c d s;have⟨eo,fb,r⟩:=Zp n (l:=sy l a b) (a:=(a+1)%l.length) (by rw[DM];exact mu _ R) (by rwa[DM]) (by rwa[(PB c).2]) R;exact⟨eo,fb,.go l a b eo fb s r⟩
def px.out{l eo a fb}(h:px l a eo fb):eo.length=l.length/\fb<l.length/\ (∀i (cK:i<l.length) (b:i<eo.length),eo[i].1=l[i].1/\eo[i].2.1=l[i].2.1) /\ ∃c5,eo[fb].2.1=0:=by
 induction h with
 |stop l a h Q c5=>simp_all|go l a h eo fb cY r e=>have⟨c,d,f,g⟩:=e;rw[DM]at c d;exact⟨c,d,λi cK b=>have Q:=f i LO b;have c5:=PB (h:=h) cK;⟨Q.1.trans c5.1,Q.2.trans c5.2⟩,g⟩
def anw{l}:∀ {k},qO l k<0\/ ∃i,qO l k=((k+i:V):I) /\ ∃h,l[i].2.1=0:=by
 induction l with
 |nil=>intro k;exact .inl (show(-1:I)<0 by decide)
 |cons p r a=>
  intro k;simp[qO]
  by_cases h:p.2.1=0
  .exact .inr ⟨0,by simp[h],by simp,by grind⟩
  .rw[cT h];rcases a (k:=k+1) with Q|⟨i,Q,b,c⟩
   .omega
   .exact .inr ⟨i+1,by omega,by simp_all,by simp_all⟩
def Zq{l}:∀ {k},qO l k<0->∀i (h:i<l.length),l[i].2.1≠0:=by
 induction l with
 |nil=>simp_all|cons p r b=>intro k a i h;simp[qO]at a;grind
def anx(l h)(cY:zZ l h=L\/qO l 0<0)(b:l.length<=1000000):dX cR 324 [FJ l h] (.dP [FJ l h,.int .i64 0,.bool L]):=by
 refine d6 anz 1 Z c2 (c9 ?_);refine df (Pm l h) (cO ?_)
 refine xY (λQ=>?_) λQ=>?_
 .rfl
 refine df (YK l b) (cO ?_)
 refine j9 (λa=>?_) λa=>?_
 .exact dd Z Z
 .exfalso;grind
def anA(l)(h:V)(m:wA l h){eo fb}(gB:px l h eo fb):dX cR 324 [FJ l h] (.dP [FJ eo (((fb+1)%l.length:V):I),fb,.bool N]):=by
 refine d6 anz 1 Z c2 (cO ?_);have z:=m.one;have A:=m.gW;have c_:=m.Q;refine dH ?_;refine df (Pm l h) (cO ?_);refine vU (by simp[JK.2 m]) (c9 ?_)
 have dL:∃j,∃dL:j<l.length,l[j].2.1=0:=by have⟨n,g,u,c5,B⟩:=gB.out;have:=u fb g c5;exact⟨fb,g,by omega⟩
 have⟨j,dL,q⟩:=dL;refine df (YK l R) (cO ?_);have C:¬qO l 0<0:=λe=>Zq e j dL q
 refine vU (by simp;omega) (c9 ?_);refine gK (Pn l R) (c9 ?_);refine eZ (D:=J f6×V) (λs=>[(1,.ptr 1 0 0),(2,.ptr 2 0 0),(5,.d (.fn 333 [])),(6,.d s.2)]) (λs=>[(1,.box [.own 19,.d h] L),(2,.box [.nil,.d (.int .i64 0)] L),(19,.row (s.1.map fp) 3 L)])
  (λs=>s.1.length=l.length/\s.2<l.length/\px s.1 s.2 eo fb/\ ∃dL:j<s.1.length,s.1[j].2.1=0) (λs=>Cx j s.1 s.2) (l,h) ⟨Z,by omega,gB,dL,q⟩ (dZ (dT ⟨Z,Z,Z,Z,dU⟩ ⟨Z,Z,Z,dU⟩ ⟨Z,Z,Z,Z⟩)) ?_
 rintro⟨b,a⟩ ⟨is,dq,gB,f,i⟩;simp only at is dq gB f i⊢;have c:a<b.length:=R
 have d8:(b.map fp).length=b.length:=ef ..
 conv=>whnf
 refine dH ?_;refine ec R (cO ?_);refine dY (x:=fp b[a]) (by simp[c]) (c9 ?_);refine df (JM b[a]) (cO ?_)
 have o:(((a:I)+1)%(b.map fp).length:I)=(((a+1)%b.length:V):I):=by rw[d8];norm_cast
 refine wq (λQ=>?_) λQ=>?_
 .have p:¬(b[a].2.1=0/\b[a].2.2=L):=λe=>Q e.1;have O:sy b a c=b:=cT Q
  have dI:px b ((a+1)%b.length) eo fb:=by
   cases gB with|stop _ _ h n g=>omega|go _ _ h _ _ cY r=>simp_all
  have cP:=PC c f i p;rw[O]at cP;refine dH ?_;refine ec R (cO ?_);refine dY (x:=fp b[a]) (by simp[c]) (c9 ?_);refine df (JM b[a]) (cO ?_);refine e' ?_;rw[o];refine dH ?_;exact⟨(b,(a+1)%b.length),⟨is,by simp only[];rw[<-is];exact mu _ R,dI,f,i⟩,cP,dZ (dT ⟨Z,Z,Z,Z,dU⟩ ⟨Z,Z,Z,dU⟩ ⟨Z,Z,Z,Z⟩)⟩
 .refine dH ?_;refine ec R (cO ?_);refine dY (x:=fp b[a]) (by simp[c]) (c9 ?_)
  refine iD (λc5=>?_) λc5=>?_
  .have p:¬(b[a].2.1=0/\b[a].2.2=L):=λe=>by simp_all
   have O:sy b a c=b.set a (wG b[a]):=if_pos Q
   have dI:px (b.set a (wG b[a])) ((a+1)%b.length) eo fb:=by
    cases gB with|stop _ _ h n g=>simp_all|go _ _ h _ _ cY r=>simp_all
   have cP:=PC c f i p;have v:=PB (h:=c) f
   have E:((b.map fp).set a (fp (wG b[a]))).length=b.length:=by rw[h',d8]
   refine dH ?_;refine ec R (cO ?_);refine dY (x:=fp b[a]) (by simp[c]) (c9 ?_);refine df (JM b[a]) (cO ?_);refine r7 (by simp[Q]) (c9 ?_);refine ec R (cO ?_);refine dY (x:=fp b[a]) (by simp[c]) (c9 ?_);refine AV (by rw[h'];omega) R (c9 ?_)
   refine⟨(b.set a (wG b[a]),(a+1)%b.length),⟨by simp only[];rw[h'];exact is,by simp only[];rw[<-is];exact mu _ R,dI,by rw[h'];exact f,?_⟩,by simp only[];rw[O]at cP;exact cP,dZ (dT ⟨Z,Z,Z,by
    show dn.d (((a:I)+1)%((List.set (b.map fp) a _).length:I))=dn.d (((a+1)%b.length:V):I);rw[h',o],dU⟩ ⟨Z,Z,by
    show U (d4.row ((b.map fp).set a (fp (wG b[a]))) 3 L)=_;rw[sv],dU⟩ ⟨Z,Z,Z,Z⟩)⟩
   have t:=v.2;simp[O]at t;rw[t];exact i
  .have y:b=eo/\a=fb:=by
    cases gB with|stop _ _ h n g=>simp_all|go _ _ h _ _ cY r=>simp_all
   obtain⟨rfl,rfl⟩:=y;refine e' ?_;rw[o,is];refine dH ?_;exact dd Z Z
namespace Dt
open Go.Proofs Go.RowKit
def oS(n:I):dh:=gV (1<=n)&&decide (n<=16)
def qS(n:I):dh:=gV (0<=n)&&decide (n<=2147483647)
def Zr(n):dX cR 254 [.int .i64 n] (.bool (oS n)):=by
 refine d6 Tryz.func254 1 Z c2 (cO ?_)
 refine d3 (λh=>?_) λh=>?_
 .exact dd Z (by simp[oS,h])
 .exact dd Z (by simp[oS,h])
def Zs(n):dX cR 255 [.int .i64 n] (.bool (qS n)):=by
 refine d6 Tryz.func255 1 Z c2 (cO ?_)
 refine d3 (λh=>?_) λh=>?_
 .exact dd Z (by simp[qS,h])
 .exact dd Z (by simp[qS,h])
def gy(l:J (I×I))(n:I)(k:V):I:=
 match l with
 | []=>-1
 |p::r=>if p.1=n then(k:I) else gy r n (k+1)
def sz(l n)(dw:l.length<=1000000):dX cR 256 [g9 l,.int .i64 n] (.int .i64 (gy l n 0)):=by
 refine d6 Tryz.func256 2 Z c2 (cO ?_);refine eZ (D:=V) (λk=>[(1,.d n),(7,.d (g9 l)),(8,.d (.int .i64 (l.map f8).length)),(9,.d (.int .i64 k))]) (λ_=>[])
  (λk=>k<=l.length/\gy (l.drop k) n k=gy l n 0) (λk=>l.length-k) 0 ⟨e3 _,Z⟩ (dZ (dT fj dU d0)) ?_
 rintro k ⟨c6,fX⟩
 conv=>whnf
 refine d3 (λh=>?_) λh=>?_
 .have eM:k<l.length:=by simpa using h
  refine ec DD (cO ?_);refine dY (x:=f8 l[k]) iy (cO ?_);refine fC Z (cO ?_);refine fC Z (cO ?_);rw[rq eM,gy]at fX
  refine d3 (λc5=>?_) λc5=>?_
  .rw[if_pos c5]at fX;exact dd Z oA
  .rw[cT c5]at fX;refine e' ?_;exact⟨k+1,⟨R,fX⟩,R,dZ (dT fj dU d0)⟩
 .have:k=l.length:=by simp at h;omega
  subst this;simp at fX;exact dd Z oA
def p6(l:J (I×I))(i:V):dh:=
 match l[i]? with
 |none=>N
 |some p=>oS p.1&&qS p.2&&!(decide (0<=gy (l.take i) p.1 0))&&!(decide (0<i)&&decide (p.2<(l[i-1]?.getD (0,0)).2))
def ha(l:J (I×I)):dh:=gV (l.length<=16)&&(iB l.length).all (p6 l)
def JX{l k}(c6:k<l.length)(h:p6 l k=L):ha l=L:=by unfold ha;grind
def tG(l)(dw:l.length<=1000000):dX cR 192 [g9 l] (.bool (ha l)):=by
 refine d6 Tryz.func192 1 Z c2 (cO ?_)
 refine d3 (λcW=>?_) λcW=>?_
 .simp at cW;exact dd Z (by simp[ha];omega)
 have i:l.length<=16:=by simp at cW;omega
 refine eZ (D:=V) (λk=>[(0,.d (g9 l)),(8,.d (g9 l)),(9,.d (l.map f8).length),(10,.d k)]) (λ_=>[])
  (λk=>k<=l.length/\ ∀j,j<k->p6 l j=N) (λk=>l.length-k) 0 ⟨e3 _,λj h=>dQ h (ps _)⟩ (dZ (dT fj dU d0)) ?_
 rintro k ⟨c6,c⟩
 conv=>whnf
 refine d3 (λh=>?_) λh=>?_
 .have a:k<l.length:=by simpa using h
  have f:p6 l k=(oS l[k].1&&qS l[k].2&&!(decide (0<=gy (l.take k) l[k].1 0))&&!(decide (0<k)&&decide (l[k].2<(l[k-1]?.getD (0,0)).2))):=by simp[p6,a]
  refine ec R (cO ?_);refine dY (x:=f8 l[k]) (by simp[a]) (cO ?_);refine fC Z (cO ?_);refine fC Z (cO ?_);refine df (Zr _) (cO ?_)
  refine iD (λQ=>?_) λQ=>?_
  .simp at Q;exact dd Z (eR c3.bool (JX a eG).symm)
  refine fC Z (cO ?_);refine df (Zs _) (cO ?_)
  refine iD (λc5=>?_) λc5=>?_
  .simp at c5;exact dd Z (eR c3.bool (JX a eG).symm)
  simp at Q c5;refine fC (λe he=>XA he) (cO ?_);refine oE R (cO ?_);refine fC Z (cO ?_);refine df (d:=.int .i64 (gy (l.take k) l[k].1 0)) (by simpa[g9,xN]using sz (l.take k) l[k].1 (by simp;omega)) (cO ?_);refine e' ?_
  refine d3 (λb=>?_) λb=>?_
  .exact dd Z (eR c3.bool (JX a eG).symm)
  refine iv (λm=>?_) λm=>?_
  .refine kb R (by simp;omega) (cO ?_);refine dY (x:=f8 l[k-1]) (by rw[show((k:I)-1).toNat=k-1 by omega];simp[show k-1<l.length by omega]) (c9 ?_)
   refine d3 (λdz=>?_) λdz=>?_
   .apply dd Z;rw[JX a (by rw[f];simp[show k-1<l.length by omega,dz];intros;omega)];rfl
   refine dH ?_
   have g:p6 l k=N:=by
    have:k-1<l.length:=R
    simp at b;rw[f];simp[Q,c5,b,this];right;omega
   exact⟨k+1,⟨by omega,λj dL=>(x7.1 dL).elim (c j) (λe=>e▸g)⟩,by omega,dZ (dT fj dU d0)⟩
  .refine dH ?_
   have g:p6 l k=N:=by
    have n:decide (0<k)=L:=by simp;omega
    simp at b;rw[f,Q,c5,n];simp[b]
   exact⟨k+1,⟨by omega,λj dL=>(x7.1 dL).elim (c j) (λe=>e▸g)⟩,by omega,dZ (dT fj dU d0)⟩
 .have:k=l.length:=by simp at h;omega
  subst this;apply dd Z
  have:(iB l.length).all (p6 l)=N:=by rw[n0];exact λx o=>c x eG
  simp[ha,i];omega
def tH{l}(h:ha l=N):l.length<=16/\ ∀k (c6:k<l.length),p6 l k=N/\1<=l[k].1/\l[k].1<=16/\0<=l[k].2/\l[k].2<=2147483647:=by simp[ha,lB,FV,n0,E_]at h;refine⟨h.1,λk c6=>⟨h.2 k c6,?_⟩⟩;have:=h.2 k c6;simp[p6,c6,oS,qS]at this;omega
def va(now gD:I)(a:I×I):dB I:=if gD<=now-a.2 then U a.1 else cM
def oT(l:J (I×I))(now gD:I):J I:=if gD<0\/now<0\/ha l=L then [] else l.filterMap (va now gD)
def Cy{l n}:∀ {k},gy l n k<0\/ ∃i,gy l n k=((k+i:V):I) /\ ∃h,l[i].1=n:=by
 induction l with
 |nil=>intro k;exact .inl (show(-1:I)<0 by decide)
 |cons p r a=>
  intro k;simp[gy]
  by_cases h:p.1=n
  .exact .inr ⟨0,by simp[h],by simp,by grind⟩
  .rw[cT h];rcases a (k:=k+1) with Q|⟨i,Q,c5,b⟩
   .omega
   .exact .inr ⟨i+1,by omega,by simp_all,by simp_all⟩
def p7(l:J (I×I))(n:I):I×dh:=
 if ha l=L\/gy l n 0<0 then(0,L) else((l[(gy l n 0).toNat]?.getD (0,0)).2,N)
def Zt(l n)(dw:l.length<=1000000):dX cR 230 [g9 l,.int .i64 n] (.dP [.int .i64 (p7 l n).1,.bool (p7 l n).2]):=by
 refine d6 Tryz.func230 2 Z (by kernel_rfl) (cO ?_);refine df (tG l dw) (cO ?_)
 refine iD (λh=>?_) λh=>?_
 .simp at h;exact dd Z (by simp[p7,h];rfl)
 refine df (sz l n dw) (cO ?_)
 refine d3 (λQ=>?_) λQ=>?_
 .exact dd Z (by simp[p7,Q];rfl)
 simp at h;obtain c5|⟨i,c5,a,b⟩:=Cy (l:=l) (n:=n) (k:=0)
 .exact dQ c5 Q
 rw[np]at c5;refine kb R eG (cO ?_);refine dY (x:=f8 l[i]) eG (c9 ?_);exact dd Z (by simp[p7,h,c5,a,show ¬((i:I)<0) by omega];rfl)
def m9(l:J (I×I))(t:I):dh:=gV (0<l.length)&&decide (t<(l[l.length-1]?.getD (0,0)).2)
def hO(l:J (I×I))(p t:I):J (I×I)×I:=
 if ha l=L\/oS p=L\/qS t=L then(l,1)
 else if m9 l t=N then(l,1)
 else if 0<=gy l p 0 then(l,0) else(l++[(p,t)],0)
def Zu(l p t)(dw:l.length<=1000000):dX cR 288 [g9 l,.int .i64 p,.int .i64 t] (.dP [g9 (hO l p t).1,.int .i64 (hO l p t).2]):=by
 refine d6 Tryz.func288 3 Z (by kernel_rfl) (cO ?_);refine df (tG l dw) (cO ?_)
 refine iD (λQ=>?_) λQ=>?_
 .simp at Q;exact dd Z (by simp[hO,Q];rfl)
 simp at Q;refine df (Zr p) (cO ?_)
 refine iD (λc5=>?_) λc5=>?_
 .simp at c5;exact dd Z (by simp[hO,c5];rfl)
 simp at c5;refine df (Zs t) (cO ?_)
 refine iD (λa=>?_) λa=>?_
 .simp at a;exact dd Z (by simp[hO,a];rfl)
 simp at a;have⟨d,e⟩:=tH Q
 have d8:(l.map f8).length=l.length:=ef ..
 refine d3 (λc=>?_) λc=>?_
 .simp at c;refine dH ?_;refine kb R R (cO ?_);refine dY (x:=f8 l[l.length-1]) (by rw[show(((l.map f8).length:I)-1).toNat=l.length-1 by omega];grind) (c9 ?_)
  refine d3 (λdz=>?_) λdz=>?_
  .have:m9 l t=N:=by simp[m9,show l.length-1<l.length by omega,c,dz]
   exact dd Z (by simp[hO,this,Q,c5,a];rfl)
  have dW:m9 l t=L:=by simp[m9,show l.length-1<l.length by omega];omega
  refine df (sz l p dw) (cO ?_)
  refine l7 (λb=>?_) λb=>?_
  .exact dd Z (by simp[hO,dW,Q,c5,a,b];rfl)
  refine fV 1000100 100 R c1 c1 c1 (cO ?_);refine fC (Ji l) (cO ?_);refine fV 1000100 100 g3 c1 c1 c1 (c9 ?_);refine fV 1000100 100 (by show pY _+1<=1000100;simp;omega) c1 c1 c1 (cO ?_);exact dd Z (by simp[hO,dW,Q,c5,a,b,g9];rfl)
 .simp at c
  have dW:m9 l t=L:=by simp[m9,c]
  refine df (sz l p dw) (cO ?_)
  refine l7 (λb=>?_) λb=>?_
  .exact dd Z (by simp[hO,dW,Q,c5,a,b];rfl)
  refine fV 1000100 100 R c1 c1 c1 (cO ?_);refine fC (Ji l) (cO ?_);refine fV 1000100 100 eG c1 c1 c1 (c9 ?_);refine fV 1000100 100 (by show pY _+1<=1000100;simp;omega) c1 c1 c1 (cO ?_);exact dd Z (by simp[hO,dW,Q,c5,a,b,g9];rfl)
def Zv{α:Type}{l i}{x:α}:(l++[x]).eraseIdx i=if i=l.length then l else l.eraseIdx i++[x]:=by
 by_cases h:i=l.length
 .subst h;grind
 .rw[cT h]
  by_cases a:i<l.length
  .grind
  .rw[Zw hd,Zw R]
def of(l:J (I×I))(p:I):J (I×I)×I:=
 if ha l=L then(l,1) else if gy l p 0<0 then(l,3) else(l.eraseIdx (gy l p 0).toNat,0)
def FW(l p)(dw:l.length<=1000000):dX cR 310 [g9 l,.int .i64 p] (.dP [g9 (of l p).1,.int .i64 (of l p).2]):=by
 refine d6 Tryz.func310 2 Z c2 (cO ?_);refine df (tG l dw) (cO ?_)
 refine iD (λQ=>?_) λQ=>?_
 .simp at Q;exact dd Z (by simp[of,Q];rfl)
 simp at Q;refine df (sz l p dw) (cO ?_)
 refine d3 (λc5=>?_) λc5=>?_
 .exact dd Z (by simp[of,Q,c5];rfl)
 obtain a|⟨i,a,b,dz⟩:=Cy (l:=l) (n:=p) (k:=0)
 .exact dQ a c5
 rw[np]at a
 have d8:(l.map f8).length=l.length:=ef ..
 have⟨c,e⟩:=tH Q
 have dg:of l p=(l.eraseIdx i,0):=by simp[of,Q,a]
 rw[dg];refine eZ (D:=V) (λk=>[(6,.d i),(7,.own 33),(20,.d (g9 l)),(21,.d (l.map f8).length),(22,.d k)]) (λk=>[(33,.row (((l.take k).eraseIdx i).map f8) 2 L)])
  (λk=>k<=l.length) (λk=>l.length-k) 0 (e3 _) (oI (.row 7 33 2) hg (dT ⟨by rw[<-a];rfl,Z,Z,Z,Z,dU⟩ eN d0)) ?_
 intro k c6
 conv=>whnf
 refine d3 (λh=>?_) λh=>?_
 .have eM:k<l.length:=by simpa using h
  refine ec DD (cO ?_);refine dY (x:=f8 l[k]) iy (c9 ?_);have f:=R
  refine kH (λdW=>?_) λdW=>?_
  .refine fV 1000100 100 (by show pY _+1<=1000100;grind) c1 c1 c1 (c9 ?_)
   exact⟨k+1,R,R,dZ (dT ih ⟨by rw[lX eM,Zv,cT g3,jt];rfl,dU⟩ d0)⟩
  .refine dH ?_
   exact⟨k+1,R,R,dZ (dT ih ⟨by rw[lX eM,Zv,if_pos g3,Zw g3];rfl,dU⟩ d0)⟩
 .have:k=l.length:=by simp at h;omega
  subst this;exact dd Z Lz
def PD:∀(n) (l:J V),l.Nodup->(∀x∈l,x<n)->l.length<=n
 |0,[],_,_=>fB _|0,x::r,_,h=>dQ (h x (mz ..)) (ps _)
 |n+1,l,cY,h=>by
  by_cases m:n∈l
  .have:=PD n (l.erase n) (cY.erase n) λx a=>by
    grind
   simp_all
  .have:=PD n l cY λx a=>by
    grind
   omega
def Zx{l x i}(h:i<l.length):p6 (l++[x]) i=p6 l i:=by unfold p6;grind
def Zy{l x}:p6 (l++[x]) l.length=(oS x.1&&qS x.2&&!(decide (0<=gy l x.1 0))&&!(m9 l x.2)):=by unfold p6 m9;grind
def PE{l x}:ha (l++[x])=N↔ha l=N/\l.length<16/\oS x.1=N/\qS x.2=N/\gy l x.1 0<0/\m9 l x.2=L:=by
 simp[ha,lB,FV,n0,E_,kG,pW,EU];constructor
 .rintro⟨Q,c5⟩;have a:=c5 l.length R;rw[Zy]at a;simp at a;refine⟨⟨R,λi cK=>?_⟩,R,a.1.1.1,a.1.1.2,a.1.2,a.2⟩;rw[<-Zx cK];exact c5 i R
 .rintro⟨⟨Q,c5⟩,a,b,dz,dW,c⟩;refine⟨R,λi cK=>?_⟩
  by_cases e:i<l.length
  .rw[Zx e];grind
  .obtain rfl:i=l.length:=R
   rw[Zy];simp_all
def qT{l n}:∀ {k},0<=gy l n k↔∃x∈l,x.1=n:=by
 induction l with
 |nil=>intro k;exact⟨λh=>dQ h (show ¬(0<= (-1:I)) by decide),λ⟨x,h,_⟩=>by cases h⟩|cons p r a=>intro k;simp[gy];grind
def Zz{α:Type}{motive:J α->Prop}(cW:motive [])(Q:∀l x,motive l->motive (l++[x]))(l):motive l:=by
 have:∀n (l:J α),l.length=n->motive l:=by
  intro n
  induction n with
  |zero=>simp_all
  |succ n i=>
   intro l h
   have a:l≠[]:=λe=>by simp_all
   rw[<-List.dropLast_concat_getLast a];simp_all
 simp_all
def anB{l}:ha l=N->(l.map λx=>x.1.toNat).Nodup/\ ∀x∈l,1<=x.1/\x.1<=16:=by
 refine Zz (motive:=λl=>ha l=N->(l.map λx=>x.1.toNat).Nodup/\ ∀x∈l,1<=x.1/\x.1<=16) (λ_=>⟨FX,λx h=>g0⟩) (λl x d h=>?_) l;have⟨Q,c5,f,i,dz,dW⟩:=PE.1 h;have⟨dG,g⟩:=d Q
 have j:1<=x.1/\x.1<=16:=by simpa[oS]using f
 refine⟨?_,λy c=>?_⟩
 .rw[jt,py];refine⟨dG,dt,λa dq b hb e=>?_⟩;simp at hb;subst hb e;have⟨y,c,e⟩:=h4.1 dq;have:=g y c;have:0<=gy l x.1 0:=qT.2 ⟨y,c,R⟩;omega
 grind
def anC{l p}(h:ha l=N)(O:oS p=N)(cY:gy l p 0<0):l.length<16:=by
 have⟨Q,c5⟩:=anB h
 have d:1<=p/\p<=16:=by simpa[oS]using O
 have:=PD 16 ((p.toNat-1)::l.map λx=>x.1.toNat-1) (by
  rw[tm];refine⟨λd8=>?_,?_⟩
  .have⟨y,c,e⟩:=h4.1 d8;have:=c5 y c;have:0<=gy l p 0:=qT.2 ⟨y,c,R⟩;omega
  .rw[show(l.map λx=>x.1.toNat-1)=(l.map λx=>x.1.toNat).map (·-1) by simp];refine List.pairwise_map.2 (Q.imp_of_mem fun {a b} dq hb e=>?_);grind) (by
  grind)
 grind
def anD{l p t}(h:(hO l p t).2=0):ha l=N/\oS p=N/\qS t=N/\m9 l t=L/\
  ((0<=gy l p 0/\ (hO l p t).1=l) \/ (gy l p 0<0/\ (hO l p t).1=l++[(p,t)])):=by
 unfold hO at h⊢;grind
def ZA{l p t}(h:(hO l p t).2=0):ha (hO l p t).1=N:=by
 obtain⟨Q,c5,a,b,dz|dz⟩:=anD h
 .simp_all
 .rw[dz.2];exact PE.2 ⟨Q,anC Q c5 dz.1,c5,a,dz.1,b⟩
def PF(l:J (I×I)):Prop:=l.length<=16/\ (∀x∈l,oS x.1=N/\qS x.2=N) /\l.Pairwise (λa b=>a.1≠b.1) /\l.Pairwise (λa b=>a.2<=b.2)
def ZB{l t}(c7:l.Pairwise (λa b=>a.2<=b.2)):m9 l t=L↔∀a∈l,a.2<=t:=by
 constructor
 .intro h a dq;obtain⟨i,cK,rfl⟩:=kg.1 dq
  have O:0<l.length:=R
  simp[m9,show l.length-1<l.length by omega]at h;have h:=h O
  by_cases e:i=l.length-1
  .simp_all
  .have:=xO.1 c7 i (l.length-1) cK R R;omega
 .intro h;simp[m9];grind
def FY{l}:ha l=N↔PF l:=by
 refine Zz (motive:=λl=>ha l=N↔PF l) ⟨λ_=>⟨dt,λx h=>g0,.nil,.nil⟩,λ_=>Z⟩ (λl x g=>?_) l;rw[PE,g];unfold PF;simp only[kG,pW,EU,h3,lE,Cz];constructor
 .rintro⟨⟨Q,c5,c,d⟩,dz,dW,j,k,i⟩;refine⟨R,λy f=>?_,⟨c,dt,λa dq b hb e=>?_⟩,⟨d,dt,λa dq b hb=>?_⟩⟩
  .grind
  .subst hb;have:0<=gy l b.1 0:=qT.2 ⟨a,dq,e⟩;omega
  .subst hb;exact(ZB d).1 i a dq
 .rintro⟨Q,c5,⟨c,_,d⟩,⟨dz,_,dW⟩⟩;refine⟨⟨R,λy f=>c5 y (.inl f),c,dz⟩,R,(c5 x (.inr Z)).1,(c5 x (.inr Z)).2,?_,(ZB dz).2 λa dq=>dW a dq x Z⟩
  by_cases h:0<=gy l x.1 0
  .have⟨y,f,e⟩:=qT.1 h;grind
  .omega
def PG{l p t}(dI:ha l=N)(h:(p,t)∈l):p7 l p=(t,N):=by
 have O:0<=gy l p 0:=qT.2 ⟨_,h,Z⟩;obtain a|⟨i,a,dz,dW⟩:=Cy (l:=l) (n:=p) (k:=0)
 .omega
 rw[np]at a
 have cK:l[i]=(p,t):=by
  have⟨j,dL,e⟩:=kg.1 h;have cY:=xO.1 (FY.1 dI).2.2.1
  by_cases b:i=j
  .simp_all
  .grind
 simp[p7,dI,a,dz,cK]
def ZC{p}:∀ {l:J (I×I)} {i} (h:i<l.length),l.Pairwise (λa b=>a.1≠b.1)->l[i].1=p->l.eraseIdx i=l.filter (λx=>x.1 !=p)
 |a::r,0,_,cY,e=>by
  have⟨Q,c⟩:=uT.1 cY;have e:a.1=p:=e;rw[List.eraseIdx_cons_zero,List.filter_cons_of_neg ue];exact(List.filter_eq_self.2 λx d=>by grind).symm
 |a::r,i+1,h,cY,e=>by
  have⟨Q,c⟩:=uT.1 cY;have cK:=AK;have e:=LJ;have:=Q _ (hS cK);rw[e]at this;rw[List.eraseIdx_cons_succ,ZC cK c e,ZD S6]
def anE{l}(dI:ha l=N)(f):ha (l.filter f)=N:=by have⟨Q,c5,a,b⟩:=FY.1 dI;refine FY.2 ⟨fJ (CA _ _) Q,λx c=>c5 x (n9.1 c).1,a.filter f,b.filter f⟩
def PH{l p}(dI:ha l=N):of l p=if 0<=gy l p 0 then(l.filter (λx=>x.1 !=p),0) else(l,3):=by
 unfold of;rw[cT (by simp[dI])]
 by_cases h:0<=gy l p 0
 .obtain a|⟨i,a,dz,dW⟩:=Cy (l:=l) (n:=p) (k:=0)
  .omega
  rw[np]at a;rw[cT R,if_pos h,a,gl,ZC dz (FY.1 dI).2.2.1 dW]
 simp_all
end Dt
namespace Tb
open Go.Proofs Go.RowKit
abbrev jR:=J (I×I)
def rz(x:I×I):c3:=.agg (f8 x)
def wH(l:jR):c3:=.agg [g9 l]
def fT(x:I×I):dh:=gV (x.1=0)&&decide (x.2=0)
def sA(p f:I):dh:=gV (1<=p)&&(decide (p<=2147483647)&&(decide (0<=f)&&decide (f<=2147483647)))
def CB(x):dX cR 250 [rz x] (.bool (fT x)):=by
 refine d6 Tryz.func250 1 Z c2 (c9 ?_)
 refine pp (λh=>?_) λh=>?_
 .exact dd Z (by simp[fT,h])
 .exact dd Z (by simp[fT,h])
def ZE(p f):dX cR 251 [.int .i64 p,.int .i64 f] (.bool (sA p f)):=by
 refine d6 Tryz.func251 2 Z c2 (cO ?_)
 refine l7 (λh=>?_) λh=>?_
 .refine l7 (λc5=>?_) λc5=>?_
  .refine d3 (λa=>?_) λa=>?_
   .exact dd Z (by simp[sA,h,c5,a])
   .exact dd Z (by simp[sA,h,c5,a])
  .exact dd Z (by simp[sA,h,c5])
 .exact dd Z (by simp[sA,h])
def ya(n)(h:0<=n):dX cR 252 [.int .i64 n] (.int .i64 (n%16)):=by refine d6 Tryz.func252 1 Z c2 (cO ?_);refine e' ?_;rfl
def PI(n)(h:0<=n)(Q:n<=100):dX cR 253 [.int .i64 n] (.int .i64 ((n+1)%16)):=by refine d6 Tryz.func253 1 Z c2 (c9 ?_);refine e' ?_;rfl
def ZF(a b)(h:0<=a)(Q:a<=15)(c:0<=b)(d:b<=15):dX cR 325 [.int .i64 a,.int .i64 b] (.int .i64 ((b-a+16)%16)):=by refine d6 Tryz.func325 2 Z c2 (c9 ?_);refine e' ?_;rfl
def PJ(l:jR)(dw:l.length<=1000000):j5 cR 95 [g9 l] (l.map f8) 2:=by
 refine lH Tryz.func95 1 Z c2 (cO (oG (cO ?_)));intro r dI
 conv=>whnf
 refine m8 (λh=>?_) λh=>?_
 .have:=dI h;exact⟨2,Z,.inr ⟨Z,this⟩⟩
 .refine fC (Ji l) (cO ?_);refine fV 1000100 100 AL c1 c1 c1 (cO ?_);exact⟨2,Z,.inl ⟨5,Z,Z⟩⟩
def PK:dX cR 173 [] (wH (eL 16 (0,0))):=by refine d6 Tryz.func173 0 Z c2 (c9 ?_);refine fV 100 100 c1 c1 c1 c1 (c9 ?_);rfl
def gy(l:jR)(n:I)(k:V):I:=
 match l with
 | []=>-1
 |p::r=>if p.1=n then(k:I) else gy r n (k+1)
def kL(l:jR)(p:I):I×dh:=if p<1\/gy l p 0<0 then(0,L) else(gy l p 0,N)
def sz(l n)(dw:l.length<=1000000):dX cR 257 [wH l,.int .i64 n] (.dP [.int .i64 (kL l n).1,.bool (kL l n).2]):=by
 refine d6 Tryz.func257 2 Z c2 (cO ?_)
 refine l7 (λcW=>?_) λcW=>?_
 .exact dd Z (by simp[kL,cW];rfl)
 refine eZ (D:=V) (λk=>[(1,.d n),(11,.d (g9 l)),(12,.d (l.map f8).length),(13,.d k)]) (λ_=>[])
  (λk=>k<=l.length/\gy (l.drop k) n k=gy l n 0) (λk=>l.length-k) 0 ⟨e3 _,Z⟩ (dZ (dT fj dU d0)) ?_
 rintro k ⟨c6,a⟩
 conv=>whnf
 refine d3 (λh=>?_) λh=>?_
 .have eM:k<l.length:=by simpa using h
  refine ec DD (cO ?_);refine dY (x:=f8 l[k]) iy (c9 ?_);rw[rq eM,gy]at a
  refine d3 (λc5=>?_) λc5=>?_
  .rw[if_pos c5]at a;apply dd Z
   have:kL l n=((k:I),N):=by rw[kL,<-a,cT R]
   rw[this];rfl
  .rw[cT c5]at a;refine dH ?_;exact⟨k+1,⟨R,a⟩,R,dZ (dT fj dU d0)⟩
 .have:k=l.length:=by simp at h;omega
  subst this;simp[gy]at a;apply dd Z
  have:kL l n=(0,L):=by rw[kL,<-a,if_pos R]
  rw[this];rfl
def at'(l:jR)(i:V):I×I:=l[i]?.getD (0,0)
def l'{l i}(h:i<l.length):at' l i=l[i]:=by simp[at',h]
def fQ(p:I):V:=(p%16).toNat
def kl(a b:V):V:=(b+16-a)%16
def sB(x:I×I):Prop:=fT x=N\/sA x.1 x.2=N
def JY(l:jR)(i:V):Prop:=fT (at' l i)=N\/ ((∀j,j<i->(at' l j).1≠(at' l i).1) /\ ∀d,d<kl (fQ (at' l i).1) i->fT (at' l ((fQ (at' l i).1+d)%16))=L)
structure iG(l:jR):Prop where
 len:l.length=16
 rA:∀i,i<16->sB (at' l i)
 places:∀i,i<16->JY l i
open Classical in
def ha(l:jR):dh:=gV (iG l)
def tI{l}:ha l=N↔iG l:=by simp[ha]
def JZ{l}:ha l=L↔¬iG l:=by simp[ha]
def yd{p f}:sA p f=N↔1<=p/\p<=2147483647/\0<=f/\f<=2147483647:=by simp[sA]
def anF{x}:fT x=N↔x.1=0/\x.2=0:=by simp[fT]
def tG(l)(dw:l.length<=1000000):dX cR 191 [wH l] (.bool (ha l)):=by
 refine d6 Tryz.func191 1 Z c2 (cO ?_)
 have d8:(l.map f8).length=l.length:=ef ..
 refine dH ?_
 refine wq (λcW=>?_) λcW=>?_
 .exact dd Z (eR c3.bool (JZ.2 λh=>cW (by rw[d8,h.len];rfl)).symm)
 have p:l.length=16:=R
 refine dH ?_;refine eZ (D:=V) (λk=>[(1,.ptr 1 0 0),(15,.d (g9 l)),(16,.d (l.map f8).length),(17,.d k)]) (λ_=>[(1,.box [.d (g9 l)] L)])
  (λk=>k<=16/\ ∀j,j<k->sB (at' l j)) (λk=>16-k) 0 ⟨e3 _,λj h=>dQ h (ps _)⟩ (dZ (dT fj eN d0)) ?_
 rintro k ⟨c6,c⟩
 conv=>whnf
 refine d3 (λh=>?_) λh=>?_
 .have f:k<l.length:=R
  have b:=l' f;have g (c7:sB l[k]):∀j,j<k+1->sB (at' l j):=λj dL=>(x7.1 dL).elim (c j) (λe=>by simp_all);refine ec R (cO ?_);refine dY (x:=f8 l[k]) (by simp[f]) (c9 ?_);refine df (CB l[k]) (cO ?_)
  refine xY (λQ=>?_) λQ=>?_
  .refine df (ZE _ _) (cO ?_)
   refine m8 (λc5=>?_) λc5=>?_
   .refine dd Z (eR c3.bool (JZ.2 λh=>?_).symm);have:=h.rA k R;rw[b]at this;simp[sB]at this Q c5;simp_all
   .simp at c5;exact⟨k+1,⟨by omega,g (.inr c5)⟩,by omega,dZ (dT fj eN d0)⟩
  .simp at Q;exact⟨k+1,⟨by omega,g (.inl Q)⟩,by omega,dZ (dT fj eN d0)⟩
 have gB:∀j,j<16->sB (at' l j):=λj dL=>c j R;clear c c6 h
 refine dH ?_;refine eZ (D:=V) (λk=>[(1,.ptr 1 0 0),(34,.d (g9 l)),(35,.d (l.map f8).length),(36,.d k)]) (λ_=>[(1,.box [.d (g9 l)] L)])
  (λk=>k<=16/\ ∀j,j<k->JY l j) (λk=>16-k) 0 ⟨e3 _,λj h=>dQ h (ps _)⟩ (dZ (dT fj eN d0)) ?_
 rintro k ⟨c6,c⟩
 conv=>whnf
 refine d3 (λh=>?_) λh=>?_
 .have f:k<l.length:=R
  have b:=l' f;have g (c7:JY l k):∀j,j<k+1->JY l j:=λj dL=>(x7.1 dL).elim (c j) (λe=>by simp_all);have r:=gB k R;refine ec R (cO ?_);refine dY (x:=f8 l[k]) (by simp[f]) (c9 ?_);refine df (CB l[k]) (cO ?_)
  refine j9 (λQ=>?_) λQ=>?_
  .exact⟨k+1,⟨by omega,g (.inl eG)⟩,by omega,dZ (dT fj eN d0)⟩
  have B:1<=l[k].1:=by
   rcases r with c5|c5
   .simp_all
   .rw[b]at c5;exact(yd.1 c5).1
  refine dH ?_;refine fC (λe he=>XA he) (cO ?_);refine oE R (c9 ?_)
  have C:(zx 0 (BZ k (l.map f8))).length=k:=by simp;omega
  refine eZ (D:=V) (λq=>[(1,.ptr 1 0 0),(5,.d k),(6,.ptr 6 0 0),(34,.d (g9 l)),(35,.d (l.map f8).length),(36,.d k),(46,.d (.dk (zx 0 (BZ k (l.map f8))))),(47,.d (zx 0 (BZ k (l.map f8))).length),(48,.d q)]) (λ_=>[(1,.box [.d (g9 l)] L),(6,.box [.d (.int .i64 l[k].1),.d (.int .i64 l[k].2)] L)])
   (λq=>q<=k/\ ∀j,j<q->(at' l j).1≠(at' l k).1) (λq=>k-q) 0 ⟨e3 _,λj h=>dQ h (ps _)⟩ (dZ (dT yQ lr d0)) ?_
  rintro q ⟨s,m⟩
  conv=>whnf
  refine d3 (λc5=>?_) λc5=>?_
  .have t:q<k:=R
   have n:q<l.length:=R
   refine ec R (cO ?_);refine dY (x:=f8 l[q]) eG (c9 ?_)
   refine l7 (λi=>?_) λi=>?_
   .refine dd Z (eR c3.bool (JZ.2 λh=>?_).symm);rcases h.places k R with a|⟨a,_⟩
    .simp_all
    .exact a q t (by rw[l' n,b,i])
   .exact⟨q+1,⟨by omega,λj dL=>(x7.1 dL).elim (m j) (λe=>by subst e;rwa[l' n,b])⟩,by omega,dZ (dT yQ lr d0)⟩
  have u:∀j,j<k->(at' l j).1≠(at' l k).1:=λj dL=>m j R;clear m s c5;refine dH ?_;refine df (ya l[k].1 R) (cO ?_)
  have E:((fQ l[k].1:V):I)=l[k].1%16:=by simp[fQ];omega
  have F:fQ l[k].1<16:=by simp[fQ];omega
  refine eZ (D:=V) (λd=>[(1,.ptr 1 0 0),(5,.d k),(9,.d (((fQ l[k].1+d)%16:V):I)),(34,.d (g9 l)),(35,.d (l.map f8).length),(36,.d k)]) (λ_=>[(1,.box [.d (g9 l)] L)])
   (λd=>d<=kl (fQ l[k].1) k/\ ∀o,o<d->fT (at' l ((fQ l[k].1+o)%16))=L) (λd=>16-d) 0 ⟨e3 _,λj h=>dQ h (ps _)⟩ (dZ (dT ⟨Z,Z,by rw[show(((fQ l[k].1+0)%16:V):I)=l[k].1%16 by omega];rfl,Z,Z,Z,dU⟩ eN d0)) ?_
  rintro d ⟨cP,v⟩
  conv=>whnf
  have y:kl (fQ l[k].1) k<16:=by simp[kl];omega
  refine wq (λc5=>?_) λc5=>?_
  .have z:d<kl (fQ l[k].1) k:=by
    by_cases e:d=kl (fQ l[k].1) k
    .exfalso;apply c5;rw[e];simp[kl];omega
    .omega
   have dL:(fQ l[k].1+d)%16<l.length:=R
   refine dH ?_;refine ec R (cO ?_);refine dY (x:=f8 l[(fQ l[k].1+d)%16]) (by simp[dL]) (c9 ?_);refine df (CB l[(fQ l[k].1+d)%16]) (cO ?_)
   refine iD (λi=>?_) λi=>?_
   .refine dd Z (eR c3.bool (JZ.2 λh=>?_).symm);rcases h.places k R with a|⟨_,a⟩
    .rw[b,Q]at a;cases a
    .rw[b]at a;have:=a d z;rw[l' dL,i]at this
     cases this
   .refine df (PI (((fQ l[k].1+d)%16:V):I) R R) (cO ?_)
    exact⟨d+1,⟨by omega,λj A=>(x7.1 A).elim (v j) (λe=>by subst e;rwa[l' dL])⟩,by omega,dZ (dT ⟨Z,Z,by rw[show(((fQ l[k].1+(d+1))%16:V):I)=((((fQ l[k].1+d)%16:V):I)+1)%16 by omega];rfl,Z,Z,Z,dU⟩ eN d0)⟩
  .have G:d=kl (fQ l[k].1) k:=by simp[kl]at cP y⊢;omega
   refine dH ?_;refine⟨k+1,⟨by omega,g (.inr ⟨u,?_⟩)⟩,by omega,dZ (dT fj eN d0)⟩;simp_all
 exact dd Z (eR c3.bool (tI.2 ⟨p,gB,λj dL=>c j R⟩).symm)
def Cy{l n}:∀ {k},gy l n k<0\/ ∃i,gy l n k=((k+i:V):I) /\ ∃h,l[i].1=n:=by
 induction l with
 |nil=>intro k;exact .inl (show(-1:I)<0 by decide)
 |cons p r a=>
  intro k;simp[gy]
  by_cases h:p.1=n
  .exact .inr ⟨0,by simp[h],by simp,by grind⟩
  .rw[cT h];rcases a (k:=k+1) with Q|⟨i,Q,c5,b⟩
   .omega
   .exact .inr ⟨i+1,by omega,by simp_all,by simp_all⟩
def rB(l:jR)(h d:V):V->dB V
 |0=>cM
 |n+1=>if fT (at' l ((h+d)%16))=N then U ((h+d)%16) else rB l h (d+1) n
def oU(l:jR)(p f:I):jR×I:=
 if ha l=L\/sA p f=L then(l,1) else if(kL l p).2=N then(l,4) else match rB l (fQ p) 0 16 with
  |some i=>(l.set i (p,f),0)
  |none=>(l,7)
def FZ(l:jR)(i x):(l.map f8).set i (f8 x)=(l.set i x).map f8:=DK
def Cs(l p f)(dw:l.length<=1000000):dX cR 308 [wH l,.int .i64 p,.int .i64 f] (.dP [wH (oU l p f).1,.int .i64 (oU l p f).2]):=by
 refine d6 Tryz.func308 3 Z (by kernel_rfl) (c9 ?_);refine df (tG l dw) (cO ?_)
 refine j9 (λQ=>?_) λQ=>?_
 .simp at Q;exact dd Z (by simp[oU,Q];rfl)
 simp at Q;refine df (ZE p f) (cO ?_)
 refine j9 (λc5=>?_) λc5=>?_
 .simp at c5;exact dd Z (by simp[oU,c5];rfl)
 simp at c5;refine dH ?_;refine df (sz l p dw) (cO ?_)
 refine j9 (λb=>?_) λb=>?_
 .exact dd Z (by simp[oU,Q,c5,b];rfl)
 have O:=yd.1 c5;have i:=(tI.1 Q).len
 have d8:(l.map f8).length=l.length:=ef ..
 have j:((fQ p:V):I)=p%16:=by simp[fQ];omega
 have m:fQ p<16:=by simp[fQ];omega
 refine df (ya p R) (cO ?_);refine eZ (D:=V) (λd=>[(1,.d p),(2,.d f),(3,.ptr 3 0 0),(6,.ptr 6 0 0),(10,.d (.int .i64 (((fQ p+d)%16:V):I))),(32,.d (.int .i64 d))]) (λ_=>[(3,.box [.d (g9 l)] L),(6,.box [.nil] L)])
  (λd=>d<=16/\rB l (fQ p) d (16-d)=rB l (fQ p) 0 16) (λd=>16-d) 0 ⟨e3 _,Z⟩ (dZ (dT ⟨Z,Z,Z,Z,by show dn.d (.int .i64 (p%16))=dn.d (.int .i64 (((fQ p+0)%16:V):I));simp_all,Z,dU⟩ lr d0)) ?_
 rintro d ⟨cP,a⟩
 conv=>whnf
 refine d3 (λh=>?_) λh=>?_
 .have dL:(fQ p+d)%16<l.length:=R
  rw[show 16-d=(16-(d+1))+1 by omega,rB,l' dL]at a;refine dH ?_;refine ec R (cO ?_);refine dY (x:=f8 l[(fQ p+d)%16]) (by simp[dL]) (c9 ?_);refine df (CB l[(fQ p+d)%16]) (cO ?_)
  refine iD (λc=>?_) λc=>?_
  .rw[if_pos c]at a
   have e:oU l p f=(l.set ((fQ p+d)%16) (p,f),0):=by simp[oU,Q,c5,b,<-a]
   rw[e];refine dH ?_;refine gK (PJ l dw) (cO ?_);refine ec R (cO ?_);refine dY (x:=f8 l[(fQ p+d)%16]) (by simp[dL]) (c9 ?_);apply dd Z;show c3.dP [.agg [.dk ((l.map f8).set _ (f8 (p,f)))],.int .i64 0]=_;rw[FZ];rfl
  .rw[cT (by simp[c])]at a;refine df (PI (((fQ p+d)%16:V):I) R R) (c9 ?_)
   exact⟨d+1,⟨by omega,a⟩,by omega,dZ (dT ⟨Z,Z,Z,Z,by rw[show(((fQ p+(d+1))%16:V):I)=((((fQ p+d)%16:V):I)+1)%16 by omega];rfl,Z,dU⟩ lr d0)⟩
 .have g:d=16:=R
  subst g
  have e:oU l p f=(l,7):=by simp[oU,Q,c5,b,<-a];rfl
  rw[e];refine dH ?_;exact dd Z Z
def qU(l:jR)(h6 i:V):V->jR
 |0=>l
 |n+1=>if fT (at' l ((i+1)%16))=N then l
  else if kl (fQ (at' l ((i+1)%16)).1) h6<kl (fQ (at' l ((i+1)%16)).1) ((i+1)%16) then qU ((l.set h6 (at' l ((i+1)%16))).set ((i+1)%16) (0,0)) ((i+1)%16) ((i+1)%16) n
  else qU l h6 ((i+1)%16) n
def p8(l:jR)(p:I):jR×I:=
 if ha l=L then(l,1) else if(kL l p).2=L then(l,3) else(qU (l.set (kL l p).1.toNat (0,0)) (kL l p).1.toNat (kL l p).1.toNat 15,0)
def ZG{a b}(dq:a<16)(hb:b<16):((b)-(a)+16)%16=((kl a b:V):I):=by simp[kl];omega
def F0{l p}(h:(kL l p).2=N):∃i:V,(kL l p).1=i/\ ∃h,l[i].1=p:=by
 unfold kL at h⊢
 by_cases e:p<1\/gy l p 0<0
 .simp_all
 .rw[cT e];obtain a|⟨i,a,dz,dW⟩:=Cy (l:=l) (n:=p) (k:=0)
  .omega
  grind
def ye:sB (0,0):=.inl Z
def anG(l p)(dw:l.length<=1000000):dX cR 309 [wH l,.int .i64 p] (.dP [wH (p8 l p).1,.int .i64 (p8 l p).2]):=by
 refine d6 Tryz.func309 2 Z (by kernel_rfl) (c9 ?_);refine df (tG l dw) (cO ?_)
 refine j9 (λQ=>?_) λQ=>?_
 .simp at Q;exact dd Z (by simp[p8,Q];rfl)
 simp at Q;refine dH ?_;refine df (sz l p dw) (cO ?_)
 refine j9 (λg=>?_) λg=>?_
 .simp at g;exact dd Z (by simp[p8,Q,g];rfl)
 simp at g;have q:=tI.1 Q;have t:=q.len
 have d8:(l.map f8).length=l.length:=ef ..
 have⟨a,dq,u,C⟩:=F0 g
 have v:p8 l p=(qU (l.set a (0,0)) a a 15,0):=by simp[p8,Q,g,dq]
 rw[v,dq];refine dH ?_;refine gK (PJ l dw) (c9 ?_);refine ec R (cO ?_);refine dY (x:=f8 l[a]) (by simp[u]) (cO ?_);refine eZ (D:=V×jR×V×V) (λs=>[(4,.ptr 4 0 0),(6,.d s.2.2.1),(8,.own 26),(9,.d s.2.2.2),(32,.d s.1)]) (λs=>[(4,.box [.nil] L),(26,.row (s.2.1.map f8) 2 L)])
  (λs=>s.1<=15/\s.2.1.length=16/\s.2.2.1<16/\s.2.2.2<16/\ (∀j,j<16->sB (at' s.2.1 j)) /\qU s.2.1 s.2.2.1 s.2.2.2 (15-s.1)=qU (l.set a (0,0)) a a 15) (λs=>15-s.1) (0,l.set a (0,0),a,a)
  ⟨e3 _,by simp[t],by grind,by grind,λj dL=>?_,rfl⟩ (dZ (dT ih ⟨Z,by show U (d4.row ((l.map f8).set a (f8 (0,0))) 2 L)=_;rw[FZ],dU⟩ d0)) ?_
 .unfold at';rw[lF];split
  .first|exact ye|(split<;>exact ye)
  .exact q.rA j dL
 rintro⟨n,c,h,i⟩ ⟨cY,o,c_,cK,gB,e⟩;simp only at cY o c_ cK gB e⊢
 have E:(c.map f8).length=c.length:=ef ..
 conv=>whnf
 refine d3 (λy=>?_) λy=>?_
 .rw[show 15-n=(15-(n+1))+1 by omega,qU]at e
  have f:(i+1)%16<16:=R
  have dL:(i+1)%16<c.length:=R
  generalize F:(i+1)%16=b at e dL f
  have z:((i:I)+1)%16=(b:I):=R
  rw[l' dL]at e;refine df (d:=.int .i64 (b:I)) (by rw[<-z];exact PI (i:I) R R) (c9 ?_);refine ec R (cO ?_);refine dY (x:=f8 c[b]) (by simp[dL]) (c9 ?_);refine df (CB c[b]) (cO ?_)
  refine iD (λm=>?_) λm=>?_
  .rw[if_pos m]at e;rw[<-e];refine dH ?_;exact dd Z Z
  rw[cT (by simp[m])]at e
  have G:1<=c[b].1:=by
   rcases gB b f with c5|c5
   .rw[l' dL,m]at c5;cases c5
   .rw[l' dL]at c5;exact(yd.1 c5).1
  have A:((fQ c[b].1:V):I)=c[b].1%16:=by simp[fQ];omega
  have r:fQ c[b].1<16:=by simp[fQ];omega
  refine dH ?_;refine ec R (cO ?_);refine dY (x:=f8 c[b]) (by simp[dL]) (c9 ?_);refine df (d:=.int .i64 ((fQ c[b].1:V):I)) (by rw[A];exact ya c[b].1 R) (c9 ?_);refine df (d:=.int .i64 ((kl (fQ c[b].1) h:V):I)) (by rw[<-ZG r c_];exact ZF _ _ R R R R) (c9 ?_);refine df (d:=.int .i64 ((kl (fQ c[b].1) b:V):I)) (by rw[<-ZG r f];exact ZF _ _ R R R R) (cO ?_)
  refine d3 (λdz=>?_) λdz=>?_
  .rw[if_pos R]at e;refine dH ?_;refine ec R (cO ?_);refine dY (x:=f8 c[b]) (by simp[dL]) (c9 ?_);refine ec R (cO ?_);refine dY (x:=f8 (at' c h)) (by simp[at',show h<c.length by omega]) (c9 ?_);refine ec (by rw[h'];omega) (cO ?_);refine dY (x:=f8 (at' (c.set h c[b]) b)) ?_ ?_
   .show((c.map f8).set h (f8 c[b]))[b]?=_;rw[FZ,iO,at',fe eG];rfl
   conv=>whnf
   refine dH ?_
   refine⟨(n+1,(c.set h c[b]).set b (0,0),b,b),⟨by simp only[];omega,by simpa using o,f,f,λj B=>?_,e⟩,by simp only[];omega,dZ (dT ih ⟨Z,by show U (d4.row (((c.map f8).set h (f8 c[b])).set b (f8 (0,0))) 2 L)=_;rw[FZ,FZ],dU⟩ d0)⟩
   unfold at';simp only[];rw[lF];split
   .first|exact ye|(split<;>exact ye)
   .rw[lF];have dW:=gB b f;rw[l' dL]at dW;split
    .first|exact dW|(split;exact dW;exact ye)
    .exact gB j B
  .rw[cT R]at e;refine dH ?_;exact⟨(n+1,c,h,b),⟨by omega,o,c_,f,gB,e⟩,by omega,dZ (dT ih lr d0)⟩
 .have:n=15:=R
  subst this;replace e:c=qU (l.set a (0,0)) a a 15:=e;rw[<-e];refine dH ?_;exact dd Z Z
end Tb
open Go.Proofs Go.RowKit
def anQ(x):dX cR 322 [.int .i64 x] (.bool L):=by refine d6 Tryz.func322 1 Z c2 (cO ?_);exact dd Z dt
def ZH(x y):dX cR 301 [.int .i64 x,.int .i64 y] (.bool (decide (x<y))):=by refine d6 Tryz.func301 2 Z c2 (cO ?_);refine df (anQ x) (c9 ?_);rfl
def CC{l:J I}{i:V}{x}(h:l[i]?=U x):(l.map hT)[i]?=U (hT x):=eG
def anR(l)(E:l.length<=12):fG cR 312 [.own 1000000,.d (.int .i64 0),.d l.length] [(1000000,.row (l.map hT) 1 L)] [(1000000,.row ((Ins.ma l).map hT) 1 L)] (.dP []):=by
 refine g_ Tryz.func312 3 Z c2 f0 (c9 ?_)
 have cW:Ins.ma (l.take 1)++l.drop 1=l:=by
  match l with
  | []=>simp[Ins.ma]|x::r=>simp[Ins.ma]
 refine eZ (D:=V) (λk=>[(0,.own 1000000),(1,.d (.int .i64 0)),(2,.d l.length),(6,.d k)]) (λk=>[(1000000,.row ((Ins.ma (l.take k)++l.drop k).map hT) 1 L)])
  (λk=>1<=k/\ (k<=l.length\/k=1)) (λk=>l.length-k) 1 ⟨fB _,.inr Z⟩ (dZ (dT fj ⟨by rw[cW];rfl,dU⟩ ⟨by rw[cW],Z,Z,Z⟩)) ?_
 rintro k ⟨k1,eF⟩
 conv=>whnf
 refine d3 (λh=>?_) λh=>?_
 .have u:k<l.length:=R
  have w:(Ins.ma (l.take k)).length=k:=by rw[Ins.ma,ZI,pn];omega
  have⟨S,b⟩:∃S,Ins.ma (l.take k)=S:=⟨_,Z⟩;have⟨x,v⟩:∃x,l[k]?=U x:=⟨l[k],by simp⟩
  have n:l.drop k=x::l.drop (k+1):=by rw[rk u];congr 1;simpa[u]using v
  rw[b]at w;have s:=b▸Ins.anH _
  have i:S.Perm (l.take k):=b▸anK ..
  have B:l.take k++[x]=l.take (k+1):=by rw[Je,v];rfl
  have f:∀j,(∀y∈S.take j,y<=x)->(∀y∈S.drop j,x<=y)->Ins.lg S x j++l.drop (k+1)=Ins.ma (l.take (k+1))++l.drop (k+1):=λj Q g=>by
   rw[Ins.anJ (Ins.anO s Q g) ((Ins.anM S x j).trans (B▸i.append_right [x]))]
  have M:Ins.ma (l.take k)++l.drop k=Ins.lg S x k++l.drop (k+1):=by rw[b,n];unfold Ins.lg;rw[u1 (show S.length<=k by omega),Ce (show S.length<=k by omega)];simp
  refine eZ (D:=V) (λj=>[(0,.own 1000000),(1,.d (.int .i64 0)),(2,.d l.length),(6,.d k),(7,.d j)]) (λj=>[(1000000,.row ((Ins.lg S x j++l.drop (k+1)).map hT) 1 L)])
   (λj=>j<=k/\ ∀y∈S.drop j,x<=y) (λj=>j) k ⟨fB _,λy a=>by grind⟩ (dZ (dT ih ⟨by rw[<-M];rfl,dU⟩ ⟨by rw[<-M],Z,Z,Z⟩)) ?_
  rintro j ⟨F,d⟩
  conv=>whnf
  refine d3 (λz=>?_) λz=>?_
  .obtain⟨m,rfl⟩:∃m,j=m+1:=⟨j-1,by omega⟩
   have c:m<S.length:=R
   have⟨q,t,G⟩:=Ins.anP (cX:=l.drop (k+1)) (x:=x) c
   have A:((Ins.lg S x (m+1)++l.drop (k+1)).map hT).length=l.length:=by rw[ef,kG,Ins.anL _ _ R,List.length_drop];omega
   have p:((m+1:V):I)-1=(m:V):=R
   refine ec R (cO ?_);refine dY (CC t) (c9 ?_);rw[p];refine ec R (cO ?_);refine dY (CC q) (c9 ?_);refine df (ZH x S[m]) (c9 ?_)
   refine iv (λg=>?_) λg=>?_
   .rw[p];refine ec R (cO ?_);refine dY (CC q) (c9 ?_);refine ec R (cO ?_);refine dY (CC t) (c9 ?_);refine ec R (cO ?_);refine dY (CC t) (c9 ?_)
    have s1:((Ins.lg S x (m+1)++l.drop (k+1)).map hT).set (m+1) (iM (hT x) 0 (hT S[m]))=((Ins.lg S x (m+1)++l.drop (k+1)).set (m+1) S[m]).map hT:=by rw[sv];rfl
    have o:((Ins.lg S x (m+1)++l.drop (k+1)).set (m+1) S[m])[m]?=U S[m]:=by rwa[List.getElem?_set_ne R]
    have s2:(((Ins.lg S x (m+1)++l.drop (k+1)).map hT).set (m+1) (iM (hT x) 0 (hT S[m]))).set m (iM (hT S[m]) 0 (hT x))=(Ins.lg S x m++l.drop (k+1)).map hT:=by rw[s1,<-G];exact(sv ..).symm
    try rw[p]
    refine ec (by rw[h'];omega) (cO ?_);refine dY (x:=hT S[m]) (by show(List.set _ _ (iM (hT x) 0 (hT S[m])))[_]?=_;rw[s1];exact CC o) (c9 ?_)
    try rw[p]
    refine⟨m,⟨by omega,λy a=>?_⟩,by omega,dZ (dT ih ⟨by rw[<-s2];rfl,dU⟩ ⟨by rw[<-s2];rfl,Z,Z,Z⟩)⟩;rw[rk c]at a;rcases m3.1 a with rfl|a
    .omega
    .exact d y a
   .refine dH ?_
    have Q:∀y∈S.take (m+1),y<=x:=λy a=>by
     rw[Je]at a;simp only[c,fe,Option.toList_some,h3,lE]at a
     have C:y<=S[m]:=by
      rcases a with a|rfl
      .have:=Cz.1 (by rw[E9];exact s:Ins.z6 (S.take m++S.drop m));exact this.2.2 y a S[m] (by rw[rk c];exact .head _)
      .exact kZ _
     omega
    exact⟨k+1,⟨by omega,.inl R⟩,by omega,dZ (dT fj ⟨by rw[<-f _ Q d];rfl,dU⟩ ⟨by rw[<-f _ Q d],Z,Z,Z⟩)⟩
  .refine dH ?_
   have Q:∀y∈S.take j,y<=x:=λy a=>by
    simp_all
   exact⟨k+1,⟨by omega,.inl R⟩,by omega,dZ (dT fj ⟨by rw[<-f _ Q d];rfl,dU⟩ ⟨by rw[<-f _ Q d],Z,Z,Z⟩)⟩
 .have:k=l.length\/(k=1/\l.length<=1):=R
  have e:Ins.ma (l.take k)++l.drop k=Ins.ma l:=by rw[u1 R,Ce R,p0]
  rw[e];exact f7 Z Z Z eN
def ma(l:J I):J I:=l.mergeSort λx y=>gV (x<=y)
def anS{n}(cW:0<=n)(Q:n<=9223372036854775807):Fy.wrap n=n:=by show n%18446744073709551616=n;omega
def anT{n}(cW:0<=n)(Q:n<=255):B9.wrap n=n:=by show n%256=n;omega
def OO(n:V)(h:n<=12):∃k,dX cR 242 [.int .u64 n] (.int .i64 k):=by refine⟨if n=0 then 0 else if n=1 then 1 else if n<=3 then 2 else if n<=7 then 3 else 4,?_⟩;apply d6 akf 1 Z c2;refine di ?_;refine lZ (anT R R) (c9 ?_);refine ec (Nat.lt_of_le_of_lt h DJ) (c9 ?_);refine y6 (c9 ?_);refine y6 (c9 ?_);apply dd Z;have:n=0\/n=1\/n=2\/n=3\/n=4\/n=5\/n=6\/n=7\/n=8\/n=9\/n=10\/n=11\/n=12:=R;rcases this with rfl|rfl|rfl|rfl|rfl|rfl|rfl|rfl|rfl|rfl|rfl|rfl|rfl<;>(change _=_;kernel_rfl)
def anV(n:V)(h:n<=12):∃k:I,dX cR 298 [.int .u64 n] k:=by have⟨k,a⟩:=OO n h;refine⟨k,d6 Tryz.func298 1 Z c2 (c9 ?_)⟩;refine e' ?_;rfl
def anW(l)(k:I)(m:l.length<=12):fG cR 297 [.own 1000000,.d (.int .i64 0),.d l.length,.d k] [(1000000,.row (l.map hT) 1 L)] [(1000000,.row ((ma l).map hT) 1 L)] (.dP []):=by
 refine g_ Tryz.func297 4 Z c2 f0 (c9 ?_);refine eZ (D:=Unit) (λ_=>[(0,.own 1000000),(1,.d (.int .i64 0)),(2,.d l.length),(3,.d k),(8,.e4),(9,.e4)]) (λ_=>[(1000000,.row (l.map hT) 1 L)])
  (λ_=>True) (λ_=>0) () dU (dZ (dT mS eN d0)) ?_
 intro _ _
 conv=>whnf
 refine di ?_;refine I3 (anR l m) [(1000000,1000000)] Z eN Z (c9 ?_);exact f7 Z Z Z eN
def anX(l)(m:l.length<=12):fG cR 258 [.own 1000000] [(1000000,.row (l.map hT) 1 L)] [(1000000,.row ((ma l).map hT) 1 L)] (.dP []):=by
 have a:(l.map hT).length=l.length:=ef ..
 have⟨k,b⟩:=anV l.length m;refine g_ Tryz.func258 1 Z c2 f0 (c9 ?_);refine lZ (by rw[a];exact anS R R) (c9 ?_);refine df (by rwa[a]) (c9 ?_);have H:=anW l k m;rw[<-a]at H;refine I3 H [(1000000,1000000)] Z eN Z (c9 ?_);exact f7 Z Z Z eN
namespace Tb
open Go.Proofs Go.RowKit
def ia(l:jR)(p:I):I×dh:=if ha l=L\/ (kL l p).2=L then(0,L) else((at' l (kL l p).1.toNat).2,N)
def PM(l p)(dw:l.length<=1000000):dX cR 194 [wH l,.int .i64 p] (.dP [.int .i64 (ia l p).1,.bool (ia l p).2]):=by
 refine d6 Tryz.func194 2 Z c2 (c9 ?_);refine df (tG l dw) (cO ?_)
 refine j9 (λQ=>?_) λQ=>?_
 .simp at Q;exact dd Z (by simp[ia,Q];rfl)
 simp at Q;refine dH ?_;refine df (sz l p dw) (cO ?_)
 refine j9 (λb=>?_) λb=>?_
 .simp at b;exact dd Z (by simp[ia,b];rfl)
 simp at b;have⟨a,dq,c,d⟩:=F0 b;rw[dq];refine dH ?_;refine ec eG (cO ?_);refine dY (x:=f8 l[a]) (by simp[c]) (c9 ?_);exact dd Z (by simp[ia,Q,b,dq,l' c];rfl)
def ud(x:I×I):dB I:=if fT x=N then cM else U x.1
def z7(l:jR):J I:=if ha l=L then [] else ma (l.filterMap ud)
def anY(l)(dw:l.length<=1000000)(b:(l.filterMap ud).length<=12):dX cR 195 [wH l] (Ft (z7 l)):=by
 refine d6 Tryz.func195 1 Z c2 (c9 ?_);refine df (tG l dw) (cO ?_)
 refine j9 (λQ=>?_) λQ=>?_
 .simp at Q;exact dd Z (by simp[z7,Q];rfl)
 simp at Q;have c:=(tI.1 Q).len
 have d8:(l.map f8).length=l.length:=ef ..
 refine dH ?_;refine eZ (D:=V) (λk=>[(3,.own 23),(10,.d (g9 l)),(11,.d (l.map f8).length),(12,.d k)]) (λk=>[(23,.row (((l.take k).filterMap ud).map hT) 1 L)])
  (λk=>k<=l.length) (λk=>l.length-k) 0 (e3 _) (oI (.row 3 23 1) hg (dT fj eN d0)) ?_
 intro k c6
 conv=>whnf
 refine d3 (λh=>?_) λh=>?_
 .have eM:k<l.length:=R
  refine ec R (cO ?_);refine dY (x:=f8 l[k]) iy (c9 ?_);refine df (CB l[k]) (cO ?_)
  refine xY (λc5=>?_) λc5=>?_
  .simp at c5;have LK:=ZJ ud (l.take k);refine fV 100 100 S2 c1 c1 c1 (c9 ?_);exact⟨k+1,R,R,dZ (dT fj ⟨Sz,dU⟩ d0)⟩
  .simp at c5;exact⟨k+1,R,R,dZ (dT fj ⟨Sz,dU⟩ d0)⟩
 have LK:=ZJ ud (l.take k);have a:k=l.length:=R;refine I3 (anX ((l.take k).filterMap ud) g3) [(1000000,23)] Z eN Z (c9 ?_);apply dd Z;rw[a,p9,ajM];simp[z7,Q,Ft]
def z8{l i j x}(cK:i<l.length):at' (l.set i x) j=if j=i then x else at' l j:=by unfold at';grind
def z9{p}(h:0<=p):fQ p<16:=aev
def CD{x}(h:sB x)(ee:fT x=L):1<=x.1:=by
 rcases h with h|h
 .simp_all
 .exact(yd.1 h).1
def ZK{p f}(h:sA p f=N):fT (p,f)=L:=by have:=yd.1 h;simp[fT];omega
def pos(z j:V):V:=(j+15-z)%16
def z_(l:jR)(z:V):Prop:=z<16/\ ∀i,i<16->fT (at' l i)=L->pos z (fQ (at' l i).1) <=pos z i
def oV(l:jR):Prop:=∃z,z_ l z
def J0(l:jR):Prop:=∀i j,i<16->j<16->fT (at' l i)=L->fT (at' l j)=L->(at' l i).1=(at' l j).1->i=j
def iG.distinct{l}(h:iG l):J0 l:=by
 intro i j cK dL a b e;rcases Nat.lt_trichotomy i j with Q|Q|Q
 .rcases h.places j dL with c5|⟨c5,_⟩
  .simp_all
  simp_all
 .exact Q
 .rcases h.places i cK with c5|⟨c5,_⟩
  .simp_all
  grind
def iG.path{l}(h:iG l){i}(cK:i<16)(a:fT (at' l i)=L){d}(cP:d<kl (fQ (at' l i).1) i):fT (at' l ((fQ (at' l i).1+d)%16))=L:=by
 rcases h.places i cK with c5|⟨_,c5⟩
 .simp_all
 simp_all
def iG.mk'{l}(dw:l.length=16)(c7:∀i,i<16->sB (at' l i))(cP:J0 l)(O:∀i,i<16->fT (at' l i)=L->∀d,d<kl (fQ (at' l i).1) i->fT (at' l ((fQ (at' l i).1+d)%16))=L):iG l:=by
 refine⟨dw,c7,λi cK=>?_⟩
 cases a:fT (at' l i) with
 |true=>exact .inl a
 |false=>
  refine .inr ⟨λj dL e=>?_,O i cK a⟩
  have b:fT (at' l j)=L:=by
   cases b:fT (at' l j) with
   |false=>rfl
   |true=>have Q:=CD (c7 i cK) a;have c5:=anF.1 b;omega
  have:=cP j i R cK b a e;omega
def ZM{z h i k}(a:z<16)(c_:h<16)(cK:i<16)(c6:k<16)(b:pos z h<=pos z i):(∃d,d<kl h i/\ (h+d)%16=k)↔pos z h<=pos z k/\pos z k<pos z i:=by
 simp[pos,kl]at*
 constructor
 .omega
 .intro Q;exact⟨(k+16-h)%16,R,R⟩
def CE{z j}:pos z j<16:=mu _ c1
def ZN{z i j}(b:z<16)(cK:i<16)(a:j<16)(h:pos z i=pos z j):i=j:=by simp[pos]at h;omega
def PN{l}(h:iG l){z}(b:z<16)(f:fT (at' l z)=N):z_ l z:=by
 refine⟨b,λi cK a=>?_⟩;have c_:=z9 (p:=(at' l i).1) (by have:=CD (h.rA i cK) a;omega)
 by_cases c:pos z (fQ (at' l i).1) <=pos z i
 .exact c
 .exfalso
  have g:i≠z:=λe=>by simp_all
  have:=h.path cK a (d:=(z+16-fQ (at' l i).1)%16) (by simp[pos,kl]at*;omega);grind
def iG.ZO{l z}(dw:l.length=16)(c7:∀i,i<16->sB (at' l i))(cP:J0 l)(dg:z_ l z)(O:∀i k,i<16->k<16->fT (at' l i)=L->pos z (fQ (at' l i).1) <=pos z k->pos z k<pos z i->fT (at' l k)=L):iG l:=by refine .mk' dw c7 cP λi cK a d b=>?_;have c_:=z9 (p:=(at' l i).1) (by have:=CD (c7 i cK) a;omega);have⟨Q,c5⟩:=(ZM dg.1 c_ cK (mu _ c1) (dg.2 i cK a)).1 ⟨d,b,Z⟩;grind
def iG.ZP{l z i k}(h:iG l)(dg:z_ l z)(cK:i<16)(c6:k<16)(a:fT (at' l i)=L)(Q:pos z (fQ (at' l i).1) <=pos z k)(c5:pos z k<pos z i):fT (at' l k)=L:=by have c_:=z9 (p:=(at' l i).1) (by have:=CD (h.rA i cK) a;omega);have⟨d,b,c⟩:=(ZM dg.1 c_ cK c6 (dg.2 i cK a)).2 ⟨Q,c5⟩;have:=h.path cK a b;simp_all
def PO{l h}:∀ {n d i},rB l h d n=U i->∃e,e<n/\i=(h+(d+e))%16/\fT (at' l i)=N/\ ∀a,a<e->fT (at' l ((h+(d+a))%16))=L
 |0,d,i,ee=>by cases ee
 |n+1,d,i,ee=>by
  simp[rB]at ee
  by_cases e:fT (at' l ((h+d)%16))=N
  .rw[if_pos e]at ee
   cases ee
   exact⟨0,by omega,Z,e,λa h=>by omega⟩
  .rw[cT e]at ee;have⟨b,Q,c5,c,f⟩:=PO ee;refine⟨b+1,by omega,by omega,c,λa dz=>?_⟩
   cases a with|zero=>grind|succ a=>grind
def ZQ{l h}:∀ {n d},rB l h d n=cM->∀e,e<n->fT (at' l ((h+(d+e))%16))=L
 |0,d,_,e,he=>by omega
 |n+1,d,ee,e,he=>by
  simp[rB]at ee
  by_cases a:fT (at' l ((h+d)%16))=N
  .simp_all
  .rw[cT a]at ee
   cases e with|zero=>simp_all|succ e=>rw[show h+(d+(e+1))=h+(d+1+e) by omega];exact ZQ ee e R
def anZ{l p f i}(h:iG l)(ee:sA p f=N)(cY:∀j,j<16->fT (at' l j)=L->(at' l j).1≠p)(cK:rB l (fQ p) 0 16=U i):
  i<16/\fT (at' l i)=N/\iG (l.set i (p,f)) /\oV (l.set i (p,f)):=by
 have⟨e,Q,c5,r,v⟩:=PO cK;have O:=yd.1 ee;have c_:=z9 (p:=p) R
 have m:i<16:=R
 have x:i<l.length:=by rwa[h.len]
 have dg:=PN h m r;have F1:=ZK ee;have d:∀j,at' (l.set i (p,f)) j=if j=i then(p,f) else at' l j:=λj=>z8 x
 have s:z_ (l.set i (p,f)) i:=by
  refine⟨m,λj dL g=>?_⟩;rw[d]at g⊢
  by_cases c:j=i
  .subst c;rw[if_pos Z];simp[pos];omega
  .rw[cT c]at g⊢;exact dg.2 j dL g
 refine⟨m,r,.ZO (by rw[h'];exact h.len) (λj dL=>?_) ?_ s ?_,i,s⟩
 .rw[d]
  by_cases c:j=i
  .rw[if_pos c];exact .inr ee
  .rw[cT c];exact h.rA j dL
 .intro a b dq hb n o c;rw[d]at n o;rw[d,d]at c
  by_cases t:a=i
  .grind
  .by_cases u:b=i
   .simp_all
   .rw[cT t]at n;rw[cT u]at o;rw[cT t,cT u]at c;exact h.distinct a b dq hb n o c
 .intro j k dL c6 g dz dW;rw[d]at g dz;rw[d]
  by_cases y:k=i
  .simp_all
  .rw[cT y]
   by_cases q:j=i
   .rw[if_pos q]at dz;subst q;have:=v ((k+16-fQ p)%16) (by simp[pos]at*;omega);grind
   .rw[cT q]at g dz;exact h.ZP dg dL c6 g dz dW
def ib(l:jR):V:=l.countP λx=>!fT x
def J1{l i x}(h:i<l.length):ib (l.set i x)+(if fT (at' l i)=N then 0 else 1)=ib l+(if fT x=N then 0 else 1):=by
 have a:(if(!fT l[i])=N then 1 else 0) <=ib l:=by
  cases ee:fT l[i]with
  |true=>simp|false=>have:0<ib l:=B2.2 ⟨l[i],hS h,by simp[ee]⟩;simp;omega
 unfold ib at*
 rw[Zn h,l' h];grind
def ZR(e0 l:jR):Prop:=∀x,fT x=L->((∃j,j<16/\at' l j=x)↔∃j,j<16/\at' e0 j=x)
structure PP(z:V)(e0 l:jR)(h6 i:V):Prop where
 len:l.length=16
 rA:∀j,j<16->sB (at' l j)
 CF:h6<16
 i16:i<16
 free:fT (at' l h6)=N
 F2:J0 l
 cut:z_ l z
 ph:pos z h6<=pos z i
 paths:∀j k,j<16->k<16->fT (at' l j)=L->pos z (fQ (at' l j).1) <=pos z k->pos z k<pos z j->fT (at' l k)=N->k=h6/\pos z i<pos z j
 same:ZR e0 l
 cnt:ib l=ib e0
structure PQ(e0 l:jR):Prop where
 rt:iG l
 free:∃j,j<16/\fT (at' l j)=N
 same:ZR e0 l
 cnt:ib l=ib e0
def PP.done{z e0 l h6 i}(h:PP z e0 l h6 i)(O:∀j k,j<16->k<16->fT (at' l j)=L->pos z (fQ (at' l j).1) <=pos z k->pos z k<pos z j->fT (at' l k)=L):PQ e0 l:=
 ⟨.ZO h.len h.rA h.F2 h.cut O,⟨h6,h.CF,h.free⟩,h.same,h.cnt⟩
def ZS{l}(h:iG l){h6}(b:h6<16)(ee:fT (at' l h6)=N):∀n i,qU l h6 i n=l
 |0,i=>rfl
 |n+1,i=>by
  rw[qU]
  by_cases f:fT (at' l ((i+1)%16))=N
  .grind
  .have a:fT (at' l ((i+1)%16))=L:=by simpa using f
   have cK:(i+1)%16<16:=mu _ c1;have c_:=z9 (p:=(at' l ((i+1)%16)).1) (by have:=CD (h.rA _ cK) a;omega);rw[cT f,cT,ZS h b ee n];intro hw;have:=h.path cK a hw;rw[show(fQ (at' l ((i+1)%16)).1+kl (fQ (at' l ((i+1)%16)).1) h6)%16=h6 by simp[kl];omega,ee]at this
   cases this
def an0{z e0}:∀(n) {l h6 i},PP z e0 l h6 i->15<=pos z i+n->PQ e0 (qU l h6 i n):=by
 intro n
 induction n with
 |zero=>
  intro l h6 i h cY
  have M:pos z i=15:=by have:=CE (z:=z) (j:=i);omega
  exact h.done λj k dL c6 d Q c5=>by
   cases g:fT (at' l k) with
   |false=>rfl
   |true=>have:=(h.paths j k dL c6 d Q c5 g).2;have:=CE (z:=z) (j:=j);omega
 |succ n H=>
  intro l h6 i h cY;have C:=h.cut.1;have cK:=h.i16
  by_cases M:pos z i=15
  .have cP:=h.done λj k dL c6 d Q c5=>by
    cases g:fT (at' l k) with
    |false=>rfl
    |true=>have:=(h.paths j k dL c6 d Q c5 g).2;have:=CE (z:=z) (j:=j);omega
   rwa[ZS cP.rt h.CF h.free]
  .rw[qU];have m:(i+1)%16<16:=mu _ c1
   have O:pos z ((i+1)%16)=pos z i+1:=by simp[pos]at*;omega
   generalize (i+1)%16=c at m O
   have P:h6≠c:=λe=>by have:=h.ph;grind
   by_cases f:fT (at' l c)=N
   .rw[if_pos f];refine h.done λj k dL c6 d Q c5=>?_
    cases g:fT (at' l k) with
    |false=>rfl
    |true=>
     have⟨D,o⟩:=h.paths j k dL c6 d Q c5 g;exfalso;subst D
     have E:j≠c:=λe=>by simp_all
     have S:pos z j≠pos z c:=λe=>E (ZN C dL m e);have:=(h.paths j c dL m d (by have:=h.ph;omega) R f).1;omega
   .have t:fT (at' l c)=L:=by simpa using f
    have W:=CD (h.rA c m) t;have c_:=z9 (p:=(at' l c).1) R;have X:=h.cut.2 c m t
    have I:kl (fQ (at' l c).1) h6<kl (fQ (at' l c).1) c↔pos z (fQ (at' l c).1)<=pos z h6:=by
     have Q:=h.ph;have c5:=h.CF
     simp[pos,kl]at*
     omega
    rw[cT f]
    by_cases hw:kl (fQ (at' l c).1) h6<kl (fQ (at' l c).1) c
    .rw[if_pos hw];have T:=I.1 hw
     have F:h6<l.length:=by rw[h.len];exact h.CF
     have J:c<(l.set h6 (at' l c)).length:=by rwa[h',h.len]
     have q:∀j,at' ((l.set h6 (at' l c)).set c (0,0)) j=if j=c then(0,0) else if j=h6 then at' l c else at' l j:=λj=>by
      rw[z8 J]
      by_cases e:j=c
      .simp_all
      .rw[cT e,cT e,z8 F]
     refine H ⟨by simp[h.len],λj dL=>?_,m,m,by rw[q,if_pos Z];rfl,?_,⟨C,λj dL d=>?_⟩,fB _,?_,?_,?_⟩ R
     .rw[q]
      by_cases e:j=c
      .rw[if_pos e];exact ye
      .rw[cT e]
       by_cases o:j=h6
       .rw[if_pos o];exact h.rA c m
       .rw[cT o];exact h.rA j dL
     .intro a b dq hb r s e;rw[q]at r s;rw[q,q]at e
      by_cases A:a=c
      .rw[if_pos A]at r;cases r
      .by_cases B:b=c
       .rw[if_pos B]at s;cases s
       .rw[cT A]at r;rw[cT B]at s;rw[cT A,cT B]at e
        by_cases y:a=h6
        .by_cases u:b=h6
         .omega
         .rw[if_pos y,cT u]at e;rw[cT u]at s;exact dQ (h.F2 c b m hb t s e).symm B
        .by_cases u:b=h6
         .rw[cT y,if_pos u]at e;rw[cT y]at r;exact dQ (h.F2 a c dq m r t e) A
         .rw[cT y]at r;rw[cT u]at s;rw[cT y,cT u]at e;exact h.F2 a b dq hb r s e
     .rw[q]at d⊢
      by_cases e:j=c
      .rw[if_pos e]at d;cases d
      .rw[cT e]at d⊢
       by_cases o:j=h6
       .simp_all
       .rw[cT o]at d⊢;exact h.cut.2 j dL d
     .intro j k dL c6 d Q c5 g;rw[q]at d Q g
      by_cases e:j=c
      .rw[if_pos e]at d;cases d
      .rw[cT e]at d Q
       by_cases V:k=c
       .simp_all
       .rw[cT V]at g
        by_cases K:k=h6
        .simp_all
        .rw[cT K]at g;exfalso
         by_cases o:j=h6
         .rw[if_pos o]at Q;have:=(h.paths c k m c6 t Q (by have:=h.ph;grind) g).1;omega
         .rw[cT o]at d Q;exact K (h.paths j k dL c6 d Q c5 g).1
     .intro x v;rw[<-h.same x v];constructor
      .rintro⟨j,dL,rfl⟩;rw[q]at v⊢
       by_cases e:j=c
       .rw[if_pos e]at v;cases v
       grind
      .rintro⟨j,dL,rfl⟩
       by_cases e:j=c
       .exact⟨h6,h.CF,by simp_all⟩
       .have o:j≠h6:=λo=>by rw[o,h.free]at v;cases v
        grind
     .have g6:=J1 (x:=at' l c) F;have G:=J1 (x:=(0,0)) J;rw[z8 F,cT P.symm]at G;rw[h.free,t]at g6;rw[t,show fT (0,0)=N from Z]at G;simp at g6 G;have:=h.cnt;omega
    .rw[cT hw];have T:=λe=>hw (I.2 e);refine H ⟨h.len,h.rA,h.CF,m,h.free,h.F2,h.cut,by omega,λj k dL c6 d Q c5 g=>have⟨D,o⟩:=h.paths j k dL c6 d Q c5 g;⟨D,?_⟩,h.same,h.cnt⟩ R
     have E:j≠c:=λe=>by grind
     have S:pos z j≠pos z c:=λe=>E (ZN C dL m e);omega
def an1{l a z}(h:iG l)(dg:z_ l z)(dq:a<16)(o:fT (at' l a)=L):PQ (l.set a (0,0)) (qU (l.set a (0,0)) a a 15):=by
 have mF:a<l.length:=by rwa[h.len]
 have c:∀j,at' (l.set a (0,0)) j=if j=a then(0,0) else at' l j:=λj=>z8 mF;refine an0 (z:=z) 15 ⟨by simp[h.len],λj dL=>?_,dq,dq,by rw[c,if_pos Z];rfl,?_,⟨dg.1,λj dL b=>?_⟩,fB _,?_,λx p=>Iff.rfl,Z⟩ R
 .rw[c]
  by_cases e:j=a
  .rw[if_pos e];exact ye
  .rw[cT e];exact h.rA j dL
 .intro i j cK dL d b e;rw[c]at d b;rw[c,c]at e
  by_cases f:i=a
  .rw[if_pos f]at d;cases d
  .by_cases g:j=a
   .rw[if_pos g]at b;cases b
   .rw[cT f]at d;rw[cT g]at b;rw[cT f,cT g]at e;exact h.distinct i j cK dL d b e
 .rw[c]at b⊢
  by_cases e:j=a
  .rw[if_pos e]at b;cases b
  .rw[cT e]at b⊢;exact dg.2 j dL b
 .intro j k dL c6 b Q c5 m;rw[c]at b Q m
  by_cases e:j=a
  .rw[if_pos e]at b;cases b
  .rw[cT e]at b Q
   by_cases n:k=a
   .simp_all
   .rw[cT n]at m;have:=h.ZP dg dL c6 b Q c5;simp_all
def qT{l n}:∀ {k},0<=gy l n k↔∃j,j<l.length/\ (at' l j).1=n:=by
 have a:∀ {k:V},0<=gy l n k↔∃x∈l,x.1=n:=by
  induction l with
  |nil=>intro k;exact⟨λh=>dQ h (show ¬(0<= (-1:I)) by decide),λ⟨x,h,_⟩=>by cases h⟩|cons p r c=>intro k;simp[gy];grind
 intro k;rw[a];constructor
 .rintro⟨x,b,e⟩;obtain⟨j,dL,rfl⟩:=kg.1 b;exact⟨j,dL,by rwa[l' dL]⟩
 .rintro⟨j,dL,e⟩;exact⟨l[j],hS dL,by rwa[<-l' dL]⟩
def an2{l p}(O:1<=p):(kL l p).2=N↔∃j,j<l.length/\ (at' l j).1=p:=by rw[<-qT (k:=0)];unfold kL;grind
def an3{l p}(h:∀j,j<l.length->(at' l j).1≠p):(kL l p).2=L:=by
 cases e:(kL l p).2 with|false=>rfl|true=>have⟨i,_,cK,a⟩:=F0 e;exact dQ (by rwa[l' cK]) (h i cK)
def vb{x}(h:1<=x.1):fT x=L:=by simp[fT];omega
def ZT{l}(h:iG l){p j}(O:1<=p)(dL:j<16)(e:(at' l j).1=p):(kL l p).2=N/\ (kL l p).1=j:=by
 have c5:=(an2 O).2 ⟨j,by rwa[h.len],e⟩;have⟨i,c,cK,a⟩:=F0 c5
 have b:i<16:=by rwa[h.len]at cK
 rw[<-l' cK]at a;have:=h.distinct i j b dL (vb R) (vb R) (by rw[a,e]);simp_all
def an4{l}(h:iG l){p f j}(O:1<=p)(dL:j<16)(e:at' l j=(p,f)):ia l p=(f,N):=by have⟨Q,c5⟩:=ZT h O dL AS;simp[ia,tI.2 h,Q,c5,e]
def ZU{l}(h:l.length=16):ib l=16↔∀j,j<16->fT (at' l j)=L:=by
 rw[<-h];unfold ib;rw[List.countP_eq_length];constructor
 .intro Q j dL;have:=Q l[j] (hS dL);rw[l' dL];simp_all
 .intro Q x a;obtain⟨j,dL,rfl⟩:=kg.1 a;rw[<-l' dL,Q j dL];rfl
def an6{l p}(dw:l.length=16)(O:0<=p):rB l (fQ p) 0 16=cM↔ib l=16:=by
 rw[ZU dw];have c_:=z9 O;constructor
 .intro h j dL;have:=ZQ h ((j+16-fQ p)%16) R;grind
 .intro h
  cases e:rB l (fQ p) 0 16 with|none=>rfl|some i=>have⟨d,Q,c5,a,b⟩:=PO e;grind
def an7:iG (eL 16 (0,0)):=by
 have a:∀j,at' (eL 16 (0,0)) j=(0,0):=λj=>by
  unfold at';grind
 exact⟨dt,λi _=>by rw[a];exact ye,λi _=>.inl (by rw[a];rfl)⟩
def ZV{l}(h:iG l):(z7 l).length=ib l:=by
 rw[z7,cT (by simp[tI.2 h]),ma,ZI]
 have:∀l:jR,(l.filterMap ud).length=ib l:=by
  intro l
  induction l with
  |nil=>rfl
  |cons x r a=>
   rw[List.filterMap_cons,ib,PR]
   cases e:fT x with|true=>simp[ud,e,ni];assumption|false=>simp[ud,e];simp[a,ib]
 grind
def nA(l:jR)(x:I×I):Prop:=∃j,j<16/\at' l j=x
def an8{l p f}(h:iG l)(ee:sA p f=N)(cY:∀j,j<16->(at' l j).1≠p)(dg:ib l<16):
  ∃a i,i<16/\fT (at' l i)=N/\a=l.set i (p,f) /\oU l p f=(a,0) /\iG a/\oV a/\ib a=ib l+1/\ ∀x,fT x=L->(nA a x↔x=(p,f) \/nA l x):=by
 have O:=yd.1 ee;have m:=an3 (p:=p) (λj dL=>cY j (by rwa[h.len]at dL))
 cases b:rB l (fQ p) 0 16 with
 |none=>have:=(an6 h.len R).1 b;omega
 |some i=>
  have⟨d,g,n,o⟩:=anZ h ee (λj dL _=>cY j dL) b
  have k:i<l.length:=by rwa[h.len]
  have q:∀j,at' (l.set i (p,f)) j=if j=i then(p,f) else at' l j:=λj=>z8 k;refine⟨_,i,d,g,Z,by rw[oU,cT (by simp[tI.2 h,ee]),cT (by simp[m]),b],n,o,?_,λx s=>?_⟩
  .have c:=J1 (x:=(p,f)) k;rw[g,ZK ee]at c;assumption
  .constructor
   .rintro⟨j,dL,e⟩;rw[q]at e
    by_cases r:j=i
    .simp_all
    .rw[cT r]at e;exact .inr ⟨j,dL,e⟩
   .rintro (e|⟨j,dL,e⟩)
    .exact⟨i,d,by simp_all⟩
    .refine⟨j,dL,?_⟩;grind
def an9{l p f}(h:iG l)(dg:oV l)(O:1<=p)(d8:nA l (p,f)):
  ∃b,p8 l p=(b,0) /\iG b/\oV b/\ib b+1=ib l/\ ∀x,fT x=L->(nA b x↔x.1≠p/\nA l x):=by
 have⟨a,dq,i⟩:=d8;have⟨m,n⟩:=ZT h O dq (by rw[i])
 have base:p8 l p=(qU (l.set a (0,0)) a a 15,0):=by rw[p8,cT (by simp[tI.2 h]),cT (by simp[m]),n];rfl
 have⟨z,o⟩:=dg
 have d:fT (at' l a)=L:=by rw[i];exact vb O
 have cP:=an1 h o dq d
 have mF:a<l.length:=by rwa[h.len]
 have q:∀j,at' (l.set a (0,0)) j=if j=a then(0,0) else at' l j:=λj=>z8 mF;have c:=J1 (x:=(0,0)) mF;rw[d,show fT (0,0)=N from Z]at c;simp at c;have⟨r,s,t⟩:=cP.free;refine⟨_,base,cP.rt,⟨r,PN cP.rt s t⟩,by have:=cP.cnt;omega,λx k=>?_⟩;unfold nA;rw[cP.same x k];constructor
 .rintro⟨j,dL,e⟩;rw[q]at e
  by_cases g:j=a
  .rw[if_pos g]at e;subst e;cases k
  .rw[cT g]at e;refine⟨λu=>g (h.distinct j a dL dq eG d g3),j,dL,e⟩
 grind
end Tb
open Go.Proofs Go.RowKit
structure hq where
 cN:J f6
 hand:I
 eh:J (I×I)
 dE:J e_
 dK:J (I×I)
def hq.cells(f:hq):J c3:=[.dk (f.cN.map fp),f.hand,g9 f.eh,.dk (f.dE.map eB),g9 f.dK]
def lM(f:hq):c3:=.agg f.cells
def hq.box(f:hq):J dn:=[.d (.dk (f.cN.map fp)),.d f.hand,.d (g9 f.eh),.d (.dk (f.dE.map eB)),.d (g9 f.dK)]
def mG:e_:=(0,0,.empty)
def J2(f:hq)(i:V):Prop:=∀(h:i<f.cN.length) (c5:i<f.dE.length),(f.cN[i].1=0/\f.cN[i].2.1=0/\f.dE[i]=mG) \/ (f.cN[i].1≠0/\f.cN[i].1=f.dE[i].1/\gp f.dE[i]=N/\Tb.ia f.eh f.dE[i].1=((i:I),N))
def k3(l:J f6):V:=l.countP λx=>!decide (x.1=0)
structure rC(f:hq):Prop where
 ic:wA f.cN f.hand
 eh:Tb.iG f.eh
 dK:Dt.ha f.dK=N
 len:f.dE.length=f.cN.length
 place:∀i,i<f.cN.length->J2 f i
 cnt:Tb.ib f.eh=k3 f.cN
 tJ:∀i (h:i<f.dK.length),(Tb.ia f.eh f.dK[i].1).2=N
open Classical in
def yf(f:hq):dh:=gV (rC f)
def CG{f}:yf f=N↔rC f:=by simp[yf]
def F3{f}:yf f=L↔¬rC f:=by simp[yf]
def sC{f}(h:¬rC f):c3.bool L=c3.bool (yf f):=eR c3.bool (F3.2 h).symm
def aoa{l:J f6}{k}(h:k<l.length):k3 (l.take (k+1))=k3 (l.take k)+(if l[k].1=0 then 0 else 1):=by unfold k3;rw[lX h,List.countP_append,PR,List.countP_nil];simp_all
def tK(l:Tb.jR):Prop:=l.length<=1000000/\Tb.ib l<=12
def J3(f)(Q:tK f.eh)(c5:f.dK.length<=1000000):dX cR 141 [lM f] (.bool (yf f)):=by
 refine d6 Tryz.func141 1 Z c2 (cO ?_)
 have H:(f.cN.map fp).length=f.cN.length:=ef ..
 have J:(f.dE.map eB).length=f.dE.length:=ef ..
 have aa:(f.dK.map f8).length=f.dK.length:=ef ..
 refine dH ?_;refine df (Pm f.cN f.hand) (cO ?_)
 refine j9 (λdG=>?_) λdG=>?_
 .exact dd Z (sC λh=>by have:=JK.2 h.ic;simp_all)
 simp at dG;refine dH ?_;refine df (Tb.tG f.eh Q.1) (cO ?_)
 refine j9 (λo=>?_) λo=>?_
 .exact dd Z (sC λh=>by have:=Tb.tI.2 h.eh;simp_all)
 simp at o;refine dH ?_;refine df (Dt.tG f.dK c5) (cO ?_)
 refine j9 (λp=>?_) λp=>?_
 .exact dd Z (sC λh=>by have:=h.dK;simp_all)
 simp at p;have hC:=JK.1 dG;have cS:=Tb.tI.1 o;have ab:=hC.gW;refine dH ?_
 refine wq (λt=>?_) λt=>?_
 .exact dd Z (sC λh=>t (by rw[J,H,h.len]))
 have K:f.dE.length=f.cN.length:=R
 refine dH ?_;refine eZ (D:=V) (λk=>[(1,.ptr 1 0 0),(3,.d (k3 (f.cN.take k))),(39,.d (.dk (f.cN.map fp))),(40,.d (f.cN.map fp).length),(41,.d k)]) (λ_=>[(1,.box f.box L)])
  (λk=>k<=f.cN.length/\ ∀i,i<k->J2 f i) (λk=>f.cN.length-k) 0 ⟨e3 _,λj h=>dQ h (ps _)⟩ (dZ (dT ih eN d0)) ?_
 rintro k ⟨c6,u⟩;have ac:k3 (f.cN.take k) <=8:=fJ IQ hd
 conv=>whnf
 refine d3 (λh=>?_) λh=>?_
 .have eM:k<f.cN.length:=R
  have m:k<f.dE.length:=R;have v:=aoa eM;have y (c7:J2 f k):∀j,j<k+1->J2 f j:=λj dL=>(x7.1 dL).elim (u j) (λe=>by simp_all);refine ec R (cO ?_);refine dY (x:=fp f.cN[k]) iy (c9 ?_);refine ec R (cO ?_);refine dY (x:=eB f.dE[k]) (by simp[m]) (c9 ?_)
  refine d3 (λg=>?_) λg=>?_
  .refine dH ?_
   refine sq (λz=>?_) λz=>?_
   .exact dd Z (sC λh=>by rcases h.place k eM eM m with⟨_,e,_⟩|⟨e,_⟩;exact z e;exact e g)
   have A:f.dE[k]=mG↔(f.dE[k].1=0/\f.dE[k].2.1=0/\f.dE[k].2.2=fI):=⟨λe=>by rw[e];exact S',λ⟨a,b,c⟩=>Prod.ext a (Prod.ext b c)⟩
   refine m8 (λr=>?_) λr=>?_
   .refine dd Z (sC λh=>?_);rcases h.place k eM eM m with⟨_,_,e⟩|⟨e,_⟩
    .have:=A.1 e;simp[this]at r
    .exact e g
   .have M:=A.2 (by simpa using r)
    exact⟨k+1,⟨R,y λ_ _=>.inl ⟨g,R,M⟩⟩,R,dZ (dT ⟨Z,by rw[v,if_pos g];rfl,Z,Z,Z,dU⟩ eN d0)⟩
  .have n (hb:¬(f.cN[k].1≠0/\f.cN[k].1=f.dE[k].1/\gp f.dE[k]=N/\Tb.ia f.eh f.dE[k].1=((k:I),N))):¬rC f:=λh=>by
    rcases h.place k eM eM m with⟨e,_⟩|e
    .exact g e
    grind
   refine dH ?_
   refine sq (λB=>?_) λB=>?_
   .exact dd Z (sC (n λe=>B e.2.1))
   refine df (FK f.dE[k]) (cO ?_)
   refine j9 (λl=>?_) λl=>?_
   .exact dd Z (sC (n λe=>by rw[e.2.2.1]at l;cases l))
   simp at l;refine dH ?_;refine df (Tb.PM f.eh f.dE[k].1 Q.1) (c9 ?_)
   refine j9 (λs=>?_) λs=>?_
   .exact dd Z (sC (n λe=>by rw[e.2.2.2]at s;cases s))
   refine dH ?_
   refine sq (λC=>?_) λC=>?_
   .exact dd Z (sC (n λe=>C (by rw[e.2.2.2])))
   have O:Tb.ia f.eh f.dE[k].1=((k:I),N):=Prod.ext R eG
   exact⟨k+1,⟨R,y λ_ _=>.inr ⟨g,R,l,O⟩⟩,R,dZ (dT ⟨Z,by rw[v,cT g];rfl,Z,Z,Z,dU⟩ eN d0)⟩
 have P:k=f.cN.length:=R;subst P;rw[p9]
 have S:((Tb.z7 f.eh).map hT).length=Tb.ib f.eh:=by rw[ef,Tb.ZV cS]
 refine dH ?_;refine df (Tb.anY f.eh Q.1 (by have:=Tb.ZV cS;rw[Tb.z7,cT eG,ma,ZI]at this;have:=Q.2;omega)) (c9 ?_)
 refine wq (λE=>?_) λE=>?_
 .exact dd Z (sC λh=>E (by rw[S,h.cnt]))
 have T:Tb.ib f.eh=k3 f.cN:=R
 refine dH ?_;refine eZ (D:=V) (λk=>[(1,.ptr 1 0 0),(97,.d (g9 f.dK)),(98,.d (f.dK.map f8).length),(99,.d k)]) (λ_=>[(1,.box f.box L)])
  (λk=>k<=f.dK.length/\ ∀i,i<k->∀h:i<f.dK.length,(Tb.ia f.eh f.dK[i].1).2=N) (λk=>f.dK.length-k) 0 ⟨e3 _,λj h=>dQ h (ps _)⟩ (dZ (dT fj eN d0)) ?_
 rintro q ⟨ad,F⟩
 conv=>whnf
 refine d3 (λW=>?_) λW=>?_
 .have G:q<f.dK.length:=R
  refine ec R (cO ?_);refine dY (x:=f8 f.dK[q]) (by simp[G]) (c9 ?_);refine df (Tb.PM f.eh f.dK[q].1 Q.1) (c9 ?_)
  refine xY (λX=>?_) λX=>?_
  .exact dd Z (sC λh=>by have:=h.tJ q G;simp_all)
  .exact⟨q+1,⟨R,λj dL Y=>(x7.1 dL).elim (λh=>F j h Y) (λe=>by simp_all)⟩,R,dZ (dT fj eN d0)⟩
 .exact dd Z (eR c3.bool (CG.2 ⟨hC,cS,p,K,λi cK=>u i cK,T,λi cK=>F i R cK⟩).symm)
def vc(l:J f6)(k:V):I:=
 match l with
 | []=>-1
 |p::r=>if p.1=0 then(k:I) else vc r (k+1)
def pz(l:J f6):I×dh:=if vc l 0<0 then(0,L) else(vc l 0,N)
def aob{l}:∀ {k},(vc l k<0/\ ∀i (h:i<l.length),l[i].1≠0) \/ ∃i,vc l k=((k+i:V):I) /\ ∃h,l[i].1=0:=by
 induction l with
 |nil=>intro k;exact .inl ⟨show(-1:I)<0 by decide,λi h=>dQ h (ps _)⟩
 |cons p r a=>
  intro k;simp[vc]
  by_cases h:p.1=0
  .exact .inr ⟨0,by simp[h],by simp,by grind⟩
  .rw[cT h];rcases a (k:=k+1) with⟨Q,cW⟩|⟨i,Q,b,c⟩
   .grind
   .exact .inr ⟨i+1,by omega,by simp_all,by simp_all⟩
def ZY(f)(c:f.cN.length<=1000000):dX cR 307 [lM f] (.dP [(pz f.cN).1,.bool (pz f.cN).2]):=by
 refine d6 Tryz.func307 1 Z c2 (c9 ?_)
 have m:(f.cN.map fp).length=f.cN.length:=ef ..
 refine eZ (D:=V) (λk=>[(8,.d (.dk (f.cN.map fp))),(9,.d (f.cN.map fp).length),(10,.d k)]) (λ_=>[])
  (λk=>k<=f.cN.length/\vc (f.cN.drop k) k=vc f.cN 0) (λk=>f.cN.length-k) 0 ⟨e3 _,Z⟩ (dZ (dT eJ dU d0)) ?_
 rintro k ⟨b,cX⟩
 conv=>whnf
 refine d3 (λh=>?_) λh=>?_
 .have eM:k<f.cN.length:=R
  refine ec R (cO ?_);refine dY (x:=fp f.cN[k]) iy (c9 ?_);rw[rq eM,vc]at cX
  refine d3 (λa=>?_) λa=>?_
  .rw[if_pos a]at cX;apply dd Z
   have:pz f.cN=((k:I),N):=by rw[pz,<-cX,cT R]
   rw[this];rfl
  .rw[cT a]at cX;refine dH ?_;exact⟨k+1,⟨R,cX⟩,R,dZ (dT eJ dU d0)⟩
 .have l:k=f.cN.length:=R
  subst l;simp[vc]at cX;apply dd Z
  have:pz f.cN=(0,L):=by rw[pz,<-cX,if_pos R]
  rw[this];rfl
def PS(f p)(Q:f.eh.length<=1000000):dX cR 142 [lM f,.int .i64 p] (.dP [.int .i64 (Tb.ia f.eh p).1,.bool (Tb.ia f.eh p).2]):=by refine d6 Tryz.func142 2 Z c2 (c9 ?_);refine df (Tb.PM f.eh p Q) (c9 ?_);rfl
open Classical in
def hF(f:hq)(p:I):I×I:=if rC f then(if(Tb.ia f.eh p).2=N then((Tb.ia f.eh p).1,0) else(0,3)) else(0,1)
def F4(f p)(Q:tK f.eh)(a:f.dK.length<=1000000):dX cR 278 [lM f,.int .i64 p] (.dP [.int .i64 (hF f p).1,.int .i64 (hF f p).2]):=by
 refine d6 Tryz.func278 2 Z c2 (c9 ?_);refine df (J3 f Q a) (cO ?_)
 refine xY (λdG=>?_) λdG=>?_
 .simp at dG;exact dd Z (by rw[hF,cT (F3.1 dG)];rfl)
 simp at dG;have cX:=CG.1 dG;refine df (PS f p Q.1) (c9 ?_)
 refine xY (λg=>?_) λg=>?_
 .simp at g;exact dd Z (by rw[hF,if_pos cX,cT (by simp[g])];rfl)
 .simp at g;exact dd Z (by rw[hF,if_pos cX,if_pos g];rfl)
open Classical in
def jS(f:hq)(p:I):I×dh:=if rC f then Tb.ia f.eh p else(0,L)
def tL(f p)(Q:tK f.eh)(a:f.dK.length<=1000000):dX cR 107 [lM f,.int .i64 p] (.dP [.int .i64 (jS f p).1,.bool (jS f p).2]):=by
 refine d6 Tryz.func107 2 Z c2 (c9 ?_);refine df (J3 f Q a) (cO ?_)
 refine xY (λdG=>?_) λdG=>?_
 .simp at dG;exact dd Z (by rw[jS,cT (F3.1 dG)];rfl)
 simp at dG;have cX:=CG.1 dG;refine df (PS f p Q.1) (c9 ?_);exact dd Z (by rw[jS,if_pos cX];rfl)
def F5(f)(Q:f.cN.length<=1000000)(a:f.dE.length<=1000000):Ei cR 279 [lM f] [.row (f.cN.map fp) 3,.d f.hand,.d (g9 f.eh),.row (f.dE.map eB) 3,.d (g9 f.dK)]:=by refine ajR Tryz.func279 1 Z c2 (c9 ?_);refine gK (Pn f.cN Q) (c9 ?_);refine gK (Cr f.dE a) (c9 ?_);exact⟨_,_,Z,Z,.inl ⟨_,Z,Z,Z,Z,Z,.inl ⟨_,Z,Z,Z,Z,dU⟩⟩⟩
def m_(n:V):hq:=⟨eL n (0,0,L),0,eL 16 (0,0),eL n mG,[]⟩
def ZZ:hq:=⟨[],0,[],[],[]⟩
def Z0:∀ {a b:J I},a.Nodup->(∀x∈a,x∈b)->b.length<=a.length->∀x∈b,x∈a
 | [],b,_,_,h,x,c=>by
  simp_all
 |y::r,b,cY,s,h,x,c=>by
  rw[tm]at cY;have d:=s y (mz ..)
  by_cases e:x=y
  .simp_all
  .refine lD _ (Z0 (b:=b.erase y) cY.2 (λz f=>?_) ?_ x ?_)
   .grind
   .simp_all
   simp_all
def pA{l:J (I×I)}(h:Tb.iG l){p i}:Tb.ia l p=(i,N)↔1<=p/\Tb.nA l (p,i):=by
 constructor
 .intro ee;have dI:=Tb.tI.2 h;unfold Tb.ia at ee;split at ee
  .cases ee
  .rename_i cY
   have O:(Tb.kL l p).2=N:=by
    cases e:(Tb.kL l p).2 with|true=>rfl|false=>simp_all
   have⟨j,a,b,c⟩:=Tb.F0 O;rw[a,gl]at ee
   have dL:j<16:=by rwa[<-h.len]
   refine⟨?_,j,dL,?_⟩
   .unfold Tb.kL at O;grind
   .have Q:=eR Prod.fst ee;simp only at Q;exact Prod.ext (by rwa[Tb.l' b]) Q
 .rintro⟨O,j,dL,e⟩;exact Tb.an4 h O dL e
def aoc{l:J (I×I)}(h:Tb.iG l){p}(O:1<=p):(Tb.ia l p).2=L↔∀i,¬Tb.nA l (p,i):=by
 constructor
 .intro Q i m;rw[(pA h).2 ⟨O,m⟩]at Q;cases Q
 .intro Q
  cases e:(Tb.ia l p).2 with|false=>rfl|true=>exact dQ ((pA h).1 (Prod.ext Z e)).2 (Q _)
def Z1{l:J (I×I)}{p}(h:(Tb.ia l p).2=L):Tb.ia l p=(0,L):=by unfold Tb.ia at h⊢;grind
def Z2{l:J (I×I)}(h:Tb.iG l){p i j}(O:1<=p)(cK:Tb.nA l (p,i))(a:Tb.nA l (p,j)):i=j:=by have:=(pA h).2 ⟨O,cK⟩;rw[(pA h).2 ⟨O,a⟩]at this;simp_all
def aod(f:hq)(i:V):Prop:=∀(h:i<f.cN.length) (c5:i<f.dE.length),(f.cN[i].1=0/\f.cN[i].2.1=0/\f.dE[i]=mG) \/ (1<=f.cN[i].1/\f.cN[i].1=f.dE[i].1/\gp f.dE[i]=N/\Tb.nA f.eh (f.cN[i].1,(i:I)))
structure ew(f:hq):Prop where
 ic:wA f.cN f.hand
 eh:Tb.iG f.eh
 dK:Dt.ha f.dK=N
 len:f.dE.length=f.cN.length
 place:∀i,i<f.cN.length->aod f i
 cnt:Tb.ib f.eh=k3 f.cN
 tJ:∀x∈f.dK,∃i,Tb.nA f.eh (x.1,i)
def sD{f}:rC f↔ew f:=by
 constructor
 .intro h;refine⟨h.ic,h.eh,h.dK,h.len,λi cK Q a=>?_,h.cnt,λx k=>?_⟩
  .rcases h.place i cK Q a with e|⟨m,b,c,d⟩
   .grind
   .have⟨q,l⟩:=(pA h.eh).1 d;simp_all
  .obtain⟨i,cK,rfl⟩:=kg.1 k;exact⟨_,((pA h.eh).1 (Prod.ext Z (h.tJ i cK))).2⟩
 .intro h;refine⟨h.ic,h.eh,h.dK,h.len,λi cK Q a=>?_,h.cnt,λi cK=>?_⟩
  .rcases h.place i cK Q a with e|⟨m,b,c,d⟩
   .grind
   .exact .inr ⟨R,b,c,(pA h.eh).2 ⟨R,by simp_all⟩⟩
  .have⟨j,g⟩:=h.tJ _ (hS cK);have cP:=(Dt.tH h.dK).2 i cK;rw[(pA h.eh).2 ⟨cP.2.1,g⟩]
def rD(l:J f6):J I:=(l.filter λx=>!decide (x.1=0)).map (·.1)
def PU(l):(rD l).length=k3 l:=by unfold rD k3;grind
def PV{l p}:p∈rD l↔p≠0/\ ∃i,∃h:i<l.length,l[i].1=p:=by
 unfold rD;rw[h4];constructor
 .rintro⟨x,a,rfl⟩;have⟨Q,b⟩:=n9.1 a;obtain⟨i,cK,rfl⟩:=kg.1 Q;grind
 grind
def ew.wI{f}(h:ew f){i j}(cK:i<f.cN.length)(a:j<f.cN.length)(cW:f.cN[i].1≠0)(e:f.cN[i].1=f.cN[j].1):i=j:=by
 rcases h.place i cK cK Dy with q|⟨b,_,_,c⟩
 .omega
 rcases h.place j a a (by rwa[h.len]) with r|⟨g,_,_,d⟩
 .omega
 have:=Z2 h.eh b c (e▸d);omega
def Z3:∀ {l},(∀i j,(cK:i<l.length)->(dL:j<l.length)->l[i].1≠0->l[i].1=l[j].1->i=j)->(rD l).Nodup
 | [],_=>by simp[rD]
 |x::r,h=>by
  have a:=Z3 (l:=r) λi j cK dL cW e=>by
   have:=h (i+1) (j+1) GW w8 yG LJ;omega
  unfold rD at a⊢
  by_cases eC:x.1=0
  .simp_all
  .rw[ZD G7,kD,tm];refine⟨λm=>?_,a⟩;have⟨_,j,dL,e⟩:=PV.1 m;have:=h 0 (j+1) dt w8 SQ eG;omega
def PW(l:J (I×I)):J I:=(l.filter λx=>!Tb.fT x).map (·.1)
def ew.frame{f}(h:ew f){p k}(O:1<=p)(m:Tb.nA f.eh (p,k)):∃i:V,k=i/\ ∃cK,f.cN[i].1=p:=by
 have o:=h.eh.len
 have n:p∈PW f.eh:=by have⟨j,c,e⟩:=m;refine h4.2 ⟨(p,k),n9.2 ⟨?_,by simp[Tb.vb (x:=(p,k)) O]⟩,Z⟩;rw[<-e,Tb.l' R];exact hS _
 have:=Z0 (a:=rD f.cN) (b:=PW f.eh) (Z3 λi j cK c cW e=>h.wI cK c cW e) (λx r=>?_) (by
   rw[PU,<-h.cnt];unfold PW Tb.ib
   grind) p n
 .have⟨cW,i,cK,e⟩:=PV.1 this;rcases h.place i cK cK Dy with q|⟨g,_,_,d⟩
  .omega
  .exact⟨i,Z2 h.eh O m (e▸d),cK,e⟩
 .have⟨cW,i,cK,e⟩:=PV.1 r;rcases h.place i cK cK Dy with q|⟨g,_,_,d⟩
  .omega
  .have⟨j,c,l⟩:=d;refine h4.2 ⟨(f.cN[i].1,(i:I)),n9.2 ⟨?_,by simp[Tb.vb (x:=(f.cN[i].1,(i:I))) g]⟩,e⟩;rw[<-l,Tb.l' R];simp_all
def ew.Z4{f}(h:ew f):Tb.ib f.eh<=8:=by rw[h.cnt];exact fJ IQ h.ic.gW
def aoe{l:J (I×I)}(h:Tb.iG l)(dg:Tb.ib l<16):Tb.oV l:=by
 have:¬∀j,j<16->Tb.fT (Tb.at' l j)=L:=λQ=>by have:=(Tb.ZU h.len).2 Q;omega
 have⟨z,a⟩:=J4.1 this;have⟨b,c⟩:=Classical.not_imp.1 a;exact⟨z,Tb.PN h b eG⟩
structure hG(f:hq)(p:I)(i:V):Prop where
 right:ew f
 cK:i<f.cN.length
 O:i<f.dE.length
 fA:1<=p
 z':p<=16
 cN:f.cN[i].1=p
 dE:f.dE[i].1=p
 wJ:gp f.dE[i]=N
 mem:Tb.nA f.eh (p,(i:I))
def p_{f p i}(h:ew f)(O:p≠0)(cK:i<f.cN.length)(e:f.cN[i].1=p):hG f p i:=by
 rcases h.place i cK cK Dy with q|⟨a,b,c,d⟩
 .omega
 .exact⟨h,cK,Dy,e▸a,by have:=(kJ.1 c).2.1;omega,e,by omega,c,e▸d⟩
def Z5(f p):(¬rC f/\hF f p=(0,1)) \/ (rC f/\Tb.ia f.eh p=(0,L) /\hF f p=(0,3)) \/ ∃i:V,Tb.ia f.eh p=((i:I),N) /\hF f p=((i:I),0) /\hG f p i:=by
 unfold hF
 by_cases h:rC f
 .rw[if_pos h]
  cases e:(Tb.ia f.eh p).2 with|false=>exact .inr (.inl ⟨h,Z1 e,dt⟩)|true=>have m:=sD.1 h;have⟨O,a⟩:=(pA m.eh).1 (Prod.ext Z e:Tb.ia f.eh p=((Tb.ia f.eh p).1,N));have⟨i,c,cK,b⟩:=m.frame O a;exact .inr (.inr ⟨i,Prod.ext c e,by simp_all,p_ m R cK b⟩)
 simp_all
def mH(f:hq)(i:V)(p:I):hq:=⟨f.cN.set i (0,0,L),f.hand,(Tb.p8 f.eh p).1,f.dE.set i mG,(Dt.of f.dK p).1⟩
def Z6{l p}(h:(Dt.of l p).2≠0):(Dt.of l p).1=l:=by unfold Dt.of at h⊢;grind
def Z7{l:J (I×I)}{p}(h:(Tb.p8 l p).2≠0):(Tb.p8 l p).1=l:=by unfold Tb.p8 at h⊢;grind
def J5(l:J f6)(i x):(l.map fp).set i (fp x)=(l.set i x).map fp:=DK
def PX(l:J e_)(i x):(l.map eB).set i (eB x)=(l.set i x).map eB:=DK
def Z8(f:hq)(i p)(h:i<f.cN.length)(a:i<f.dE.length)(O:f.dE[i].1=p)(b:f.cN.length<=1000000)(c:f.dE.length<=1000000)(t:f.eh.length<=1000000)(cP:f.dK.length<=1000000):
  dX cR 282 [lM f,i] (lM (mH f i p)):=by
 refine d6 Tryz.func282 2 Z c2 (cO ?_)
 have m:(f.cN.map fp).length=f.cN.length:=ef ..
 have d:(f.dE.map eB).length=f.dE.length:=ef ..
 refine dH ?_;refine ec R (cO ?_);refine dY (x:=eB f.dE[i]) (by simp[a]) (c9 ?_);rw[O];refine Ek (F5 f b c) (show 2<=8 by decide) (c9 ?_);refine ec R (cO ?_);refine dY (x:=fp f.cN[i]) (by simp[h]) (c9 ?_);refine ec R (cO ?_);refine dY (x:=eB f.dE[i]) (by simp[a]) (c9 ?_);refine df (Tb.anG f.eh p t) (c9 ?_);have k1:=J5 f.cN i (0,0,L);have eF:=PX f.dE i mG
 refine pp (λdG=>?_) λdG=>?_
 .refine df (Dt.FW f.dK p cP) (c9 ?_)
  refine pp (λg=>?_) λg=>?_
  .apply dd Z;rw[show((f.cN.map fp).set i (iM (fp f.cN[i]) 0 [.int .i64 0,.int .i64 0,.bool L]))=_ from k1];rw[show((f.dE.map eB).set i (iM (eB f.dE[i]) 0 [.int .i64 0,.int .i64 0,.str .empty]))=_ from eF];rfl
  .apply dd Z;rw[show((f.cN.map fp).set i (iM (fp f.cN[i]) 0 [.int .i64 0,.int .i64 0,.bool L]))=_ from k1];rw[show((f.dE.map eB).set i (iM (eB f.dE[i]) 0 [.int .i64 0,.int .i64 0,.str .empty]))=_ from eF];rw[show mH f i p=⟨f.cN.set i (0,0,L),f.hand,(Tb.p8 f.eh p).1,f.dE.set i mG,f.dK⟩ from by rw[mH,Z6 g]];rfl
 .refine df (Dt.FW f.dK p cP) (c9 ?_)
  refine pp (λg=>?_) λg=>?_
  .apply dd Z;rw[show((f.cN.map fp).set i (iM (fp f.cN[i]) 0 [.int .i64 0,.int .i64 0,.bool L]))=_ from k1];rw[show((f.dE.map eB).set i (iM (eB f.dE[i]) 0 [.int .i64 0,.int .i64 0,.str .empty]))=_ from eF];rw[show mH f i p=⟨f.cN.set i (0,0,L),f.hand,f.eh,f.dE.set i mG,(Dt.of f.dK p).1⟩ from by rw[mH,Z7 dG]];rfl
  .apply dd Z;rw[show((f.cN.map fp).set i (iM (fp f.cN[i]) 0 [.int .i64 0,.int .i64 0,.bool L]))=_ from k1];rw[show((f.dE.map eB).set i (iM (eB f.dE[i]) 0 [.int .i64 0,.int .i64 0,.str .empty]))=_ from eF];rw[show mH f i p=⟨f.cN.set i (0,0,L),f.hand,f.eh,f.dE.set i mG,f.dK⟩ from by rw[mH,Z7 dG,Z6 g]];rfl
def rE(l:J f6)(i:V):f6:=l[i]?.getD (0,0,L)
def nB(l:J e_)(i:V):e_:=l[i]?.getD mG
def jT{l i}(h:i<l.length):rE l i=l[i]:=by simp[rE,h]
def nC{l i}(h:i<l.length):nB l i=l[i]:=by simp[nB,h]
def Aa(x:f6):f6:=(x.1,x.2.1+1,N)
def CH(x:f6):f6:=(x.1,x.2.1-1,x.2.2)
def vd(f:hq)(i:V)(x:f6):hq:=⟨f.cN.set i x,f.hand,f.eh,f.dE,f.dK⟩
def lN(f:hq)(p:I):hq×I:=
 if(hF f p).2≠0 then(f,(hF f p).2)
 else if 2147483647<= (rE f.cN (hF f p).1.toNat).2.1 then(f,7) else(vd f (hF f p).1.toNat (Aa (rE f.cN (hF f p).1.toNat)),0)
def mb(f:hq)(p:I):hq×I:=
 if(hF f p).2≠0 then(f,(hF f p).2)
 else if(rE f.cN (hF f p).1.toNat).2.1=0 then(f,12) else(vd f (hF f p).1.toNat (CH (rE f.cN (hF f p).1.toNat)),0)
def nD(x:e_)(b:dS):e_:=(x.1,x.2.1+1,b)
def iR(f:hq)(p:I)(b:dS)(now:I):hq×I:=
 if(hF f p).2≠0 then(f,(hF f p).2)
 else if(rE f.cN (hF f p).1.toNat).2.1=0 then(f,12)
 else if 16<b.size then(f,5)
 else if 2147483647<= (nB f.dE (hF f p).1.toNat).2.1 then(f,7)
 else if(Dt.hO f.dK p now).2≠0 then(f,(Dt.hO f.dK p now).2)
 else(⟨f.cN,f.hand,f.eh,f.dE.set (hF f p).1.toNat (nD (nB f.dE (hF f p).1.toNat) b),(Dt.hO f.dK p now).1⟩,0)
def qV(f:hq)(p:I):hq×I:=
 if(hF f p).2≠0 then(f,(hF f p).2)
 else if(Dt.of f.dK p).2≠0 then(f,12) else(⟨f.cN,f.hand,f.eh,f.dE,(Dt.of f.dK p).1⟩,0)
def og(f:hq)(p:I):hq×I:=
 if(hF f p).2≠0 then(f,(hF f p).2)
 else if 0<(rE f.cN (hF f p).1.toNat).2.1 then(f,6) else(mH f (hF f p).1.toNat p,0)
def ve(f p):(hF f p).2≠0\/ ∃i:V,hF f p=((i:I),0) /\hG f p i:=by
 rcases Z5 f p with⟨_,e⟩|⟨_,_,e⟩|⟨i,_,e,h⟩
 .simp_all
 .simp_all
 grind
def aof(f p)(Q:tK f.eh)(a:f.dK.length<=1000000):dX cR 225 [lM f,.int .i64 p] (.dP [lM (lN f p).1,.int .i64 (lN f p).2]):=by
 refine d6 Tryz.func225 2 Z (by kernel_rfl) (cO ?_)
 have m:(f.cN.map fp).length=f.cN.length:=ef ..
 refine dH ?_;have h:=F4 f p Q a;rcases ve f p with e|⟨i,e,c8⟩
 .refine df h (c9 ?_);refine r7 (by simp[e]) (c9 ?_);exact dd Z (by rw[lN,if_pos e];rfl)
 have cK:=c8.cK;have b:=c8.right.ic.gW;have l:=c8.right.len;have k:=oe.1 (c8.right.ic.all i cK);rw[e]at h;refine df (d:=.dP [.int .i64 i,.int .i64 0]) h (c9 ?_);refine ec R (cO ?_);refine dY (x:=fp f.cN[i]) (by simp[cK]) (c9 ?_)
 refine pp (λdG=>?_) λdG=>?_
 .exact dd Z (by simp only[lN,e,gl,jT cK];rw[cT c1,if_pos (by exact dG)];rfl)
 refine Ek (F5 f R R) (show 2<=8 by decide) (c9 ?_);refine ec R (cO ?_);refine dY (x:=fp f.cN[i]) (by simp[cK]) (c9 ?_);refine ec R (cO ?_);refine dY (x:=fp f.cN[i]) (by simp[cK]) (c9 ?_);refine ec eG (cO ?_);refine dY (x:=fp (f.cN[i].1,f.cN[i].2.1+1,f.cN[i].2.2)) (by rw[Z9 R];rfl) (c9 ?_);apply dd Z;rw[aog];have k1:(f.cN.map fp).set i (fp (Aa f.cN[i]))=(f.cN.set i (Aa f.cN[i])).map fp:=J5 f.cN i _;simp only[lN,e,gl,jT cK];rw[cT c1,cT (by exact dG)];exact eR (λq=>c3.dP [.agg [.dk q,f.hand,g9 f.eh,.dk (f.dE.map eB),g9 f.dK],.int .i64 0]) k1
def aoh(f p)(Q:tK f.eh)(a:f.dK.length<=1000000):dX cR 234 [lM f,.int .i64 p] (.dP [lM (mb f p).1,.int .i64 (mb f p).2]):=by
 refine d6 Tryz.func234 2 Z (by kernel_rfl) (cO ?_)
 have m:(f.cN.map fp).length=f.cN.length:=ef ..
 refine dH ?_;have h:=F4 f p Q a;rcases ve f p with e|⟨i,e,c8⟩
 .refine df h (c9 ?_);refine r7 (by simp[e]) (c9 ?_);exact dd Z (by rw[mb,if_pos e];rfl)
 have cK:=c8.cK;have b:=c8.right.ic.gW;have l:=c8.right.len;have k:=oe.1 (c8.right.ic.all i cK);rw[e]at h;refine df (d:=.dP [.int .i64 i,.int .i64 0]) h (c9 ?_);refine ec R (cO ?_);refine dY (x:=fp f.cN[i]) (by simp[cK]) (c9 ?_)
 refine pp (λdG=>?_) λdG=>?_
 .exact dd Z (by simp only[mb,e,gl,jT cK];rw[cT c1,if_pos (by exact dG)];rfl)
 refine Ek (F5 f R R) (show 2<=8 by decide) (c9 ?_);refine ec R (cO ?_);refine dY (x:=fp f.cN[i]) (by simp[cK]) (c9 ?_);refine ec R (cO ?_);refine dY (x:=fp f.cN[i]) (by simp[cK]) (c9 ?_);apply dd Z;have k1:(f.cN.map fp).set i (fp (CH f.cN[i]))=(f.cN.set i (CH f.cN[i])).map fp:=J5 f.cN i _;simp only[mb,e,gl,jT cK];rw[cT c1,cT (by exact dG)];exact eR (λq=>c3.dP [.agg [.dk q,f.hand,g9 f.eh,.dk (f.dE.map eB),g9 f.dK],.int .i64 0]) k1
def FW(f p)(Q:tK f.eh)(a:f.dK.length<=1000000):dX cR 286 [lM f,.int .i64 p] (.dP [lM (qV f p).1,.int .i64 (qV f p).2]):=by
 refine d6 Tryz.func286 2 Z c2 (c9 ?_);have l:=F4 f p Q a;rcases ve f p with e|⟨i,e,c8⟩
 .refine df l (c9 ?_);refine r7 ue (c9 ?_);exact dd Z (by rw[qV,if_pos e];rfl)
 rw[e]at l;refine df (d:=.dP [.int .i64 i,.int .i64 0]) l (c9 ?_);refine df (Dt.FW f.dK p a) (c9 ?_)
 refine sq (λdG=>?_) λdG=>?_
 .exact dd Z (by rw[qV,cT ue,if_pos yH];rfl)
 .exact dd Z (by rw[qV,cT ue,cT yH];rfl)
def aoi(f p)(Q:tK f.eh)(a:f.dK.length<=1000000):dX cR 227 [lM f,.int .i64 p] (.dP [lM (og f p).1,.int .i64 (og f p).2]):=by
 refine d6 Tryz.func227 2 Z c2 (cO ?_)
 have m:(f.cN.map fp).length=f.cN.length:=ef ..
 refine dH ?_;have l:=F4 f p Q a;rcases ve f p with e|⟨i,e,c8⟩
 .refine df l (c9 ?_);refine r7 ue (c9 ?_);exact dd Z (by rw[og,if_pos e];rfl)
 have cK:=c8.cK;have b:=c8.right.ic.gW;have n:=c8.right.len;rw[e]at l;refine df (d:=.dP [.int .i64 i,.int .i64 0]) l (c9 ?_);refine ec R (cO ?_);refine dY (x:=fp f.cN[i]) Ly (c9 ?_)
 refine pp (λdG=>?_) λdG=>?_
 .exact dd Z (by simp only[og,e,gl,jT cK];rw[cT c1,if_pos S3];rfl)
 refine df (Z8 f i p cK c8.O c8.dE R R Q.1 a) (c9 ?_);exact dd Z (by simp only[og,e,gl,jT cK];rw[cT c1,cT S3];rfl)
def aoj(f p b now)(Q:tK f.eh)(c:f.dK.length<=1000000):
  dX cR 233 [lM f,.int .i64 p,.str b,.int .i64 now] (.dP [lM (iR f p b now).1,.int .i64 (iR f p b now).2]):=by
 refine d6 Tryz.func233 4 Z (by kernel_rfl) (cO ?_)
 have m:(f.cN.map fp).length=f.cN.length:=ef ..
 have o:(f.dE.map eB).length=f.dE.length:=ef ..
 refine dH ?_;have l:=F4 f p Q c;rcases ve f p with e|⟨i,e,c8⟩
 .refine df l (c9 ?_);refine r7 (by simp[e]) (c9 ?_);exact dd Z (by rw[iR,if_pos e];rfl)
 have cK:=c8.cK;have h:=c8.O;have k:=c8.right.ic.gW;have n:=c8.right.len;have r:=kJ.1 c8.wJ;rw[e]at l;refine df (d:=.dP [.int .i64 i,.int .i64 0]) l (c9 ?_);refine ec R (cO ?_);refine dY (x:=fp f.cN[i]) (by simp[cK]) (c9 ?_)
 refine iv (λdG=>?_) λdG=>?_
 .exact dd Z (by simp only[iR,e,gl,jT cK];rw[cT c1,if_pos (by exact dG)];rfl)
 refine dH ?_
 refine pp (λj=>?_) λj=>?_
 .exact dd Z (by simp only[iR,e,gl,jT cK];rw[cT c1,cT (by exact dG),if_pos R];rfl)
 refine ec R (cO ?_);refine dY (x:=eB f.dE[i]) (by simp[h]) (c9 ?_)
 refine pp (λg=>?_) λg=>?_
 .exact dd Z (by simp only[iR,e,gl,jT cK,nC h];rw[cT c1,cT (by exact dG),cT R,if_pos (by exact g)];rfl)
 refine df (Dt.Zu f.dK p now c) (c9 ?_)
 refine sq (λa=>?_) λa=>?_
 .exact dd Z (by simp only[iR,e,gl,jT cK,nC h];rw[cT c1,cT (by exact dG),cT R,cT (by exact g),if_pos (by exact a)];rfl)
 refine Ek (F5 f R R) (show 2<=8 by decide) (c9 ?_);refine ec R (cO ?_);refine dY (x:=eB f.dE[i]) (by simp[h]) (c9 ?_);refine ec eG (cO ?_);refine dY (x:=[f.dE[i].1,f.dE[i].2.1,.str b]) (by rw[Z9 R];rfl) (c9 ?_);refine ec eG (cO ?_);refine dY (x:=[f.dE[i].1,f.dE[i].2.1,.str b]) (by rw[Z9 R];rfl) (c9 ?_);apply dd Z;rw[aog];have k1:(f.dE.map eB).set i (eB (nD f.dE[i] b))=(f.dE.set i (nD f.dE[i] b)).map eB:=PX f.dE i _;simp only[iR,e,gl,jT cK,nC h];rw[cT c1,cT (by exact dG),cT R,cT (by exact g),cT R];exact eR (λq=>c3.dP [.agg [.dk (f.cN.map fp),f.hand,g9 f.eh,.dk q,g9 (Dt.hO f.dK p now).1],.int .i64 0]) k1
def bad(f:hq)(p:e_)(now:I):Prop:=¬rC f\/gp p=L\/now<0\/2147483647<now
def mc(f:hq)(p:e_)(i:V):hq:=⟨f.cN.set i (p.1,1,N),f.hand,(Tb.oU f.eh p.1 i).1,f.dE.set i p,f.dK⟩
open Classical in
def mI(f:hq)(p:e_)(now:I)(gb:dh):hq×I:=
 if bad f p now then(f,1)
 else if(Tb.ia f.eh p.1).2=N then(f,4)
 else if(pz f.cN).2=L then(f,7)
 else if(Tb.oU f.eh p.1 (pz f.cN).1.toNat).2≠0 then(f,(Tb.oU f.eh p.1 (pz f.cN).1.toNat).2)
 else if gb=N then(if(Dt.hO f.dK p.1 now).2≠0 then(f,(Dt.hO f.dK p.1 now).2) else({mc f p (pz f.cN).1.toNat with dK:=(Dt.hO f.dK p.1 now).1},0))
 else(mc f p (pz f.cN).1.toNat,0)
def F6(l):(pz l=(0,L) /\ ∀i (h:i<l.length),l[i].1≠0) \/ ∃i:V,pz l=((i:I),N) /\ ∃h,l[i].1=0:=by
 unfold pz;rcases aob (l:=l) (k:=0) with⟨Q,a⟩|⟨i,Q,a,b⟩
 .simp_all
 grind
def PY{a d9 b c h t d e}(Q:a=d9)(f:b=c):c3.dP [.agg [.dk a,h,t,.dk b,d],e]=c3.dP [.agg [.dk d9,h,t,.dk c,d],e]:=by rw[Q,f]
def aok(f p now gb)(Q:tK f.eh)(j:f.dK.length<=1000000):
  dX cR 281 [lM f,.agg (eB p),.int .i64 now,.bool gb] (.dP [lM (mI f p now gb).1,.int .i64 (mI f p now gb).2]):=by
 refine d6 Tryz.func281 4 Z (by kernel_rfl) (cO ?_)
 have o:(f.cN.map fp).length=f.cN.length:=ef ..
 have s:(f.dE.map eB).length=f.dE.length:=ef ..
 have B (k:bad f p now):mI f p now gb=(f,1):=if_pos k;refine dH ?_;have r:=J3 f Q j
 cases cX:yf f with
 |false=>rw[cX]at r;refine df r (c9 ?_);exact dd Z (by rw[B (.inl (F3.1 cX))];rfl)
 |true=>
 rw[cX]at r;refine df r (c9 ?_);have r:=FK p
 cases P:gp p with
 |false=>rw[P]at r;refine df r (c9 ?_);exact dd Z (by rw[B (.inr (.inl P))];rfl)
 |true=>
 rw[P]at r;refine df r (c9 ?_)
 refine iv (λdG=>?_) λdG=>?_
 .exact dd Z (by rw[B (.inr (.inr (.inl dG)))];rfl)
 refine dH ?_
 refine iv (λg=>?_) λg=>?_
 .exact dd Z (by rw[B (.inr (.inr (.inr g)))];rfl)
 have n:¬bad f p now:=λh=>by
  rcases h with h|h|h|h
  .exact h (CG.1 cX)
  .simp_all
  .exact dG h
  omega
 have F:=CG.1 cX;have m:=F.ic.gW;have l:=F.len;refine dH ?_;have r:=PS f p.1 Q.1
 cases q:(Tb.ia f.eh p.1).2 with
 |true=>rw[q]at r;refine e' ?_;exact dd Z (by rw[mI,cT n,if_pos q];rfl)
 |false=>
 rw[q]at r;refine df r (c9 ?_);have r:=ZY f R;rcases F6 f.cN with⟨e,t⟩|⟨i,e,cK,z⟩
 .rw[e]at r;refine df (d:=.dP [.int .i64 0,.bool L]) r (c9 ?_);exact dd Z (by rw[mI,cT n,cT (by simp[q]),if_pos (by rw[e])];rfl)
 rw[e]at r;refine df (d:=.dP [i,.bool N]) r (c9 ?_);refine Ek (F5 f R R) (show 2<=8 by decide) (c9 ?_);refine ec R (cO ?_);refine dY (x:=fp f.cN[i]) (by simp[cK]) (c9 ?_)
 have a:i<f.dE.length:=R
 refine ec R (cO ?_);refine dY (x:=eB f.dE[i]) (by simp[a]) (c9 ?_)
 have u:mI f p now gb=if(Tb.oU f.eh p.1 i).2≠0 then(f,(Tb.oU f.eh p.1 i).2)
   else if gb=N then(if(Dt.hO f.dK p.1 now).2≠0 then(f,(Dt.hO f.dK p.1 now).2) else({mc f p i with dK:=(Dt.hO f.dK p.1 now).1},0))
   else(mc f p i,0):=by
  rw[mI,cT n,cT (by simp[q]),cT (by rw[e];simp),e];rfl
 rw[u];have k1:(f.cN.map fp).set i (fp (p.1,1,N))=(f.cN.set i (p.1,1,N)).map fp:=J5 f.cN i _;have eF:=PX f.dE i p;refine df (Tb.Cs f.eh p.1 i Q.1) (c9 ?_)
 refine sq (λb=>?_) λb=>?_
 .exact dd Z (by rw[if_pos b];rfl)
 rw[cT R]
 cases gb with
 |false=>refine dH ?_;apply dd Z;rw[cT c1];exact PY k1 eF
 |true=>
  rw[if_pos Z];refine dH ?_;refine df (Dt.Zu f.dK p.1 now j) (c9 ?_)
  refine sq (λc=>?_) λc=>?_
  .exact dd Z (by rw[if_pos c];rfl)
  .apply dd Z;rw[cT R];exact PY k1 eF
open Classical in
def J6(l:J f6)(a:V):dB (J f6×V):=if h:∃q:J f6×V,px l a q.1 q.2 then U (IZ h) else cM
def tM(f:hq)(q:J f6×V):hq:=⟨q.1,(((q.2+1)%f.cN.length:V):I),f.eh,f.dE,f.dK⟩
open Classical in
def ht(f:hq):hq×e_×dh×I:=
 if ¬rC f then(f,mG,L,1)
 else if(pz f.cN).2=N then(f,mG,L,0)
 else match J6 f.cN f.hand.toNat with
  |none=>(f,mG,L,6)
  |some q=>if(Dt.p7 f.dK (nB f.dE q.2).1).2=N then(tM f q,nB f.dE q.2,N,0) else(mH (tM f q) q.2 (nB f.dE q.2).1,nB f.dE q.2,L,0)
def Z_{l h}(cX:wA l h):(J6 l h.toNat=cM/\qO l 0<0) \/ ∃q,J6 l h.toNat=U q/\px l h.toNat q.1 q.2:=by
 unfold J6
 by_cases x:∃q:J f6×V,px l h.toNat q.1 q.2
 .grind
 .refine .inl ⟨dif_neg x,?_⟩;rcases anw (l:=l) (k:=0) with Q|⟨i,Q,cK,b⟩
  .exact Q
  .have⟨eo,fb,s⟩:=Zp (j:=i) (Cx i l h.toNat+1) (l:=l) (a:=h.toNat) (by have:=cX.cW;have:=cX.Q;omega) cK b R;simp_all
def aol(f)(Q:tK f.eh)(c5:f.dK.length<=1000000):
  dX cR 306 [lM f] (.dP [lM (ht f).1,.agg (eB (ht f).2.1),.bool (ht f).2.2.1,(ht f).2.2.2]):=by
 refine d6 Tryz.func306 1 Z c2 (cO ?_)
 have h:(f.cN.map fp).length=f.cN.length:=ef ..
 have j:(f.dE.map eB).length=f.dE.length:=ef ..
 refine dH ?_;have dI:=J3 f Q c5
 cases a:yf f with
 |false=>rw[a]at dI;refine df dI (c9 ?_);exact dd Z (by rw[ht,if_pos (F3.1 a)];rfl)
 |true=>
 rw[a]at dI;refine df dI (c9 ?_);have qm:=CG.1 a;have l:=qm.ic.one;have m:=qm.ic.gW;have n:=qm.len;have dI:=ZY f R;rcases F6 f.cN with⟨e,o⟩|⟨i,e,cK,p⟩
 rotate_left
 .rw[e]at dI;refine e' ?_;exact dd Z (by rw[ht,cT yL,if_pos AS];rfl)
 rw[e]at dI;refine df (d:=.dP [.int .i64 0,.bool L]) dI (c9 ?_);rcases Z_ qm.ic with⟨eq,c⟩|⟨q,eq,c7⟩
 .refine df (anx f.cN f.hand (.inr c) R) (c9 ?_);exact dd Z (by rw[ht,cT yL,cT vE,eq];rfl)
 have c_:((f.hand.toNat:V):I)=f.hand:=by have:=qm.ic.cW;omega
 have b:=anA f.cN f.hand.toNat (by rw[c_];exact qm.ic) c7;rw[c_]at b;have⟨r,s,t,g,u⟩:=c7.out;have xb:q.2<f.dE.length:=R;refine df b (c9 ?_);refine ec R (cO ?_);refine dY (x:=eB f.dE[q.2]) aeI (c9 ?_);have dI:=Dt.Zt f.dK f.dE[q.2].1 c5
 cases cP:(Dt.p7 f.dK f.dE[q.2].1).2 with
 |true=>rw[cP]at dI;refine df dI (c9 ?_);apply dd Z;rw[ht,cT yL,cT vE,eq];simp[nC xb];rw[if_pos cP];rfl
 |false=>rw[cP]at dI;refine df dI (c9 ?_);refine df (Z8 (tM f q) q.2 f.dE[q.2].1 (by exact g) xb Z (by show q.1.length<=_;omega) (by show f.dE.length<=_;omega) Q.1 c5) (c9 ?_);apply dd Z;rw[ht,cT yL,cT vE,eq];simp[nC xb];rw[cT eG];rfl
def PK(n):dX cR 130 [.int .i64 n] (.dP [lM (if n<1\/8<n then ZZ else m_ n.toNat),.int .i64 (if n<1\/8<n then 1 else 0)]):=by
 refine d6 Tryz.func130 1 Z c2 (c9 ?_)
 refine iv (λdG=>?_) λdG=>?_
 .exact dd Z (by rw[if_pos (.inl dG),if_pos (.inl dG)];rfl)
 refine dH ?_
 refine pp (λg=>?_) λg=>?_
 .exact dd Z (by rw[if_pos (.inr g),if_pos (.inr g)];rfl)
 obtain⟨m,rfl⟩:∃m:V,n=m:=⟨n.toNat,R⟩;rw[cT R,cT R];refine dH ?_;refine fV 8 100 R c1 c1 c1 (c9 ?_);refine df Tb.PK (c9 ?_);refine dH ?_;refine fV 8 100 R c1 c1 c1 (c9 ?_);apply dd Z;rw[show m_ (m:I).toNat=m_ m from Z]
 have k1:eL (m:I).toNat (T 180).zero=(eL m (0,0,L)).map fp:=by rw[X8];rfl
 have eF:eL (m:I).toNat (T 139).zero=(eL m mG).map eB:=by rw[X8];rfl
 exact PY k1 eF
def PZ{l i x}(h:i<l.length):k3 (l.set i x)+(if l[i].1=0 then 0 else 1)=k3 l+(if x.1=0 then 0 else 1):=by
 have O:(if l[i].1=0 then 0 else 1) <=k3 l:=by
  by_cases e:l[i].1=0
  .simp_all
  .rw[cT e];exact B2.2 ⟨l[i],hS h,ue⟩
 have a:k3 (l.set i x)=k3 l-(if(!decide (l[i].1=0))=N then 1 else 0)+(if(!decide (x.1=0))=N then 1 else 0):=by unfold k3;exact Zn h
 grind
def P0{l h i x}(cX:wA l h)(a:x6 x=N):wA (l.set i x) h:=by
 refine⟨by rw[h'];exact cX.one,by rw[h'];exact cX.gW,cX.cW,by rw[h'];exact cX.Q,λj dL=>?_⟩;rw[zX];split
 .exact a
 .exact cX.all j GZ
def ew.pins{f p i x}(c8:hG f p i)(g:x6 x=N)(Q:x.1=p):ew (vd f i x):=by
 have h:=c8.right;have cK:=c8.cK;show ew ⟨f.cN.set i x,f.hand,f.eh,f.dE,f.dK⟩;refine⟨P0 h.ic g,h.eh,h.dK,by rw[h'];exact h.len,λj c d b=>?_,?_,h.tJ⟩
 .have a:j<f.cN.length:=by have:=c;rwa[h']at this
  by_cases e:i=j
  .subst e;rw[tN,Q];exact .inr ⟨c8.fA,c8.dE.symm,c8.wJ,c8.mem⟩
  .rw[wK e];exact h.place j a a b
 .show Tb.ib f.eh=k3 (f.cN.set i x);have:=PZ (x:=x) cK;rw[cT (by rw[c8.cN];have:=c8.fA;omega),cT (by rw[Q];have:=c8.fA;omega)]at this;rw[h.cnt];omega
def ew.Z'{f p i x l}(c8:hG f p i)(k:gp x=N)(Q:x.1=p)(g:Dt.ha l=N)(m:∀y∈l,y∈f.dK\/y.1=p):ew ⟨f.cN,f.hand,f.eh,f.dE.set i x,l⟩:=by
 have h:=c8.right;refine⟨h.ic,h.eh,g,by rw[h'];exact h.len,λj c d b=>?_,h.cnt,λy n=>?_⟩
 .have a:j<f.dE.length:=by have:=b;rwa[h']at this
  by_cases e:i=j
  .subst e;refine .inr ?_;rw[tN];exact⟨by rw[c8.cN];exact c8.fA,by rw[c8.cN,Q],k,by rw[c8.cN];exact c8.mem⟩
  .rw[wK e];exact h.place j c c a
 .rcases m y n with q|q
  .exact h.tJ y q
  .exact⟨_,by rw[q];exact c8.mem⟩
def ew.aom{f l}(h:ew f)(a:Dt.ha l=N)(m:∀y∈l,y∈f.dK):ew ⟨f.cN,f.hand,f.eh,f.dE,l⟩:=
 ⟨h.ic,h.eh,a,h.len,h.place,h.cnt,λy b=>h.tJ y (m y b)⟩
def P1{l p}(h:Dt.ha l=N):Dt.ha (Dt.of l p).1=N/\ ∀x,x∈(Dt.of l p).1↔x∈l/\x.1≠p:=by
 rw[Dt.PH h]
 by_cases e:0<=Dt.gy l p 0
 .rw[if_pos e];exact⟨Dt.anE h _,λx=>by simp_all⟩
 .rw[cT e];exact⟨h,λx=>⟨λa=>⟨a,λb=>e (Dt.qT.2 ⟨x,a,b⟩)⟩,λa=>a.1⟩⟩
def aon{f p i}(c8:hG f p i):∃l,Tb.p8 f.eh p=(l,0) /\Tb.iG l/\Tb.oV l/\Tb.ib l+1=Tb.ib f.eh/\ ∀x,Tb.fT x=L->(Tb.nA l x↔x.1≠p/\Tb.nA f.eh x):=
 Tb.an9 c8.right.eh (aoe c8.right.eh (by have:=c8.right.Z4;omega)) c8.fA c8.mem
def ew.rel{f p i}(c8:hG f p i):ew (mH f i p):=by
 have h:=c8.right;have cK:=c8.cK;have u:=c8.fA;have⟨l,D,m,_,B,c⟩:=aon c8;have⟨g6,E⟩:=P1 (p:=p) h.dK
 have r:mH f i p=⟨f.cN.set i (0,0,L),f.hand,l,f.dE.set i mG,(Dt.of f.dK p).1⟩:=by rw[mH,D]
 rw[r];refine⟨P0 h.ic c1,m,g6,by simp[h.len],λj n o s=>?_,?_,λy w=>?_⟩
 .have a:j<f.cN.length:=by have:=n;rwa[h']at this
  have b:j<f.dE.length:=by rwa[h.len]
  by_cases e:i=j
  .subst e;rw[tN,tN];simp_all
  .rw[wK e,wK e];rcases h.place j a a b with q|⟨d,z,F,G⟩
   .exact .inl q
   .exact .inr ⟨d,z,F,(c _ (Tb.vb (x:=(f.cN[j].1,(j:I))) d)).2 ⟨λC=>e (h.wI cK a (by rw[c8.cN];omega) (by rw[c8.cN];omega)),G⟩⟩
 .show Tb.ib l=k3 (f.cN.set i (0,0,L));have:=PZ (x:=(0,0,L)) cK;rw[cT (by rw[c8.cN];omega)]at this;simp at this;have:=h.cnt;omega
 .have⟨g,A⟩:=(E y).1 w;have⟨k,t⟩:=h.tJ y g;refine⟨k,(c _ ?_).2 ⟨A,t⟩⟩;obtain⟨q,v,rfl⟩:=kg.1 g;exact Tb.vb (x:=(f.dK[q].1,k)) ((Dt.tH h.dK).2 q v).2.1
def P2{f p i}(h:ew f)(b:1<=p)(c:p<=16)(cK:i<f.cN.length)(ee:Tb.ia f.eh p=(0,L)):
  ∃a,Tb.oU f.eh p i=(a,0) /\Tb.iG a/\Tb.ib a=Tb.ib f.eh+1/\ ∀x,Tb.fT x=L->(Tb.nA a x↔x=(p,(i:I)) \/Tb.nA f.eh x):=by
 have d:=h.ic.gW;have⟨a,k,_,_,_,g,l,_,m,n⟩:=Tb.an8 (p:=p) (f:=(i:I)) h.eh (Tb.yd.2 ⟨b,R,R,R⟩) (λj dL e=>(aoc h.eh b).1 (by rw[ee]) _ ⟨j,dL,Prod.ext e Z⟩) (by have:=h.Z4;omega);simp_all
def ew.P3{f p i l}(h:ew f)(O:gp p=N)(cK:i<f.cN.length)(G:f.cN[i].1=0)(s:Tb.ia f.eh p.1=(0,L))(A:Dt.ha l=N)(B:∀y∈l,y∈f.dK\/y.1=p.1):
  ew {mc f p i with dK:=l} /\hG {mc f p i with dK:=l} p.1 i:=by
 have r:=kJ.1 O;have⟨d,D,n,dr,c⟩:=P2 h r.1 r.2.1 cK s
 have t:i<f.dE.length:=by rwa[h.len]
 have o:({mc f p i with dK:=l}:hq)=⟨f.cN.set i (p.1,1,N),f.hand,d,f.dE.set i p,l⟩:=by rw[mc,D]
 have C:=Tb.vb (x:=(p.1,(i:I))) r.1
 have M:ew {mc f p i with dK:=l}:=by
  rw[o];refine⟨P0 h.ic (oe.2 ⟨by omega,by omega,show(0:I) <=1 by decide,show(1:I) <=2147483647 by decide⟩),n,A,by simp[h.len],λj u v w=>?_,?_,λy F=>?_⟩
  .have a:j<f.cN.length:=by have:=u;rwa[h']at this
   have b:j<f.dE.length:=by rwa[h.len]
   by_cases e:i=j
   .subst e;rw[tN,tN];simp_all
   .rw[wK e,wK e];rcases h.place j a a b with q|⟨m,H,J,K⟩
    .exact .inl q
    .exact .inr ⟨m,H,J,(c _ (Tb.vb (x:=(f.cN[j].1,(j:I))) m)).2 (.inr K)⟩
  .show Tb.ib d=k3 (f.cN.set i (p.1,1,N));have:=PZ (x:=(p.1,1,N)) cK;rw[if_pos G,cT (show ¬p.1=0 by omega)]at this;have:=h.cnt;omega
  .rcases B y F with q|q
   .have⟨k,z⟩:=h.tJ y q;obtain⟨g,E,rfl⟩:=kg.1 q;exact⟨k,(c _ (Tb.vb (x:=(f.dK[g].1,k)) ((Dt.tH h.dK).2 g E).2.1)).2 (.inr z)⟩
   grind
 exact⟨M,p_ M R eG (by simp[mc])⟩
def P4{l p t}(h:(Dt.hO l p t).2=0):Dt.ha (Dt.hO l p t).1=N/\ (∀y∈(Dt.hO l p t).1,y∈l\/y.1=p) /\ (∀y∈l,y∈(Dt.hO l p t).1) /\ ∃y∈(Dt.hO l p t).1,y.1=p:=by
 refine⟨Dt.ZA h,?_⟩;unfold Dt.hO at h⊢;split
 .simp_all
 .rename_i Q;rw[cT Q]at h;split
  .simp_all
  .rename_i c5;rw[cT c5]at h;split
   .rename_i b;have⟨x,c,e⟩:=Dt.qT.1 b;grind
   .refine⟨λy a=>?_,λy a=>n8 _ a,(p,t),dt,Z⟩;grind
def ew.J7{f q}(h:ew f)(v:px f.cN f.hand.toNat q.1 q.2):ew (tM f q):=by
 have⟨p,A,o,B,C⟩:=v.out;have u:=h.ic.one
 have n:k3 q.1=k3 f.cN:=by
  rw[<-PU,<-PU]
  have:rD q.1=rD f.cN:=by
   have:∀(a b:J f6),a.length=b.length->(∀i (cK:i<b.length) (c:i<a.length),a[i].1=b[i].1)->rD a=rD b:=by
    intro a
    induction a with
    |nil=>grind
    |cons x r w=>
     intro b t m
     cases b with|nil=>simp at t|cons y s=>have z:x.1=y.1:=m 0 dt dt;have k:=w s eG λi cK c=>m (i+1) eG eG;unfold rD at k⊢;grind
   exact this _ _ p λi cK c=>(o i cK c).1
  rw[this]
 refine⟨⟨by show 1<=q.1.length;omega,by show q.1.length<=8;have:=h.ic.gW;omega,Int.natCast_nonneg _,?_,λj l=>?_⟩,h.eh,h.dK,by show f.dE.length=q.1.length;rw[h.len,p],λj l e g=>?_,by show Tb.ib f.eh=k3 q.1;rw[n];exact h.cnt,h.tJ⟩
 .show(((q.2+1)%f.cN.length:V):I)<(q.1.length:I);have:=mu (q.2+1) (show 0<f.cN.length by omega);omega
 .have d:j<q.1.length:=l;show x6 q.1[j]=N;have D:=o j R d;have:=oe.1 (h.ic.all j R);exact oe.2 R
 .have d:j<q.1.length:=e;have D:=o j R d;show(q.1[j].1=0/\q.1[j].2.1=0/\f.dE[j]=mG) \/ (1<=q.1[j].1/\q.1[j].1=f.dE[j].1/\gp f.dE[j]=N/\Tb.nA f.eh (q.1[j].1,(j:I)));rw[D.1,D.2];exact h.place j R R g
def ew.new{n}(Q:1<=n)(c:n<=8):ew (m_ n):=by
 refine⟨⟨by simpa[m_]using Q,by simpa[m_]using c,show(0:I) <=0 by decide,by simp[m_];omega,λi cK=>by simp[m_];decide⟩,Tb.an7,Z,by simp[m_],λi cK a b=>.inl (by simp[m_]),?_,λx h=>by cases h⟩;show Tb.ib (eL 16 (0,0))=k3 (eL n (0,0,L))
 have:k3 (eL n (0,0,L))=0:=by
  unfold k3;rw[List.countP_eq_zero];intro x h;rw[FB h]
  decide
 rw[this];decide
def ew.wL{f}(h:ew f){q}(b:q≠0):(Tb.ia f.eh q=(0,L) /\ ∀i (cK:i<f.cN.length),f.cN[i].1≠q) \/ ∃i:V,Tb.ia f.eh q=((i:I),N) /\hG f q i:=by
 rcases Z5 f q with⟨Q,_⟩|⟨_,e,_⟩|⟨i,e,_,c8⟩
 .exact dQ (sD.2 h) Q
 .refine .inl ⟨e,λi cK a=>?_⟩;have c8:=p_ h b cK a;rw[(pA h.eh).2 ⟨c8.fA,c8.mem⟩]at e
  cases e
 grind
def qa{f p i}(h:hG f p i):jS f p=((i:I),N):=by rw[jS,if_pos (sD.2 h.right)];exact(pA h.right.eh).2 ⟨h.fA,h.mem⟩
def qW{f p}(h:ew f)(cY:∀i (cK:i<f.cN.length),f.cN[i].1≠p)(O:p≠0):jS f p=(0,L):=by
 rw[jS,if_pos (sD.2 h)];rcases h.wL O with⟨e,_⟩|⟨i,_,c8⟩
 .exact e
 .exact dQ c8.cN (cY i c8.cK)
def CI{f}(h:ew f):(∃i,∃cK:i<f.cN.length,f.cN[i].1=0/\ht f=(f,mG,L,0)) \/
  ((∀i (cK:i<f.cN.length),f.cN[i].1≠0) /\ (∀i (cK:i<f.cN.length),f.cN[i].2.1≠0) /\ht f=(f,mG,L,6)) \/
  ((∀i (cK:i<f.cN.length),f.cN[i].1≠0) /\ ∃(l:J f6) (a:V) (p:I) (c8:hG f p a),px f.cN f.hand.toNat l a/\hG (tM f (l,a)) p a/\ (f.cN[a]'c8.cK).2.1=0/\
   ht f=if(Dt.p7 f.dK p).2=N then(tM f (l,a),f.dE[a]'c8.O,N,0) else(mH (tM f (l,a)) a p,f.dE[a]'c8.O,L,0)):=by
 have qm:=sD.2 h;rcases F6 f.cN with⟨e,b⟩|⟨i,e,cK,g⟩
 rotate_left
 .exact .inl ⟨i,cK,g,by rw[ht,cT yL,if_pos AS]⟩
 refine .inr ?_;rcases Z_ h.ic with⟨eq,j⟩|⟨⟨l,a⟩,eq,c7⟩
 .exact .inl ⟨b,λi cK=>Zq j i cK,by rw[ht,cT yL,cT vE,eq]⟩
 refine .inr ⟨b,l,a,have⟨r,c,k,d,s⟩:=c7.out;have c8:=p_ h (b a c) c Z;have m:=h.J7 (q:=(l,a)) c7;have n:=p_ m (b a c) (by exact d) (k a c d).1;⟨f.cN[a].1,c8,c7,n,by simp_all,?_⟩⟩;have o:=c8.O;rw[ht,cT yL,cT vE,eq];simp[nC o];rw[c8.dE]
structure Act where
 kind:I
 id:I
 now:I
 body:dS
 p:e_
def jU(l:J f6)(w:V->I):Prop:=∀q:V,1<=q->q<=16->(∃i,∃cK:i<l.length,l[i].1=(q:I) /\w q=l[i].2.1) \/ ((∀i (cK:i<l.length),l[i].1≠(q:I)) /\w q=0)
def jU.set{l w w' i}{x:f6}(h:jU l w)(cK:i<l.length)(u:∀j (dL:j<l.length),l[j].1≠0->l[j].1=l[i].1->j=i)
  (f:∀q:V,1<=q->q<=16->(x.1=(q)->w' q=x.2.1) /\ (x.1≠(q)->l[i].1=(q)->w' q=0) /\ (x.1≠(q)->l[i].1≠(q)->w' q=w q)):jU (l.set i x) w':=by
 intro q Q a;have⟨g,fb,k⟩:=f q Q a
 have t:∀j (dL:j<(l.set i x).length),(l.set i x)[j]=if i=j then x else l[j]' w8:=λj dL=>by grind
 by_cases m:x.1=(q:I)
 .grind
 by_cases b:l[i].1=(q:I)
 .grind
 rcases h q Q a with⟨j,dL,c,d⟩|⟨c,d⟩
 .have n:i≠j:=λe=>b eG;refine .inl ⟨j,w8,?_,?_⟩
  .simp_all
  simp_all
 .refine .inr ⟨λj dL e=>?_,by omega⟩;grind
def jU.same{l a w}(h:jU l w)(g:a.length=l.length)(s:∀i (cK:i<l.length) (d:i<a.length),a[i].1=l[i].1/\a[i].2.1=l[i].2.1):jU a w:=by
 intro q Q b;rcases h q Q b with⟨j,f,e,c⟩|⟨e,c⟩
 .grind
 simp_all
def hG.wI{f p i j}(h:hG f p i)(a:j<f.cN.length)(e:f.cN[j].1=p):j=i:=
 h.right.wI a h.cK (by rw[e];have:=h.fA;omega) (by rw[e,h.cN])
def hG.uniq{f p i}(h:hG f p i):∀j (a:j<f.cN.length),f.cN[j].1≠0->f.cN[j].1=(f.cN[i]'h.cK).1->j=i:=λj a cW e=>h.right.wI a h.cK cW e
def jU.at{f w p i}(h:jU f.cN w)(c8:hG f p i):w p.toNat=(f.cN[i]'c8.cK).2.1:=by
 have c:=c8.fA;have a:=c8.z';have cK:=c8.cK;rcases h p.toNat R R with⟨j,b,d,e⟩|⟨d,_⟩
 .have d:f.cN[j].1=p:=by rw[d];omega
  have:=c8.wI b d;simp_all
 .exact dQ (c8.cN.trans (by omega:p=((p.toNat:V):I))) (d i c8.cK)
def F7(w:V->I)(p v:I):V->I:=λq=>if q=p.toNat then v else w q
def sE(w:V->I)(a:Act)(e:I):V->I:=
 if e≠0 then w else if a.kind=1 then F7 w a.id (w a.id.toNat+1) else if a.kind=2 then F7 w a.id (w a.id.toNat-1) else if a.kind=6 then F7 w a.p.1 1 else w
def P5{w}{p v:I}{q:V}(h:p=(q)):F7 w p v q=v:=if_pos R
def P6{w}{p v:I}{q:V}(O:0<=p)(h:p≠(q)):F7 w p v q=w q:=cT R
structure oh(f:hq)(w:V->I)(a:Act)(r:hq×I):Prop where
 fm:ew r.1
 pins:jU r.1.cN (sE w a r.2)
 id:r.2=0->a.kind=1\/a.kind=2->1<=a.id/\a.id<=16/\0<=w a.id.toNat/\w a.id.toNat<=2147483647
 dE:r.2=0->a.kind=6->1<=a.p.1/\a.p.1<=16
def oh.none{f w a e}(h:ew f)(hw:jU f.cN w)(b:e≠0):oh f w a (f,e):=by refine⟨h,?_,λh=>dQ h b,λh=>dQ h b⟩;rwa[sE,if_pos b]
def oh.Ab{f w a}(h:ew f)(hw:jU f.cN w)(k:a.kind=1):oh f w a (lN f a.id):=by
 rcases ve f a.id with e|⟨i,e,c8⟩
 .rw[lN,if_pos e];exact .none h hw e
 have cK:=c8.cK;have j:=c8.fA;have r:=oe.1 (h.ic.all i cK);have c:=hw.at c8;rw[lN,cT vE,e,gl,jT cK]
 by_cases g:2147483647<=f.cN[i].2.1
 .rw[if_pos g];exact .none h hw c1
 rw[cT g];refine⟨ew.pins c8 (oe.2 ?_) c8.cN,?_,λ_ _=>⟨c8.fA,c8.z',R,R⟩,λ_ dW=>R⟩
 .show 0<=f.cN[i].1/\f.cN[i].1<=16/\0<=f.cN[i].2.1+1/\f.cN[i].2.1+1<=2147483647;omega
 .show jU (f.cN.set i (Aa f.cN[i])) (sE w a 0);rw[sE,cT c1,if_pos k];refine hw.set cK c8.uniq λq Q d=>⟨λe=>?_,λe b=>dQ b e,λe b=>?_⟩
  .have e:=e;rw[P5 (by rwa[<-c8.cN]),c];rfl
  .rw[P6 R (by rwa[<-c8.cN])]
def oh.aop{f w a}(h:ew f)(hw:jU f.cN w)(k:a.kind=2):oh f w a (mb f a.id):=by
 rcases ve f a.id with e|⟨i,e,c8⟩
 .rw[mb,if_pos e];exact .none h hw e
 have cK:=c8.cK;have j:=c8.fA;have r:=oe.1 (h.ic.all i cK);have c:=hw.at c8;rw[mb,cT vE,e,gl,jT cK]
 by_cases g:f.cN[i].2.1=0
 .rw[if_pos g];exact .none h hw c1
 rw[cT g];refine⟨ew.pins c8 (oe.2 ?_) c8.cN,?_,λ_ _=>⟨c8.fA,c8.z',R,R⟩,λ_ dW=>R⟩
 .show 0<=f.cN[i].1/\f.cN[i].1<=16/\0<=f.cN[i].2.1-1/\f.cN[i].2.1-1<=2147483647;omega
 .show jU (f.cN.set i (CH f.cN[i])) (sE w a 0);rw[sE,cT c1,cT R,if_pos k];refine hw.set cK c8.uniq λq Q d=>⟨λe=>?_,λe b=>dQ b e,λe b=>?_⟩
  .have e:=e;rw[P5 (by rwa[<-c8.cN]),c];rfl
  .rw[P6 R (by rwa[<-c8.cN])]
def oh.write{f w a}(h:ew f)(hw:jU f.cN w)(k:a.kind=3):oh f w a (iR f a.id a.body a.now):=by
 rcases ve f a.id with e|⟨i,e,c8⟩
 .rw[iR,if_pos e];exact .none h hw e
 have cK:=c8.cK;have b:=c8.O;have r:=kJ.1 c8.wJ;rw[iR,cT (by rw[e];simp),e,gl,jT cK,nC b]
 by_cases g:f.cN[i].2.1=0
 .rw[if_pos g];exact .none h hw c1
 rw[cT g]
 by_cases g:16<a.body.size
 .rw[if_pos g];exact .none h hw c1
 rw[cT g]
 by_cases g:2147483647<=f.dE[i].2.1
 .rw[if_pos g];exact .none h hw c1
 rw[cT g]
 by_cases g:(Dt.hO f.dK a.id a.now).2≠0
 .rw[if_pos g];exact .none h hw g
 rw[cT g];have⟨c,d,_⟩:=P4 (show(Dt.hO f.dK a.id a.now).2=0 by omega);refine⟨ew.Z' c8 (kJ.2 ?_) c8.dE c d,?_,λ_ dW=>R,λ_ dW=>R⟩
 .show 1<=f.dE[i].1/\f.dE[i].1<=16/\1<=f.dE[i].2.1+1/\f.dE[i].2.1+1<=2147483647/\a.body.size<=16;omega
 .show jU f.cN (sE w a 0);rw[sE,cT c1,cT R,cT R,cT R];exact hw
def jU.rel{f w p i}(hw:jU f.cN w)(c8:hG f p i)(cW:(f.cN[i]'c8.cK).2.1=0):jU (mH f i p).cN w:=by
 have cK:=c8.cK;have c:=hw.at c8;have b:=c8.fA;refine hw.set cK c8.uniq λq Q h=>⟨λe=>?_,λe a=>?_,λ_ _=>Z⟩
 .omega
 .have:p.toNat=q:=by rw[<-c8.cN,a];exact gl q
  simp_all
def oh.drop{f w a}(h:ew f)(hw:jU f.cN w)(k:a.kind=5):oh f w a (og f a.id):=by
 rcases ve f a.id with e|⟨i,e,c8⟩
 .rw[og,if_pos e];exact .none h hw e
 have cK:=c8.cK;have r:=oe.1 (h.ic.all i cK);rw[og,cT vE,e,gl,jT cK]
 by_cases g:0<f.cN[i].2.1
 .rw[if_pos g];exact .none h hw c1
 rw[cT g];refine⟨ew.rel c8,?_,λ_ dW=>R,λ_ dW=>R⟩;show jU (mH f i a.id).cN (sE w a 0);rw[sE,cT c1,cT R,cT R,cT R];exact hw.rel c8 R
def aoq(f p now gb):((mI f p now gb).1=f/\ (mI f p now gb).2≠0) \/
  ∃(i:V) (cK:i<f.cN.length) (l:J (I×I)),f.cN[i].1=0/\gp p=N/\ew f/\pz f.cN=((i:I),N) /\Tb.ia f.eh p.1=(0,L) /\mI f p now gb=({mc f p i with dK:=l},0) /\ew {mc f p i with dK:=l} /\hG {mc f p i with dK:=l} p.1 i/\
   (gb=L->l=f.dK) /\ (gb=N->l=(Dt.hO f.dK p.1 now).1):=by
 unfold mI
 by_cases b:bad f p now
 .rw[if_pos b];simp_all
 rw[cT b];have cX:=lv λh=>b (.inl h);have M:=sD.1 cX
 have P:gp p=N:=by
  cases e:gp p with
  |true=>rfl
  |false=>exact dQ (.inr (.inl e)) b
 by_cases c:(Tb.ia f.eh p.1).2=N
 .rw[if_pos c];simp_all
 rw[cT c];have a:=Z1 (p:=p.1) (l:=f.eh) eG;rcases F6 f.cN with⟨e,n⟩|⟨i,e,cK,z⟩
 .rw[if_pos (by rw[e])];simp_all
 rw[cT (by rw[e];simp),e,gl];have⟨j,t,_⟩:=P2 M (kJ.1 P).1 (kJ.1 P).2.1 cK a;rw[cT g3]
 cases gb with
 |false=>rw[cT c1];have⟨k,m⟩:=M.P3 P cK z a M.dK λy d=>.inl d;exact .inr ⟨i,cK,f.dK,z,P,M,Z,a,Z,k,m,λ_=>Z,λh=>by cases h⟩
 |true=>
  rw[if_pos Z]
  by_cases g:(Dt.hO f.dK p.1 now).2≠0
  .rw[if_pos g];simp_all
  rw[cT g];have⟨k1,eF,_⟩:=P4 (show(Dt.hO f.dK p.1 now).2=0 by omega);have⟨k,m⟩:=M.P3 P cK z a k1 eF;exact .inr ⟨i,cK,_,z,P,M,Z,a,Z,k,m,(λh=>by cases h),λ_=>Z⟩
def oh.load{f w a}(b)(h:ew f)(hw:jU f.cN w)(k:a.kind=6):oh f w a (mI f a.p a.now b):=by
 rcases aoq f a.p a.now b with⟨s,c⟩|⟨i,cK,l,z,P,_,_,g,e,r,o,_⟩
 .have:=oh.none (a:=a) h hw c;grind
 rw[e];have m:=o.fA;refine⟨r,?_,λ_ dW=>R,λ_ _=>⟨o.fA,o.z'⟩⟩;show jU (f.cN.set i (a.p.1,1,N)) (sE w a 0);rw[sE,cT c1,cT R,cT R,if_pos k];refine hw.set cK (λj n cW e=>by omega) λq Q d=>⟨λe=>?_,λ_ c=>?_,λe _=>?_⟩
 .exact P5 e
 .omega
 .exact P6 R e
namespace Dt
open Go.Proofs Go.RowKit
def aoE(l now gD)(dw:l.length<=1000000)(cY:now<=9223372036854775807):dX cR 232 [g9 l,.int .i64 now,.int .i64 gD] (Ft (oT l now gD)):=by
 refine d6 Tryz.func232 3 Z c2 (cO ?_)
 refine d3 (λQ=>?_) λQ=>?_
 .exact dd Z (by simp[oT,Q];rfl)
 refine d3 (λc5=>?_) λc5=>?_
 .exact dd Z (by simp[oT,c5];rfl)
 refine df (tG l dw) (cO ?_)
 refine iD (λa=>?_) λa=>?_
 .exact dd Z (by simp at a;simp[oT,a];rfl)
 simp at a;have⟨e,b⟩:=tH a
 have c:oT l now gD=l.filterMap (va now gD):=by simp[oT,Q,c5,a]
 refine eZ (D:=V) (λk=>[(1,.d (.int .i64 now)),(2,.d (.int .i64 gD)),(7,.own 37),(21,.d (g9 l)),(22,.d (.int .i64 (l.map f8).length)),(23,.d (.int .i64 k))]) (λk=>[(37,.row (((l.take k).filterMap (va now gD)).map hT) 1 L)])
  (λk=>k<=l.length) (λk=>l.length-k) 0 (e3 _) (oI (.row 7 37 1) hg (dT mS eN d0)) ?_
 intro k c6
 conv=>whnf
 refine d3 (λh=>?_) λh=>?_
 .have eM:k<l.length:=by simpa using h
  have⟨f,g,i,j,m⟩:=b k eM;refine ec DD (cO ?_);refine dY (x:=f8 l[k]) iy (cO ?_);refine fC Z (c9 ?_);have n (x:J (I×I)) (o:l.take (k+1)=x):True:=trivial
  refine pp (λdz=>?_) λdz=>?_
  .have LK:=ZJ (va now gD) (l.take k);refine fV 100 100 S2 c1 c1 c1 (c9 ?_);exact⟨k+1,R,R,dZ (dT mS ⟨by rw[lX eM,Qd,jt];simp[va,dz];rfl,dU⟩ d0)⟩
  .exact⟨k+1,R,R,dZ (dT mS ⟨by rw[lX eM,Qd];simp[va,dz];rfl,dU⟩ d0)⟩
 .have:k=l.length:=by simp at h;omega
  subst this;exact dd Z (by rw[c,p9];rfl)
end Dt
namespace Dk
section
open Go.Conc Go.Proofs
set_option maxRecDepth 100000
def W_{P f dx d}(k:nk P f)(h:∀(cV:jm) (w M vs),ly M dx vs->gT P cV.main cV.F f vs w λv w'=>w'=w/\e1 M d v):dX P f dx d:=
 ⟨k,λcV w M vs c a cP=>(h cV w M vs cP).mono λv w' q=>by
  obtain⟨rfl,q⟩:=q
  exact⟨v,M,Z,⟨Z,Z,Z,fB _,λ_ _ _=>Z⟩,.refl M,a,λb o v h=>.inl h,q⟩⟩
def I_{M d1 d vs}(h:ly M [d1,d] vs):∃b v,vs=#[b,v] /\e1 M d1 b/\e1 M d v:=by
 have⟨Q,a⟩:=h
 match vs,Q with
 |⟨[x,y]⟩,_=>exact⟨x,y,Z,a 0 _ x Z Z,a 1 _ y Z Z⟩
def W'(s c w):(callFunc 166 #[.string s,.int .u8 c]).run cR w=.ok (.value (.int .i64 (kF s.data.toList c.toNat.toUInt8))) w:=by rw[I' aiY c2 c2 c2 (e:=aiZ) c2,Lib.run_indexByteString];rfl
def Xa(s c w es):(callFunc 166 #[.string s,.int .u8 c]).events cR w es=es.push ⟨.mark (.extern 166),L,N⟩:=by
 rw[Ja aiY c2 c2 c2 (e:=aiZ) c2]
 change Sem.events cR (do
  let b <-ai0 (.string s)
  let a <-ai1 (.int .u8 c)
  match (iB b.size).find? λi=>b[i]! ==a with
  |some i=>pure (goInt i)|none=>pure (goInt (-1))) w _=_
 simp[ai0,ai1,jn,hM,pk,kE];split<;>rfl
def ai2(s c w):(callFunc 128 #[.string s,.int .u8 c]).run cR w=.ok (.value (.int .i64 (wn s.data.toList c.toNat.toUInt8))) w:=by rw[I' ai3 c2 c2 c2 (e:=ai4) c2,Lib.run_countString];rfl
def ai5{P a o f fn dD ats vs v}(c:o.op=.call {callee:=.value (.func f),args:=dD,argTypes:=ats})(cU:dD.map a.eval=vs)
  (r:∀w,(callFunc f vs).run P w=.ok (.value v) w)(h:∀w es,(callFunc f vs).events P w es=es.push ⟨.mark (.extern f),L,N⟩)(w):
  (execOp a.eval o).run P w=.ok (.value v) w/\listed P fn a o w=#[]:=by
 have e:execOp a.eval o=callFunc f vs:=by have b:a.eval (.func f)=.func (.func f) #[] #[]:=Z;subst cU;simp[execOp,c,ii,b,sd,ij]
 unfold listed;rw[e];exact⟨r w,by rw[h];rfl⟩
def dF.x{main cX c3 f vs v g w}{S:dN->c'->Prop}(e:∀w,c3 w w #[])(r:∀w,(callFunc f vs).run cR w=.ok (.value v) w)(i:∀w es,(callFunc f vs).events cR w es=es.push ⟨.mark (.extern f),L,N⟩)(k:∀c0,cX w c0->dO cR main cX c3 S (put g v) c0)
 (o:(e5 g).op=.call {callee:=.value (.func f),args:=uH g,argTypes:=Ex g}:=by kernel_rfl)(y:(uH g).map (eA g).eval=vs:=by kernel_rfl)(h:it g:=by exact kA):dO cR main cX c3 S g w:=
 dO.val h λc0 a=>have⟨p,q⟩:=ai5 (fn:=g.frame.fn) o y r i c0;⟨_,c0,p,by rw[q];exact e c0,k _ a⟩
def ai6(s c):dX cR 122 [.str s,.int .u8 c] (.int .i64 (kF s.data.toList c.toNat.toUInt8)):=by
 refine W_ ⟨Tryz.f122,ai7,c2,c2⟩ λcV w M vs cP=>?_;obtain⟨e,v,rfl,Q,b⟩:=I_ cP
 cases Q;cases b
 exact qC ai7 λcs dv d=>dF.p 8 (dF.x oJ (W' s c) (Xa s c) λ_ a=>dF.p 3 (dO.rely ti.trans (d.z ⟨Z,.int _ _⟩) a))
def ai8(s):dX cR 92 [.str s,.str ⟨#[32]⟩] (.int .i64 (wn s.data.toList 32)):=by
 refine W_ ⟨Tryz.f92,ai9,c2,c2⟩ λcV w M vs cP=>?_;obtain⟨c,v,rfl,Q,b⟩:=I_ cP
 cases Q;cases b
 exact qC ai9 λcs dv d=>dF.p 26 (dF.x oJ (ai2 s 32) (λw es=>by rw[Ja ai3 c2 c2 c2 (e:=ai4) c2];rfl) λ_ a=>dF.p 3 (dO.rely ti.trans (d.z ⟨Z,.int _ _⟩) a))
end
section
open Go.Conc Go.Lib Go.Proofs
set_option maxRecDepth 100000
section
variable {P:el} {w:c'}
theorem aja(a es):(sameAddr a a).events P w es=es:=by simp[sameAddr]
theorem ajb{xW B8 j}(a)(O:P.underlying xW=U (.pointer B8))(t:P.info? B8=U j)(es):(binOp .neq xW (.pointer (U a)) (.pointer (U a))).events P w es=es:=by
 have h:∀(d:V),(n2 (d+1) xW (.pointer (U a)) (.pointer (U a))).run P w=.ok N w:=λd=>by
  simp[n2,fv O,sizeOf,typeInfo,t,ajc]
 have b:∀(d:V) (es:ea hB),(n2 (d+1) xW (.pointer (U a)) (.pointer (U a))).events P w es=es:=λd es=>by
  simp[n2,fv O,sizeOf,typeInfo,t,ajc,aja]
 simp[binOp];simp[Op.equal,Op.maxDepth,h 9999,b 9999]
theorem ajd{fS dst u e j c}(a)(b:P.underlying fS=U .unsafePointer)(cP:P.underlying dst=U (.pointer u))(d:P.info? u=U j)
  (s:w.shape? a.block=U (e,c))(h:liesAt P P.depth e (c/P.cellsOf e) a.off u 1=N)(es):
  (convert fS dst (.pointer (U a))).events P w es=es:=by
 simp[convert,fv b,fv cP,Conv.unsafePointer,Conv.seenAt,viewAt,s,Xc,h,sizeOf,typeInfo,d]
theorem aje{a:e7}{o xW t2 B8 j x y eb}(b:o.op=.binOp .neq xW x y t2)(c:a.eval x=.pointer (U eb))(d:a.eval y=.pointer (U eb))(O:P.underlying xW=U (.pointer B8))(e:P.info? B8=U j)(w):
  (execOp a.eval o).run P w=.ok (.value (.bool L)) w/\ (execOp a.eval o).events P w #[]=#[]:=by
 have Q:=run_neq_ptr_same (P:=P) w eb O e;have c5:=λes=>ajb (w:=w) eb O e es;constructor
 .simp[execOp,b,c,d,eqGuard,Q]
 .simp[execOp,b,c,d,eqGuard,Q,c5]
theorem ajf{a:e7}{o fS dst t x eb v}(b:o.op=.convert fS dst x)(c:a.eval x=.pointer (U eb))(s:P.underlying fS=U (.pointer t))(cP:P.underlying dst=U .unsafePointer)
  (z:(P.info? t).map (λi=>gV (i.size=0))=U L){w}(h:w.cell? eb=U v):(execOp a.eval o).run P w=.ok (.value (.pointer (U eb))) w/\ (execOp a.eval o).events P w #[]=#[]:=by
 have r:=run_convert_to_unsafe (P:=P) s cP z h;have e:=events_convert_to_unsafe (P:=P) s cP z h #[];constructor
 .simp[execOp,b,c,g2,r,g7,hM]
 .simp[execOp,b,c,jn,r,e,kE,pk]
theorem ajg{a:e7}{o fS dst u e j cells x eb}(b:o.op=.convert fS dst x)(c:a.eval x=.pointer (U eb))(c7:P.underlying fS=U .unsafePointer)(cP:P.underlying dst=U (.pointer u))(d:P.info? u=U j)
  {w}(f:w.shape? eb.block=U (e,cells))(g:liesAt P P.depth e (cells/P.cellsOf e) eb.off u 1=N):(execOp a.eval o).run P w=.ok (.value (.pointer (U eb))) w/\ (execOp a.eval o).events P w #[]=#[]:=by
 have dI:=run_from_unsafe (P:=P) w eb c7 cP d f g;have he:=ajd (P:=P) (w:=w) eb c7 cP d f g #[];constructor
 .simp[execOp,b,c,g2,dI,g7,hM]
 .simp[execOp,b,c,jn,dI,he,kE,pk]
theorem ajh{a:e7}{o t x y eb v old w}(d:o.op=.store t x y)(f:a.eval x=.pointer (U eb))(i:a.eval y=v)(g:(sizeOf t).run P w=.ok 1 w)(Q:v.oneCell'=N)(cU:v.cells=#[v])(c:w.cell? eb=U old)(k:w.frozen? eb=L):
  (execOp a.eval o).run P w=.ok .skip (w.setCell eb v) /\ ∀e∈(execOp a.eval o).events P w #[],e=⟨.cell eb,N,L⟩:=by
 have b:eb.add 0=eb:=by simp[oN]
 have r:(store (eb.add 0) v).run P w=.ok () (w.setCell eb v):=by rw[b,Ii P w _ v _ Q,c];simp[k]
 have j:∀es,(store (eb.add 0) v).events P w es=es.push ⟨.cell eb,N,L⟩:=λes=>by
  rw[b,Ij P w es _ v _ Q,c];grind
 constructor
 .simp[execOp,d,f,i,zv,lA,storeVar,g,cU,storeCells,r]
 .intro e h
  have l:(sizeOf t).events P w #[]=#[]:=by
   have s:∀es,(typeInfo t).events P w es=es:=λes=>by
    simp[typeInfo]
    cases P.info? t<;>simp
   simp[sizeOf]
  simpa[execOp,d,f,i,zv,lA,storeVar,g,cU,storeCells,r,j,l]using h
end
end
section
open Go.Conc Go.Lib Go.Proofs
set_option maxRecDepth 100000
structure h5(F S:V->Prop)(w w':c'):Prop where
 os:w'.os=w.os
 tape:w'.tape=w.tape
 output:w'.output=w.output
 size:w.heap.size<=w'.heap.size
 block:∀k,k<w.heap.size->¬F k->¬S k->w'.heap[k]?=w.heap[k]?
theorem h5.refl{F S}(w):h5 F S w w:=⟨Z,Z,Z,fB _,λ_ _ _ _=>Z⟩
theorem h5.trans{F S a b c}(h:h5 F S a b)(d:h5 F S b c):h5 F S a c:=
 ⟨d.os.trans h.os,d.tape.trans h.tape,d.output.trans h.output,fJ h.size d.size,λk q e f=>(d.block k (ro q h.size) e f).trans (h.block k q e f)⟩
theorem h5.so{F S w w'}(h:eX F w w'):h5 F S w w':=⟨h.os,h.tape,h.output,xy h.size.symm,λk _ q _=>h.block k q⟩
theorem h5.mono{F S a w w'}(h:h5 F S w w')(s:∀k,k<w.heap.size->S k->a k):h5 F a w w':=⟨h.os,h.tape,h.output,h.size,λk b c d=>h.block k b c λq=>d (s k b q)⟩
theorem h5.Xd{F r w w'}(h:w.grownBy w' r):h5 F (λk=>U k=r) w w':=⟨h.os,h.tape,h.output,h.size,λk q _ a=>h.block k q a⟩
theorem uX{w:c'}{b o cs T f}(h:w.heap[b]?=U (.cells cs T f))(v):(w.setCell ⟨b,o,cM⟩ v).heap[b]?=U (.cells (cs.setIfInBounds o v) T f):=by simp[Tv,UX,h]
theorem tw{w:c'}{b o k}(h:k≠b)(v):(w.setCell ⟨b,o,cM⟩ v).heap[k]?=w.heap[k]?:=by simp[Tv,UX,Ne.symm h]
theorem h5.Jb{F w b o}(v):h5 F (λk=>k=b) w (w.setCell ⟨b,o,cM⟩ v):=
 ⟨rfl,rfl,rfl,LM,λk _ _ q=>tw q v⟩
theorem Fp{F w b o}(a:¬F b)(v):oC F w (w.setCell ⟨b,o,cM⟩ v):=
 ⟨rfl,rfl,rfl,LM,λk q=>tw (w:=w) (λe:k=b=>a (by simp_all)) v⟩
theorem Xe{F w es}(h:es=#[]):i3 F w w es:=h▸.idle F w
theorem Ow{P fn a o w}(h:(execOp a.eval o).events P w #[]=#[]):listed P fn a o w=#[]:=by unfold listed;rw[h,Bu]
theorem Xf{F b o}(a:¬F b){es}(h:∀e∈es,e=⟨.cell ⟨b,o,cM⟩,L,L⟩)(w):i3 F w w es:=⟨.refl _ _,λe c=>by rw[h e c];exact⟨Z,a⟩⟩
theorem aji{F w b o}(a:¬F b)(v){es}(h:∀e∈es,e=⟨.cell ⟨b,o,cM⟩,N,L⟩):i3 F w (w.setCell ⟨b,o,cM⟩ v) es:=⟨Fp a v,λe c=>by rw[h e c];exact⟨Z,a⟩⟩
noncomputable def ajj:TypeInfo:=(cR.info? 52).getD default
theorem Xg:cR.info? 52=U ajj:=c2
theorem Ox:cR.underlying 50=U (.pointer 52):=c2
theorem Xh:cR.underlying 78=U .unsafePointer:=c2
abbrev eV(B:V):dp:=.pointer (U ⟨B,0,cM⟩)
theorem m5{w:c'}{b o cs T f x}(h:w.heap[b]?=U (.cells cs T f))(a:cs[o]?=U x):w.cell? ⟨b,o,cM⟩=U x:=by rwa[si h]
theorem ajk{w:c'}{b x y T f}(h:w.heap[b]?=U (.cells #[x,y] T f)):w.shape? b=U (T,2):=by simp[Fq,h]
section
variable {main:dh} {F:V->Prop} {B b:V} {u v:dp} {w:c'} {dv:dN->c'->Prop} {g:dN} {a:ea dp} {T:eH}
theorem dF.wo(z:V)(v)(r:∀c0,eX F w c0->(execOp (eA g).eval (e5 g)).run cR c0=.ok (.value v) c0/\ (execOp (eA g).eval (e5 g)).events cR c0 #[]=#[])(k:∀c0,eX F w c0->dF main F dv (e6 z (f3 g v)) c0)(h:l3 g:=by exact sf)(p:jN cR main (f3 g v) (e6 z (f3 g v)):=by exact oL):dF main F dv g w:=
 dO.zf h λc0 q=>⟨_,c0,(r c0 q).1,Xe (Ow (r c0 q).2),dO.pure ti.trans oJ p (k _ q)⟩
theorem dF.eD(z off:V)(n:¬F b)(c:∀c0,eX F w c0->c0.cell? ⟨b,off,cM⟩=U v)(k:∀c0,eX F w c0->dF main F dv (e6 z (f3 g v)) c0)(o:(e5 g).op=.load (oK g) (pg g):=by kernel_rfl)(j:(eA g).eval (pg g)=.pointer (U ⟨b,off,cM⟩):=by kernel_rfl)(t:∀w,(isAgg (oK g)).run cR w=.ok L w:=by intro w;kernel_rfl)
 (h:l3 g:=by exact sf)(p:jN cR main (f3 g v) (e6 z (f3 g v)):=by exact oL):dF main F dv g w:=
 dO.zf h λc0 r=>have⟨x,y⟩:=M4 o j t (c c0 r);⟨_,c0,x,Xf n (λe h=>y e (mem_listed h)) c0,dO.pure ti.trans oJ p (k _ r)⟩
theorem dF.s1(z off v)(n:¬F b)(c:∀c0,eX F w c0->c0.heap[b]?=U (.cells a T (0,0)))(k:∀c0,eX F w c0->dF main F dv (e6 z (f3 g undef)) (c0.setCell ⟨b,off,cM⟩ v))(d:a[off]?=U u:=by rfl)(Q:v.oneCell'=N:=by rfl)(c5:v.cells=#[v]:=by rfl)(o:(e5 g).op=.store (oK g) (pg g) (xv g):=by kernel_rfl)
 (j:(eA g).eval (pg g)=.pointer (U ⟨b,off,cM⟩):=by kernel_rfl)(y:(eA g).eval (xv g)=v:=by kernel_rfl)(t:∀w,(sizeOf (oK g)).run cR w=.ok 1 w:=by intro w;kernel_rfl)(h:l3 g:=by exact sf)(p:jN cR main (f3 g undef) (e6 z (f3 g undef)):=by exact oL):dF main F dv g w:=
 dO.Un h λw1 r=>have c:=c w1 r;have⟨x,f⟩:=ajh o j y (t w1) Q c5 (m5 c d) (frozen_of_heap c off);⟨_,x,aji n _ λe h=>f e (mem_listed h),dO.pure ti.trans oJ p (k _ r)⟩
theorem Oy{p}(O:p=.pointer cM\/p=eV B)(a:¬F B)(h:w.heap[B]?=U (.cells #[p,v] 52 (0,0))):
  gT cR main F 45 #[eV B] w λr w'=>r=.tuple #[] /\w'.heap[B]?=U (.cells #[eV B,v] 52 (0,0)) /\h5 F (λk=>k=B) w w':=by
 have st:∀c0,eX F w c0->c0.heap[B]?=U (.cells #[p,v] 52 (0,0)):=λ_ r=>(r.block _ a).trans h
 refine qC Tryz.func45 λcs dv l=>dF.p 5 ?_;rcases O with rfl|rfl
 .refine dF.eD 6 0 a (λ_ r=>m5 (st _ r) Z) λw r=>?_;refine dF.wo 0 (eV B) (λ_ q=>ajf (fS:=50) (dst:=78) (t:=52) (x:=.tmp 8) c2 c2 Ox Xh c2 (m5 (st _ (r.trans q)) Z)) λw q=>?_;have r:=r.trans q
  refine dF.x (f:=64) (vs:=#[eV B]) (v:=eV B) oJ (λw=>by rw[I' ajl c2 c2 c2 (e:=ajm) c2];rfl) (λw es=>by rw[Ja ajl c2 c2 c2 (e:=ajm) c2];rfl) λw q=>?_;have r:=r.trans q
  refine dF.wo 2 (eV B) (λ_ q=>ajg (fS:=78) (dst:=50) (u:=52) (x:=.tmp 10) c2 c2 Xh Ox Xg (ajk (st _ (r.trans q))) c2) λw q=>?_;have r:=r.trans q
  exact dF.s1 2 0 (eV B) a (λ_ q=>st _ (r.trans q)) λw q=>have r:=r.trans q;l.z ⟨Z,uX (st _ r) _,(h5.so r).trans (.Jb _)⟩
 .refine dF.eD 8 0 a (λ_ r=>m5 (st _ r) Z) λw r=>?_;refine dF.eD 1 0 a (λ_ q=>m5 (st _ (r.trans q)) Z) λw q=>?_;have r:=r.trans q
  exact dF.wo 4 (.bool L) (λw q=>aje (eb:=⟨B,0,cM⟩) (xW:=50) (t2:=50) (B8:=52) (x:=.tmp 17) (y:=.tmp 18) c2 c2 c2 Ox Xg w) λw q=>have r:=r.trans q;l.z ⟨Z,st _ r,.so r⟩
end
end
section
open Go.Conc Go.Lib Go.Proofs
set_option maxRecDepth 100000
theorem pi.h2{cN w w' v n dD}(h:pi cN w v n dD)(b:∀k,v.ownBlock=U k->k<w.heap.size->w'.heap[k]?=w.heap[k]?):pi cN w' v n dD:=by
 cases cN
 .refine⟨h.1,?_⟩;rcases h.2 with h|⟨g,cap,c,rfl,Q,a,eS⟩
  .grind
  .exact .inr ⟨g,cap,c,Z,Q,(b g Z (kv.1 a).1).trans a,eS⟩
 .refine⟨h.1,?_⟩;rcases h.2 with h|⟨g,cap,c,f,rfl,Q,a,eS⟩
  .grind
  .exact .inr ⟨g,cap,c,f,Z,Q,(b g Z (kv.1 a).1).trans a,eS⟩
theorem pi.lt{cN w v n dD}(h:pi cN w v n dD):∀k,v.ownBlock=U k->k<w.heap.size:=λk a=>(h.f.lt k a).2
theorem pi.one{cN w v n dD}(h:pi cN w v n dD):v.oneCell'=N/\v.cells=#[v]:=by rcases h.f.2 with⟨rfl,_⟩|⟨g,cap,c,f,rfl,_⟩<;>exact hg
def h_(cN:dh)(B:V)(p:dp)(r:dB V)(l:J hj)(w:c'):Prop:=∃v,w.heap[B]?=U (.cells #[p,v] 52 (0,0)) /\pi cN w v l.length (byteCells l) /\v.ownBlock=r
theorem h_.ne{cN B p r l w}(h:h_ cN B p r l w):r≠U B:=by obtain⟨v,Q,c5,rfl⟩:=h;exact Xi c5.f Q c1
theorem h_.lt{cN B p r l w}(h:h_ cN B p r l w):B<w.heap.size/\ ∀k,r=U k->k<w.heap.size:=by obtain⟨v,Q,a,rfl⟩:=h;exact⟨(kv.1 Q).1,a.lt⟩
theorem h_.h2{cN B p r l w w'}(h:h_ cN B p r l w)(b:w'.heap[B]?=w.heap[B]?)(d:∀k,r=U k->w'.heap[k]?=w.heap[k]?):h_ cN B p r l w':=by have⟨v,Q,a,eS⟩:=h;exact⟨v,b.trans Q,a.h2 λk c _=>d k (eS▸c),eS⟩
theorem ajn{a:e7}{o x y t u v s fN w w'}(h:o.op=.call {callee:=.builtin .append,args:=#[x,y],argTypes:=#[t,u]})(b:a.eval x=v)(c:a.eval y=s)
  (r:(h9 #[t,u] o.type #[v,s]).run cR w=.ok fN w'):(execOp a.eval o).run cR w=.ok (.value fN) w'/\ (execOp a.eval o).events cR w #[]=(h9 #[t,u] o.type #[v,s]).events cR w #[]:=by
 constructor
 .unfold execOp;simp[h,ii,ij,builtin,g2,hM,g7,zH,kD,qK,b,c,r]
 .unfold execOp;simp[h,ii,ij,builtin,g2,jn,hM,pk,g7,kE,zH,kD,qK,b,c,r]
theorem Xj{F r w w'}(h:w.grownBy w' r)(a:∀k,r=U k->¬F k)(b:∀k,w.heap.size<=k->¬F k):oC F w w':=
 ⟨h.os,h.tape,h.output,h.size,λk q=>h.block k (Oz λe=>b k e q) λe=>a k e.symm q⟩
theorem ajo{F r e}(d:∀k,r=U k->¬F k)(b:Nz r e):i2 F e:=by
 rcases b with⟨Q,eb,f,eS⟩|⟨m,rfl,cY⟩
 .unfold i2;simp_all
 .unfold xE at cY;subst cY;trivial
section
variable {main:dh} {F:V->Prop} {B:V} {v fN p:dp} {w:c'} {s:dS} {cN:dh} {r:dB V} {l:J hj} {g:dN} {dv:dN->c'->Prop}
theorem dF.Xk{u s}(x y z)(r:∀c0 dm,eX F w c0->∃fN w',(h9 #[26,u] dm #[v,s]).run cR c0=.ok fN w'/\oC F c0 w'/\ (∀e∈(h9 #[26,u] dm #[v,s]).events cR c0 #[],i2 F e) /\dF main F dv (e6 z (f3 g fN)) w')
 (o:(e5 g).op=.call {callee:=.builtin .append,args:=#[x,y],argTypes:=#[26,u]}:=by kernel_rfl)(b:(eA g).eval x=v:=by kernel_rfl)(c:(eA g).eval y=s:=by kernel_rfl)(h:l3 g:=by exact sf)(p:∀v,jN cR main (f3 g v) (e6 z (f3 g v)):=by intro v;exact oL):dF main F dv g w:=
 dO.zf h λc0 q=>have⟨fN,w',i,j,k,l⟩:=r c0 _ q;have⟨m,n⟩:=ajn o b c i;⟨fN,w',m,⟨j,λe d=>k e (n▸mem_listed d)⟩,dO.pure ti.trans oJ (p fN) l⟩
theorem ajp(l s):byteCells l++strCells s=byteCells (l++s.data.toList):=by rw[ajq];rfl
theorem OA(b:¬F B)(dI:∀k,r=U k->¬F k)(C:∀k,w.heap.size<=k->¬F k)(O:p=.pointer cM\/p=eV B)(h:h_ cN B p r l w)(S:l.length+s.size<=1000000000000):
  gT cR main F 21 #[eV B,.string s] w λq w'=>q=.tuple #[.int .i64 s.size,.nilIface] /\ ∃hZ,h_ cN B (eV B) hZ (l++s.data.toList) w'/\ (hZ=r\/ ∃k,hZ=U k/\w.heap.size<=k) /\ (r=cM->s.size=0->hZ=cM) /\h5 F (λk=>k=B\/r=U k) w w':=by
 have t:=h.ne;obtain⟨v,Q,c5,rfl⟩:=h;have st:∀ {c0 d:c'} {x},c0.heap[B]?=x->eX F c0 d->d.heap[B]?=x:=λh r=>(r.block _ b).trans h
 refine qC Tryz.func21 λcs dv dg=>dF.p 8 (dF.k (Oy O b Q) λq c0 D=>?_);obtain⟨rfl,g,i⟩:=D;have E:=c5.h2 λk c6 c=>i.block k c (dI k c6) λe=>t (e▸c6)
 refine dF.p 7 ?_;refine dF.eD 1 1 b (λ_ r=>m5 (st g r) Z) λd G=>?_;refine dF.Xk (.tmp 12) (.tmp 13) 2 (u:=9) (v:=v) (s:=.string s) λH dm a=>?_;have a:=G.trans a;have y:=E.h2 λk c6 _=>a.block k (dI k c6)
 have T:w.heap.size<=H.heap.size:=by rw[a.size];exact i.size
 have⟨fN,w',I,fb,j,A,J⟩:=agZ y s dm (by unfold maxLen;omega) R;refine⟨fN,w',I,Xj j dI (λk c6=>C k R),λe he=>ajo dI (ag1 y.f s _ (by unfold maxLen;omega) R e he),?_⟩;have c:=(kv.1 (st g a)).1;have m:=(j.block B c (λe=>t e.symm)).trans (st g a)
 have K:∀k,fN.ownBlock=U k->¬F k:=λk c6=>by
  rcases A with e|⟨fr,n,M⟩
  .exact dI k (e▸c6)
  .rw[n]at c6;cases c6;grind
 refine dF.s1 9 1 fN b (λ_ q=>st m q) (λV o=>?_) (Q:=fb.one.1) (c5:=fb.one.2);have hb:=st m o;have P:=Xi fb.f m c1;refine dg.z ⟨Z,fN.ownBlock,⟨fN,uX hb _,?_,Z⟩,?_,J,?_⟩
 .rw[ajp]at fb;rw[kG,m6];exact fb.h2 λk c6 c=>(tw (λe:k=B=>P (by rwa[<-e])) _).trans (o.block k (K k c6))
 .exact A.imp id λ⟨k,n,M⟩=>⟨k,n,R⟩
 .refine(i.mono λk _ e=>.inl e).trans ((h5.so a).trans (((h5.Xd j).mono λk _ e=>.inr e.symm).trans ((h5.so o).trans ((h5.Jb _).mono λk _ e=>.inl e))))
end
end
section
open Go.Conc Go.Lib Go.Proofs
set_option maxRecDepth 100000
def ajr{w:c'}{v:dp}{n:V}{dD:J dp}(h:w.ownsRow 0 5 1 v n dD)(dm:eH){a:gP}{x:dp}(G:w.cell? a=U x)(Q:x.oneCell'=N)(y:n+1<=1000000000000):
  ∃fN w',(h9 #[26,26] dm #[v,.slice (U a) 1 1]).run cR w=.ok fN w'/\w'.ownsRow 0 5 1 fN (n+1) (dD++[x])/\w.grownBy w' v.ownBlock/\Vb w v fN:=by
 have s:∀j u,[x][j]?=U u->w.cell? (a.add j)=U u:=λj u d=>by
  cases j with
  |zero=>
   have e:a.add 0=a:=by simp[oN]
   simp_all
  |succ j=>simp at d
 have b:∀u∈[x],u.oneCell'=N:=by intro u d;simp at d;rw[d];exact Q
 have z:(Value.int B9 0).cells.size=1:=Z;rcases h.2 with⟨rfl,rfl⟩|⟨g,cap,i,rfl,A,E,F,B,C,t⟩
 .have m:dD=[]:=by have:=h.1;simpa using this
  subst m;obtain⟨fN,w',c,f,q,_⟩:=ajs (P:=cR) w w.heap.size 26 dm 5 nr (.int .u8 0) 1 1 n4 pj tp n3 to z c1 (.slice cM 0 0) 0 [] (Nw _ _ _ _) a 1 1 [x] Z s b (by unfold maxLen;omega) R (fB _);refine⟨fN,w',c,ownsRow.base f,q,?_⟩
  cases cU:fN.ownBlock with
  |none=>exact .inl (by rw[cU];rfl)
  |some k=>exact .inr ⟨k,cU,(f.lt k cU).1⟩
 .obtain⟨fN,w',c,f,q,_⟩:=ajs (P:=cR) w 0 26 dm 5 nr (.int .u8 0) 1 1 n4 pj tp n3 to z c1 _ n dD h a 1 1 [x] Z s b (by unfold maxLen;omega) R (e3 _)
  refine⟨fN,w',c,f,q,?_⟩
  by_cases r:n+1<=cap
  .have l:=run_append_room (P:=cR) w 26 dm 5 nr n4 pj g n cap i E a 1 1 [x] (by rw[n3];rfl) s b r (by rw[n3];simp;omega)
   rw[l]at c
   cases c
   exact .inl Z
  .have o:∀j u,dD[j]?=U u->w.cell? ((⟨g,0,cM⟩:gP).add j)=U u:=h.cells (g:=g) Z
   have l:=run_append_grow (P:=cR) w 26 dm 5 nr (.int .u8 0) n4 pj tp ⟨g,0,cM⟩ n cap dD (by rw[n3];exact h.1) o a 1 1 [x] (by rw[n3];rfl) s R R (by rw[to];exact Ny R R);rw[l]at c
   cases c
   exact .inr ⟨_,Z,fB _⟩
def Jc(b:V)(r:dB V)(e:hB):Prop:=(e.sync=L/\ ∃eb,e.loc=.cell eb/\ (eb.block=b\/U eb.block=r)) \/ ∃m,e=⟨.mark m,L,N⟩ /\xE m
def ajt{w:c'}{v:dp}{n:V}{dD:J dp}(o:w.ownsRow 0 5 1 v n dD)(dm:eH){a:gP}{x:dp}(dj:w.cell? a=U x)(Q:x.oneCell'=N)(F:n+1<=1000000000000):
  ∀du∈(h9 #[26,26] dm #[v,.slice (U a) 1 1]).events cR w #[],Jc a.block v.ownBlock du:=by
 have i:∀e∈(#[]:ea hB),Jc a.block v.ownBlock e:=by intro e A;simp at A
 have s:∀j u,[x][j]?=U u->w.cell? (a.add j)=U u:=λj u t=>by
  cases j with
  |zero=>
   have e:a.add 0=a:=by simp[oN]
   simp_all
  |succ j=>simp at t
 have y:∀u∈[x],u.oneCell'=N:=by intro u t;simp at t;rw[t];exact Q
 have fS:∀(w':c'),(∀eb,w'.cell? eb=w.cell? eb)->∀es,∀du∈(k_ 1 1 (.slice (U a) 1 1)).events cR w' es,du∈es \/ Jc a.block v.ownBlock du:=λw' cL es du A=>by
  rcases EV (a:=U a) rfl (λb e j cV=>by simp_all) du A with h|⟨q,eb,k,p⟩
  .grind
  .exact .inr (.inl ⟨q,eb,k,.inl (by simpa[Nx]using p)⟩)
 intro du c;rcases o.2 with⟨rfl,rfl⟩|⟨g,cap,l,rfl,G,dr,K,H,z,C⟩
 .have f:¬ (9223372036854775807<((1:V):I)):=R
  have d:¬ (281474976710656<wc 1 0*nr.bytes):=by rw[ag2 R,to];omega
  have m:=Iv (P:=cR) w.drew 1 1 a 1 1 [x] Z (by assumption);simp[h9,fv n4,sizeOf,typeInfo,zeroValue,pj,n3,tp,pZ,f,d,un,ag3,m,newRow]at c;rcases fS w.drew (λ_=>Z) _ du c with h|h
  .rcases EV (a:=cM) rfl (λb e=>rZ) du h with h|⟨q,eb,k,p⟩
   .exact(BP _ _ _ du h).elim (i du) .inr
   .exact .inl ⟨q,eb,k,.inr p⟩
  .exact h
 .have holds:∀j u,dD[j]?=U u->w.cell? ((⟨g,0,cM⟩:gP).add j)=U u:=o.cells (g:=g) Z
  have E:l.size=cap:=by simpa using z
  have M:dD.length=n:=by simpa using o.1
  by_cases r:n+1<=cap
  .have m:=Iv (P:=cR) w 1 1 a 1 1 [x] Z s
   simp[h9,fv n4,sizeOf,typeInfo,pj,n3,pZ,r,m,ag4]at c;rcases NA g n 5 (0,0) [x] 0 l w _ dr dt (by simp;omega) y du c with h|⟨q,eb,k,p⟩
   .grind
   .exact .inl ⟨q,eb,k,.inr (by simp[Nx,p])⟩
  .have f:¬ (9223372036854775807<((n:I)+1)):=R
   have d:¬ (281474976710656<wc (n+1) cap*nr.bytes):=by have:=Ny (need:=n+1) (old:=cap) (bytes:=nr.bytes) R (by rw[to];omega);omega
   have m:=Iv (P:=cR) w.drew 1 1 a 1 1 [x] Z (by assumption);have B:=Iv (P:=cR) w.drew 1 n ⟨g,0,cM⟩ n cap dD R S_;simp[h9,fv n4,sizeOf,typeInfo,zeroValue,pj,n3,tp,pZ,r,f,d,un,m,B,newRow]at c;rcases fS w.drew (λ_=>Z) _ du c with h|h
   .rcases EV (a:=U ⟨g,0,cM⟩) rfl (λb e j cV=>by cases e;exact isSome_of_list S_ R) du h with h|⟨q,eb,k,p⟩
    .exact(BP _ _ _ du h).elim (i du) .inr
    .exact .inl ⟨q,eb,k,.inr p⟩
   .exact h
end
section
open Go.Conc Go.Lib Go.Proofs
set_option maxRecDepth 100000
section
variable {main:dh} {F:V->Prop} {B:V} {v p:dp} {w:c'} {c:hj} {r:dB V} {l:J hj} {g:dN} {dv:dN->c'->Prop}
theorem xX(w:c')(o){k}(h:k<w.heap.size):(w.alloc o).heap[k]?=w.heap[k]?:=Xl w o h
theorem B_{F w}(a:∀k,w.heap.size<=k->¬F k)(o):oC F w (w.alloc o):=⟨Z,Z,Z,dt,λk q=>Xl w o (Oz λe=>a k e q)⟩
theorem aju{F S}(w o):h5 F S w (w.alloc o):=⟨Z,Z,Z,dt,λk q _ _=>Xl w o q⟩
theorem Jd(w:c')(o):(w.alloc o).heap.size=w.heap.size+1:=dt
theorem ajv{b r e}(i:¬F b)(f:∀k,r=U k->¬F k)(c:Jc b r e):i2 F e:=by
 rcases c with⟨Q,eb,g,eS⟩|⟨m,rfl,cY⟩
 .unfold i2;grind
 .unfold xE at cY;subst cY;trivial
theorem dF.m7(z:V)(o)(v:V->dp)(n:∀k,w.heap.size<=k->¬F k)(k:∀c0,eX F w c0->dF main F dv (e6 z (f3 g (v c0.heap.size))) (c0.alloc o))(r:∀w,(execOp (eA g).eval (e5 g)).run cR w=.ok (.value (v w.heap.size)) (w.alloc o):=by intro w;kernel_rfl)(e:∀w,(execOp (eA g).eval (e5 g)).events cR w #[]=#[]:=by intro w;kernel_rfl)
 (h:l3 g:=by exact sf)(p:∀n,jN cR main (f3 g (v n)) (e6 z (f3 g (v n))):=by intro n;exact oL):dF main F dv g w:=
 dO.zf h λw1 q=>⟨_,_,r w1,by rw[Ow (e w1)];exact⟨B_ (λk a=>n k (q.size▸a)) o,dt⟩,dO.pure ti.trans oJ (p _) (k _ q)⟩
theorem ajw(l c):byteCells l++[.int .u8 c.toNat]=byteCells (l++[c]):=by rw[ajq];rfl
theorem Xm(m:¬F B)(dI:∀k,r=U k->¬F k)(o:∀k,w.heap.size<=k->¬F k)(O:p=.pointer cM\/p=eV B)(h:h_ L B p r l w)(H:l.length+1<=1000000000000):
  gT cR main F 23 #[eV B,.int .u8 c.toNat] w λq w'=>q=.nilIface/\ ∃hZ,h_ L B (eV B) hZ (l++[c]) w'/\ (hZ=r\/ ∃k,hZ=U k/\w.heap.size<=k) /\h5 F (λk=>k=B\/r=U k) w w':=by
 have I:=h.ne;obtain⟨v,Q,c5,rfl⟩:=h;have st:∀ {c0 y:c'} {x},c0.heap[B]?=x->eX F c0 y->y.heap[B]?=x:=λh r=>(r.block _ m).trans h
 refine qC Tryz.func23 λcs dv dg=>dF.p 7 (dF.k (Oy O m Q) λq c0 V=>?_);obtain⟨rfl,A,t⟩:=V;have W:=c5.h2 λk c6 g=>t.block k g (dI k c6) λe=>I (e▸c6)
 refine dF.p 7 ?_;refine dF.eD 1 1 m (λ_ r=>m5 (st A r) Z) λy J=>?_;refine dF.m7 0 (.cells #[.int .u8 c.toNat] 5) (λn=>.slice (U ⟨n,0,cM⟩) 1 1) (λk q=>o k (by rw[J.size]at q;exact fJ t.size q)) λb d=>?_;have d:=J.trans d;have X:=W.h2 λk c6 _=>d.block k (dI k c6)
 have ag:w.heap.size<=b.heap.size:=by rw[d.size];exact t.size
 have Y:∀k,b.heap.size<=k->¬F k:=λk c6=>o k R;have c7:=Y _ (fB _);have aa:pi L (b.alloc (.cells #[.int .u8 c.toNat] 5)) v l.length (byteCells l):=X.h2 λk c6 g=>xX _ _ g;have K:=(xX b (.cells #[.int .u8 c.toNat] 5) (kv.1 (st A d)).1).trans (st A d);have ab:=Fr b (.cells #[.int .u8 c.toNat] 5)
 refine dF.Xk (.tmp 11) (.tmp 13) 2 (u:=26) (v:=v) (s:=.slice (U ⟨b.heap.size,0,cM⟩) 1 1) λM dm i=>?_;have P:M.ownsRow 0 5 1 v l.length (byteCells l):=aa.h2 λk c6 _=>i.block k (dI k c6);have S:=(i.block _ c7).trans ab
 have ah:M.heap.size=b.heap.size+1:=by rw[i.size,Jd]
 have⟨fN,w',ac,fb,C,T⟩:=ajr P dm (a:=⟨b.heap.size,0,cM⟩) (m5 S Z) Z H;refine⟨fN,w',ac,Xj C dI (λk c6=>o k R),λe he=>ajv c7 dI (ajt (a:=⟨b.heap.size,0,cM⟩) P _ (m5 S Z) Z H e he),?_⟩;have g:=(kv.1 (st K i)).1;have D:=(C.block B g (λe=>I e.symm)).trans (st K i)
 have ad:∀k,fN.ownBlock=U k->¬F k:=λk c6=>by
  rcases T with e|⟨fr,E,ae⟩
  .exact dI k (e▸c6)
  .rw[E]at c6;cases c6;exact o _ R
 have j:pi L w' fN (l.length+1) (byteCells l++[.int .u8 c.toNat]):=fb;refine dF.s1 6 1 fN m (λ_ q=>st D q) (λai G=>?_) (Q:=j.one.1) (c5:=j.one.2);have hb:=st D G;have af:=Xi j.f D c1;refine dg.z ⟨Z,fN.ownBlock,⟨fN,uX hb _,?_,Z⟩,?_,?_⟩
 .rw[ajw]at j;rw[kG];exact j.h2 λk c6 g=>(tw (λe:k=B=>af (by rwa[<-e])) _).trans (G.block k (ad k c6))
 .exact T.imp id λ⟨k,E,ae⟩=>⟨k,E,R⟩
 .refine(t.mono λk _ e=>.inl e).trans ((h5.so d).trans ((aju _ _).trans ((h5.so i).trans (((h5.Xd C).mono λk _ e=>.inr e.symm).trans ((h5.so G).trans ((h5.Jb _).mono λk _ e=>.inl e))))))
end
end
section
open Go.Conc Go.Lib Go.Proofs
set_option maxRecDepth 100000
abbrev gO(main:dh)(F:V->Prop)(dv:dN->c'->Prop)(g:dN)(S:c'->Prop):=AnyCH cR (eX F) (i3 F) g.frame.fn .any (jO g) (λe b x=>e=.normal/\ ∀c,eX F x c->dF main F dv (G (g.frame.at b g.frame.todo.tail) g.callers) c) S
def oc(g:dN)(i:V):Oper:=(jO g)[i]?.getD default
def Xn(o:Oper):eH:=match o.op with
 | .load t _=>t
 |_=>0
def Xo(o:Oper):Operand:=match o.op with
 | .load _ x=>x
 |_=>.tmp 0
section
variable {main:dh} {F:V->Prop} {dv:dN->c'->Prop} {g:dN} {w:c'} {S:c'->Prop} {n:V} {l:ea dh} {a:e7}
theorem Fs{F es}(h:es=#[]):∀e∈es,i2 F e:=by grind
theorem dF.d(n)(S)(m:cR.follows .mixedOrders=N)(f:∀c0,eX F w c0->gO main F dv g S n (Array.replicate n L) (eA g) c0)(d:g=G (g.frame.at (eA g) (.code (.region (H0 g) (jO g) N)::g.frame.todo.tail)) g.callers:=by kernel_rfl)(c6:(g.frame.kind==ze)=L:=by kernel_rfl)(cY:(jO g).size=n:=by kernel_rfl):dF main F dv g w:=by
 have y:(Code.region (H0 g) (jO g) N).wpC cR main (eX F) (i3 F) g.frame.fn ((jO g).size+1+1) (λe b x=>e=.normal/\ ∀c,eX F x c->dF main F dv (G (g.frame.at b g.frame.todo.tail) g.callers) c) (eA g) w:=
  wpC_region_held ti agc m λc0 a=>by
   have:=f _ (a.trans (.drawn F c0 (c0.drawn+1)))
   subst cY;exact this
 rw[d]
 have:=y g.frame g.frame.todo.tail g.callers (λg' w'=>dF main F dv g' w') 0 Z uc λe b x h=>by
  obtain⟨rfl,h⟩:=h
  exact .stop h
 exact(dO.r3 this).bind (eX.refl F) λg' w' h=>h
theorem gO.t{fN}(i:V)(v:dp)(h:(∀x y,S x->eX F x y->S y)/\S w)(k:gO main F dv g S n (l.setIfInBounds i N) (a.put (oc g i).dst v) w)(e:fN=v:=by rfl)(cU:∀w,S w->(execOp a.eval (oc g i)).run cR w=.ok (.value fN) w/\ ∀e∈(execOp a.eval (oc g i)).events cR w #[],i2 F e:=by intro w _;exact⟨by kernel_rfl,Fs c2⟩)
 (s:M6 (jO g)=N:=by kernel_rfl)(cK:(jO g)[i]?=U (oc g i):=by kernel_rfl)(c:M5 .any (jO g) l i=N:=by kernel_rfl)(j:(ms .any (jO g) l).contains i=N:=by kernel_rfl)(hw:jf (oc g i) (yielded (jO g) a.tmps)=N:=by kernel_rfl):gO main F dv g S (n+1) l a w:=
 anyCH_take ti h.1 (λb x y h r=>⟨h.1,λc q=>h.2 c (r.trans q)⟩) cK s c j (.inl ⟨hw,λx d=>⟨e▸(cU x d).1,.refl _ _,λe f=>(cU x d).2 e (mem_listed f)⟩⟩) h.2 k
theorem gO.nt{b off}(i:V)(v)(h:(∀x y,S x->eX F x y->S y)/\S w)(d:∀w,S w->w.cell? ⟨b,off,cM⟩=U v)(f:¬F b)(k:gO main F dv g S n (l.setIfInBounds i N) (a.put (oc g i).dst v) w)(o:(oc g i).op=.load (Xn (oc g i)) (Xo (oc g i)):=by kernel_rfl)(x:a.eval (Xo (oc g i))=.pointer (U ⟨b,off,cM⟩):=by kernel_rfl)(t:∀w,(isAgg (Xn (oc g i))).run cR w=.ok L w:=by intro w;kernel_rfl)
 (s:M6 (jO g)=N:=by kernel_rfl)(cK:(jO g)[i]?=U (oc g i):=by kernel_rfl)(c:M5 .any (jO g) l i=N:=by kernel_rfl)(j:(ms .any (jO g) l).contains i=N:=by kernel_rfl)(hw:jf (oc g i) (yielded (jO g) a.tmps)=N:=by kernel_rfl):gO main F dv g S (n+1) l a w:=
 gO.t i v h k Z (λw hw=>have⟨r,m⟩:=M4 o x t (d w hw);⟨r,λe he=>by rw[m e he];exact⟨Z,f⟩⟩) s cK c j hw
theorem gO.o(i:V)(cU:∀c0,eX F w c0->∃v w',((execOp a.eval (oc g i)).run cR c0=.ok (.value v) w'/\ ∀e∈(execOp a.eval (oc g i)).events cR c0 #[],i2 F e) /\oC F c0 w'/\S w'/\gO main F dv g S n (l.setIfInBounds i N) (a.put (oc g i).dst v) w')
 (cK:(jO g)[i]?=U (oc g i):=by kernel_rfl)(d:ms .any (jO g) l=[i]:=by kernel_rfl)(hw:jf (oc g i) (yielded (jO g) a.tmps)=N:=by kernel_rfl):gO main F dv g S (n+1) l a w:=
 anyCH_all d dt λj c=>by
  simp at c;subst c;unfold OpC;simp[cK,hw,ni];intro c0 b;have⟨v,w',⟨r,e⟩,g,s,k⟩:=cU c0 b;rw[r];exact⟨⟨g,λx f=>e x (mem_listed f)⟩,s,k⟩
end
section
variable {v p:dp} {n:V} {s:dS}
theorem ajx{a:e7}{o x eb n c}(h:o.op=.call {callee:=.builtin .len,args:=#[x],argTypes:=#[26]})(b:a.eval x=.slice eb n c)(w):
  (execOp a.eval o).run cR w=.ok (.value (.int .i64 n)) w/\ (execOp a.eval o).events cR w #[]=#[]:=by
 have Q:(xF #[26] o.type #[.slice eb n c]).run cR w=.ok (.int .i64 n) w:=Z;have d:(xF #[26] o.type #[.slice eb n c]).events cR w #[]=#[]:=Z;constructor
 .unfold execOp;simp[h,ii,ij,builtin,g2,hM,g7,zH,kD,qK,b,Q]
 .unfold execOp;simp[h,ii,ij,builtin,g2,jn,hM,pk,g7,kE,zH,kD,qK,b,Q,d]
theorem ajy{a:e7}{o x v q}(h:o.op=.call {callee:=.builtin .unsafeSliceData,args:=#[x],argTypes:=#[26]})(b:a.eval x=v){w}
  (Q:(OB #[26] o.type #[v]).run cR w=.ok q w)(c:(OB #[26] o.type #[v]).events cR w #[]=#[]):
  (execOp a.eval o).run cR w=.ok (.value q) w/\ (execOp a.eval o).events cR w #[]=#[]:=by
 constructor
 .unfold execOp;simp[h,ii,ij,builtin,g2,hM,g7,zH,kD,qK,b,Q]
 .unfold execOp;simp[h,ii,ij,builtin,g2,jn,hM,pk,g7,kE,zH,kD,qK,b,Q,c]
theorem ajz{a:e7}{o x y p}{n:V}{q w w'}(h:o.op=.call {callee:=.builtin .unsafeString,args:=#[x,y],argTypes:=#[101,3]})(b:a.eval x=.pointer p)(c:a.eval y=.int .i64 n)
  (Q:(B' #[101,3] o.type #[.pointer p,.int .i64 n]).run cR w=.ok q w'):
  (execOp a.eval o).run cR w=.ok (.value q) w'/\ (execOp a.eval o).events cR w #[]=(B' #[101,3] o.type #[.pointer p,.int .i64 n]).events cR w #[]:=by
 constructor
 .unfold execOp;simp[h,ii,ij,builtin,g2,hM,g7,zH,kD,qK,b,c,Q]
 .unfold execOp;simp[h,ii,ij,builtin,g2,jn,hM,pk,g7,kE,zH,kD,qK,b,c,Q]
theorem Xp:cR.underlying 101=U (.pointer 5):=c2
theorem OC:cR.cellsOf 5=1:=c2
theorem Xq(w):∀(l:J hj) (a) (c) (es),(∀j x,l[j]?=U x->w.cell? (a.add j)=U (.int .u8 x.toNat))->
  ∀e∈(loadBytes a c l.length).events cR w es,e∈es\/e.sync=L/\ ∃eb,e.loc=.cell eb/\eb.block=a.block
 | [],a,c,es,h=>λe b=>.inl (by assumption)
 |x::l,a,c,es,h=>λe b=>by
  have cW:w.cell? a=U (.int .u8 x.toNat):=by have:=h 0 x Z;simpa[oN]using this
  have r:(load a).run cR w=.ok (.int .u8 x.toNat) w:=by simp[cW]
  simp only[pW,loadBytes,jn,r,kE]at b
  rcases Xq w l (a.add 1) _ _ (λj y aeG=>by
   have:=h (j+1) y aeF
   have e:(a.add 1).add j=a.add (j+1):=by
    unfold oN
    by_cases f:j=0
    .grind
    .grind
   simp_all) e b with h|⟨Q,eb,d,eS⟩
  .rcases Nt w a es cW e h with h|⟨Q,d⟩
   .grind
   simp_all
  .exact .inr ⟨Q,eb,d,eS.trans (U9 a 1)⟩
theorem ajA(dm p w):(B' #[101,3] dm #[.pointer p,.int .i64 0]).events cR w #[]=#[]:=by
 have h:sj.max=9223372036854775807:=rfl
 cases p with|none=>rfl|some a=>rfl
theorem ajB(dm w g cells)(b:w.shape? g=U (5,cells))(l:J hj)(cW:l≠[])(cY:l.length<=cells)(o:l.length<=9223372036854775807)
  (a:∀j x,l[j]?=U x->w.cell? ((⟨g,0,cM⟩:gP).add j)=U (.int .u8 x.toNat)):
  ∀e∈(B' #[101,3] dm #[.pointer (U ⟨g,0,cM⟩),.int .i64 l.length]).events cR w #[],e.sync=L/\ ∃eb,e.loc=.cell eb/\eb.block=g:=by
 have dw:=yG;have c:=run_loadBytes (P:=cR) w l ⟨g,0,cM⟩ .empty a;have d:=liesAt_bytes (P:=cR) OC (cells/cR.cellsOf 5) l.length (by rw[OC];omega);have f:¬(9223372036854775807:I)<(l.length:I):=R
 have i:B' #[101,3] dm #[.pointer (U ⟨g,0,cM⟩),.int .i64 l.length]=
   (do
    let n <-asInt (.int .i64 l.length)
    if n<0 then runtimePanic (.error _)
    if n>sj.max then unsupported (.unsafePointer _)
    if n=0 then pure (.string .empty)
    else if <-Xc ⟨g,0,cM⟩ (<-elemOf 101) n.toNat then do
     let s <-loadBytes ⟨g,0,cM⟩ .empty n.toNat
     Go.freeze ⟨g,0,cM⟩ n.toNat
     pure (.string s)
    else unsupported (.unsafePointer _)):=rfl
 intro e he;rw[i]at he;have k:sj.max=9223372036854775807:=Z;have m:=R;simp[asInt,asIntOf,k,f,m,dw,Xc,b,elemOf,fv Xp,d,c]at he;rcases Xq w l ⟨g,0,cM⟩ .empty #[] a e he with h|h
 .simp at h
 .exact h
end
end
section
open Go.Conc Go.Lib Go.Proofs
set_option maxRecDepth 100000
theorem h_.f{cN B p r l w}(h:h_ cN B p r l w):h_ N B p r l w:=by have⟨v,Q,a,eS⟩:=h;exact⟨v,Q,a.f,eS⟩
section
variable {main:dh} {F:V->Prop} {B:V} {v p q:dp} {w:c'} {r:dB V} {l:J hj} {n:V}
theorem OD{w:c'}{g n k}(h:k≠g):(w.freeze ⟨g,0,cM⟩ n).heap[k]?=w.heap[k]?:=by unfold Xr;grind
theorem Xs{w:c'}{a n}:(w.freeze a n).heap.size=w.heap.size:=by unfold Xr;grind
theorem Ca{w:c'}{a n}:(w.freeze a n).os=w.os/\ (w.freeze a n).tape=w.tape/\ (w.freeze a n).output=w.output:=by unfold Xr;grind
theorem Xt(m:cR.follows .mixedOrders=N){S:c'->Prop}{s}{dM:c'->Prop}(a:¬F B)(cX:∀x y,S x->eX F x y->S y)(g:S w){eb cap qL}(Q:∀w,S w->w.heap[B]?=U (.cells #[q,.slice eb n cap] 52 (0,0)))
  (fy:∀w dm,S w->(OB #[26] dm #[.slice eb n cap]).run cR w=.ok (.pointer qL) w/\ (OB #[26] dm #[.slice eb n cap]).events cR w #[]=#[])
  (l:∀w dm,S w->∃w',(B' #[101,3] dm #[.pointer qL,.int .i64 n]).run cR w=.ok (.string s) w'/\oC F w w'/\ (∀e∈(B' #[101,3] dm #[.pointer qL,.int .i64 n]).events cR w #[],i2 F e) /\S w')
  (k:∀x,S x->dM x):gT cR main F 24 #[eV B] w λj w'=>j=.string s/\dM w':=by
 refine qC Tryz.func24 λcs dv i=>dF.p 5 (dF.d 12 S m λc0 b=>?_);have h:=And.intro cX (cX _ _ g b);have c:=λw hw=>m5 (o:=1) (Q w hw) Z
 refine gO.t 0 (eV B) h ?_;refine gO.t 1 (eV B) h ?_;refine gO.t 2 (.pointer (U ⟨B,1,cM⟩)) h ?_;refine gO.nt 3 _ h c a ?_;refine gO.t 4 (.pointer qL) h ?_ (cU:=λw hw=>OE id Fs (ajy (x:=.tmp 6) c2 c2 (fy w _ hw).1 (fy w _ hw).2))
 refine gO.t 5 (eV B) h ?_;refine gO.t 6 (eV B) h ?_;refine gO.t 7 (.pointer (U ⟨B,1,cM⟩)) h ?_;refine gO.nt 8 _ h c a ?_;refine gO.t 9 (.int .i64 n) h ?_ (cU:=λw _=>OE id Fs (ajx (x:=.tmp 11) (eb:=eb) (c:=cap) c2 c2 w))
 refine gO.o 10 λc0 f=>(l c0 _ (cX _ _ h.2 f)).elim λw' H=>⟨_,w',OE id (λy e he=>H.2.2.1 e (y▸he)) (ajz (x:=.tmp 7) (y:=.tmp 12) (p:=qL) (n:=n) c2 c2 c2 H.1),H.2.1,H.2.2.2,?_⟩
 exact gO.t 11 (.string s) ⟨cX,H.2.2.2⟩ (anyCH_done c2 ⟨Z,λx r=>dF.p 1 (i.z ⟨Z,k _ (cX _ _ H.2.2.2 r)⟩)⟩ 0)
theorem Xu(d8:cR.follows .mixedOrders=N)(c:¬F B)(dI:∀k,r=U k->¬F k)(h:h_ N B q r l w)(dw:r≠cM->l≠[])(ab:l.length<=1000000000000):
  gT cR main F 24 #[eV B] w λx w'=>x=.string ⟨l.toArray⟩ /\h_ N B q r l w'/\h5 F (λk=>r=U k) w w':=by
 have E:=h.ne;have⟨v,Q,c5,s⟩:=h;have d:(byteCells l).length=l.length:=byteCells_length l;have G:=c5;rcases c5.2 with⟨rfl,cW⟩|⟨g,cap,ac,ad,rfl,ae,af,ag,ah,ai,aj,ak⟩
 .have H:=IB cW;subst H;have I:=s.symm;subst I;refine Xt d8 (S:=λx=>x.heap[B]?=U (.cells #[q,.slice cM 0 0] 52 (0,0)) /\h5 F (λk=>cM=U k) w x) (n:=0) (qL:=cM) (eb:=cM) (cap:=0) c (λx y a b=>⟨(b.block _ c).trans a.1,a.2.trans (.so b)⟩) ⟨Q,.refl _⟩ (λx a=>a.1) (λx dm a=>hg) (λx dm a=>⟨x,run_unsafeString_none (P:=cR) x 101 3 dm cM,.refl _ _,Fs (ajA dm cM x),a⟩) (λx a=>⟨⟨_,a.1,World.ownsRowF_nil x 0 5 1,Z⟩,a.2⟩)
 .have J:r=U g:=s.symm;subst J;have o:=dI g Z;have K:g≠B:=λe=>E AS;have p:=dw dt;have al:=EY.2 p
  let S:c'->Prop:=λx=>x.heap[B]?=U (.cells #[q,.slice (U ⟨g,0,cM⟩) l.length cap] 52 (0,0)) /\pi N x (.slice (U ⟨g,0,cM⟩) l.length cap) l.length (byteCells l) /\h5 F (λk=>U g=U k) w x
  have M:∀x y,S x->eX F x y->S y:=λx y a b=>⟨(b.block _ c).trans a.1,a.2.1.h2 λk c6 _=>by cases c6;exact b.block _ o,a.2.2.trans (.so b)⟩;refine Xt d8 (S:=S) (n:=l.length) (qL:=U ⟨g,0,cM⟩) (eb:=U ⟨g,0,cM⟩) (cap:=cap) c M ⟨Q,G,.refl _⟩ (λx a=>a.1) (λx dm a=>?_) (λx dm a=>?_) (λx a=>⟨⟨_,a.1,a.2.1,Z⟩,a.2.2⟩)
  .obtain⟨k,rfl⟩:∃k,cap=k+1:=⟨cap-1,R⟩;exact hg
  .have⟨i,t,O⟩:=a;rcases t.f.2 with⟨h,_⟩|⟨g',am,m,an,cU,ao,T,ap,aq,ar,V,au⟩
   .cases h
   .cases cU
    have u:∀j y,l[j]?=U y->x.cell? ((⟨g,0,cM⟩:gP).add j)=U (.int .u8 y.toNat):=λj y b=>t.f.cells (g:=g) Z j _ (by simp[byteCells,b])
    have z:x.shape? g=U (5,m.size):=by simp[Fq,T]
    have A:l.length<=m.size:=by rw[V];omega
    refine⟨_,run_unsafeString_row (P:=cR) x 101 3 dm 5 Xp OC g m.size z l p A R u,⟨Ca.1,Ca.2.1,Ca.2.2,xy Xs.symm,λk c6=>OD λe=>o (e▸c6)⟩,λe he=>?_,?_⟩
    .have⟨W,eb,X,Y⟩:=ajB dm x g m.size z l p A R u e he;unfold i2;rw[X];exact⟨W,Y▸o⟩
    .have hb:BuilderAtF 52 5 0 B q (byteCells l) x:=⟨e3 _,_,i,by rwa[d],by assumption⟩;have dg:=hb.froze (g:=g) (cap:=cap) (m5 i (by rw[d];rfl));rw[d]at dg;have⟨_,fN,g6,C,av⟩:=dg;have D:(x.freeze ⟨g,0,cM⟩ l.length).heap[B]?=x.heap[B]?:=OD (Ne.symm K);rw[D,i]at g6
     cases g6
     rw[d]at C;have aa:S (x.freeze ⟨g,0,cM⟩ l.length):=⟨D.trans i,C,O.trans ⟨Ca.1,Ca.2.1,Ca.2.2,xy Xs.symm,λk _ _ c6=>OD λe=>c6 AS⟩⟩;exact aa
end
end
open Go.Proofs Go.RowKit
def pq(w:dS):V:=
 if w=⟨#[110,101,119]⟩ then 1 else if w=⟨#[114,101,97,100]⟩ then 2 else if w=⟨#[119,114,105,116,101]⟩ then 3 else if w=⟨#[100,101,108,101,116,101]⟩ then 4 else 0
def aj4(w):dX cR 67 [.str w] (pq w):=by
 refine d6 Tryz.func67 1 Z c2 (cO ?_)
 refine d3 (λQ=>?_) λQ=>?_
 .exact dd Z (by simp[pq,Q])
 refine d3 (λa=>?_) λa=>?_
 .exact dd Z (by simp[pq,Q,a])
 refine d3 (λb=>?_) λb=>?_
 .exact dd Z (by simp[pq,Q,a,b])
 refine d3 (λc=>?_) λc=>?_
 .exact dd Z (by simp[pq,Q,a,b,c])
 exact dd Z (by simp[pq,Q,a,b,c])
def zK(w:dS):dh:=gV (w=⟨#[112,117,109,112]⟩)||(decide (w=⟨#[114,111,117,110,100]⟩)||(decide (w=⟨#[104,105,115,116,111,114,121]⟩)||(decide (w=⟨#[112,97,103,101,115]⟩)||decide (w=⟨#[99,108,111,99,107]⟩))))
def XH(w:dS):dh:=gV (w=⟨#[115,116,101,112]⟩)||(decide (w=⟨#[102,105,110,105,115,104]⟩)||(decide (w=⟨#[102,97,117,108,116]⟩)||(decide (w=⟨#[97,103,101]⟩)||(decide (w=⟨#[114,117,110]⟩)||(decide (w=⟨#[115,116,97,116,101]⟩)||decide (w=⟨#[114,101,97,100]⟩))))))
def qN(w:dS):I:=if zK w=N then 0 else if XH w=N then 1 else-1
def aj5(w):dX cR 50 [.str w] (qN w):=by
 refine d6 Tryz.func50 1 Z c2 (cO ?_)
 refine d3 (λcW=>?_) λcW=>?_
 .refine e' ?_;exact dd Z (by simp[qN,zK,cW])
 refine d3 (λQ=>?_) λQ=>?_
 .refine e' ?_;exact dd Z (by simp[qN,zK,Q])
 refine d3 (λa=>?_) λa=>?_
 .refine e' ?_;exact dd Z (by simp[qN,zK,a])
 refine d3 (λh=>?_) λh=>?_
 .refine e' ?_;exact dd Z (by simp[qN,zK,h])
 refine d3 (λi=>?_) λi=>?_
 .exact dd Z (by simp[qN,zK,cW,Q,a,h,i])
 refine d3 (λg=>?_) λg=>?_
 .exact e' (dd Z (by subst g;kernel_rfl))
 refine d3 (λdG=>?_) λdG=>?_
 .exact e' (dd Z (by subst dG;kernel_rfl))
 refine d3 (λb=>?_) λb=>?_
 .exact e' (dd Z (by subst b;kernel_rfl))
 refine d3 (λc=>?_) λc=>?_
 .exact e' (dd Z (by subst c;kernel_rfl))
 refine d3 (λd=>?_) λd=>?_
 .exact e' (dd Z (by subst d;kernel_rfl))
 refine d3 (λe=>?_) λe=>?_
 .exact e' (dd Z (by subst e;kernel_rfl))
 refine d3 (λf=>?_) λf=>?_
 .exact dd Z (by subst f;kernel_rfl)
 exact dd Z (by simp[qN,zK,XH,cW,Q,a,h,i,g,dG,b,c,d,e,f])
def Jl(b):dX cR 73 [.bool b] (.str (if b then ⟨#[111,107,32,121,101,115]⟩ else ⟨#[111,107,32,110,111]⟩)):=by
 refine d6 Tryz.func73 1 Z c2 (cO ?_)
 refine iD (λh=>?_) λh=>?_
 .exact dd Z DI
 .exact dd Z DI
def x0(s:dS):I:=kF s.data.toList 32
def aj6(s):dX cR 90 [.str s,.str ⟨#[32]⟩] (x0 s):=by
 refine d6 Tryz.func90 2 Z c2 (cO ?_);refine vU c2 (cO ?_)
 refine d3 (λQ=>?_) λQ=>?_
 .exact dd Z (by subst Q;kernel_rfl)
 refine r7 c2 (cO ?_);refine kb c1 c1 (cO ?_);refine df (ai6 s 32) (c9 ?_);exact dd Z Z
def OM(s):dX cR 93 [.str s,.str ⟨#[32]⟩] (x0 s):=by refine d6 Tryz.func93 2 Z c2 (cO ?_);refine df (aj6 s) (c9 ?_);rfl
def iZ:V->J hj->dB V
 |n,[]=>U n
 |n,c::l=>if c.toNat<48\/57<c.toNat then cM else iZ (10*n+(c.toNat-48)) l
def lI(w:dS):dB V:=if w.size<1\/ (9<w.size\/ (1<w.size/\w.data.getD 0 0=48)) then cM else iZ 0 w.data.toList
def aj7(o:dB V):c3:=match o with
 |some n=>.dP [n,.bool N]
 |none=>.dP [.int .i64 0,.bool L]
def Tc{n}:B9.wrap n=n%256:=Lu
def XI{s:dS}{k}(h:k<s.size):s.data.toList.drop k=s.data.getD k 0::s.data.toList.drop (k+1):=by
 have l:k<s.data.toList.length:=by rwa[m6]
 rw[rk l];simp_all
def zL(w)(o:w.size<=9223372036854775807):dX cR 66 [.str w] (aj7 (lI w)):=by
 refine d6 Tryz.func66 1 Z c2 (c9 ?_)
 refine iv (λQ=>?_) λQ=>?_
 .exact dd Z (by rw[lI,if_pos (.inl R)];rfl)
 refine dH ?_
 refine pp (λj=>?_) λj=>?_
 .exact dd Z (by rw[lI,if_pos (.inr (.inl R))];rfl)
 have r:∀l n,iZ n l=cM->iZ n l=cM:=λ_ _ h=>h
 have loop:¬(w.size<1\/ (9<w.size\/ (1<w.size/\w.data.getD 0 0=48)))->lI w=iZ 0 w.data.toList:=λh=>by rw[lI,cT h]
 refine l7 (λu=>?_) λu=>?_
 .refine e' ?_
  refine l7 (λp=>?_) λp=>?_
  .have k:((w.data.getD 0 0).toNat:I)=48:=p;refine dH ?_;exact dd Z (by rw[lI,if_pos (.inr (.inr ⟨by omega,UInt8.toNat_inj.1 g3⟩))];rfl)
  have m:=loop (by rintro (q|q|⟨q,g⟩)<;>first|omega|exact p (by show((w.data.getD 0 0).toNat:I)=48;rw[g];rfl));refine eZ (D:=V×V) (λx=>[(0,.d (.str w)),(4,.d x.2),(25,.d w.size),(26,.d x.1)]) (λ_=>[])
   (λx=>x.1<=w.size/\ (x.2<10^x.1/\iZ x.2 (w.data.toList.drop x.1)=iZ 0 w.data.toList)) (λx=>w.size-x.1) (0,0) ⟨by omega,by decide,Z⟩ (dZ (dT fj dU d0)) ?_
  rintro⟨i,n⟩ ⟨cK,cY,a⟩;simp only at cK cY a;have f:=ro cY (Fw c1 (show i<=9 by omega))
  conv=>whnf
  refine d3 (λdz=>?_) λdz=>?_
  .have dW:i<w.size:=R
   have cP:=XI dW;rw[cP]at a;refine e' ?_;have⟨c,b⟩:∃c:hj,w.data.getD i 0=c:=⟨_,Z⟩;have d:=c.toNat_lt;rw[b]at a⊢
   refine d3 (λs=>?_) λs=>?_
   .refine dH ?_
    have:iZ 0 w.data.toList=cM:=by rw[<-a,iZ,if_pos (.inl R)]
    exact dd Z (by rw[m,this];rfl)
   refine e' ?_;rw[b]
   refine d3 (λt=>?_) λt=>?_
   .refine dH ?_
    have:iZ 0 w.data.toList=cM:=by rw[<-a,iZ,if_pos (.inr R)]
    exact dd Z (by rw[m,this];rfl)
   refine e' ?_;rw[b];refine e' ?_
   have O:10^(i+1)=10*10^i:=by rw[ON];omega
   have e:(10:I)*(n:I)+((c.toNat:I)-48)=((10*n+(c.toNat-48):V):I):=R
   rw[e];refine⟨(i+1,10*n+(c.toNat-48)),⟨by omega,by grind,?_⟩,by omega,(dZ (dT fj dU d0))⟩;rw[<-a,iZ,cT R]
  .have e:i=w.size:=R
   have:iZ 0 w.data.toList=U n:=by rw[<-a,e,Ce eG];rfl
   refine dH ?_;exact dd Z (by rw[m,this];rfl)
 have m:=loop (by rintro (q|q|⟨q,g⟩)<;>omega);refine eZ (D:=V×V) (λx=>[(0,.d (.str w)),(4,.d x.2),(25,.d w.size),(26,.d x.1)]) (λ_=>[])
  (λx=>x.1<=w.size/\ (x.2<10^x.1/\iZ x.2 (w.data.toList.drop x.1)=iZ 0 w.data.toList)) (λx=>w.size-x.1) (0,0) ⟨by omega,by decide,Z⟩ (dZ (dT fj dU d0)) ?_
 rintro⟨i,n⟩ ⟨cK,cY,a⟩;simp only at cK cY a;have f:=ro cY (Fw c1 (show i<=9 by omega))
 conv=>whnf
 refine d3 (λdz=>?_) λdz=>?_
 .have dW:i<w.size:=R
  have cP:=XI dW;rw[cP]at a;refine e' ?_;have⟨c,b⟩:∃c:hj,w.data.getD i 0=c:=⟨_,Z⟩;have d:=c.toNat_lt;rw[b]at a⊢
  refine d3 (λs=>?_) λs=>?_
  .refine dH ?_
   have:iZ 0 w.data.toList=cM:=by rw[<-a,iZ,if_pos (.inl R)]
   exact dd Z (by rw[m,this];rfl)
  refine e' ?_;rw[b]
  refine d3 (λt=>?_) λt=>?_
  .refine dH ?_
   have:iZ 0 w.data.toList=cM:=by rw[<-a,iZ,if_pos (.inr R)]
   exact dd Z (by rw[m,this];rfl)
  refine e' ?_;rw[b];refine e' ?_
  have O:10^(i+1)=10*10^i:=by rw[ON];omega
  have e:(10:I)*(n:I)+((c.toNat:I)-48)=((10*n+(c.toNat-48):V):I):=R
  rw[e];refine⟨(i+1,10*n+(c.toNat-48)),⟨by omega,by grind,?_⟩,by omega,(dZ (dT fj dU d0))⟩;rw[<-a,iZ,cT R]
 .have e:i=w.size:=R
  have:iZ 0 w.data.toList=U n:=by rw[<-a,e,Ce eG];rfl
  refine dH ?_;exact dd Z (by rw[m,this];rfl)
def aj8(b):dX cR 243 [.bool b] (.int .i64 (if b then 1 else 0)):=by
 refine d6 Tryz.func243 1 Z c2 (cO ?_)
 refine iD (λh=>?_) λh=>?_
 .exact dd Z DI
 .exact dd Z DI
def p2(x:V):V:=x*78913/262144
def aj9(x:V)(a:x<=64):dX cR 241 [x] (p2 x):=by
 refine d6 Tryz.func241 1 Z c2 (di ?_)
 have e:((x:I)*78913).fdiv (2^min (Fx 18) sj.bits)=((p2 x:V):I):=by rw[show(2:I)^min (Fx 18) sj.bits=262144 from Z,Jm _ c1];unfold p2;omega
 exact dd Z (by rw[e];rfl)
def od:dS:=⟨#[0,1,2,2,3,3,3,3,4,4,4,4,4,4,4,4,5,5,5,5,5,5,5,5,5,5,5,5,5,5,5,5,6,6,6,6,6,6,6,6,6,6,6,6,6,6,6,6,6,6,6,6,6,6,6,6,6,6,6,6,6,6,6,6,7,7,7,7,7,7,7,7,7,7,7,7,7,7,7,7,7,7,7,7,7,7,7,7,7,7,7,7,7,7,7,7,7,7,7,7,7,7,7,7,7,7,7,7,7,7,7,7,7,7,7,7,7,7,7,7,7,7,7,7,7,7,7,7,8,8,8,8,8,8,8,8,8,8,8,8,8,8,8,8,8,8,8,8,8,8,8,8,8,8,8,8,8,8,8,8,8,8,8,8,8,8,8,8,8,8,8,8,8,8,8,8,8,8,8,8,8,8,8,8,8,8,8,8,8,8,8,8,8,8,8,8,8,8,8,8,8,8,8,8,8,8,8,8,8,8,8,8,8,8,8,8,8,8,8,8,8,8,8,8,8,8,8,8,8,8,8,8,8,8,8,8,8,8,8,8,8,8,8,8,8,8,8,8,8,8,8,8,8,8,8,8]⟩
def f4(d:V):V:=if 65536<=d then(if 256<=d/65536 then 24+(od.data.getD (d/65536/256) 0).toNat else 16+(od.data.getD (d/65536) 0).toNat) else if 256<=d then 8+(od.data.getD (d/256) 0).toNat else(od.data.getD d 0).toNat
def aka(d:V):(d:I).fdiv (2^min (Fx 16) Fy.bits)=((d/65536:V):I):=by rw[show(2:I)^min (Fx 16) Fy.bits=65536 from Z,Jm _ c1];omega
def XJ(d:V):(d:I).fdiv (2^min (Fx 8) Fy.bits)=((d/256:V):I):=by rw[show(2:I)^min (Fx 8) Fy.bits=256 from Z,Jm _ c1];omega
def aeD:od.size=256:=c2
def Jn(c:hj):sj.wrap (c.toNat:I)=c.toNat:=by have:=c.toNat_lt;rw[rp];omega
def Jo(n)(cW:0<=n)(h:n<=1000)(c:hj):sj.wrap (n+(c.toNat:I))=n+c.toNat:=by have:=c.toNat_lt;rw[rp];omega
def akb{d}(Q:65536<=d)(h:256<=d/65536):pf [((0:I)+16+8+((od.data.getD (d/65536/256) 0).toNat:I))]=.int .i64 (f4 d):=by rw[f4,if_pos Q,if_pos h];congr 1
def akc{d}(Q:65536<=d)(h:¬256<=d/65536):pf [((0:I)+16+((od.data.getD (d/65536) 0).toNat:I))]=.int .i64 (f4 d):=by rw[f4,if_pos Q,cT h];congr 1
def akd{d}(Q:¬65536<=d)(h:256<=d):pf [((0:I)+8+((od.data.getD (d/256) 0).toNat:I))]=.int .i64 (f4 d):=by rw[f4,cT Q,if_pos h];congr 1
def ake{d}(Q:¬65536<=d)(h:¬256<=d):pf [((0:I)+((od.data.getD d 0).toNat:I))]=.int .i64 (f4 d):=by rw[f4,cT Q,cT h,Int.zero_add];rfl
def OO(d:V)(h:d<4294967296):dX cR 242 [.int .u64 d] (f4 d):=by
 refine d6 akf 1 Z c2 (di ?_)
 refine d3 (λa=>?_) λa=>?_
 .refine di ?_;rw[aka]
  refine d3 (λb=>?_) λb=>?_
  .refine di ?_;rw[XJ];refine e' ?_;have x:(d/65536/256)<od.size:=G5;refine ec x (di ?_);refine lZ (Jn _) (di ?_);refine lZ (Jo _ c1 c1 _) (di ?_);exact dd Z (akb R R)
  .refine e' ?_;have x:(d/65536)<od.size:=G5;refine ec x (di ?_);refine lZ (Jn _) (di ?_);refine lZ (Jo _ c1 c1 _) (di ?_);exact dd Z (akc R R)
 .refine di ?_
  refine d3 (λb=>?_) λb=>?_
  .refine di ?_;rw[XJ];refine e' ?_;have x:(d/256)<od.size:=G5;refine ec x (di ?_);refine lZ (Jn _) (di ?_);refine lZ (Jo _ c1 c1 _) (di ?_);exact dd Z (akd R R)
  .refine e' ?_;have x:(d)<od.size:=G5;refine ec x (di ?_);refine lZ (Jn _) (di ?_);refine lZ (Jo _ c1 c1 _) (di ?_);exact dd Z (ake R R)
def eP(n:V):hj:=UInt8.ofNat (48+n%10)
def kW:V->V->J hj
 |0,_=>[]
 |k+1,n=>if n<10 then [eP n] else kW k (n/10)++[eP n]
def nv(n:V):J hj:=kW 20 n
def iE(n:V):dS:=⟨(nv n).toArray⟩
def OP:dS:=⟨#[48,49,50,51,52,53,54,55,56,57,97,98,99,100,101,102,103,104,105,106,107,108,109,110,111,112,113,114,115,116,117,118,119,120,121,122]⟩
def zM:dS:=⟨#[48,48,48,49,48,50,48,51,48,52,48,53,48,54,48,55,48,56,48,57,49,48,49,49,49,50,49,51,49,52,49,53,49,54,49,55,49,56,49,57,50,48,50,49,50,50,50,51,50,52,50,53,50,54,50,55,50,56,50,57,51,48,51,49,51,50,51,51,51,52,51,53,51,54,51,55,51,56,51,57,52,48,52,49,52,50,52,51,52,52,52,53,52,54,52,55,52,56,52,57,53,48,53,49,53,50,53,51,53,52,53,53,53,54,53,55,53,56,53,57,54,48,54,49,54,50,54,51,54,52,54,53,54,54,54,55,54,56,54,57,55,48,55,49,55,50,55,51,55,52,55,53,55,54,55,55,55,56,55,57,56,48,56,49,56,50,56,51,56,52,56,53,56,54,56,55,56,56,56,57,57,48,57,49,57,50,57,51,57,52,57,53,57,54,57,55,57,56,57,57]⟩
def akg:OP.size=36:=c2
def XK:zM.size=200:=c2
def akh:∀i,i<10->OP.extract i (i+1)=iE i:=DJ
def aki:∀i,i<100->10<=i->zM.extract (i*2) (i*2+2)=iE i:=DJ
def akj(i:V)(h:i<100):dX cR 178 [i] (.str (iE i)):=by
 refine d6 Tryz.func178 1 Z c2 (cO ?_)
 refine d3 (λQ=>?_) λQ=>?_
 .refine di ?_;rw[show(i:I)+1=((i+1:V):I) by omega]
  have x:i+1<=OP.size:=by rw[akg];omega
  exact Mr (Nat.le_succ i) x (cO (dd Z (eR c3.str (akh i R))))
 .refine di ?_;rw[show(i:I)*2+2=((i*2+2:V):I) by omega,show(i:I)*2=((i*2:V):I) by omega]
  have x:i*2+2<=zM.size:=by rw[XK];omega
  exact Mr R x (cO (dd Z (eR c3.str (aki i h R))))
def XO {n:I}:rr.wrap n=n%4294967296:=by simp [kU,OQ,akp]
def XP {n:I}:Fy.wrap n=n%18446744073709551616:=by simp [kU,OQ,akp]
def OR {k:IntKind} {a b:I} {K:I->Prop} (hb:b≠0) (dq:0<=a) (hw:k.wrap (a/b)=a/b) (h:K (a/b)):Bb N k a b K:=afI hb (by rw [if_pos Z,Int.tdiv_eq_ediv_of_nonneg dq,hw];exact h)
def kX (n:V):J (J c3):=eL n [.int .u8 0]
def akq{i:I}(h:i<200):i<((zM.size:V):I):=by rw[XK];exact h
def XQ:∀ i,i<200->zM.data.getD i 0=if i%2=1 then eP (i/2) else eP (i/20):=by decide+kernel
def ff (c:hj):J c3:=[.int .u8 c.toNat]
def XR {x y:V} (h:x%10=y%10):eP x=eP y:=by unfold eP;rw [h]
def akr {i:I} {t:dS} (a:t=zM) (y:V) (h:0<=i/\i<200/\i%2=1/\i/2%10=(y:I)%10):[c3.int .u8 ((t.data.getD i.toNat 0).toNat:I)]=ff (eP y):=by rw [a,XQ i.toNat (by omega),if_pos (by omega),XR (y:=y) (by omega)];rfl
def aks {i:I} {t:dS} (a:t=zM) (y:V) (h:0<=i/\i<200/\i%2=0/\i/20%10=(y:I)%10):[c3.int .u8 ((t.data.getD i.toNat 0).toNat:I)]=ff (eP y):=by rw [a,XQ i.toNat (by omega),cT (by omega),XR (y:=y) (by omega)];rfl
def akt {i:I} (y:V) (h:i=(y:I) /\y<10):[c3.int .u8 (48+i)]=ff (eP y):=by
 rw [h.1];have:(eP y).toNat=48+y:=(by decide+kernel:∀ x,x<10->(eP x).toNat=48+x) y h.2
 unfold ff;rw [this];rfl
def aku {α:Type} {a b:α} {l m:J α} (h:a=b) (k:l=m):a::l=b::m:=by rw [h,k]
def Jq {q:Prop}(h:q:=by
  apply congrArg (fun l => some (d4.row l 1 false))
  repeat' first
    | with_reducible rfl
    | refine aku (α := List c3) ?_ ?_
    | (show [c3.int .u8 _] = _
       first
       | with_reducible exact akr (by kernel_rfl) _ (by omega)
       | with_reducible exact aks (by kernel_rfl) _ (by omega)
       | with_reducible exact akt _ (by omega)
       | exact rfl)):q:=h
def OS {K G:Prop} (k:K) (h:jP K->G:=by
 intro k;refine di ?_
 repeat first
  |refine lZ (by rw [XO];omega) (di ?_)
  |refine AV (by omega) (by omega) (di ?_)
  |refine OR (by omega) (by omega) (by rw [XO];omega) (di ?_)
  |refine OR (by omega) (by omega) (by rw [XP];omega) (di ?_)
  |refine kb (by omega) (akq (by omega)) (di ?_)
  |refine kb (by decide) (by decide) (cO ?_)
  |refine dY rfl (di ?_)
  |refine lZ (by rw [Tc];omega) (di ?_)
 exact k.k):G:=h ⟨k⟩
def FA {q:Prop} (h:q:=by
 refine g_ Tryz.func180 2 rfl (by kernel_rfl) (by rfl) (cO ?_);apply eZ (D:=Nat) (fun _=>[(0,.win 1000000 1 _ (some 23)),(1,.d (.int .u64 u)),(4,.d (.int .i64 _))]) (fun _=>[(1000000,.row (kX 24) 1 false)]) (fun _=>True) (fun _=>0) 0 trivial (dZ (dT ⟨rfl,rfl,rfl,trivial⟩ ⟨rfl,trivial⟩ ⟨rfl,rfl,rfl,rfl⟩))
 rintro k-
 conv=>whnf
 refine OS ?_
 exact f7 rfl rfl rfl ⟨Jq,trivial⟩):q:=h
def akv (u:V) (cW:100000<=u) (Q:u<1000000):fG cR 180 [.win 1000000 1 6 (U 23),.d (.int .u64 u)] [(1000000,.row (kX 24) 1 L)] [(1000000,.row ([.int .u8 0]::[ff (eP (u/100000)),ff (eP (u/10000)),ff (eP (u/1000)),ff (eP (u/100)),ff (eP (u/10)),ff (eP u)]++kX 17) 1 L)] (.dP []):=FA
def akw (u:V) (cW:1000000<=u) (Q:u<10000000):fG cR 180 [.win 1000000 1 7 (U 23),.d (.int .u64 u)] [(1000000,.row (kX 24) 1 L)] [(1000000,.row ([.int .u8 0]::[ff (eP (u/1000000)),ff (eP (u/100000)),ff (eP (u/10000)),ff (eP (u/1000)),ff (eP (u/100)),ff (eP (u/10)),ff (eP u)]++kX 16) 1 L)] (.dP []):=FA
def XS (u:V):J (J c3):=[ff (eP (u/10000000)),ff (eP (u/1000000)),ff (eP (u/100000)),ff (eP (u/10000)),ff (eP (u/1000)),ff (eP (u/100)),ff (eP (u/10)),ff (eP u)]
def XT {q:Prop} (h:q:=by
 refine g_ Tryz.func180 2 rfl (by kernel_rfl) (by rfl) (cO ?_);apply eZ (D:=Bool) (fun k=>[(0,.win 1000000 1 _ (some 23)),(1,.d (.int .u64 (bif k then ((u/100000000:Nat):Int) else (u:Int)))),(4,.d (.int .i64 (bif k then OT else OT+8)))]) (fun k=>[(1000000,.row (bif k then XU else kX 24) 1 false)]) (fun _=>True) (fun k=>bif k then 0 else 1) false trivial (dZ (dT ⟨rfl,rfl,rfl,trivial⟩ ⟨rfl,trivial⟩ ⟨rfl,rfl,rfl,rfl⟩))
 rintro k-
 cases k with
 |false=>
  simp only [cond_false]
  conv=>whnf
  refine OS ?_;refine ⟨true,trivial,Nat.zero_lt_one,(dZ (dT ⟨rfl,congrArg (fun z=>dn.d (.int .u64 z)) (show (u:Int)/100000000=((u/100000000:Nat):Int) by omega),rfl,trivial⟩ ⟨Jq,trivial⟩ ⟨Eq.symm Jq,rfl,rfl,rfl⟩))⟩
 |true=>
  simp only [cond_true]
  conv=>whnf
  refine OS ?_
  exact f7 rfl rfl rfl ⟨Jq,trivial⟩):q:=h
def akx (u:V) (cW:10000000<=u) (Q:u<100000000):fG cR 180 [.win 1000000 1 8 (U 23),.d (.int .u64 u)] [(1000000,.row (kX 24) 1 L)] [(1000000,.row ([.int .u8 0]::[ff (eP (u/10000000)),ff (eP (u/1000000)),ff (eP (u/100000)),ff (eP (u/10000)),ff (eP (u/1000)),ff (eP (u/100)),ff (eP (u/10)),ff (eP u)]++kX 15) 1 L)] (.dP []):=by
 let OT:I:=0
 let XU:=[.int .u8 0]::XS u++kX 15
 exact XT
def aky (u:V) (cW:100000000<=u) (Q:u<1000000000):fG cR 180 [.win 1000000 1 9 (U 23),.d (.int .u64 u)] [(1000000,.row (kX 24) 1 L)] [(1000000,.row ([.int .u8 0]::[ff (eP (u/100000000)),ff (eP (u/10000000)),ff (eP (u/1000000)),ff (eP (u/100000)),ff (eP (u/10000)),ff (eP (u/1000)),ff (eP (u/100)),ff (eP (u/10)),ff (eP u)]++kX 14) 1 L)] (.dP []):=by
 let OT:I:=1
 let XU:=[.int .u8 0]::[.int .u8 0]::XS u++kX 14
 exact XT
def fw(w:dS):J c3:=[.str w]
def f1(n:V):J c3:=[n]
def kY:J dS->dB (J V)
 | []=>U []
 |w::r=>match lI w with
  |some n=>(kY r).map (n::·)
  |none=>cM
def ala(o:dB (J V)):c3:=match o with
 |some l=>.dP [.dk (l.map f1),.bool N]
 |none=>.dP [.dk [],.bool L]
def X0(ws)(l:ws.length<=1000000)(b:∀w∈ws,w.size<=9223372036854775807):dX cR 49 [.dk (ws.map fw)] (ala (kY ws)):=by
 have m:(ws.map fw).length=ws.length:=ef ..
 refine d6 Tryz.func49 1 Z c2 (c9 ?_);refine eZ (D:=V×J V) (λx=>[(4,.own 25),(9,.d (.dk (ws.map fw))),(10,.d (ws.map fw).length),(11,.d x.1)]) (λx=>[(25,.row (x.2.map f1) 1 L)])
  (λx=>x.1<=ws.length/\ (x.2.length=x.1/\kY ws=(kY (ws.drop x.1)).map (x.2++·))) (λx=>ws.length-x.1) (0,[]) ⟨e3 _,Z,dt⟩ (oI (.row 4 25 1) hg (dT fj eN d0)) ?_
 rintro⟨k,a⟩ ⟨f,c,cY⟩;simp only at f c cY
 conv=>whnf
 refine d3 (λdz=>?_) λdz=>?_
 .have eM:k<ws.length:=R
  have cP:=rk eM;refine ec R (cO ?_);refine dY (x:=fw ws[k]) iy (c9 ?_);have o:=zL ws[k] (b _ (hS eM))
  cases hw:lI ws[k]with
  |none=>
   rw[hw]at o;refine df o (c9 ?_)
   have e:kY ws=cM:=by rw[cY,cP,kY,hw];rfl
   exact dd Z (by rw[e];rfl)
  |some n=>
   rw[hw]at o;refine df o (c9 ?_);refine fV 1000100 100 (by show pY _+1<=1000100;grind) c1 c1 c1 (c9 ?_);refine⟨(k+1,a++[n]),⟨by omega,by simp[c],?_⟩,by omega,(dZ (dT fj ⟨w5,dU⟩ d0))⟩;rw[cY,cP,kY,hw]
   cases kY (ws.drop (k+1))<;>simp
 .have e:k=ws.length:=R
  have d:kY ws=U a:=by rw[cY,e,Ce (fB _)];simp[kY]
  exact dd Z (by rw[d];rfl)
def mE:J hj->J (J hj)
 | []=>[[]]
 |c::l=>if c=32 then []::mE l else match mE l with
  |x::dD=>(c::x)::dD
  | []=>[[c]]
def Sw:∀l,mE l≠[]
 | []=>by simp[mE]
 |c::l=>by
  unfold mE;grind
def OX:∀ {l},kF l 32=-1->mE l=[l]
 | [],_=>rfl
 |b::l,h=>by
  unfold kF at h
  by_cases hb:(b==32)=N
  .simp_all
  .rw[cT hb]at h;have a:=yJ
   have Q:kF l 32=-1:=by
    by_cases c:(kF l 32==-1)=N
    .simp_all
    .rw[cT c]at h;have:=Jr l 32;omega
   simp[mE,a,OX Q]
def OY:∀ {l} {n:V},kF l 32=n->n+1<=l.length/\mE l=l.take n::mE (l.drop (n+1))
 | [],n,h=>by simp[kF]at h
 |b::l,n,h=>by
  unfold kF at h
  by_cases hb:(b==32)=N
  .rw[if_pos hb]at h;have:n=0:=R;subst this;have a:=yJ;simp[mE,a]
  .rw[cT hb]at h;have a:=yJ
   by_cases c:(kF l 32==-1)=N
   .simp_all
   .rw[cT c]at h;obtain⟨m,rfl⟩:∃m,n=m+1:=⟨n-1,by grind⟩;have⟨d,e⟩:=OY (l:=l) (n:=m) R;refine⟨hd,?_⟩
    conv=>lhs;unfold mE
    simp_all
def X1:∀l,(mE l).length=wn l 32+1
 | []=>rfl
 |c::l=>by
  have i:=X1 l;unfold mE
  by_cases h:c=32
  .rw[if_pos h];simp[wn,alb,h]at i⊢;omega
  .rw[cT h]
   have:wn (c::l) 32=wn l 32:=by simp[wn,alb,h]
   grind
def jI(s:dS):J dS:=(mE s.data.toList).map λl=>⟨l.toArray⟩
def FC(s):(jI s).length=wn s.data.toList 32+1:=by rw[jI,ef,X1]
def X2(s):(⟨s.data.toList.toArray⟩:dS)=s:=ByteArray.ext (zu.1 dt)
def X3{s}(h:x0 s<0):jI s=[s]:=by
 have Q:kF s.data.toList 32=-1:=by have:=Jr s.data.toList 32;unfold x0 at h;omega
 rw[jI,OX Q];rfl
def X4{s}{n:V}(h:x0 s=n):n+1<=s.size/\jI s=s.extract 0 n::jI (s.extract (n+1) s.size):=by
 have yN:s.data.toList.length=s.size:=m6;have⟨Q,a⟩:=OY (l:=s.data.toList) (n:=n) h;have b:(⟨(s.data.toList.take n).toArray⟩:dS)=s.extract 0 n:=ByteArray.ext (zu.1 eG)
 have e:(s.extract (n+1) s.size).data.toList=s.data.toList.drop (n+1):=by rw[OZ];simp;rw[u1 S1]
 refine⟨R,?_⟩;rw[jI,a,jI,e,<-b];rfl
def X5{ws dj}(h:ws.length<=dj):((ws++eL (dj+1-ws.length) fI).map fw)[ws.length]?=U (fw fI):=g3
def X6{ws dj}(h:ws.length<=dj)(x):((ws++eL (dj+1-ws.length) fI).map fw).set ws.length (fw x)=((ws++[x])++eL (dj+1-(ws++[x]).length) fI).map fw:=by have⟨m,a⟩:∃m,dj+1-ws.length=m+1:=⟨dj-ws.length,R⟩;grind
def X7(l):wn l 32<=l.length:=List.count_le_length
def alc(s)(d:s.size<=1000000):dX cR 65 [.str s,.str ⟨#[32]⟩,.int .i64 0,.int .i64 (-1)] (.dk ((jI s).map fw)):=by
 have j:=X7 s.data.toList;have z:s.data.toList.length=s.size:=m6;have w:=FC s;refine d6 Tryz.func65 4 Z (by kernel_rfl) (c9 ?_);refine df (ai8 s) (c9 ?_);have⟨dj,q⟩:∃dj,wn s.data.toList 32=dj:=⟨_,Z⟩;rw[q]at j w⊢;rw[show min ((dj:I)+1) ((s.size:I)+1)=(dj:I)+1 by omega];rw[show((dj:I)+1).toNat=dj+1 by omega];refine fV 1000100 100 R c1 c1 c1 (c9 ?_);have cW:=w;refine eZ (D:=J dS×dS) (λx=>[(0,.d (.str x.2)),(1,.d (.str ⟨#[32]⟩)),(2,.d (.int .i64 0)),(3,.d dj),(9,.own 31),(10,.d x.1.length)])
  (λx=>[(31,.row ((x.1++eL (dj+1-x.1.length) fI).map fw) 1 L)])
  (λx=>x.1++jI x.2=jI s/\x.2.size<=1000000) (λx=>dj-x.1.length) ([],s) ⟨Z,d⟩ (dZ (dT ⟨Z,Z,Z,by show dn.d (.int .i64 _)=dn.d (.int .i64 _);grind,Z,Z,dU⟩ ⟨by rw[uU,X8];rfl,dU⟩ d0)) ?_
 rintro⟨ws,r⟩ ⟨hw,k⟩;simp only at hw k;have l:=eR pY hw;rw[kG,cW,FC]at l
 conv=>whnf
 refine d3 (λdz=>?_) λdz=>?_
 .have c:(ws.length:I)<dj:=dz
  have o:0<=x0 r:=by
   rcases X9 (x0 r) 0 with h|h
   .have:=eR pY (X3 h);grind
   .exact h
  have⟨m,a⟩:=O0 o;have⟨dW,p⟩:=X4 a;have i:=OM r;rw[a]at i;refine e' ?_;rw[show(m:I)+0=(m:I) by omega];refine oE g3 (cO ?_);refine ec g3 (cO ?_);refine dY (x:=fw fI) (X5 (dj:=dj) (ws:=ws) R) (c9 ?_);rw[show((⟨#[32]⟩:dS).size:I)=1 from Z];refine e' ?_;rw[show(m:I)+1=((m+1:V):I) by omega];refine pd (by exact dW) (c9 ?_);have b:=X6 (dj:=dj) (ws:=ws) R (r.extract 0 m);refine⟨(ws++[r.extract 0 m],r.extract (m+1) r.size),⟨by simp_all,by simp;omega⟩,by simp;omega,(dZ (dT ⟨Z,Z,Z,Z,Z,by show dn.d (.int .i64 _)=dn.d (.int .i64 _);grind,dU⟩ ⟨by rw[<-b];rfl,dU⟩ d0))⟩
 .have c:¬(ws.length:I)<dj:=dz
  have e:ws.length=dj:=R
  refine ec eG (cO ?_);refine dY (x:=fw fI) (X5 (dj:=dj) (ws:=ws) R) (c9 ?_);refine lZ (by show sj.wrap ((ws.length:I)+1)=(ws.length:I)+1;rw[rp];omega) (cO ?_);rw[show(((ws,r).fst.length:V):I)+1=((ws.length+1:V):I) by rfl];have b:=X6 (dj:=dj) (ws:=ws) R r
  have g:dj+1-(ws++[r]).length=0:=by simp;omega
  rw[g,List.replicate_zero,p0]at b;rw[show((List.map fw ((ws,r).fst++eL (dj+1-(ws,r).fst.length) fI)).set (ws,r).fst.length (iM (fw fI) 0 ((λdx=>c3.str (ws,r).snd::dx) [])))=(ws++[r]).map fw from b];refine oE dt (cO ?_)
  have f:jI r=[r]:=by
   rcases X9 (x0 r) 0 with h|h
   .exact X3 h
   .have⟨m,a⟩:=O0 h;have p:=eR pY (X4 a).2;rw[pW,FC,FC]at p;omega
  rw[<-hw,f]
  exact dd Z (by
   have n:(((ws++[r]).map fw).drop 0).take (ws.length+1-0)=(ws++[r]).map fw:=by rw[Cg];exact u1 dt
   simp_all)
def ald(s)(a:s.size<=1000000):dX cR 46 [.str s,.str ⟨#[32]⟩] (.dk ((jI s).map fw)):=by refine d6 Tryz.func46 2 Z c2 (cO ?_);refine df (alc s a) (c9 ?_);rfl
