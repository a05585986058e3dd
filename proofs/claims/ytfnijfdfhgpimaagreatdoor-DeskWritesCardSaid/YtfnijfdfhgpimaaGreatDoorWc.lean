/- What is proved here: what functions of the program compute, and what follows; no condition beyond each theorem's own. -/
import Derived.Conc.AtomicLaws
import Derived.Conc.WgGenN2
import Derived.Laws.BytesString
import Derived.Lib.Overlaps
import Derived.LoopN
import Derived.Orders
import Derived.Scope
import Derived.Test.YtfnijfdfhgpimaaGreatDoorWb
set_option linter.all false
noncomputable section
set_option maxHeartbeats 0
open Array renaming getD->my,mapM_eq_mapM_toList->MU,replicate->kx
open Bool renaming false->L,not_eq_true'->ait,or_eq_true->aih,true->N
open Classical renaming choose->IZ,choose_spec->Wz
open Go renaming Act->e7,Addr->gP,Event->hB,Frame->gS,FuncId->ig,Goroutine->dN,Oper->gC,Operand->fu,Program->el,ResultVar->xs,TypeId->eH,Value->dp,World->c',binOp->jo,convert->xG,invoke->ij,mem_ready->Ob,resolve->ii
open Go.Act renaming eval->Nl,put->VQ
open Go.Builtin renaming append_->h9,clear_->NR,copy_->VK,firstCells->k_,lenOf->pZ,len_->xF,max_->ahP,min_->VJ,zeroCells->n6
open Go.CallKind renaming early->ze
open Go.Conc renaming stepG_load_atomic->Vj,stepG_mark0->Vh,stepG_markAt->Vi
open Go.Conv renaming bytesToString->NP
open Go.Deferred renaming ofValue->sd
open Go.Extern.SlicesOverlaps renaming overlaps->ap0
open Go.GStep renaming after->s8
open Go.Instr renaming box->ahU,extract->MX,field->MW,fieldAt->EG,loadAt->sc,storeAt->zv,sureAddr->lA
open Go.Op renaming equal->EF,equalIn->n2,unary->E1
open Go.Proofs.Tryz renaming prog->cR
open Go.Region renaming binds->B0,ready->ms,wanted->jf
open Go.Sem renaming run_map->U3
open Go.Value renaming bool->JI,pointer->HY
open Go.World renaming shape?->Fq
open List renaming filter_congr->aiu,foldlM_cons->ahM,foldlM_nil->ahN,getElem?_of_mem->V7,getElem?_zipIdx->Wk,length_eq_one_iff->Of,range->iB,range'->ts,replicate->eL,zipIdx_map_fst->aiv
open Nat renaming beq->d2,ble->hn,blt->xq,lt_succ_iff->aiI,min->ut,mul_one->ID,strongRecOn->s6,testBit->xr,testBit_or->aif
open Option renaming none->cM,some->U
open Prod.mk renaming injEq->IA
open _root_ renaming Array->ea,Bool->dh,False->dA,Fin->eK,List->J,Nat->V,Option->dB,absurd->dQ,rfl->Z
namespace Go.Lk
def zu:=@Array.toList_inj
def Ja:=@Conc.events_callFunc_extern
def pk:=@Sem.events_pure
def I':=@run_callFunc_extern
def jC:=@List.append_assoc
def p0:=@List.append_nil
def IQ:=@List.countP_le_length
def B2:=@List.countP_pos_iff
def wh:=@List.filter_append
def BY:=@List.filter_cons
def E7:=@List.getD_eq_getElem?_getD
def lF:=@List.getElem?_set
def pn:=@List.length_take
def xN:=@List.map_take
def n8:=@List.mem_append_left
def po:=@List.mem_append_right
def n9:=@List.mem_filter
def E_:=@List.mem_range
def uU:=@List.nil_append
def uT:=@List.pairwise_cons
def xO:=@List.pairwise_iff_getElem
def E9:=@List.take_append_drop
def ro:=@Nat.lt_of_lt_of_le
open Go.RowKit
section
variable {P:el} {T:fL} (cS:jB P T)
theorem VB:∀ {l dR},v0 l=U dR->l=dR.map λn=>[c3.int .u8 n]
 | [],dR,h=>by simp[v0]at h;subst h;rfl
 |e::r,dR,h=>by
  simp[v0]at h;split at h
  .rename_i k n
   cases a:d2 (j4 k) 4 with
   |false=>simp_all
   |true=>
    rw[a]at h
    have b:k=.u8:=by cases k<;>first|rfl|exact dQ a c1
    subst b;simp at h;split at h
    .rename_i s m
     cases h
     rw[VB m];rfl
    .cases h
  .cases h
theorem VC{own M w eb c l vs dR}(b:tn P own M w (.slice eb l.length c) l 1 vs)(h:v0 l=U dR):
  (NP (.slice eb l.length c)).run P w=.ok (.string (qx dR)) w:=by
 have d:=VB h
 have n:l.length=dR.length:=by rw[d];simp
 have s:vs=(dR.map (Value.int .u8)).toArray:=by
  apply Array.ext
  .rw[b.size];simp[n]
  .intro i Q c5;have cK:=rV;have⟨v,cU,cP⟩:=b.row.den i 0 [c3.int .u8 dR[i]] (.int .u8 dR[i]) (by simp_all) Z;rw[ID,BO,yU Q]at cU;have cU:=pM cU;generalize vs[i]=u at cU⊢;subst cU
   cases cP
   simp
 have r:=b.run w (λ_ _=>Z)
 cases eb with
 |none=>
  simp only[k_,hM]at r
  have e:vs=#[]:=by injection r with q _;exact q.symm
  have:dR=[]:=by have:=eR Array.size (s.symm.trans e);simpa using this
  subst this;rfl
 |some a=>simp[k_,ID]at r;exact run_bytesToString w a l.length c dR (by rw[r,s])
theorem VE{own M w eb d l vs}(c7:tn P own M w (.slice eb l.length d) l 1 vs):
  ∀du∈(NP (.slice eb l.length d)).events P w #[],h0 own M du:=by
 intro du b;have dI:=c7.rd w #[] (λ_ _=>Z)
 cases eb with
 |none=>simp[NP]at b
 |some a=>
  simp only[k_,ID]at dI;refine(dI du ?_).elim (λq=>by simp at q) id;simp only[NP]at b;rw[jn]at b
  cases e:(loadCells a l.length).run P w with
  |halt x w'=>simp_all
  |ok r w'=>
   rw[e]at b;simp only[kE]at b
   have f:∀ {s:Sem dp} {es:ea hB},du∈s.events P w' es->hE P s->du∈es:=λh k=>by rwa[k w' _]at h
   refine f b (.bind' (.ahs (λc s=>?_) _ _) λs=>ed.at (.pure _));split
   .exact ed.at (.pure _)
   .exact .bind' (ed.at (.stuck _)) λ_=>ed.at (.pure _)
theorem ahE {k fr} {A} (h:bif d2 (j4 k) (j4 fr) then A else dA):k=fr/\A:=by have⟨Q,a⟩:=qF h;exact ⟨Ez Q,a⟩
theorem zt{o dC O c}{s:(fu->dp)->Sem dp}
  (j:∀f,execOp f o=(do pure (.value (<-s f))))(K:ge->Prop)(d:K ⟨c,[],cM⟩)
  (h:∀(own M D) (a:e7) (w),fq M w->er own M D O w->(∀x,dV M D (dC x) (a.eval x))->∃v,(s a.eval).run P w=.ok v w/\ (∀e∈(s a.eval).events P w #[],h0 own M e) /\dV M D c v):
  ∃e,K e/\hv P o dC O e:=by
 refine⟨_,d,uJ λown M D a w g c_ b=>?_⟩;have⟨v,Q,i,k⟩:=h own M D a w g c_ b;simp_all
theorem rl{o dC O c}{s:(fu->dp)->Sem dp}
  (j:∀f,execOp f o=(do pure (.value (<-s f))))(k:∀f,hE P (s f))(K:ge->Prop)(g:K ⟨c,[],cM⟩)
  (h:∀(own M D) (a:e7) (w),fq M w->er own M D O w->(∀x,dV M D (dC x) (a.eval x))->∃v,(s a.eval).run P w=.ok v w/\dV M D c v):
  ∃e,K e/\hv P o dC O e:=zt j K g λown M D a w i c_ b=>by
 have⟨v,Q,d⟩:=h own M D a w i c_ b;exact⟨v,Q,tk (k a.eval w #[]),d⟩
include cS in
theorem ahF{o c x t dC O K}(y:o.op=.call c)(dg:c.callee=.builtin .len)(dq:c.args.toList=[x])(s0:c.argTypes.toList=[t])
  (h:Mx T t (dC x) O (val K)):∃e,K e/\hv P o dC O e:=by
 have p:c.args=#[x]:=w7;have r:c.argTypes=#[t]:=yF
 have z:∀f:fu->dp,execOp f o=(do pure (.value (<-(do let d <-ii f c o.type;match d.target with| .builtin _ at' dm _=>xF at' dm d.args|_=>pure undef)))):=by intro f;simp[execOp,y,ii,dg,ij,builtin]
 have j:∀(n:V),(∀(own:V->Prop) (M:eE) (D:gr) (w:c') (v:dp),er own M D O w->dV M D (dC x) v->(xF #[t] o.type #[v]).run P w=.ok (.int .i64 n) w/\ (xF #[t] o.type #[v]).events P w #[]=#[])->K ⟨.d (.int .i64 n),[],cM⟩->∃e,K e/\hv P o dC O e:=by
  intro n dI A;refine zt z K A λown M D a w c8 c_ u=>⟨.int .i64 n,?_,?_,.d _ _ (.int _ _)⟩
  .have:=dI own M D w _ c_ (u x);simp[ii,dg,p,r,this.1]
  .have:=dI own M D w _ c_ (u x);exact tk (by simp[ii,dg,p,r,this.2])
 unfold Mx at h;split at h
 .rename_i c6;have m:=v5 cS c6;split at h
  .rename_i s g;refine j s.size (λown M D w v c_ cU=>?_) h;rw[g]at cU;rw[sg cU];constructor<;>simp[xF,fv m,goInt]
  simp_all
 .rename_i is c6;have⟨m,_⟩:=kC cS c6
  have run:∀(w:c') (a:dB gP) (n c:V),(xF #[t] o.type #[.slice a n c]).run P w=.ok (.int .i64 n) w/\ (xF #[t] o.type #[.slice a n c]).events P w #[]=#[]:=by intro w a n c;constructor<;>simp[xF,fv m,goInt]
  split at h
  .rename_i l g;refine j l.length (λown M D w v c_ cU=>?_) h;rw[g]at cU
   cases cU with
   |d _ _ cU=>
    cases cU with|emp a c=>simp_all|dk _ b off cap cQ val dw c7 d8 cP=>simp_all
  .rename_i g;refine j 0 (λown M D w v c_ cU=>?_) h;rw[g]at cU
   cases cU with|nil a=>simp_all
  .rename_i b dy n C g;split at h
   .rename_i B hb;refine j n (λown M D w v c_ cU=>?_) h;rw[g]at cU
    cases cU with|win _ _ _ _ cL k base i cY dg c6 E=>simp_all|jj _ _ _ _ _ i=>rw[(c_.fD b).2 i]at hb;cases hb
   simp_all
  .rename_i b g;split at h
   .rename_i l cQ cN hb;refine j l.length (λown M D w v c_ cU=>?_) h;rw[g]at cU
    cases cU with|own _ cL cap i cY dg=>have⟨_,cs,eQ,_,_,_,q,_⟩:=c_.at_ b _ cL hb i;simp_all|h7 _ a i=>have⟨F,G,H⟩:=c_.iN b i;simp_all|ji _ _ i=>rw[(c_.fD b).2 i]at hb;cases hb
   simp_all
  simp_all
 simp_all
theorem VF {o:gC} {c:Call} {x y:fu} {dC:fu->dn} {O:V->dB d4} {K:ge->Prop} {g:Int->Int->Int} {b:Go.Builtin} {s:ea eH->eH->ea dp->Sem dp} (z:o.op=.call c) (u:c.callee=.builtin b) (dq:c.args.toList=[x,y])
  (r:∀ t t2 cs vs,builtin b t t2 cs vs=do pure (.value (<-s t t2 vs))) (v:∀ t t2 k n m w,(s t t2 #[.int k n,.int k m]).run P w=.ok (.int k (g n m)) w/\ (s t t2 #[.int k n,.int k m]).events P w #[]=#[])
  (h:match dC x with
    | .d (.int k a)=>match dC y with
     | .d (.int fr b)=>bif d2 (j4 k) (j4 fr) then K ⟨.d (.int k (g a b)),[],cM⟩ else dA|_=>dA
    |_=>dA):∃ e,K e/\hv P o dC O e:=by
 have f:c.args=#[x,y]:=w7
 split at h
 .rename_i k n A
  split at h
  .rename_i fr m B;have⟨i,q⟩:=ahE h;subst i
   refine ⟨_,q,uJ fun own M D a w c8 c_ d=>⟨.int k (g n m),?_,tk ?_,.d _ _ (.int _ _)⟩⟩<;>
   have j:=kr (A▸d x)<;>
   have l:=kr (B▸d y)<;>
   simp [execOp,z,ii,u,ij,r,f,j,l,v]
  simp_all
 simp_all
include cS in
theorem ahG{o:gC}{c:Call}{x y:fu}{t t2:eH}{dC:fu->dn}{O:V->dB d4}{K:ge->Prop}(F:o.op=.call c)(E:c.callee=.builtin .append)(C:c.args.toList=[x,y])(G:c.argTypes.toList=[t,t2]){e S:eH}(cV:(T t).k=.slice e)(k:(T t2).k=.slice S)
 (h:Bi (T e).size (dC y) O λfS=>match dC x with
  | .nil=>match o.dst with
   |some d=>r8 fS.length (T e).bytes (K ⟨.own d,[(d,.row fS (T e).size L)],U d⟩)
   |none=>dA
  | .own b=>match O b with
   |some (.row l cQ L)=>bif d2 cQ (T e).size then r8 (l.length+fS.length) (T e).bytes (K ⟨.own b,[(b,.row (l++fS) cQ L)],U b⟩) else dA
   |_=>dA
  | .win b dy n (U c)=>HC T e b dy n c fS O o.dst K
  |_=>dA):∃e,K e/\hv P o dC O e:=by
 have H:c.args=#[x,y]:=by rw[<-zu];exact C
 have cL:c.argTypes=#[t,t2]:=by rw[<-zu];exact G
 have m:∀(a:e7) (w w':c') (v:dp),(h9 #[t,t2] o.type #[a.eval x,a.eval y]).run P w=.ok v w'->(execOp a.eval o).run P w=.ok (.value v) w':=by
  intro a w w' v r;simp[execOp,F,ii,E,ij,builtin,H,cL,r]
 obtain⟨fS,h,s⟩:=Nu (P:=P) h;split at h
 .rename_i B
  split at h
  .rename_i d cP
   obtain⟨dj,I,h⟩:=BB h;refine⟨_,h,rj λown M D a w g c8 c_ i=>?_⟩;obtain⟨eb,da,vs,u,q,j⟩:=s own M D w _ c8 c_ (i y);have cU:=i x;rw[B]at cU;generalize A:a.eval x=v at cU
   cases cU with
   |nil cX=>
    rw[u]at q;obtain⟨v,w',r,dr,p⟩:=Vn cS (dm:=o.type) cV k g c8 c_ (x:=d) (base:=cX) q dj I;exact⟨v,w',m a w w' v (by rw[A,u];exact r),λdu f=>dr du (by rw[BS F E C G,A,u]at f;exact f),p⟩
  simp_all
 .rename_i b B
  split at h
  .rename_i l cQ J
   obtain⟨z,h⟩:=qF h;have z:=gs z;subst z;obtain⟨dj,I,h⟩:=BB h;refine⟨_,h,rj λown M D a w g c8 c_ i=>?_⟩;obtain⟨eb,da,vs,u,q,j⟩:=s own M D w _ c8 c_ (i y);rw[u]at q;obtain⟨v,w',r,dr,p⟩:=ahf cS (dm:=o.type) cV k g c8 c_ J (B▸i x) q j dj I;exact⟨v,w',m a w w' v (by rw[u];exact r),λdu f=>dr du (by rw[BS F E C G,u]at f;exact f),p⟩
  simp_all
 .rename_i b dy n da B
  exact aho cS F E C G cV k B s h
 simp_all
theorem IE{dC M D}{a:e7}(h:∀x,dV M D (dC x) (a.eval x))(l:ea fu):y_ M D (j7 dC l.toList) (l.map a.eval):=by refine⟨by rw[NH];simp,λi x v b e=>?_⟩;rw[NG]at b;grind
theorem NQ{cV o a w f vs dj}(r:∀w,(execOp a.eval o).run P w=.ok (.enter f vs) w)(b:∀w,(execOp a.eval o).events P w #[]=#[])
  (h:uv P cV f vs w λe w'=>∃v,e=.returned v/\dj (a.put o.dst v) w'):nT P cV.main cV.F o a w dj:=
 afk (λc0=>⟨r c0,b c0⟩) (gT.mono h λv w' q=>by
  simp_all)
theorem VG{f}(h:nk P f)(vs w es):(callFunc f vs).events P w es=es:=by
 have⟨fn,Q,a,eS⟩:=h
 have b:fn.body≠cM:=by grind
 have dz:=GU;simp[callFunc,Q,b,dz]
theorem VH{o c f}(d:o.op=.call c)(b:c.callee=.value (.func f))(h:nk P f)(a:e7)(w):(execOp a.eval o).events P w #[]=#[]:=by simp[execOp,d,ii,b,Nl,sd,ij,VG h]
theorem ahH{o c f t vs}(d:o.op=.call c)(b:c.callee=.value (.tmp t))(h:nk P f)(a:e7)(w)(e:a.eval (.tmp t)=.func (.func f) #[] vs):
  (execOp a.eval o).events P w #[]=#[]:=by
 simp[execOp,d,ii,b,e,sd,ij,VG h]
theorem VI(f:fu->dp)(l:ea fu):(l.toList.map f).toArray=l.map f:=by grind
theorem ahI{o c f dC O K}(i:o.op=.call c)(g:c.callee=.value (.func f))
  (h:y' P f (j7 dC c.args.toList) O K):∃e,K e/\hv P o dC O e:=by
 rcases h.out with⟨e,E,j⟩|⟨b,E,j⟩
 .exact⟨e,j,λcV own M D a w u n x c_ d=>NQ (UF i g E.1 a) (VH i g E.1 a) ((E.2 cV own M D w _ u n x c_ (IE d c.args)).mono λz w' y=>have⟨v,k,eg,A,l,m,p,q,r,s,t⟩:=y;⟨v,A,v,Z,k,eg,l,m,p,q,r,s,t⟩)⟩
 .refine⟨_,j,uJ λown M D a w c8 c_ d=>⟨.bool b,?_,?_,.d _ _ (.bool b)⟩⟩
  .have:=(E.2 own M D w _ c8 c_ (IE d c.args)).1;simp[execOp,i,ii,g,Nl,sd,ij,this]
  .have:=(E.2 own M D w _ c8 c_ (IE d c.args)).2;simpa[execOp,i,ii,g,Nl,sd,ij]using this
theorem ahJ{o c f dC O K}(k:o.op=.call c)(g:c.callee=.value (.func f))
  (h:y8 O dC c.args.toList λdx dR=>re P f N (j7 dC c.args.toList) O o.dst dx dR K):∃e,K e/\hv P o dC O e:=by
 have⟨dx,dR,h,l,cP⟩:=Nm h
 have q:re P f N (j7 dC c.args.toList) O o.dst (dx++[]) dR K:=by rwa[p0]
 have⟨e,t,j,s⟩:=UN q l cP (λ_=>hg);refine⟨e,t,λcV own M D a w r n u c_ b=>NQ (UF k g j a) (VH k g j a) ?_⟩;have:=s cV own M D a w #[] r n u c_ b ⟨Z,λi d v Q=>by simp at Q⟩;rw[VI,Array.append_empty]at this;exact this.mono λy w' x=>let ⟨v,p,m⟩:=x;⟨v,p,v,Z,m⟩
theorem ahK{o c f t cs dC O K}(m:o.op=.call c)(j:c.callee=.value (.tmp t))(A:dC (.tmp t)=.d (.fn f cs))
  (h:y8 O dC c.args.toList λdx dR=>re P f L [] O o.dst (dx++cs) dR K):∃e,K e/\hv P o dC O e:=by
 have⟨dx,dR,h,l,cP⟩:=Nm h;have⟨e,u,k,s⟩:=UN h l cP (λh=>g0);refine⟨e,u,λcV own M D a w r n x c_ g=>?_⟩;have cU:=g (.tmp t);rw[A]at cU;generalize b:a.eval (.tmp t)=v at cU
 cases cU with
 |d _ _ cU=>
  cases cU with|fn _ _ vs y i=>apply NQ (λw=>agB m j k a w b) (λw=>ahH m j k a w b);have:=s cV own M D a w vs r n x c_ g ⟨y,i⟩;rw[VI]at this;exact this.mono λB w' z=>let ⟨v,p,q⟩:=z;⟨v,p,v,Z,q⟩
include cS in
theorem ahL{o c dC O K}(i:o.op=.call c)(h:MH T P o c dC O K):∃e,K e/\hv P o dC O e:=by
 unfold MH at h;split at h
 .rename_i b d;split at h
  .split at h
   .rename_i x a;split at h
    .rename_i t j;exact ahF cS i d a j h
    simp_all
   simp_all
  .split at h
   .rename_i x y a
    exact VF (g:=min) (s:=VJ) i d a (λ_ _ _ _=>Z) (λB t2 k n m w=>by
     refine⟨?_,by rfl⟩;simp[VJ,ahM,ahN,Builtin.min2,g2,hM,g7]
     grind) h
   simp_all
  .split at h
   .rename_i x y a
    exact VF (g:=max) (s:=ahP) i d a (λ_ _ _ _=>Z) (λB t2 k n m w=>by
     refine⟨?_,by rfl⟩;simp[ahP,ahM,ahN,Builtin.max2,g2,hM,g7]
     grind) h
   simp_all
  .split at h
   .rename_i x y a;split at h
    .rename_i t t2 j;split at h
     .rename_i E p;split at h
      .rename_i e l;exact ahG cS i d a j l p h
      simp_all
     .rename_i F p;split at h
      .rename_i e l;split at h
       .rename_i b dy n C v;split at h
        .rename_i A q z;exact ahp cS i d a j l p v z h
        simp_all
       .rename_i v;split at h
        .rename_i A q z;exact ahq cS i d a j l p v z h
        simp_all
       simp_all
      simp_all
     simp_all
    simp_all
   simp_all
  .split at h
   .rename_i x a;split at h
    .rename_i t j;split at h
     .rename_i e l;have gQ:=i;have dg:=d;have dq:=a;have ua:c.args=#[x]:=by rw[<-zu];exact dq
      have ub:c.argTypes=#[t]:=by rw[<-zu];exact j
      obtain⟨mn,H⟩:=kC cS l;split at h
      .rename_i b dy n V J
       split at h
       .rename_i B hb
        refine⟨_,h,uJ λown M D a w c8 c_ I=>⟨.int .i64 V,?_⟩⟩;have cU:=I x;rw[J]at cU;generalize lp:a.eval x=v at cU
        cases cU with
        |jj _ _ _ _ _ G=>rw[(c_.fD b).2 G]at hb;cases hb
        |win _ _ _ _ cL k base G cY aa ah W=>
         have:=aa V Z;subst this;exact⟨Su,λdu rX=>Sr,.d _ _ (.int _ _)⟩
       simp_all
      .rename_i J
       refine⟨_,h,uJ λown M D a w c8 c_ I=>⟨.int .i64 0,?_⟩⟩;have cU:=I x;rw[J]at cU;generalize lp:a.eval x=v at cU
       cases cU with
       |nil base=>
        exact⟨Su,λdu rX=>Sr,.d _ _ (.int _ _)⟩
      simp_all
     simp_all
    simp_all
   simp_all
  .split at h
   .rename_i x y a;split at h
    .rename_i t t2 j;split at h
     .rename_i e l;have dg:=d;have dq:=a;have s0:=j;have ua:c.args=#[x,y]:=w7
      have ub:c.argTypes=#[t,t2]:=yF
      have⟨mn,H⟩:=kC cS l;unfold T5 at h
      split at h
      .rename_i b dy n V J
       split at h
       .rename_i r cQ hb;have⟨Q,h⟩:=qF h;have Q:=gs Q;subst Q;have⟨fS,h,aj⟩:=ahm (P:=P) h;have⟨⟨ak,ab⟩,h⟩:=kT h;refine⟨_,h,rj λown M D a w al c8 c_ I=>?_⟩;have⟨R,eT,vs,ac,X,am⟩:=aj _ ab own M D w _ c8 c_ (I y);have cU:=I x;rw[J]at cU;generalize lp:a.eval x=v at cU
        cases cU with
        |jj _ _ _ _ _ G=>rw[(c_.fD b).2 G]at hb;cases hb
        |win _ _ _ _ cL k base G cY aa ah W=>
         have⟨_,_,_,_,_,ad,_⟩:=c_.at_ b _ cL hb G
         have d8:(fS.take (ut fS.length n)).length=ut fS.length n:=by rw[pn];exact Nat.min_eq_left (Nat.min_le_left _ _)
         have au:ut fS.length n<=n:=Nat.min_le_right _ _
         have⟨w',dG,ae,af⟩:=NL (P:=P) c8 c_ hb G (dy:=dy) (base:=base) X.row X.size am (by rw[d8];omega) (by
          rcases W with h|h
          .exact .inl (by rw[h,ad])
          .right
           apply IB
           rw[d8];omega)
         have S:=af (.d (.int .i64 (ut fS.length n))) (.int .i64 (ut fS.length n)) (.d _ _ (.int _ _));rw[d8]at S
         have dI:=X.run w λ_ _=>Z
         have ag:(k_ (T e).size (ut fS.length n) (.slice R fS.length eT)).run P w=.ok vs w:=by
          rw[d8]at dI
          cases R with
          |none=>exact dI
          |some R=>exact dI
         have an:∀du∈(k_ (T e).size (ut fS.length n) (.slice R fS.length eT)).events P w #[],h0 own M du:=by
          have dI:=X.rd w #[] λ_ _=>Z
          rw[d8]at dI;intro du rX;refine(dI du ?_).elim (λq=>by simp at q) id
          cases R with
          |none=>exact rX
          |some R=>exact rX
         refine⟨_,w',?_,λdu rX=>?_,S⟩
         rotate_left
         .simp[execOp,i,ii,dg,ij,builtin,ua,ub,lp,ac,VK,fv mn,iu cS w H,pZ,ag,dG,goInt]at rX;exact(ae _ du rX).elim (an du) id
         simp only[execOp,i,ii,dg,ij,builtin,ua,ub,lp,ac,VK,fv mn,iu cS w H,pZ,ag,dG,goInt,Array.map,g2,hM,g7];simp[VK,fv mn,iu cS w H,pZ,ag,dG,goInt,lp,ac]
       simp_all
      simp_all
     simp_all
    simp_all
   simp_all
  .split at h
   .rename_i x a;split at h
    .rename_i t j;split at h
     .rename_i e l;have gQ:=i;have dq:=a;have s0:=j;have ua:c.args=#[x]:=w7;have ub:c.argTypes=#[t]:=yF;have⟨mn,H⟩:=kC cS l;unfold T6 at h;split at h
      .rename_i b dy n V J;split at h
       .rename_i r cQ hb;have⟨Q,h⟩:=qF h;have Q:=gs Q;subst Q;have⟨⟨ak,ab⟩,h⟩:=kT h;refine⟨_,h,rj λown M D a w al c8 c_ I=>?_⟩;have cU:=I x;rw[J]at cU;generalize lp:a.eval x=v at cU
        cases cU with
        |jj _ _ _ _ _ G=>rw[(c_.fD b).2 G]at hb;cases hb
        |win _ _ _ _ cL k base G cY aa ah W=>
         have⟨_,_,_,_,_,ad,_⟩:=c_.at_ b _ cL hb G;have⟨_,av,_,yM,_,_,_,⟨z,LH,ao⟩,_⟩:=(lC cS H).desc;have ai:(zeroValue e).run P w=.ok z w:=LG;have⟨ap,aw,aq⟩:=NM ao (EA cS H) (pV cS H) n M
         have Y:(eL n (T e).zero).length=n:=uO ..
         have⟨w',dG,ae,af⟩:=NL (P:=P) c8 c_ hb G (dy:=dy) (base:=base) ap (by rwa[Y]) (aq ab) (by rw[Y];omega) (by
          rcases W with h|h
          .exact .inl (by rw[h,ad])
          .right;apply IB
           rw[Y];omega)
         have S:=af (.dP []) (.tuple #[]) (.dP [] #[] Z λi x v h=>ql);rw[Y]at S;refine⟨_,w',?_,λdu rX=>?_,S⟩
         rotate_left
         .cases n with
          |zero=>simp[execOp,gQ,ii,d,ij,builtin,ua,ub,lp,NR,fv mn]at rX
          |succ n=>simp[execOp,gQ,ii,d,ij,builtin,ua,ub,lp,NR,fv mn,ai,dG,ed.zeroValue e P]at rX;exact(ae _ du rX).elim (λq=>by simp at q) id
         cases n with
         |zero=>
          have:w'=w:=by
           have ar:(storeCells ⟨cL.blk,base,cM⟩ (n6 z.cells 0).toList).run P w=.ok () w:=by simp[n6,storeCells]
           rw[ar]at dG
           cases dG;rfl
          subst this;simp[execOp,gQ,ii,d,ij,builtin,ua,ub,lp,NR,fv mn]
         |succ n=>simp[execOp,gQ,ii,d,ij,builtin,ua,ub,lp,NR,fv mn,ai,dG]
       simp_all
      simp_all
     simp_all
    simp_all
   simp_all
  simp_all
 .rename_i f d;split at h
  .rename_i f
   cases u:MG (j7 dC c.args.toList) with|true=>rw[u]at h;exact ahI i d h|false=>rw[u]at h;exact ahJ i d h
  .rename_i t;split at h
   .rename_i f cs r;refine ahK i d ?_ h;unfold T8 at r;grind
   simp_all
  simp_all
 simp_all
theorem VL{P T}(cS:jB P T){t e}(h:(T t).k=.ptr e):P.underlying t=U (.pointer e):=by
 have⟨d,i,u,_,k,_,_,_,a,_⟩:=(lC cS (t:=t) G2).desc;rw[h]at k a
 cases d<;>simp[uI]at k
 simp_all
theorem aet{P}(w n t e a)(h:P.underlying t=U (.pointer e)):(n2 (n+1) t (.pointer a) (.pointer cM)).run P w=.ok a.isNone w:=by cases a<;>simp[n2,fv h]
theorem ahR{P T}(cS:jB P T){t e hu x y O K}(c6:(T t).k=.ptr e)(h:El hu x y O K):
  ∃r,K ⟨.d (.bool r),[],cM⟩ /\ ∀own M D v u X Y w,er own M D O w->dV M D x v->dV M D y u->
   (do eqGuard hu t X Y v u;jo hu t v u:Sem dp).run P w=.ok (.bool r) w:=by
 have mn:=VL cS c6
 have f:∀(r:dh),ux hu K r->∃hZ:dh,K ⟨.d (.bool hZ),[],cM⟩ /\ ∀(a:dB gP) (X Y:fu) (w:c'),r=a.isNone->
   (do eqGuard hu t X Y (.pointer a) (.pointer cM);jo hu t (.pointer a) (.pointer cM):Sem dp).run P w=.ok (.bool hZ) w:=by
  intro r c;unfold ux at c;split at c
  .exact⟨r,c,λa X Y w dI=>Ss⟩
  .exact⟨!r,c,λa X Y w dI=>Ss⟩
  .grind
 unfold El at h;split at h
 .split at h
  .rename_i b i j;split at h
   .rename_i B hb;have⟨r,c,c7⟩:=f _ h;refine⟨r,c,λown M D v u X Y w c_ cU mn=>?_⟩
    cases mn with
    |d _ _ mn=>
     cases mn
     cases cU with|ptr _ _ _ cL g=>simp_all|iV _ _ _ _ g=>rw[(c_.fD b).2 g]at hb;cases hb
   simp_all
  .have⟨r,c,c7⟩:=f _ h;refine⟨r,c,λown M D v u X Y w c_ cU mn=>?_⟩
   cases mn with
   |d _ _ mn=>
    cases mn
    cases cU with|d _ _ cU=>cases cU;simp_all
  simp_all
 simp_all
include cS in
theorem VM{s f F l}(c:P.underlying s=U (.struct F))(b:F[f]?=U l)(z:(T l.type).k.known=N)(v):hE P (EG s v f):=by
 unfold EG;refine .bind (ed.at (.underlying _)) λw u w' r=>?_;rw[fv c]at r
 cases r
 simp[b];refine .bind' (ed.at (.sureAddr _)) λa=>.bind' ?_ λ_=>ed.at (.pure _);unfold fieldPlace;refine .bind (ed.at (.sizeOf _)) λw n w' r=>?_;rw[iu cS w z]at r
 cases r
 have:=pV cS z;rw[cT R];exact ed.at (.pure _)
include cS in
theorem NS{t}(k:(T t).k.known=N){own M w b o}(h:∀i,i<(T t).size->(w.cell? ⟨b,o+i,cM⟩).isSome)(g:own b\/ ∃o v,M b o=U v):
  ∀du∈(loadVar t ⟨b,o,cM⟩).events P w #[],h0 own M du:=by
 intro du e;simp only[loadVar,jn,Bz cS w k,kE,ed.isAgg t P w]at e
 cases a:(T t).k.agg with
 |true=>
  simp[a,ni,jn,iu cS w k,kE,ed.sizeOf t P w]at e
  have e:du∈(loadCells ⟨b,o,cM⟩ (T t).size).events P w #[]:=by
   revert e
   cases (loadCells ⟨b,o,cM⟩ (T t).size).run P w<;>exact id
  rcases Ir (P:=P) ⟨b,o,cM⟩ (T t).size 0 _ w #[] (λj l=>by rw[mA,np];grind) du e with q|⟨d,eb,f,m⟩
  .simp at q
  .unfold h0;simp_all
 |false=>
  simp only[a,rh,qp]at e;have⟨u,c⟩:=Option.isSome_iff_exists.1 (h 0 (pV cS k));rcases Nt w _ #[] c du e with q|⟨d,f⟩
  .simp at q
  .unfold h0;simp_all
include cS in
theorem VN{t x O K}(h:vX T t x O K):
  ∀own M D w v,fq M w->er own M D O w->dV M D x v->∀du∈(sc t v).events P w #[],h0 own M du:=by
 unfold vX at h
 have c6:(T t).k.known=N:=by
  cases n:(T t).k.known with|true=>rfl|false=>simp_all
 simp[c6,fE]at h;have Q:=xx cS c6
 have o:∀(a:gP) (w:c'),(sc t (.pointer (U a))).events P w #[]=(loadVar t a).events P w #[]:=λa w=>by rfl
 unfold Eg at h;split at h
 .rename_i b i j;split at h
  .rename_i c cN hb;have⟨u,c5⟩:=kT h;subst u;have⟨fl,k,dw,cP⟩:=BD c5 Q;intro own M D w v dq c_ cU
   cases cU with|ptr _ _ _ cL f=>have⟨p,cs,eQ,q,y,r,z,A,_⟩:=c_.at_ b _ cL hb f;have⟨g,n,s⟩:=cP M D (λi=>cs[i]?) (λi x m=>A.den i x m);rw[o];exact NS cS c6 (λi cK=>by rw[si q];simp_all) (.inl p)|iV _ _ _ _ f=>rw[(c_.fD b).2 f]at hb;cases hb
  .rename_i l cQ cN hb;have⟨e,he,h⟩:=EC h;have⟨fl,k,dw,cP⟩:=BE h Q;intro own M D w v dq c_ cU
   cases cU with|ptr _ _ _ cL f=>have⟨p,cs,eQ,q,y,r,z,F,B,_⟩:=c_.at_ b _ cL hb f;have⟨g,n,s⟩:=cP M D (λj=>cs[i*cQ+j]?) (λj x m=>B.den i j e x he m);subst r;rw[o];exact NS cS c6 (λk cK=>by rw[si q];grind) (.inl p)|iV _ _ _ _ f=>rw[(c_.fD b).2 f]at hb;cases hb
  simp_all
 .rename_i e j;have⟨fl,k,dw,cP⟩:=BE h Q;intro own M D w v dq c_ cU
  cases cU with
  |d _ _ cU=>
   cases cU with|ip _ _ b off val d8 C=>have⟨g,n,s⟩:=cP M D (λi=>w.cell? ⟨b,off+i,cM⟩) (λi x m=>⟨val i,dq _ _ _ (d8 i x m),C i x m⟩);rw[o];have O:=pV cS c6;exact NS cS c6 (λk cK=>by grind) (.inr (have E:j<e.length:=R;⟨_,_,d8 j _ (fe E)⟩))
 simp_all
include cS in
theorem ahS{t e hu x y O K}(c6:(T t).k=.ptr e)(h:El hu x y O K):
  ∀own M D v u X Y w,er own M D O w->dV M D x v->dV M D y u->hE P (do eqGuard hu t X Y v u;jo hu t v u:Sem dp):=by
 have c:=VL cS c6
 have m:∀(r:dh),ux hu K r->∀(a:dB gP) (X Y:fu),hE P (do eqGuard hu t X Y (.pointer a) (.pointer cM);jo hu t (.pointer a) (.pointer cM):Sem dp):=by
  intro r f a X Y
  have g:hE P (EF t (.pointer a) (.pointer cM)):=by
   show hE P (n2 (9999+1) t (.pointer a) (.pointer cM));unfold n2;refine .bind (ed.at (.underlying _)) λw u w' dI=>?_;rw[fv c]at dI
   cases dI
   cases a<;>exact ed.at (.pure _)
  unfold ux at f;split at f
  .exact .bind' (ed.at (zs _ _ _ _ _ _ dt dt)) λ_=>.bind' g λ_=>ed.at (.pure _)
  .exact .bind' (ed.at (zs _ _ _ _ _ _ dt dt)) λ_=>.bind' g λ_=>ed.at (.pure _)
  .grind
 unfold El at h;split at h
 .split at h
  .rename_i b i j;split at h
   .rename_i B hb;intro own M D v u X Y w c_ cU c
    cases c with
    |d _ _ c=>
     cases c
     cases cU with|ptr _ _ _ cL l=>simp_all|iV _ _ _ _ l=>rw[(c_.fD b).2 l]at hb;cases hb
   simp_all
  .intro own M D v u X Y w c_ cU c
   cases c with
   |d _ _ c=>
    cases c
    cases cU with|d _ _ cU=>cases cU;simp_all
  simp_all
 simp_all
include cS in
theorem BT{o dC O K}(h:hs T P o dC O K):∃e,K e/\hv P o dC O e:=by
 unfold hs at h;split at h
 case h_1 x gQ=>exact rl (s:=λf=>pure (f x)) (λf=>lW) (λf=>ed.at (.pure _)) K (tl h).1 λown M D a w _ _ gL=>⟨_,Z,gL x⟩
 case h_2 x gQ=>exact rl (s:=λf=>pure (f x)) (λf=>lW) (λf=>ed.at (.pure _)) K (tl h).1 λown M D a w _ _ gL=>⟨_,Z,gL x⟩
 case h_3 c x y gQ=>
  have ah:∀(b:dh) (z:fu),(∀(M:eE) (D:gr) v,dV M D (dC c) v->v=.bool b)->(z=if b then x else y)->mY (dC z) (val K)->∃e,K e/\hv P o dC O e:=by
   intro b z hb ad h;refine rl (s:=λf=>do pure (if <-asBool (f c) then f x else f y)) (λf=>lW) (λf=>.bind' (ed.at (.asBool _)) λ_=>ed.at (by split<;>exact .pure _)) K (tl h).1 λown M D a w _ _ gL=>⟨_,?_,gL z⟩;rw[hb M D _ (gL c),ad]
   cases b<;>rfl
  split at h
  .rename_i dg;exact ah N x (λM D v cU=>by rw[dg]at cU;cases cU;rfl) Z h
  .rename_i dg;exact ah L y (λM D v cU=>by rw[dg]at cU;cases cU;rfl) Z h
  .rename_i b dg;rcases v6 h with⟨rfl,Q⟩|⟨rfl,Q⟩
   .exact ah N x (λM D v cU=>n1 (dg▸cU)) Z Q
   .exact ah L y (λM D v cU=>n1 (dg▸cU)) Z Q
  simp_all
 case h_4 t x gQ=>
  have⟨fl,aa,c7⟩:=agq cS h
  exact zt (s:=λf=>sc t (f x)) (λf=>lW) K aa λown M D a w c8 c_ gL=>by
   have⟨r,Q,c5⟩:=c7 own M D w _ c8 c_ (gL x);exact⟨r,Q,VN cS h own M D w _ c8 c_ (gL x),c5⟩
 case h_5 x gQ=>
  split at h
  .rename_i b i j eC;split at h
   .rename_i B hb;refine⟨_,h,uJ λown M D a w c8 c_ gL=>⟨a.eval x,?_⟩⟩;have cU:=gL x;rw[eC]at cU;generalize lp:a.eval x=v at cU
    cases cU with
    |ptr _ _ _ cL I=>exact⟨G3,tk G3,.ptr _ _ _ cL I⟩
    |iV _ _ _ _ I=>rw[(c_.fD b).2 I]at hb;cases hb
   simp_all
  .rename_i c j eC;refine⟨_,h,uJ λown M D a w c8 c_ gL=>⟨a.eval x,?_⟩⟩;have cU:=gL x;rw[eC]at cU;generalize lp:a.eval x=v at cU
   cases cU with
   |d _ _ cU=>
    cases cU with
    |ip _ _ b off val d8 ak=>exact⟨G3,tk G3,.d _ _ (.ip _ _ b off val d8 ak)⟩
  simp_all
 case h_6 op t x y k gQ=>
  split at h
  .rename_i e c6;have⟨r,aa,c7⟩:=ahR cS c6 h;exact zt (s:=λf=>do eqGuard op t x y (f x) (f y);jo op t (f x) (f y)) (λf=>lW) K aa λown M D a w c8 c_ gL=>⟨_,c7 own M D _ _ x y w c_ (gL x) (gL y),tk (ahS cS c6 h own M D _ _ x y w c_ (gL x) (gL y) w #[]),.d _ _ (.bool r)⟩
  .have⟨fl,aa,c7⟩:=agr cS h
   exact zt (s:=λf=>do eqGuard op t x y (f x) (f y);jo op t (f x) (f y)) (λf=>lW) K aa λown M D a w c8 c_ gL=>by
    have⟨r,Q,c5⟩:=c7 M D _ _ (gL x) (gL y) x y w;exact⟨r,Q,tk (ahC cS h M D _ _ (gL x) (gL y) x y w #[]),c5⟩
 case h_7 op t x gQ=>
  split at h
  .split at h
   .rename_i b eC;exact rl (s:=λf=>E1 .not (f x)) (λf=>lW) (λf=>ed.at (IC _ _)) K h λown M D a w c8 c_ gL=>⟨.bool (!b),by have t':=n1 (eC▸gL x);rw[t'];rfl,.d _ _ (.bool _)⟩
   .rename_i eC
    exact rl (s:=λf=>E1 .not (f x)) (λf=>lW) (λf=>ed.at (IC _ _)) K h λown M D a w c8 c_ gL=>⟨.bool L,by
     have cU:=gL x;rw[eC]at cU;generalize lp:a.eval x=v at cU
     cases cU;rfl,.fd⟩
   .rename_i eC
    exact rl (s:=λf=>E1 .not (f x)) (λf=>lW) (λf=>ed.at (IC _ _)) K h λown M D a w c8 c_ gL=>⟨.bool N,by
     have cU:=gL x;rw[eC]at cU;generalize lp:a.eval x=v at cU
     cases cU;rfl,.e4⟩
   simp_all
  .split at h
   .rename_i k n eC;exact rl (s:=λf=>E1 .xor (f x)) (λf=>lW) (λf=>ed.at (IC _ _)) K h λown M D a w c8 c_ gL=>⟨_,by have t':=kr (eC▸gL x);rw[t'];rfl,.d _ _ (.int _ _)⟩
   simp_all
  simp_all
 case h_8 fS dst x gQ=>
  split at h
  .rename_i k c6;split at h
   .rename_i eF eM;split at h
    .rename_i fr n eC;have aa:=EB h;exact zt (s:=λf=>xG fS dst (f x)) (λf=>lW) K aa λown M D a w c8 c_ gL=>⟨_,Sq,tk Sq,.d _ _ (.int _ _)⟩
    simp_all
   simp_all
  .rename_i c6;split at h
   .rename_i e eM;split at h
    .rename_i al aB
     cases aC:d2 (j4 al) 4 with
     |false=>simp_all
     |true=>
      rw[aC]at h
      have aL:al=.u8:=by cases al<;>first|rfl|exact dQ aC c1
      subst aL;have⟨l,h,aM⟩:=Nu (P:=P) (show Bi 1 (dC x) O _ from h);split at h
      .rename_i dR aN;refine zt (s:=λf=>xG fS dst (f x)) (λf=>lW) K h λown M D a w c8 c_ gL=>?_;have⟨eb,bb,vs,ab,c7,_⟩:=aM own M D w _ c8 c_ (gL x);rw[ab]at c7;refine⟨_,?_,λdu aD=>VE c7 du (by rw[ab]at aD;simpa[xG,fv (v5 cS c6),fv (kC cS eM).1,fv (vB cS aB)]using aD),.d _ _ (.str _)⟩;rw[ab,run_convert_bytes_string w fS dst e eb _ _ (kC cS eM).1 (vB cS aB) (v5 cS c6)];exact VC c7 aN
      simp_all
    simp_all
   simp_all
  simp_all
 case h_9 t x dy cK nW gQ=>exact ahl cS gQ h
 case h_10 s x f gQ=>
  split at h
  .rename_i b i j eC;split at h
   .rename_i B hb;have⟨F,iX,ab,ee,c6,aa⟩:=Nh cS h;refine rl (s:=λg=>EG s (g x) f) (λf=>lW) (λf=>VM cS ab ee c6 _) K aa λown M D a w c8 c_ gL=>?_;have cU:=gL x;rw[eC]at cU;generalize lp:a.eval x=v at cU
    cases cU with
    |ptr _ _ _ cL I=>exact⟨_,Uy cS ab ee c6 _ _ w,by rw[EH];exact .ptr b i _ cL I⟩
    |iV _ _ _ _ I=>rw[(c_.fD b).2 I]at hb;cases hb
   simp_all
  .rename_i c j eC;have⟨F,iX,ab,ee,c6,aa⟩:=Nh cS h;refine rl (s:=λg=>EG s (g x) f) (λf=>lW) (λf=>VM cS ab ee c6 _) K aa λown M D a w c8 c_ gL=>?_;have cU:=gL x;rw[eC]at cU;generalize lp:a.eval x=v at cU
   cases cU with
   |d _ _ cU=>
    cases cU with
    |ip _ _ b off val d8 ak=>exact⟨_,Uy cS ab ee c6 _ _ w,by rw[EH];exact .d _ _ (.ip c _ b off val d8 ak)⟩
  simp_all
 case h_11 s x f gQ=>
  split at h
  .rename_i c eC;have⟨F,iX,ab,ee,c6,h⟩:=Nh cS h;have⟨fl,aa,dw,cP⟩:=BD h (xx cS c6);refine rl (s:=λg=>MW s (g x) f) (λf=>lW) (λf=>ed.at (af6 _ _ _)) K aa λown M D a w c8 c_ gL=>?_;have cU:=gL x;rw[eC]at cU;have⟨vs,am,c7,an⟩:=xz cU
   have⟨g,aO,aP⟩:=cP M D (λi=>vs[i]?) (λi x eC=>by
    have o':i<vs.size:=by rw[c7];exact(fM.1 eC).1
    exact⟨vs[i],uf,an i x _ eC uf⟩)
   refine⟨_,?_,aP⟩;rw[am];simp[MW,asAgg,g2,hM,g7,fv ab,ee,part,Bz cS w c6]
   cases dq:(T iX.type).k.agg with
   |true=>
    simp[ni,g2,iu cS w c6,g7,hM]
    congr 2
    grind
   |false=>have:=aO 0 (by have:=pV cS c6;omega);simp_all
  simp_all
 case h_12 t x i gQ=>have⟨fl,aa,c7⟩:=agt cS h;exact rl (s:=λf=>Instr.indexAt t (f x) (f i)) (λf=>lW) (λf=>ed.at (HX _ _ _)) K aa λown M D a w c8 c_ gL=>c7 own M D w _ _ c_ (gL x) (gL i)
 case h_13 t x i gQ=>have⟨fl,aa,c7⟩:=agu cS h;exact rl (s:=λf=>Instr.index t (f x) (f i)) (λf=>lW) (λf=>ed.at (af7 _ _ _)) K aa λown M D a w c8 c_ gL=>c7 M D w _ _ (gL x) (gL i)
 case h_14 x i gQ=>
  split at h
  .rename_i c eC;unfold Bf at h;split at h
   .rename_i y ai;refine rl (s:=λf=>MX (f x) i) (λf=>lW) (λf=>ed.at (af8 _ _)) K (tl h).1 λown M D a w c8 c_ gL=>?_;have cU:=gL x;rw[eC]at cU;have⟨vs,am,c7,an⟩:=ago cU
    have o':i<vs.size:=by rw[c7];exact(fM.1 ai).1
    exact⟨vs[i],by rw[am];simp[MX,o'],an i y _ ai uf⟩
   simp_all
  simp_all
 case h_15 t aQ gQ=>exact agT cS gQ h
 case h_16 t gQ=>
  split at h
  .rename_i d cP;exact agM cS gQ h
  simp_all
 case h_17 t x gQ=>
  split at h
  .rename_i d cP;have h:=(tl h).1
   cases k:r9 O (cellsOf (dC x)) with
   |false=>simp_all
   |true=>
    simp[k,fE]at h;refine⟨_,EE h,rj λown M D a w n q c_ i=>?_⟩;have⟨ac,m,u⟩:=Ig c_ k (i x);have r:=agL ac m
    have g:tc M D (a.eval x).cells (hp.cells d (cellsOf (dC x))):=by
     refine⟨by rwa[EK],λj y f=>?_⟩;rw[EJ]at f
     cases b:(cellsOf (dC x))[j]? with
     |none=>simp_all
     |some z=>simp[b,jp,fx]at f;subst f;have⟨v,dG,p⟩:=r.den j z b;exact⟨v,dG,p.eu d⟩
    refine⟨_,w.alloc (.cells (a.eval x).cells t),?_,tk (by simp[execOp,gQ,ahU,newVar,newRow]),UT n q c_ g λy f=>?_⟩
    .simp[execOp,gQ,ahU,US]
    .obtain⟨j,s,rfl⟩:=List.getElem_of_mem f;have:=EJ d (cellsOf (dC x)) j;rw[fe s]at this
     cases b:(cellsOf (dC x))[j]? with
     |none=>simp_all
     |some z=>simp[b,jp,fx]at this;rw[this];exact Mp d z
  simp_all
 case h_18 t x y gQ=>
  split at h
  .rename_i b i j eC;split at h
   .rename_i c hb;have hi:=(tl h).1;clear h;have cK:=(kT hi).1;have h:=(kT hi).2;clear hi;subst cK
    cases c6:(T t).k.known&&d2 (cellsOf (dC y)).length (T t).size with
    |false=>simp_all
    |true=>
     simp only[c6,fE]at h;simp only[lB]at c6;have ao:=gs c6.2
     cases dg:r9 O (cellsOf (dC y)) with
     |false=>simp_all
     |true=>
      cases dw:hn (j+(T t).size) c.length with
      |false=>simp_all
      |true=>
       simp[dg,dw,fE]at h;have aR:=ta dw;have h:=agR R h;refine⟨_,h,UR λown M D a w aS dq c_ gL=>?_⟩;have⟨ac,ap,aq⟩:=Ig c_ dg (gL y);have lp:=gL x;rw[eC]at lp;generalize aE:a.eval x=aT at lp
       cases lp with
       |iV _ _ _ _ I=>rw[(c_.fD b).2 I]at hb;cases hb
       |ptr _ _ _ cL I=>
        have⟨aU,cs,eQ,aV,bc,aF,fb,aG,bd⟩:=c_.at_ b _ cL hb I;have aH:=c_.closed I _ hb Z;have⟨aI,dG,ar,au,av,aj,aw,ax⟩:=Ik (P:=P) (own:=own) dq aU aH aV (a.eval y).cells.toList j (by simp_all) aq;refine⟨w.setRow cL.blk aI,?_,?_,M,D,au,.refl M,ar,.refl _ _,?_,λ_ _=>Z,.dead _⟩
        .have:(0*cL.cQ+j)=j:=R
         simp[execOp,gQ,aE,zv,lA,UY cS c6.1 (v:=a.eval y) (by rw[ac,ao]) dG.1]
        .intro du he;apply dG.2 du;have t':=R;simpa[execOp,gQ,aE,zv,lA,UZ cS c6.1 (v:=a.eval y) (by rw[ac,ao]),t']using he
        .refine c_.set b (.box (iM c j (cellsOf (dC y))) L) LP (.refl M) (λe=>by rw[I]at e;cases e) (λej ae=>?_) λd7 ej aW ae=>⟨ax _ λe=>aW (c_.inj d7 b ej cL ae I e),c_.closed ae⟩;rw[I]at ae;cases ae
         refine⟨aI,eQ,av,by rwa[aj],by rwa[zm],by rwa[zm],⟨by rw[zm,aj];exact aG.size,λk z ad=>?_⟩,rW,λ_=>aH⟩;rw[BK _ _ _ _ (by rwa[ao])]at ad;rw[aw k]
         have ay:(a.eval y).cells.toList.length=(cellsOf (dC y)).length:=by simpa using ac
         rw[ay];split at ad
         .rename_i af;rw[if_pos af];have eM:=(fM.1 ad).1;have:(a.eval y).cells.toList[k-j]?=U ((a.eval y).cells.toList[k-j]' R):=fe _;exact⟨_,this,ap (k-j) z _ ad S6⟩
         .rename_i af;rw[cT af];exact aG.den k z ad
   .rename_i l cQ hb;have h:=(tl h).1
    cases B:conv.cells O (cellsOf (dC y)) with
    |none=>simp_all
    |some dD=>
     simp only[B]at h
     cases dr:(T t).k.known&&d2 (cellsOf (dC y)).length (T t).size&&!kd b (gU.cells O (cellsOf (dC y))) with
     |false=>simp_all
     |true=>
      simp only[dr,fE]at h;simp only[lB]at dr;have n:=gs dr.1.2;have aX:=agP (by simpa using dr.2)
      cases dg:r9 O (cellsOf (dC y)) with
      |false=>simp_all
      |true=>
       simp only[dg,fE]at h;have⟨e,cX,h⟩:=EC h
       cases dw:hn (j+(T t).size) e.length with
       |false=>simp_all
       |true=>
        simp[dw,fE]at h;have aR:=ta dw;refine⟨_,h,UR λown M D a w aS dq c_ X=>?_⟩;have⟨az,s1,aF,fh,Q,eD,aY⟩:=v8 (hh:=O) (gU.cells O (cellsOf (dC y))) M O dq c_ (.refl O)
        have A:gj O (f9 O (gU.cells O (cellsOf (dC y)))) b=U (.row l cQ L):=by rwa[EQ _ _ aX]
        have⟨ac,ap,aq⟩:=Ig c_ dg (X y);have⟨aZ,a0⟩:=BH B
        have a1:∀(k:V) (d:c3),dD[k]?=U d->∃u,(a.eval y).cells[k]?=U u/\e1 az d u:=by
         intro k d cP;have⟨z,fY,gY,_⟩:=a0 k d cP;have be:=(fM.1 fY).1
         have ab:(a.eval y).cells[k]?=U (a.eval y).cells[k]:=dt
         refine⟨_,ab,v_ Q (by rwa[Nk eD]) ?_ ((ap k z _ fY ab).mono s1)⟩;have:=xA (hh:=O) (λb l cQ cN hb e=>aY b l cQ cN (.inl hb) e) eD (.agg (cellsOf (dC y))) (λb hb=>by simpa[gU]using hb);obtain⟨_,_,bf⟩:=(BH (O:=gj O (f9 O (gU.cells O (cellsOf (dC y))))) (by rw[H7 eD];exact B)).2 k d cP
         have H:∀(c:J dn) (O:V->dB d4),gU.cells O c=[]->∀(k:V) (z:dn),c[k]?=U z->gU.one O z=[]:=by
          intro c O
          induction c with
          |nil=>intro _ k z H;simp at H
          |cons q r a2=>
           intro aA k z H;simp[gU.cells,zj]at aA
           cases k with
           |zero=>simp at H;subst H;exact aA.1
           |succ k=>exact a2 aA.2 k z (by simpa using H)
         exact H _ _ (by simpa[gU]using this) k z fY
        have G:=X x;rw[eC]at G;generalize dc:a.eval x=aT at G
        cases G with
        |iV _ _ _ _ I=>rw[(c_.fD b).2 I]at hb;cases hb
        |ptr _ _ _ cL I=>
         have⟨F,cs,eQ,C,a3,a4,a5,aJ,ag,bg⟩:=Q.at_ b _ cL A I;subst a4;have da:=Q.closed I _ A Z;have bh:=ag.len i e cX;have a6:=(fM.1 cX).1
         have a7:i*cL.cQ+j+(T t).size<=cs.size:=by
          rw[a3];refine fJ ?_ aJ
          calc i*cL.cQ+j+(T t).size<=i*cL.cQ+cL.cQ:=R
           _=(i+1)*cL.cQ:=by rw[qD,ES]
           _<=l.length*cL.cQ:=l4 _ a6
         have⟨dj,dG,ar,au,av,aj,aw,ax⟩:=Ik (P:=P) (own:=own) aF F da C (a.eval y).cells.toList (i*cL.cQ+j) (by simp[ac,n];exact a7) aq;refine⟨w.setRow cL.blk dj,?_,?_,az,D,au,s1,ar,fh,?_,λ_ _=>Z,.dead _⟩
         .simp[execOp,gQ,dc,zv,lA,UY cS dr.1.1 (v:=a.eval y) (by rw[ac,n]) dG.1]
         .intro du cX;have:=dG.2 du (by simpa[execOp,gQ,dc,zv,lA,UZ cS dr.1.1 (v:=a.eval y) (by rw[ac,n])]using cX);exact agj fh this
         .have a8:(⟨.dead,f9 O (gU.cells O (cellsOf (dC y)))++[(b,.row (l.set i (iM e j dD)) cL.cQ L)],cM⟩:ge).O O=eO (gj O (f9 O (gU.cells O (cellsOf (dC y))))) b (U (.row (l.set i (iM e j dD)) cL.cQ L)):=by
           simp[ge.O,zl,gj];rfl
          rw[a8];refine Q.set b _ (by rw[A];simp) (.refl az) (λe=>by rw[I]at e;cases e) (λej m=>?_) λd7 ej E m=>⟨ax _ λe=>E (Q.inj d7 b ej cL m I e),Q.closed m⟩;rw[I]at m;cases m
          have W:dD.length=(T t).size:=by rw[aZ,n]
          refine⟨dj,eQ,av,by rwa[aj],Z,by simpa using a5,by simpa using aJ,⟨λp Y f=>?_,λp cV Y aK f g=>?_⟩,(by intro e;cases e),λ_=>da⟩
          .rw[lF]at f;split at f
           .simp at f;subst f;rwa[zm]
           .exact ag.len p Y f
          .rw[aw]
           have ay:(a.eval y).cells.toList.length=(T t).size:=by simp[ac,n]
           rw[ay];rw[lF]at f;split at f
           .rename_i S;subst S;simp at f;subst f;rw[BK _ _ _ _ (by rwa[W])]at g;rw[W]at g;split at g
            .rename_i af;rw[if_pos ⟨by omega,by omega⟩];have⟨u,a9,a_⟩:=a1 _ _ g;exact⟨u,by rw[show i*cL.cQ+cV-(i*cL.cQ+j)=cV-j by omega];simpa using a9,a_⟩
            .rename_i af;rw[cT R];exact ag.den i cV e aK cX g
           .rename_i S;have a':=(fM.1 g).1;rw[ag.len p Y f]at a'
            have E:¬(i*cL.cQ+j<=p*cL.cQ+cV/\p*cL.cQ+cV<i*cL.cQ+j+(T t).size):=by
             rintro⟨g6,bi⟩;rcases jd p i with o'|av9
             .have:(p+1)*cL.cQ<=i*cL.cQ:=l4 _ o';rw[qD,ES]at this;omega
             .have ba:i+1<=p:=R
              have:(i+1)*cL.cQ<=p*cL.cQ:=l4 _ ba;rw[qD,ES]at this;omega
            rw[cT E];exact ag.den p cV Y aK f g
   simp_all
  simp_all
 case h_19 t x y gQ=>
  split at h
  .rename_i d cP;split at h
   .rename_i e c6;split at h
    .rename_i k1 n eC;split at h
     .rename_i eF c ai;exact agX cS gQ eC ai c6 h
     simp_all
    simp_all
   simp_all
  simp_all
 case h_20 t n aQ gQ=>
  split at h
  .rename_i d cP;exact agW cS gQ h
  simp_all
 case h_21 fn first cap gQ=>
  split at h
  .rename_i f;exact ahh gQ h
  simp_all
 case h_22 c gQ=>exact ahL cS gQ h
 simp_all
end
end Go.Lk
namespace Go.Lk
open Go Go.Conc Go.Proofs
set_option maxRecDepth 100000
noncomputable def e6(n:V)(g:dN):dN:=zd cR N n g
def oK(g:dN):eH:=match (e5 g).op with
 | .load t _=>t
 | .store t _ _=>t
 | .indexAddr t _ _=>t
 |_=>0
def pg(g:dN):fu:=match (e5 g).op with
 | .load _ x=>x
 | .store _ x _=>x
 | .indexAddr _ x _=>x
 |_=>.tmp 0
def xv(g:dN):fu:=match (e5 g).op with
 | .store _ _ y=>y
 | .indexAddr _ _ y=>y
 |_=>.tmp 0
def uH(g:dN):ea fu:=match (e5 g).op with
 | .call c=>c.args
 |_=>#[]
def Ex(g:dN):ea eH:=match (e5 g).op with
 | .call c=>c.argTypes
 |_=>#[]
abbrev dF(main:dh)(F:V->Prop)(dv:dN->c'->Prop)(g:dN)(w:c'):=dO cR main (eX F) (i3 F) dv g w
section
variable {main:dh} {F:V->Prop} {dv:dN->c'->Prop} {g g':dN} {w:c'}
theorem oL{n}(cW:zd cR main n g=e6 n g:=by kernel_rfl)(Q:∀w,MY cR main n g w=MZ cR main n g w:=by intro w;kernel_rfl)(h:M0 cR main n g=M2 n:=by kernel_rfl):jN cR main g (e6 n g):=qB n cW Q h
theorem dF.p(n:V)(k:dF main F dv (e6 n g) w)(h:jN cR main g (e6 n g):=by exact oL):dF main F dv g w:=dO.pure ti.trans oJ h k
theorem dF.q(g')(n:V)(k:dF main F dv g' w)(e:e6 n g=g':=by kernel_rfl)(h:jN cR main g (e6 n g):=by exact oL):dF main F dv g w:=dF.p n (e▸k) h
end
section
variable {P:el} {main:dh} {cX:c'->c'->Prop} {c3:c'->c'->ea hB->Prop} {dv:dN->c'->Prop} {g g':dN} {w:c'}
theorem dF.e(k:dO P main cX c3 dv g' w)(h:g=g':=by kernel_rfl):dO P main cX c3 dv g w:=h▸k
theorem dF.h(f:(V->dp)->dN)(k:∀v,dO P main cX c3 dv (f v) w)(h:g=f (λt=>g.frame.tmps.getD t undef):=by kernel_rfl):dO P main cX c3 dv g w:=by rw[h];exact k _
theorem dF.b(t:V)(b:dh)(k:b=N->dO P main cX c3 dv (th g t (.bool N)) w)(l:b=L->dO P main cX c3 dv (th g t (.bool L)) w)(h:g=th g t (.bool b):=by kernel_rfl):dO P main cX c3 dv g w:=by
 rw[h]
 cases b with|true=>exact k Z|false=>exact l Z
theorem dF.c(t:V)(p:Prop)[Decidable p](k:p->dO P main cX c3 dv (th g t (.bool N)) w)(l:¬p->dO P main cX c3 dv (th g t (.bool L)) w)(h:g=th g t (.bool (decide p)):=by kernel_rfl):dO P main cX c3 dv g w:=dF.b t _ (λq=>k (of_decide_eq_true q)) (λq=>l (of_decide_eq_false q)) h
theorem se{P ops n l a d9}(i:V)(v:dp)(k:uG P ops n (l.setIfInBounds i N) (a.put (ops[i]?.getD default).dst v) d9)(cU:∀w,(execOp a.eval (ops[i]?.getD default)).run P w=.ok (.value v) w/\ (execOp a.eval (ops[i]?.getD default)).events P w #[]=#[]:=by intro w;constructor<;>kernel_rfl)
 (cK:ops[i]?=U (ops[i]?.getD default):=by kernel_rfl)(ee:Region.free .any ops l i=N:=by kernel_rfl)(dI:(ms .any ops l).contains i=N:=by kernel_rfl)(hw:jf (ops[i]?.getD default) (yielded ops a.tmps)=N:=by kernel_rfl):uG P ops (n+1) l a d9:=.take n i _ v l a d9 cK ee dI hw cU k
end
def M9(main:dh)(F:V->Prop)(f:ig)(fn:Func)(dM:dp->c'->Prop)(cs:J gS)(dv:dN->c'->Prop):Prop:=∀(g:dN) (v:dp) (w:c'),dM v w->g=G {(base f).at (eA g) g.frame.todo with mode:=.returning} cs->(eA g).defers=[]->(∀w,(results fn (eA g).tmps).run cR w=.ok v w/\ (results fn (eA g).tmps).events cR w #[]=#[])->dF main F dv g w
theorem M9.z{main F f fn dM cs dv g v w}(k:M9 main F f fn dM cs dv)(p:dM v w)(e:g=G {(base f).at (eA g) g.frame.todo with mode:=.returning} cs:=by kernel_rfl)(x:(eA g).defers=[]:=by kernel_rfl)(r:∀w,(results fn (eA g).tmps).run cR w=.ok v w/\ (results fn (eA g).tmps).events cR w #[]=#[]:=by intro w;constructor<;>kernel_rfl):dF main F dv g w:=k g v w p e x r
theorem qC{main F f fn args w}{dM:dp->c'->Prop}(d:cR.funcs[f]?=U fn)(h:∀cs dv,M9 main F f fn dM cs dv->dF main F dv (G ((base f).at {tmps:=args++kx (fn.ntmps-args.size) undef,defers:=[]} [.code (fn.body.getD .skip)]) cs) w)
 (n:(fn.name== "runtime.NumGoroutine")=L:=by kernel_rfl)(b:fn.body=U (fn.body.getD .skip):=by kernel_rfl):gT cR main F f args w dM:=
 Uk d n b λcs S k=>h cs S λg v w' p e x r=>by rw[e];exact k _ _ _ x ⟨v,agd r,p⟩
theorem dF.k{main F f vs w}{dM:dp->c'->Prop}{dv:dN->c'->Prop}{g:dN}(c:gT cR main F f vs w dM)(k:∀v w',dM v w'->dF main F dv (put g v) w')(o:(e5 g).op=.call {callee:=.value (.func f),args:=uH g,argTypes:=Ex g}:=by kernel_rfl)(y:(uH g).map (eA g).eval=vs:=by kernel_rfl)(h:it g:=by exact kA):dF main F dv g w:=dO.H1 h o y c k
end Go.Lk
namespace Go.Lk.Dk
open Go Go.Conc Go.Proofs
structure l3(g:dN):Prop where
 eq:g=G g.frame g.callers
 mode:g.frame.mode=.run
 kind:(g.frame.kind==ze)=L
 oM:g.frame.todo=.inRegion (i6 g) (k8 g::k9 g)::g.frame.todo.tail
 op:(i6 g)[k8 g]?=U (e5 g)
 wanted:jf (e5 g) (yielded (i6 g) g.frame.tmps)=N
 eI:(match (e5 g).op with| .defer _=>L|_=>N)=N
theorem sf{g:dN}(Q:g=G g.frame g.callers:=by kernel_rfl)(h:g.frame.mode=.run:=by kernel_rfl)(a:(g.frame.kind==ze)=L:=by kernel_rfl)(b:g.frame.todo=.inRegion (i6 g) (k8 g::k9 g)::g.frame.todo.tail:=by kernel_rfl)
  (dz:(i6 g)[k8 g]?=U (e5 g):=by kernel_rfl)(dW:jf (e5 g) (yielded (i6 g) g.frame.tmps)=N:=by kernel_rfl)(c:(match (e5 g).op with| .defer _=>L|_=>N)=N:=by kernel_rfl):l3 g:=⟨Q,h,a,b,dz,dW,c⟩
theorem age(g):g.frame.eval=(eA g).eval:=by rfl
def f3(g:dN)(v:dp):dN:=G (g.frame.finish v) g.callers
section
variable {P:el} {main:dh} {cX:c'->c'->Prop} {c3:c'->c'->ea hB->Prop} {dv:dN->c'->Prop} {g:dN} {w w':c'} {v:dp} {l:V}
theorem l3.app(h:l3 g):stepG P main g w=stepG.apply P N g.frame g.callers cM (execOp (eA g).eval (e5 g)) w:=by
 have⟨⟨fn,tmps,todo,defers,mode,k,r⟩,cs,st,d,off⟩:=g;have⟨Q,a,l,f,dz,dW,j⟩:=h;simp at Q
 cases Q
 simp only at a f dW;subst a;rw[<-age];have t:todo=.inRegion (i6 (G ⟨fn,tmps,todo,defers,.run,k,r⟩ cs)) (k8 (G ⟨fn,tmps,todo,defers,.run,k,r⟩ cs)::k9 (G ⟨fn,tmps,todo,defers,.run,k,r⟩ cs))::todo.tail:=f
 generalize O:i6 (G ⟨fn,tmps,todo,defers,.run,k,r⟩ cs)=ops at*
 generalize dr:k8 (G ⟨fn,tmps,todo,defers,.run,k,r⟩ cs)=i at*
 generalize cX:k9 (G ⟨fn,tmps,todo,defers,.run,k,r⟩ cs)=rest at*
 have e:ops[i]?=U (e5 (G ⟨fn,tmps,todo,defers,.run,k,r⟩ cs)):=by rwa[<-O,<-dr]
 have b:jf (e5 (G ⟨fn,tmps,todo,defers,.run,k,r⟩ cs)) (yielded ops tmps)=N:=by rwa[<-O]
 have c:(match (e5 (G ⟨fn,tmps,todo,defers,.run,k,r⟩ cs)).op with| .defer _=>L|_=>N)=N:=j;show stepG P main (G ⟨fn,tmps,todo,defers,.run,k,r⟩ cs) w=stepG.apply P N ⟨fn,tmps,todo,defers,.run,k,r⟩ cs cM (execOp (Frame.eval ⟨fn,tmps,todo,defers,.run,k,r⟩) (e5 (G ⟨fn,tmps,todo,defers,.run,k,r⟩ cs))) w
 generalize e5 (G ⟨fn,tmps,todo,defers,.run,k,r⟩ cs)=o at*
 clear dz dW j f;rw[t];simp[G,stepG,stepG.exec,e,Option.map,b,Option.getD,ni,stepG.oper,Frame.oper?];grind
theorem l3.value(h:l3 g)(r:(execOp (eA g).eval (e5 g)).run P w=.ok (.value v) w'):stepG P main g w=.go (f3 g v) w' (listed P g.frame.fn (eA g) (e5 g) w):=by rw[h.app];simp[stepG.apply,r,f3,G,h.kind,s8,listed]
theorem l3.skip(h:l3 g)(r:(execOp (eA g).eval (e5 g)).run P w=.ok .skip w'):stepG P main g w=.go (f3 g undef) w' (listed P g.frame.fn (eA g) (e5 g) w):=by rw[h.app];simp[stepG.apply,r,f3,G,h.kind,s8,listed]
theorem l3.run(h:l3 g):g.status=.running:=by rw[h.eq];rfl
theorem dO.zf (h:l3 g) (dI:∀ c0,cX w c0->∃ v w',(execOp (eA g).eval (e5 g)).run P c0=.ok (.value v) w'/\c3 c0 w' (listed P g.frame.fn (eA g) (e5 g) c0) /\dO P main cX c3 dv (f3 g v) w'):dO P main cX c3 dv g w:=
 dO.ng h.run fun c0 h₁=>SH
theorem dO.Un (h:l3 g) (dI:∀ c0,cX w c0->∃ w',(execOp (eA g).eval (e5 g)).run P c0=.ok .skip w'/\c3 c0 w' (listed P g.frame.fn (eA g) (e5 g) c0) /\dO P main cX c3 dv (f3 g undef) w'):dO P main cX c3 dv g w:=
 dO.ng h.run fun c0 h₁=>aew
end
end Go.Lk.Dk
namespace Go.Lk
open Go.RowKit
theorem ahV(M D v):dV M D (vT v) v:=by
 have one:∀v:dp,dV M D (vT.one v) v:=by
  intro v;unfold vT.one;split
  .exact .d _ _ (.int _ _)
  .exact .e4
  .exact .fd
  .exact .d _ _ (.str _)
  .exact .nil _
  .exact .d _ _ .ka
  .exact .dead _
 have c:∀l:J dp,(vT.cells l).length=l.length/\ ∀(i:V) (x:dn) (v:dp),(vT.cells l)[i]?=U x->l[i]?=U v->dV M D x v:=by
  intro l
  induction l with
  |nil=>exact⟨Z,λi x v h=>by simp_all⟩
  |cons y r a=>
   refine⟨by simp[vT.cells,a.1],λi x v Q c5=>?_⟩
   cases i with|zero=>simp[vT.cells,uL,fx]at Q c5;grind|succ i=>exact a.2 i x v (by assumption) rV
 unfold vT;split
 .exact .d _ _ (.int _ _)
 .exact .e4
 .exact .fd
 .exact .d _ _ (.str _)
 .exact .nil _
 .exact .d _ _ .ka
 .rename_i cs;exact .agg _ _ (by simp_all) λi x v Q c5=>(c cs.toList).2 i x v Q rV
 .exact .dead _
theorem zw{M D db}{a:e7}(h:∀t,dV M D (db t) (a.tmps.getD t undef))(x):dV M D (iW db x) (a.eval x):=by
 cases x with|tmp t=>exact h t|const v=>exact ahV M D v|global g=>exact .dead _|func f=>exact .d _ _ (.fn f [] #[] Z λi x v h=>ql)
def VO(fK D:gr):Prop:=∀b,1000000<=b->b<1000004->D b=fK b
def gw(cV:jm)(own:V->Prop)(cO:c')(dJ:eE)(fK:gr)(dj:V)(st:fs)(a:e7)(w:c'):Prop:=
 ∃(M:eE) (D:gr),gJ dJ M/\fq M w/\jl own dJ M/\jM (pe cV own) cO w/\er own M D st.O w/\VO fK D/\ (∀t,dV M D (st.db t) (a.tmps.getD t undef)) /\a.tmps.size=dj/\a.defers=[]
theorem VP{a:e7}{t:Tmp}{v}(h:t<a.tmps.size)(s:Tmp):((a.put (U t) v).tmps.getD s undef)=if s=t then v else a.tmps.getD s undef:=by simp[VQ,um];grind
theorem E2{M c D eg k}(s:gJ M c)(a:∀b,pP k b->eg b=D b){db t v}(h:dV M D (db t) v):dV c eg (rb k db t) v:=by
 cases k with|none=>have:=funext λb=>a b trivial;subst this;exact h.mono s|some k=>exact((h.eu k).mono s).uk (b:=k) (λd e=>a d e) (Mp k (db t))
theorem VR{l b}(a:∀k,l=U k->¬(1000000<=k/\k<1000004))(cW:1000000<=b)(Q:b<1000004):pP l b:=by
 cases l with
 |none=>trivial
 |some k=>
  have a:=a k Z;show g1 k b=L;unfold g1
  cases c:hn 2000000 k&&d2 (k%8) 0 with
  |true=>
   have:=ta (Bool.and_eq_true_iff.1 c).1
   cases h:d2 (b/8) (k/8) with
   |false=>rfl
   |true=>have:=gs h;omega
  |false=>
   cases h:d2 b k with
   |false=>rfl
   |true=>have:=gs h;omega
def xH(dj:V)(o:gC):Prop:=∀d,o.dst=U d->d<dj
section
variable {cV:jm} {own:V->Prop} {cO:c'} {dJ:eE} {fK:gr} {dj:V}
theorem NT(a:e7)(d v):(a.put d v).tmps.size=a.tmps.size:=by cases d<;>simp[VQ]
theorem NU(a:e7)(d v):(a.put d v).defers=a.defers:=by cases d<;>rfl
theorem NV{M D db}{a:e7}{b v}{dst:dB Tmp}(cP:∀d,dst=U d->d<a.tmps.size)(cU:dV M D b v)(h:∀t,dV M D (db t) (a.tmps.getD t undef))(t:Tmp):
  dV M D (te db dst b t) ((a.put dst v).tmps.getD t undef):=by
 cases dst with
 |none=>exact h t
 |some d=>
  rw[VP (cP d Z)];simp only[te]
  by_cases e:t=d
  .subst e;rwa[gE,if_pos Z]
  .rw[gf _ _ e,cT e];exact h t
theorem VS{M D db O}{a:e7}{w w' e v}{dst:dB Tmp}(o:∀c,cO.heap.size<=c->own c)(Q:gJ dJ M)(l:jl own dJ M)(m:jM (pe cV own) cO w)(dW:VO fK D)(q:∀t,dV M D (db t) (a.tmps.getD t undef))(r:a.tmps.size=dj)(s:a.defers=[])
  (p:H2 cV own M D O w e v w')(cP:∀d,dst=U d->d<dj)(j:∀k,e.f2=U k->¬(1000000<=k/\k<1000004)):
  gw cV own cO dJ fK dj ⟨te (rb e.f2 db) dst e.fl,e.O O⟩ (a.put dst v) w':=by
 have⟨g,eg,i,s1,u,n,dG,k1,d1⟩:=p;refine⟨g,eg,Q.trans s1,u,l.trans n,m.trans i,dG,λb f h=>?_,NV (by simp_all) d1 λt=>E2 s1 k1 (q t),by rw[NT,r],by rw[NU,s]⟩;rw[k1 b (VR j f h)];exact dW b f h
theorem NW{db O a w}{dst:dB Tmp}(h:gw cV own cO dJ fK dj ⟨db,O⟩ a w)(cP:∀d,dst=U d->d<dj):
  gw cV own cO dJ fK dj ⟨te db dst (.dP []),O⟩ (a.put dst undef) w:=by
 have⟨M,D,Q,b,c,e,dz,dW,f,g,j⟩:=h;exact⟨M,D,Q,b,c,e,dz,dW,NV (by simp_all) (.dP [] #[] Z λi x v h=>ql) f,by rw[NT,g],by rw[NU,j]⟩
theorem dV.BU{M D eg}(l:∀b,eg b=cM\/eg b=D b){x v}(h:dV M D x v):dV M eg x v:=by
 induction h with
 |d x v o=>exact .d x v o|e4=>exact .e4|fd=>exact .fd|agg c vs dw _ m=>exact .agg c vs dw m|dP c vs dw _ m=>exact .dP c vs dw m
 |own b cL cap g cY dg=>
  rcases l b with e|e
  .exact .ji _ _ e
  .exact .own b cL cap (e.trans g) cY dg
 |h7 b a g=>
  rcases l b with e|e
  .exact .ji _ _ e
  .exact .h7 b a (e.trans g)
 |ji b v g=>
  rcases l b with e|e
  .exact .ji _ _ e
  .exact .ji b v (e.trans g)
 |ptr b i j cL g=>
  rcases l b with e|e
  .exact .iV _ _ _ _ e
  .exact .ptr b i j cL (e.trans g)
 |iV b i j v g=>
  rcases l b with e|e
  .exact .iV _ _ _ _ e
  .exact .iV b i j v (e.trans g)
 |win b dy n c cL k base g p q r s=>
  rcases l b with e|e
  .exact .jj _ _ _ _ _ e
  .exact .win b dy n c cL k base (e.trans g) p q r s
 |jj b dy n c v g=>
  rcases l b with e|e
  .exact .jj _ _ _ _ _ e
  .exact .jj b dy n c v (e.trans g)
 |nil a=>exact .nil a|fn f cap vs dw _ m=>exact .fn f cap vs dw m|dead v=>exact .dead v
theorem er.BU{M D eg O g w}(h:er own M D O w)(hb:∀b,(g b=cM/\eg b=cM) \/ (g b=O b/\eg b=D b)):er own M eg g w:=by
 have k:∀b,eg b=cM\/eg b=D b:=λb=>(hb b).elim (λe=>.inl e.2) (λe=>.inr e.2)
 have up:∀b cL,eg b=U cL->D b=U cL/\g b=O b:=λb cL e=>by
  grind
 refine⟨λb=>?_,λb cU=>?_,λb B cL i m=>?_,λb d7 cL ej Q c5 he=>h.inj b d7 cL ej (up b _ Q).1 (up d7 _ c5).1 he⟩
 .rcases hb b with⟨a,d⟩|⟨a,d⟩
  .grind
  .rw[a,d];exact h.fD b
 .have⟨a,d⟩:=up b _ cU;rw[d];exact h.iN b a
 .have⟨a,d⟩:=up b _ m;rw[d]at i;have⟨dG,cs,eQ,n,o,f⟩:=h.at_ b B cL i a;refine⟨dG,cs,eQ,n,o,?_⟩
  cases B with|row l cQ cN=>exact f|box c cN=>exact⟨f.1,f.2.1,⟨f.2.2.1.size,λj x p=>let ⟨v,q,r⟩:=f.2.2.1.den j x p;⟨v,q,r.BU k⟩⟩,f.2.2.2⟩
open Classical in
theorem gw.le{s st a w}(h:gw cV own cO dJ fK dj st a w)(dw:Bo s st):gw cV own cO dJ fK dj s a w:=by
 have⟨M,D,Q,c5,c,d,dz,dW,f,g,i⟩:=h;have⟨eD,eo,gg⟩:=dw
 let eg:gr:=λb=>if s.O b=cM then cM else D b
 have j:∀b,eg b=cM\/eg b=D b:=λb=>by
  grind
 have hb:∀b,(s.O b=cM/\eg b=cM) \/ (s.O b=st.O b/\eg b=D b):=λb=>by
  grind
 refine⟨M,eg,Q,c5,c,d,dz.BU hb,λb l m=>?_,λt=>?_,g,i⟩
 .rw[<-dW b l m]
  have e:s.O b=st.O b:=by
   have⟨n,fb,o,p⟩:=gg;have:b=1000000\/b=1000001\/b=1000002\/b=1000003:=R;rcases this with rfl|rfl|rfl|rfl
   .exact n
   .exact fb
   .exact o
   .exact p
  by_cases cY:s.O b=cM
  .rw[show eg b=cM from if_pos cY];exact((dz.fD b).1 (e▸cY)).symm
  grind
 .rcases eD t with e|e
  .rw[e];exact .dead _
  .rw[e];exact(f t).BU j
theorem gw.uF{k st a w}(h:gw cV own cO dJ fK dj st a w)(c6:Er k st):gw cV own cO dJ fK dj (Lk.uF k st) a w:=by
 have⟨M,D,Q,c5,m,n,dz,dW,g,p,q⟩:=h
 cases k with
 |row t b cQ=>
  have⟨A,z⟩:=c6;refine⟨M,eO D b (U cM),Q,c5,m,n,dz.BG b cQ L,λc dg S=>?_,λs=>?_,p,q⟩
  .rw[gf _ _ (λe=>?_)]
   .exact dW c dg S
   .subst e;rw[r_ dg,r_ (show c<=1000003 by omega)]at z
    cases z
  .by_cases e:s=t
   .subst e;show dV M _ (eO (rb (U b) st.db) s (.own b) s) _;rw[gE];have:=g s;rw[A]at this;generalize a.tmps.getD s undef=u at this⊢
    cases this with|nil B=>exact .h7 b B (gE _ _ _)
   .show dV M _ (eO (rb (U b) st.db) t (.own b) s) _;rw[gf _ _ e];exact E2 (.refl M) (λc dg=>gf _ _ (td dg)) (g s)
 |dk t=>
  refine⟨M,D,Q,c5,m,n,dz,dW,λs=>?_,p,q⟩
  by_cases e:s=t
  .subst e;show dV M _ (eO st.db s (.d (.dk [])) s) _;rw[gE];have:=g s;rw[show st.db s=.nil from c6]at this;generalize a.tmps.getD s undef=u at this⊢
   cases this with|nil B=>exact .d _ _ (.emp B 0)
  .show dV M _ (eO st.db t (.d (.dk [])) s) _;rw[gf _ _ e];exact g s
 |cell i5 j b cQ=>
  have⟨A,z,T⟩:=c6
  have ac:i5≠b:=λe=>by simp_all
  have cU:=dz.BG b cQ L
  have ad:∀c,1000000<=c->c<1000004->eO D b (U cM) c=fK c:=λc dg S=>by
   rw[gf _ _ (λe=>?_)]
   .exact dW c dg S
   .subst e;rw[r_ dg,r_ (show c<=1000003 by omega)]at T
    cases T
  unfold Lk.uF;split at A
  .rename_i c cN hb;obtain⟨C,rfl⟩:=A;simp[hb]
   have ae:eO (hL (U b) st.O) b (U (.row [] cQ L)) i5=U (.box (hp.cells b c) L):=by rw[gf _ _ ac];simp[hL,hb];rfl
   refine⟨M,eO D b (U cM),Q,c5,m,n,cU.set i5 _ (by grind) (.refl M) (λe=>?_) (λcL E=>?_) (λd7 ej V F=>⟨Z,λgv G H o=>cU.closed F gv G H o⟩),ad,λs=>E2 (.refl M) (λc dg=>gf _ _ (td dg)) (g s),p,q⟩
   .have⟨W,X,Y⟩:=cU.iN i5 e;simp_all
   .have⟨_,cs,eQ,I,J,aa,ab,r,K⟩:=cU.at_ i5 _ cL ae E;refine⟨cs,eQ,I,J,by simp_all,by simp_all,⟨by simp_all,λi x f=>?_⟩,⟨λh=>(by cases h),λ_=>K.2 Z⟩⟩;rw[lF]at f;split at f
    .rename_i e;subst e;split at f
     .cases f
      have⟨v,P,R⟩:=r.den j .nil (by rw[EJ,C];rfl);refine⟨v,P,?_⟩
      cases R with|nil B=>exact .h7 b B (gE _ _ _)
     .cases f
    .exact r.den i x f
  simp_all
 |wk t y=>
  refine⟨M,D,Q,c5,m,n,dz,dW,λs=>?_,p,q⟩
  by_cases e:s=t
  .subst e;show dV M _ (eO st.db s y s) _;rw[gE];exact c6.out _ _ _ (g s)
  .show dV M _ (eO st.db t y s) _;rw[gf _ _ e];exact g s
 |Bp i5 j y=>
  dsimp only[Er]at c6;dsimp only[Lk.uF];split at c6
  .rename_i c cN hb;obtain⟨⟨af,C,ag⟩,rfl⟩:=c6;refine⟨M,D,Q,c5,m,n,dz.set i5 _ (by grind) (.refl M) (λe=>?_) (λcL E=>?_) (λd7 ej V F=>⟨Z,λgv G H o=>dz.closed F gv G H o⟩),dW,g,p,q⟩
   .have⟨W,X,Y⟩:=dz.iN i5 e;simp_all
   .have⟨_,cs,eQ,I,J,aa,ab,r,K⟩:=dz.at_ i5 _ cL hb E;refine⟨cs,eQ,I,J,by simp_all,by simp_all,⟨by simp_all,λi x f=>?_⟩,⟨λh=>(by cases h),λ_=>K.2 Z⟩⟩;rw[lF]at f;split at f
    .rename_i e;subst e;split at f
     .cases f
      have⟨v,P,R⟩:=r.den j af C;exact⟨v,P,ag.out _ _ _ R⟩
     .cases f
    .exact r.den i x f
  simp_all
 |f9 b l cQ=>have⟨cN,hb⟩:=c6;have⟨ah,s1,ai,fh,dG⟩:=freeze c5 dz hb (gv:=.row l cQ N) (.inl ⟨_,_,_,Z,Z⟩);exact⟨ah,D,Q.trans s1,ai,m.trans fh,n,dG,dW,λt=>(g t).mono s1,p,q⟩
 |MN t b l cQ=>
  have⟨A,z⟩:=c6;refine⟨M,D,Q,c5,m,n,dz,dW,λs=>?_,p,q⟩
  by_cases e:s=t
  .subst e;show dV M D (eO st.db s (.d (.dk l)) s) _;rw[gE];have:=g s;rw[A]at this;exact .d _ _ (H8 dz z this)
  .show dV M D (eO st.db t (.d (.dk l)) s) _;rw[gf _ _ e];exact g s
 |i4 i5 j b l cQ=>
  dsimp only[Er]at c6;dsimp only[Lk.uF];have⟨z,c6⟩:=c6;split at c6
  .rename_i c cN hb;obtain⟨C,rfl⟩:=c6;refine⟨M,D,Q,c5,m,n,dz.set i5 _ (by grind) (.refl M) (λe=>?_) (λcL E=>?_) (λd7 ej V F=>⟨Z,λgv G H o=>dz.closed F gv G H o⟩),dW,g,p,q⟩
   .have⟨W,X,Y⟩:=dz.iN i5 e;simp_all
   .have⟨_,cs,eQ,I,J,aa,ab,r,K⟩:=dz.at_ i5 _ cL hb E;refine⟨cs,eQ,I,J,by simp_all,by simp_all,⟨by simp_all,λi x f=>?_⟩,⟨λh=>(by cases h),λ_=>K.2 Z⟩⟩;rw[lF]at f;split at f
    .rename_i e;subst e;split at f
     .cases f
      have⟨v,P,R⟩:=r.den j _ C;exact⟨v,P,.d _ _ (H8 dz z R)⟩
     .cases f
    .exact r.den i x f
  simp_all
theorem gw.VT:∀ {dR st a w},gw cV own cO dJ fK dj st a w->HP dR st->gw cV own cO dJ fK dj (Lk.HO dR st) a w
 | [],_,_,_,h,_=>h|k::r,st,_,_,h,b=>gw.VT (dR:=r) (st:=Lk.uF k st) (gw.uF h b.1) b.2
theorem gw.BV{s st a w}(h:gw cV own cO dJ fK dj st a w)(l:v4 s st):gw cV own cO dJ fK dj s a w:=by have⟨dR,Q,b⟩:=l.out;exact(gw.VT h Q).le b
theorem NX{ops}{a:e7}{g}{t:Tmp}{b}(c:(ops[g]?).bind (·.dst)=U t)(h:a.tmps.getD t undef=.bool b):yielded ops a.tmps g=U b:=by
 have:a.tmps[t]?=U (.bool b):=by
  rw[um]at h
  cases x:a.tmps[t]? with|none=>rw[x]at h;simp[undef]at h|some v=>simp_all
 simp[yielded,c,this]
theorem gw.refine{db O a w}{t:Tmp}{b}(h:gw cV own cO dJ fK dj ⟨db,O⟩ a w)(d:db t=.d (.bool b)):
  gw cV own cO dJ fK dj ⟨eO db t (bif b then .e4 else .fd),O⟩ a w:=by
 have⟨M,D,Q,c,g,i,dz,dW,f,j,l⟩:=h;refine⟨M,D,Q,c,g,i,dz,dW,λs=>?_,j,l⟩
 by_cases e:s=t
 .subst e;show dV M D (eO db s _ s) _;rw[gE];have:=f s;have cU:=n1 (by rwa[<-d]);rw[cU]
  cases b
  .exact .fd
  .exact .e4
 .show dV M D (eO db t _ s) _;rw[gf _ _ e];exact f s
theorem uP{M D x v}(h:dV M D x v):(x=.e4->v=.bool N) /\ (x=.fd->v=.bool L):=
 ⟨λe=>by subst e;cases h;rfl,λe=>by subst e;cases h;rfl⟩
theorem NY{M D v}(h:dV M D (.dP []) v):v=undef:=by
 cases h with|dP _ vs dw _=>have:=vC;rw[this];rfl
theorem NZ{ops}{a:e7}{g}{t:Tmp}(b:(ops[g]?).bind (·.dst)=U t)(h:a.tmps.getD t undef=undef):yielded ops a.tmps g=cM:=by
 unfold yielded;rw[b];simp;rw[um]at h
 cases x:a.tmps[t]? with|none=>rfl|some v=>rw[x]at h;simp at h;rw[h];rfl
variable {P:el} {T:fL} (cS:jB P T)
theorem ahW{P}(w n t e b k c)(h:P.underlying t=U (.slice e)):(n2 (n+1) t (.slice b k c) (.slice cM 0 0)).run P w=.ok b.isNone w:=by cases b<;>simp[n2,fv h]
include cS in
theorem ahX{hu t e x y fl O K M D w}{a:e7}{v}(c6:(T t).k=.slice e)(m:HH y=N)
  (h:MI fl O (ux hu K))(c_:er own M D O w)(cU:dV M D fl v):∃b,K ⟨.d (.bool b),[],cM⟩ /\ ∀w,(do eqGuard hu t x y v (a.eval y);jo hu t v (a.eval y):Sem dp).run P w=.ok (.bool b) w/\ (do eqGuard hu t x y v (a.eval y);jo hu t v (a.eval y):Sem dp).events P w #[]=#[]:=by
 have o:=(kC cS c6).1
 have z:a.eval y=.slice cM 0 0:=by
  unfold HH at m;split at m
  .rfl
  .cases m
 rw[z]
 have f:∀(r:dh) (b:dB gP) (n c:V),v=.slice b n c->r=b.isNone->ux hu K r->∃b:dh,K ⟨.d (.bool b),[],cM⟩ /\ ∀w:c',(do eqGuard hu t x y v (.slice cM 0 0);jo hu t v (.slice cM 0 0):Sem dp).run P w=.ok (.bool b) w/\ (do eqGuard hu t x y v (.slice cM 0 0);jo hu t v (.slice cM 0 0):Sem dp).events P w #[]=#[]:=by
  intro r b n c cU dI i;subst cU;have Dw:=λw=>ahW w 9999 t e b n c o;rw[<-dI]at Dw
  have p:hE P (EF t (.slice b n c) (.slice cM 0 0)):=by
   show hE P (n2 (9999+1) t (.slice b n c) (.slice cM 0 0));unfold n2;refine .bind (ed.at (.underlying _)) λw u w' dI=>?_;rw[fv o]at dI
   cases dI
   cases b<;>exact ed.at (.pure _)
  have q:∀hu:BinOp,hu=.eql\/hu=.neq->hE P (do eqGuard hu t x y (.slice b n c) (.slice cM 0 0);jo hu t (.slice b n c) (.slice cM 0 0):Sem dp):=by
   rintro hu (rfl|rfl)
   .exact .bind' (ed.at (zs _ _ _ _ _ _ dt dt)) λ_=>.bind' p λ_=>ed.at (.pure _)
   .exact .bind' (ed.at (zs _ _ _ _ _ _ dt dt)) λ_=>.bind' p λ_=>ed.at (.pure _)
  unfold ux at i;split at i
  .exact⟨r,i,λw=>⟨S0,q _ (.inl Z) w #[]⟩⟩
  .exact⟨!r,i,λw=>⟨S0,q _ (.inr Z) w #[]⟩⟩
  .grind
 unfold MI at h;split at h
 .rename_i l
  cases cU with
  |d _ _ cP=>
   cases cP with
   |emp g c=>exact f _ g 0 c Z Z (h.out _ λ_=>Z)
   |dk _ b off cap cQ val dw _ _ _=>exact f L _ _ _ Z Z (h.out _ λe=>rZ)
 .cases cU with
  |nil g=>exact f _ g 0 0 Z Z (h.out _ λ_=>Z)
 .rename_i b;split at h
  .rename_i l cQ cN hb
   cases cU with
   |own _ cL cap j cY dg=>exact f L _ _ _ Z Z (h.out _ λe=>rZ)
   |h7 _ g j=>
    have⟨A,B,s⟩:=c_.iN b j;rw[hb]at s;cases s
    exact f _ g 0 0 Z Z (h.out _ λ_=>Z)
   |ji _ _ j=>rw[(c_.fD b).2 j]at hb;cases hb
  simp_all
 simp_all
include cS in
theorem VU(u:gG cV own dJ)(n:∀c,cO.heap.size<=c->own c){o db O a w K}(h:uy T P o (iW db) O λe=>hR db O o.dst e K)
  (F:gw cV own cO dJ fK dj ⟨db,O⟩ a w)(cP:xH dj o):nT P cV.main cV.F o a w (λd9 w'=>∃st,K st/\gw cV own cO dJ fK dj st d9 w'):=by
 have⟨M,D,Q,q,G,I,dz,dW,H,J,R⟩:=F
 have l:hs T P o (iW db) O (λe=>hR db O o.dst e K)->nT P cV.main cV.F o a w (λd9 w'=>∃st,K st/\gw cV own cO dJ fK dj st d9 w'):=by intro h;have⟨e,j,m⟩:=BT cS h;have⟨k,g⟩:=Bk j;refine vQ (λd9 w' E=>?_) (m cV own M D a w (u.new Q G) (λc C=>n c (fJ I.size C)) q dz (zw H));obtain⟨v,rfl,p⟩:=E;exact⟨_,g,VS n Q G I dW H J R p cP k⟩
 unfold uy at h;split at h
 .rename_i f t x y z B;split at h
  .rename_i e k
   cases cY:HH y with
   |false=>simp_all
   |true=>
    simp[cY,fE]at h;have⟨b,j,r⟩:=ahX (a:=a) (x:=x) cS k cY h dz (zw H x);have⟨i,g⟩:=Bk j;refine afj λc0 d=>⟨.bool b,c0,?_,⟨.refl _ _,?_⟩,?_⟩
    .rw[show execOp a.eval o=(do pure (.value (<-(do eqGuard f t x y (a.eval x) (a.eval y);jo f t (a.eval x) (a.eval y):Sem dp)))) by simp[execOp,B]];have r:=(r c0).1;generalize (do eqGuard f t x y (a.eval x) (a.eval y);jo f t (a.eval x) (a.eval y):Sem dp)=s at r;simp[r]
    .rw[show execOp a.eval o=(do pure (.value (<-(do eqGuard f t x y (a.eval x) (a.eval y);jo f t (a.eval x) (a.eval y):Sem dp)))) by simp[execOp,B],Vs,(r c0).2];simp_all
    .have A:=u.new Q G;exact⟨_,g,VS n Q G I dW H J R (Nd d (Up (tj A d q) (BA A d dz) (.d _ _ (.bool b)))) cP i⟩
  simp_all
 simp_all
include cS in
theorem N0 {fn} (f':gG cV own dJ) (p:∀ c,cO.heap.size<=c->own c) {ops} {da} {K} (q:∀ st a w,K st->gw cV own cO dJ fK dj st a w->da .normal a w) (cP:∀ o∈ops,xH dj o):
  ∀ (l) (i) (st) (a) (w),ops.toList.drop i=l->v1 T P ops l st K->gw cV own cO dJ fK dj st a w->mW P cV.main cV.F fn ops (ts i l.length) da a w
 | [],i,st,a,w,dw,h,dI=>Md (q st a w (afN.mp h) dI)
 |o::rest,i,st,a,w,dw,h,dI=>by
  have r:ops[i]?=U o:=by
   have:=eR (·[0]?) dw
   simpa using this
  have s:ops.toList.drop (i+1)=rest:=by
   have:=eR (List.drop 1) dw
   simpa [Nat.add_comm] using this
  have u:=cP o (DU r);obtain ⟨db,O⟩:=st;simp only [pW,List.range'_succ]
  have take:∀ d,uy T P o (iW d) O (fun e=>hR d O o.dst e fun st=>v1 T P ops rest st K)->gw cV own cO dJ fK dj ⟨d,O⟩ a w->nT P cV.main cV.F o a w (fun d9 w'=>mW P cV.main cV.F fn ops (ts (i+1) rest.length) da d9 w'):=by
   intro d h dI;refine vQ (fun d9 w' x=>?_) (VU cS f' p h dI u);obtain ⟨HQ,k1,eF⟩:=x;exact N0 f' p q cP rest (i+1) HQ d9 w' s k1 eF
  have skip:∀ d,hR d O o.dst ⟨.dP [],[],cM⟩ (fun st=>v1 T P ops rest st K)->gw cV own cO dJ fK dj ⟨d,O⟩ a w->mW P cV.main cV.F fn ops (ts (i+1) rest.length) da (a.put o.dst undef) w:=by
   intro d h dI;exact N0 f' p q cP rest (i+1) _ _ w s (Bk h).2 (NW dI u)
  have cons:(if jf o (yielded ops a.tmps) then nT P cV.main cV.F o a w (fun d9 w'=>mW P cV.main cV.F fn ops (ts (i+1) rest.length) da d9 w') else mW P cV.main cV.F fn ops (ts (i+1) rest.length) da (a.put o.dst undef) w)->
    mW P cV.main cV.F fn ops (i::ts (i+1) rest.length) da a w:=fun h=>by
   by_cases hw:jf o (yielded ops a.tmps)=N
   ·rw [if_pos hw] at h;exact TC r hw h
   ·rw [cT hw] at h;exact TB r (by simpa using hw) h
  apply cons;rw [afO] at h;simp only [MJ] at h
  cases m:o.guard with
  |none=>
   simp only [m] at h;rw [if_pos (by simp [jf,m])];exact take db h dI
  |some y=>
   obtain ⟨g,h1⟩:=y;simp only [m] at h
   cases n:(ops[g]?).bind (·.dst) with
   |none=>simp [n] at h
   |some t=>
    simp only [n] at h
    have j:∃ M D,dV M D (db t) (a.tmps.getD t undef):=by
     obtain ⟨M,D,Q,c5,B,C,dz,dW,z,E,G⟩:=dI;exact ⟨M,D,z t⟩
    obtain ⟨M,D,j⟩:=j
    have run:∀ (b:dh) d,a.tmps.getD t undef=.bool b->gw cV own cO dJ fK dj ⟨d,O⟩ a w->
      (if b=h1 then uy T P o (iW d) O (fun e=>hR d O o.dst e fun st=>v1 T P ops rest st K) else hR d O o.dst ⟨.dP [],[],cM⟩ (fun st=>v1 T P ops rest st K))->
      if jf o (yielded ops a.tmps) then nT P cV.main cV.F o a w (fun d9 w'=>mW P cV.main cV.F fn ops (ts (i+1) rest.length) da d9 w') else mW P cV.main cV.F fn ops (ts (i+1) rest.length) da (a.put o.dst undef) w:=by
     intro b d cU v h;have A:=NX n cU
     have hw:jf o (yielded ops a.tmps)=(b==h1):=by
      simp [jf,m,A]
     rw [hw]
     by_cases e:b=h1
     ·subst e;rw [if_pos Z] at h;rw [if_pos (by simp)];exact take d h v
     ·rw [cT e] at h;rw [cT (by simpa using e)];exact skip d h v
    split at h
    ·rename_i f;refine run N db ((uP j).1 f) dI ?_
     cases h1
     ·simpa using h
     ·simpa using h
    ·rename_i f;refine run L db ((uP j).2 f) dI ?_
     cases h1
     ·simpa using h
     ·simpa using h
    ·rename_i b f
     rcases v6 h with ⟨rfl,Q⟩|⟨rfl,Q⟩
     ·refine run N (eO db t .e4) (n1 (f▸j)) (dI.refine f) ?_
      cases h1
      ·simpa using Q
      ·simpa using Q
     ·refine run L (eO db t .fd) (n1 (f▸j)) (dI.refine f) ?_
      cases h1
      ·simpa using Q
      ·simpa using Q
    ·rename_i f;have cU:a.tmps.getD t undef=undef:=NY (f▸j)
     have hw:jf o (yielded ops a.tmps)=L:=by
      simp [jf,m,NZ n cU]
     rw [hw,cT (by simp)];exact skip db h dI
    ·exact h.elim
end
def rm{b}:∀ {l},kd b l=N↔b∈l
 | []=>by simp[kd]
 |x::r=>by
  simp[kd]
  cases hb:d2 b x with|true=>simp_all|false=>have:b≠x:=λe=>G1;simp[this,rm]
def VV:∀ {l F},Bl l F=N->∀x∈l,x∈F
 | [],F,_,x,eC=>uh
 |y::r,F,h,x,eC=>by
  simp only[Bl]at h
  cases d8:kd y F with
  |false=>simp_all
  |true=>
   simp[d8,fE]at h
   cases eC with
   |head=>exact rm.1 d8
   |tail _ eC=>exact VV h x eC
def E3:∀ {l F},uz l F=N->∀x∈l,x∉F
 | [],F,_,x,eC=>uh
 |y::r,F,h,x,eC=>by
  simp only[uz]at h
  cases d8:kd y F with
  |true=>simp_all
  |false=>
   simp[d8,jk]at h
   cases eC with
   |head=>exact λe=>by rw[rm.2 e]at d8;cases d8
   |tail _ eC=>exact E3 h x eC
def E4{k}(dw:tb k){x dR}(h:fU.one x=U dR)(c6:k∉dR):eu.one k x=L:=by
 cases x with
 |own b=>
  simp[fU.one,fx]at h;subst h;simp[eu.one,dw.out]
  cases hb:d2 b k with|true=>simp_all|false=>rfl
 |ptr b i j=>
  simp[fU.one,fx]at h;subst h;simp[eu.one,dw.out]
  cases hb:d2 b k with|true=>simp_all|false=>rfl
 |win b dy n c=>
  simp[fU.one,fx]at h;subst h;simp[eu.one,dw.out]
  cases hb:d2 b k with|true=>simp_all|false=>rfl
 |d x=>rfl|e4=>rfl|fd=>rfl|nil=>rfl|dead=>rfl|agg c=>cases h|dP c=>cases h|fn f c=>cases h
def IG{k}(l:tb k):∀ {c dR},fU.cells c=U dR->k∉dR->eu.names k c=L
 | [],dR,h,d=>rfl
 |x::r,dR,h,d=>by
  simp[fU.cells]at h
  cases Q:fU.one x with
  |none=>simp_all
  |some a=>
   cases f:fU.cells r with
   |none=>simp_all
   |some b=>simp[Q,f,fx]at h;subst h;simp[eu.names,E4 l Q λe=>d (n8 _ e),jk];exact IG l f λe=>d (po _ e)
def ahY{k}(dw:tb k){x dR}(h:fU.part x=U dR)(c6:k∉dR):eu.part k x=L:=by
 cases x with|agg c=>exact IG dw h c6|_=>simp[fU.part]at h;simp[eu.part];exact E4 dw h c6
def VW{k}(l:tb k):∀ {c dR},fU.parts c=U dR->k∉dR->eu.parts k c=L
 | [],dR,h,d=>rfl
 |x::r,dR,h,d=>by
  simp[fU.parts]at h
  cases Q:fU.part x with
  |none=>simp_all
  |some a=>
   cases f:fU.parts r with
   |none=>simp_all
   |some b=>simp[Q,f,fx]at h;subst h;simp[eu.parts,ahY l Q λe=>d (n8 _ e),jk];exact VW l f λe=>d (po _ e)
def VX{k}(dw:tb k){x dR}(h:fU x=U dR)(c6:k∉dR):eu k x=x:=by
 cases x with|own b=>have:=E4 dw (x:=.own b) h c6;simp[eu.one]at this;simp[eu,this]|ptr b i j=>have:=E4 dw (x:=.ptr b i j) h c6;simp[eu.one]at this;simp[eu,this]|win b dy n c=>have:=E4 dw (x:=.win b dy n c) h c6;simp[eu.one]at this;simp[eu,this]|agg c=>simp[eu,IG dw h c6,jk]|dP c=>simp[eu,VW dw h c6,jk]|fn f c=>simp[eu,IG dw h c6,jk]|_=>rfl
def VY{k x}(h:fU (eu k x)≠cM):eu k x=x:=by
 cases x with|own b=>simp[eu]at h⊢;cases hb:g1 k b<;>simp_all [fU,fU.one]|ptr b i j=>simp[eu]at h⊢;cases hb:g1 k b<;>simp_all [fU,fU.one]|win b dy n c=>simp[eu]at h⊢;cases hb:g1 k b<;>simp_all [fU,fU.one]|agg c=>simp[eu]at h⊢;cases hb:eu.names k c<;>simp_all [fU,fU.one]|dP c=>simp[eu]at h⊢;cases hb:eu.parts k c<;>simp_all [fU,fU.one]|fn f c=>simp[eu]at h⊢;cases hb:eu.names k c<;>simp_all [fU,fU.one]|_=>rfl
def VZ(a b x):eu a (eu b x)=eu b (eu a x):=by
 cases x with|own c=>simp[eu];grind|ptr c i j=>simp[eu];grind|win c dy n q=>simp[eu];grind|agg c=>simp[eu];grind|dP c=>simp[eu];grind|fn f c=>simp[eu];grind|_=>rfl
def ahZ{x}(h:fU.one x≠cM):fU x≠cM:=by cases x<;>first|exact h|exact dQ Z h
def ah0{k x}(h:fU.one (eu k x)≠cM):eu k x=x:=VY (ahZ h)
def V0{k}(l:tb k):∀ {c dR},fU.cells c=U dR->k∉dR->hp.cells k c=c
 | [],dR,h,d=>rfl
 |x::r,dR,h,d=>by
  simp[fU.cells]at h
  cases Q:fU.one x with
  |none=>simp_all
  |some a=>
   cases f:fU.cells r with
   |none=>simp_all
   |some b=>
    simp[Q,f,fx]at h;subst h
    have g:fU x=U a:=by cases x<;>first|exact Q|cases Q
    simp[hp.cells,VX l g λe=>d (n8 _ e),V0 l f λe=>d (po _ e)]
def V1{k}:∀ {c},fU.cells (hp.cells k c)≠cM->hp.cells k c=c
 | [],h=>rfl
 |x::r,h=>by
  simp only[hp.cells,fU.cells]at h⊢
  cases Q:fU.one (eu k x) with
  |none=>simp_all
  |some a=>
   cases d:fU.cells (hp.cells k r) with
   |none=>simp_all
   |some b=>rw[ah0 (by grind),V1 (by grind)]
def ah1{k}(dw:tb k){B dR}(h:nY B=U dR)(c6:k∉dR):hp k B=B:=by
 cases B with|row l cQ cN=>rfl|box c cN=>simp[hp,V0 dw h c6]
def ah2{k B}(h:nY (hp k B)≠cM):hp k B=B:=by
 cases B with|row l cQ cN=>rfl|box c cN=>simp[hp,nY]at h⊢;rw[V1 h]
def ah3(a b B):hp a (hp b B)=hp b (hp a B):=by
 cases B with
 |row l cQ cN=>rfl
 |box c cN=>
  simp only[hp]
  congr 1
  induction c with
  |nil=>rfl
  |cons x r d=>simp[hp.cells,VZ,d]
def zy{o F}(h:jA o F=N):∃dR,o=U dR/\ ∀b∈dR,b∈F:=by
 cases o with|none=>cases h|some dR=>exact⟨dR,Z,VV h⟩
def N1{b x dR}(h:fU.one x=U dR)(hb:b∉dR):ky b x:=by
 cases x with|own d7=>cases h;exact .own d7 λe=>hb ue|ptr d7 i j=>cases h;exact .ptr d7 i j λe=>hb ue|win d7 dy n c=>cases h;exact .win d7 dy n c λe=>hb ue|d x=>exact .d x|e4=>exact .e4|fd=>exact .fd|nil=>exact .nil|dead=>exact .dead|agg c=>cases h|dP c=>cases h|fn f c=>cases h
def E5{b}:∀ {c dR},fU.cells c=U dR->b∉dR->∀x∈c,ky b x
 | [],dR,h,hb,x,eC=>uh
 |y::r,dR,h,hb,x,eC=>by
  simp[fU.cells]at h
  cases Q:fU.one y with
  |none=>simp_all
  |some a=>
   cases c5:fU.cells r with
   |none=>simp_all
   |some q=>
    simp[Q,c5,fx]at h;subst h
    cases eC with
    |head=>exact N1 Q λe=>hb (n8 _ e)
    |tail _ eC=>exact E5 c5 (λe=>hb (po _ e)) x eC
def ah4{b x dR}(h:fU.part x=U dR)(hb:b∉dR):ky b x:=by
 cases x with|agg c=>exact .agg c (E5 h hb)|_=>exact N1 h hb
def V2{b}:∀ {c dR},fU.parts c=U dR->b∉dR->∀x∈c,ky b x
 | [],dR,h,hb,x,eC=>uh
 |y::r,dR,h,hb,x,eC=>by
  simp[fU.parts]at h
  cases Q:fU.part y with
  |none=>simp_all
  |some a=>
   cases c5:fU.parts r with
   |none=>simp_all
   |some q=>
    simp[Q,c5,fx]at h;subst h
    cases eC with
    |head=>exact ah4 Q λe=>hb (n8 _ e)
    |tail _ eC=>exact V2 c5 (λe=>hb (po _ e)) x eC
def ah5{b x dR}(h:fU x=U dR)(hb:b∉dR):ky b x:=by
 cases x with|agg c=>exact .agg c (E5 h hb)|dP c=>exact .dP c (V2 h hb)|fn f c=>exact .fn f c (E5 h hb)|_=>exact N1 h hb
def N2{B F}(h:jA (nY B) F=N)(b)(a:b∉F):∀c cN,B=.box c cN->∀x∈c,ky b x:=by rintro c cN rfl x d;have⟨dR,e,cY⟩:=zy h;exact E5 e (λm=>a (cY b m)) x d
def iP:J (V×d4)->V->dB d4
 | [],_=>cM
 |(b,B)::r,c=>match iP r c with
  |some gv=>U gv
  |none=>bif d2 c b then U B else cM
def IH:∀(ws:J (V×d4)) (O:V->dB d4) (c:V),gj O ws c=match iP ws c with|some B=>U B|none=>O c
 | [],O,c=>rfl
 |(b,B)::r,O,c=>by
  simp[gj,iP];rw[IH r]
  cases h:iP r c with|some gv=>rfl|none=>simp[eO];grind
def xI{ws c}:iP ws c=cM↔c∉qz ws:=by
 induction ws with
 |nil=>simp[iP,qz]
 |cons p r i=>
  have⟨b,B⟩:=p;simp[iP,qz,m3,not_or]
  cases a:iP r c with
  |some gv=>simp_all
  |none=>
   rw[a]at i;have:=i.1 Z
   cases hb:d2 c b with
   |true=>simp_all
   |false=>have n:c≠b:=λe=>G1;simp_all
def N3{ws c B}(h:iP ws c=U B):(c,B)∈ws:=by
 induction ws with
 |nil=>cases h
 |cons p r i=>
  have⟨b,d⟩:=p;simp[iP]at h
  cases a:iP r c with
  |some gv=>simp_all
  |none=>
   rw[a]at h
   cases e:d2 c b with
   |false=>simp_all
   |true=>simp_all
def j8(k:dB V)(o:dB d4):dB d4:=match k with|none=>o|some k=>o.map (hp k)
def ah6(k O c):hL k O c=j8 k (O c):=by
 cases k with|none=>rfl|some k=>simp[hL,j8];grind
def uQ (e:ge) (O:V->dB d4) (c:V):e.O O c=match iP e.wr c with|some B=>U B|none=>j8 e.f2 (O c):=by
 unfold ge.O;rw [IH,ah6]
def uR(k:dB V)(x:dn):dn:=match k with|none=>x|some k=>eu k x
def V3(k db t):rb k db t=uR k (db t):=by cases k<;>rfl
structure zz(F:J V)(dst:dB Tmp)(e:ge):Prop where
 f2:∀k,e.f2=U k->k∈qz e.wr
 lt:∀k,e.f2=U k->tb k
 wr:∀b∈qz e.wr,b∈F\/e.f2=U b
 blk:∀c B,iP e.wr c=U B->jA (nY B) (F++kz e)=N
 fl:∀d,dst=U d->e.fl=.dead\/jA (fU e.fl) (F++kz e)=N
def V4:∀ {l F},(∀x∈l,x∈F)->Bl l F=N
 | [],F,_=>rfl|y::r,F,h=>by simp[Bl,rm.2 (h y (mz ..)),fE];exact V4 λx a=>h x (lD _ a)
def II{o F G}(h:jA o F=N)(s:∀b∈F,b∈G):jA o G=N:=by obtain⟨dR,rfl,cY⟩:=zy h;exact V4 λx a=>s x (cY x a)
def E6{F}:∀ {ws},En F ws=N->∀p∈ws,p.1∈F/\jA (nY p.2) F=N
 | [],_,p,O=>by cases O
 |(b,B)::r,h,p,O=>by
  simp only[En]at h
  cases d8:(kd b F&&jA (nY B) F) with
  |false=>simp_all
  |true=>
   simp[d8,fE]at h;simp at d8
   cases O with
   |head=>exact⟨rm.1 d8.1,d8.2⟩
   |tail _ O=>exact E6 h p O
def V5{ws b}:b∈qz ws↔∃B,(b,B)∈ws:=by
 induction ws with
 |nil=>simp[qz]|cons p r i=>have⟨c,B⟩:=p;simp[qz,m3,i,IA];grind
def V6{F dst a}(h:MK F dst a=N)(d)(cP:dst=U d):a=.dead\/jA (fU a) F=N:=by
 subst cP
 cases a<;>first|exact .inl Z|exact .inr h
def ah7{F dst e}(h:HJ F dst e=N):zz F dst e:=by
 unfold HJ at h
 cases c6:e.f2 with
 |none=>
  simp[c6,lB]at h;have⟨Q,c5⟩:=h;refine⟨λk a=>(by simp_all),λk a=>(by simp_all),λb hb=>?_,λc B dg=>?_,λd cP=>?_⟩
  .have⟨B,f⟩:=V5.1 hb;exact .inl (E6 Q _ f).1
  .exact II (E6 Q _ (N3 dg)).2 λb hb=>n8 _ hb
  .exact Ds (V6 c5 d cP) λh=>II h λb hb=>n8 _ hb
 |some k=>
  simp only[c6,lB]at h;have⟨⟨⟨BW,cW⟩,Q⟩,c5⟩:=h
  have g:∀b∈k::F,b∈F++kz e:=by
   intro b hb
   cases hb with|head=>exact po _ (by simp[kz,c6])|tail _ hb=>exact n8 _ hb
  refine⟨λfr a=>?_,λfr a=>?_,λb hb=>?_,λc B dg=>?_,λd cP=>?_⟩
  .rw[c6]at a;cases a;exact rm.1 cW
  .rw[c6]at a;cases a;rcases Bool.or_eq_true_iff.1 BW with BW|BW
   .exact⟨afH (by have:=ta BW;omega)⟩
   .have BW:d2 (k%8) 0=L:=by simpa using BW
    exact⟨λb=>by unfold g1;simp_all⟩
  .have⟨B,f⟩:=V5.1 hb;have:=(E6 Q _ f).1;grind
  .exact II (E6 Q _ (N3 dg)).2 g
  .exact Ds (V6 c5 d cP) λh=>II h g
def we{e b}:b∈kz e↔e.f2=U b\/b∈qz e.wr:=by unfold kz;grind
def jz.Ba{M D eg}{S:V->Prop}(e:∀b,S b->eg b=D b){w B cL}(h:jz M D w B cL)(ee:∀b,¬S b->∀c cN,B=.box c cN->∀x∈c,ky b x):jz M eg w B cL:=by
 have⟨cs,eQ,f,g,a⟩:=h;refine⟨cs,eQ,f,g,?_⟩
 cases B with|row l cQ cN=>exact a|box c cN=>exact⟨a.1,a.2.1,⟨a.2.2.1.size,λj x d=>let ⟨v,i,k⟩:=a.2.2.1.den j x d;⟨v,i,k.Ba e λb hb=>ee b hb c cN Z x (jg d)⟩⟩,a.2.2.2⟩
open Classical in
def ah9{P o}{dC aa:fu->dn}{F O j e}(aj:hv P o dC (pQ F O) e)(he:zz F o.dst e)
  (ak:∀x,dC x=.dead\/dC x=aa x)(al:∀b∈F,j b=O b)(am:∀b∈F,∀B,O b=U B->jA (nY B) F=N):
  ∀cV own M D a w,gG cV own M->(∀c,w.heap.size<=c->own c)->fq M w->er own M D j w->(∀x,dV M D (aa x) (a.eval x))->
  nT P cV.main cV.F o a w (λd9 w'=>∃v,d9=a.put o.dst v/\ ∃(p:eE) (eg:gr),jM (pe cV own) w w'/\gJ M p/\fq p w'/\jl own M p/\er own p eg (e.O j) w'/\ (∀b,pP e.f2 b->eg b=D b)/\ (o.dst≠cM->dV p eg e.fl v)):=by
 intro cV own M D a w f' an dq c_ ao
 let fK:gr:=λb=>if b∈F then D b else cM
 let E:V->Prop:=λc=>own c/\ ∀b cL,b∉F->D b=U (U cL)->cL.blk≠c
 have ab:∀b∈F,pQ F O b=j b:=λb hb=>by unfold pQ;rw[rm.2 hb,fE,al b hb]
 have aG:∀b,b∉F->pQ F O b=cM:=λb hb=>by
  unfold pQ
  cases d8:kd b F with
  |true=>exact dQ (rm.1 d8) hb
  |false=>rfl
 have ac:∀b∈F,fK b=D b:=λb hb=>if_pos hb;have ap:∀b,b∉F->fK b=cM:=λb hb=>cT hb
 have aq:∀b,fK b=cM\/fK b=D b:=λb=>by
  grind
 have H:=c_.BU λb=>by
  by_cases hb:b∈F
  .exact .inr ⟨ab b hb,ac b hb⟩
  simp_all
 have ar:er E M fK (pQ F O) w:=by
  refine⟨H.fD,H.iN,λb B cL f g=>⟨⟨(H.at_ b B cL f g).1,λd7 ej n s e=>?_⟩,(H.at_ b B cL f g).2⟩,H.inj⟩
  have I:=lv λhb=>by rw[ap b hb]at g;cases g
  have:=c_.inj d7 b ej cL s (ac b I▸g) e;exact n (this▸I)
 have au:∀c,w.heap.size<=c->E c:=λc dg=>⟨an c dg,λb cL _ g e=>by have:=c_.lt g;omega⟩
 have av:∀x,dV M fK (dC x) (a.eval x):=λx=>by
  rcases ak x with e|e
  .rw[e];exact .dead _
  .rw[e];exact(ao x).BU aq
 refine vQ (λd9 w' aw=>?_) (aj cV E M fK a w ⟨λc h=>f'.own c h.1,f'.mem,f'.xo⟩ au dq ar av);obtain⟨v,rfl,p,ad,G,s1,ax,fh,dG,k1,d1⟩:=aw;refine⟨v,Z,?_⟩
 let S:V->Prop:=λb=>b∈F\/e.f2=U b
 let eg:gr:=λb=>if S b then ad b else D b
 have t:∀b,S b->eg b=ad b:=λb hb=>if_pos hb;have z:∀b,¬S b->eg b=D b:=λb hb=>cT hb
 have W:∀b,pP e.f2 b->eg b=D b:=λb hb=>by
  by_cases ay:b∈F
  .grind
  .exact z b λh=>h.elim ay λh=>by rw[h]at hb;exact td hb Z
 have X:∀b,b∈F++kz e->S b:=λb hb=>by
  rcases h3.1 hb with h|h
  .grind
  .rcases we.1 h with h|h
   .grind
   .exact he.wr b h
 have aH:∀ {o:dB (J V)},jA o (F++kz e)=N->∀b,¬S b->b∉F++kz e:=λ_ b hb d8=>hb (X b d8)
 have Q:∀b,S b->e.O j b=e.O (pQ F O) b:=λb hb=>by
  rw[uQ,uQ]
  cases hw:iP e.wr b with
  |some B=>rfl
  |none=>
   rcases hb with hb|hb
   .grind
   .exact dQ (he.f2 b hb) (xI.1 hw)
 have R:∀b,¬S b->e.O j b=j8 e.f2 (j b):=λb hb=>by
  rw[uQ];have:=xI.2 λd8=>hb (he.wr b d8);rw[this]
 have az:∀b B,S b->e.O (pQ F O) b=U B->∀d7,¬S d7->∀c cN,B=.box c cN->∀x∈c,ky d7 x:=by
  intro b B hb f d7 n;rw[uQ]at f
  cases hw:iP e.wr b with
  |some A=>rw[hw]at f;simp at f;subst f;exact N2 (he.blk b A hw) d7 λd8=>n (X d7 d8)
  |none=>
   rw[hw]at f;have I:=hb.elim id λh=>dQ (he.f2 b h) (xI.1 hw);rw[ab b I]at f;simp only at f;intro c cN sk x r
   cases C:j b with
   |none=>rw[C]at f;unfold j8 at f;grind
   |some A=>
    have ae:=am b I A (by simp_all);have af:=λd8=>n (.inl d8);rw[C]at f;unfold j8 at f;split at f
    .simp at f;subst f;exact N2 ae d7 af c cN sk x r
    .rename_i k c6;simp at f;subst f
     cases A with
     |row l cQ cN=>cases sk
     |box eT aA=>
      simp[hp,d4.box.injEq]at sk;obtain⟨rfl,rfl⟩:=sk;have⟨i,cK⟩:=V7 r;rw[EJ]at cK
      cases ag:eT[i]? with
      |none=>simp_all
      |some y=>
       rw[ag]at cK;simp at cK;subst cK;rcases agv k y with ui|ui
       .rw[ui];exact N2 ae d7 af eT aA Z y (jg ag)
       .rw[ui];exact .dead
 have T:∀b B cL,e.O j b=U B->eg b=U (U cL)->own cL.blk/\jz p eg w' B cL/\ (S b->E cL.blk)/\ (¬S b->¬E cL.blk):=by
  intro b B cL f g
  by_cases hb:S b
  .rw[Q b hb]at f;rw[t b hb]at g;have⟨K,Y⟩:=dG.at_ b B cL f g;exact⟨K.1,Y.Ba t λd7 n=>az b B hb f d7 n,λ_=>K,λh=>dQ hb h⟩
  .rw[R b hb]at f;rw[z b hb]at g;have ah:¬E cL.blk:=λh=>h.2 b cL (λd8=>hb (.inl d8)) g Z
   cases C:j b with
   |none=>rw[C]at f;unfold j8 at f;grind
   |some A=>
    have⟨K,Y⟩:=c_.at_ b A cL C g
    have aB:=Y.h2 s1 (G.block _ λh=>h.elim ah (f'.own _ K)) λaC o=>by
     cases cU:p cL.blk o with
     |none=>rfl
     |some u=>
      rcases fh _ _ _ cU with h|h
      .rw[c_.closed g A C aC o]at h;cases h
      simp_all
    refine⟨K,?_,λh=>dQ h hb,λ_=>ah⟩;rw[C]at f;unfold j8 at f;split at f
    .rename_i c6;simp at f;subst f;have:=funext λb=>W b (by rw[c6];trivial);simp_all
    .rename_i k c6;simp at f;subst f;exact aB.kill λd7 n=>W d7 (by rwa[c6])
 refine⟨p,eg,⟨G.os,G.tape,G.output,G.size,λc dg=>G.block c λh=>dg (h.elim (λq=>.inl q.1) .inr)⟩,s1,ax,λb o v cU=>Ds (fh b o v cU) λh=>h.1,⟨λb=>?_,λb cU=>?_,λb B cL f g=>⟨(T b B cL f g).1,(T b B cL f g).2.1⟩,λb d7 cL ej g s ai=>?_⟩,W,λcP=>?_⟩
 .by_cases hb:S b
  .rw[Q b hb,t b hb];exact dG.fD b
  .rw[R b hb,z b hb,<-c_.fD b];unfold j8;split
   .rfl
   simp_all
 .by_cases hb:S b
  .rw[t b hb]at cU;rw[Q b hb];exact dG.iN b cU
  .rw[z b hb]at cU;have⟨cQ,cN,aD⟩:=c_.iN b cU;rw[R b hb,aD];refine⟨cQ,cN,?_⟩;unfold j8;split<;>rfl
 .have get:∀b cL,eg b=U (U cL)->∃B,e.O j b=U B:=λb cL g=>by
   cases r:e.O j b with
   |some B=>simp_all
   |none=>
    exfalso
    by_cases hb:S b
    .rw[Q b hb]at r;rw[t b hb,(dG.fD b).1 r]at g;cases g
    .rw[R b hb]at r;rw[z b hb]at g
     have:j b=cM:=by
      unfold j8 at r;split at r
      .exact r
      .simp_all
     rw[(c_.fD b).1 this]at g;cases g
  have⟨B,f⟩:=get b cL g;have⟨gv,aE⟩:=get d7 ej s;have q:=(T b B cL f g).2.2;have aI:=(T d7 gv ej aE s).2.2
  by_cases hb:S b
  .by_cases n:S d7
   .rw[t b hb]at g;rw[t d7 n]at s;exact dG.inj b d7 cL ej g s ai
   simp_all
  .by_cases n:S d7
   .simp_all
   .rw[z b hb]at g;rw[z d7 n]at s;exact c_.inj b d7 cL ej g s ai
 .cases aF:o.dst with
  |none=>simp_all
  |some d=>
   rcases he.fl d aF with sk|sk
   .rw[sk];exact .dead _
   .exact d1.Ba t λb hb=>by have a:=λd8=>hb (X b d8);have⟨dR,e,cY⟩:=zy sk;exact ah5 e λm=>a (cY b m)
structure mB where
 o:gC
 act:dh
 e:ge
 s:oH
def mB.app(x:mB)(st:fs):fs:=⟨te (rb x.e.f2 st.db) x.o.dst x.e.fl,x.e.O st.O⟩
def IJ(fl:dn)(h1 act:dh):Prop:=(∃b,(fl=.d (.bool b) \/ (fl=.e4/\b=N) \/ (fl=.fd/\b=L)) /\act=(b==h1)) \/ (fl=.dP [] /\act=L)
structure mC(P:el)(ops:ea gC)(x:mB)(st:fs):Prop where
 dst:x.s.dst=x.o.dst
 W:x.s.W=kz x.e
 N4:x.s.wd=L->∀t∈x.s.rd,jA (fU (st.db t)) x.s.F=N
 IK:x.s.wd=L->x.s.ev=L->pR x.o.op=L->∀b∈x.s.F,∀B,st.O b=U B->jA (nY B) x.s.F=N
 uS:x.s.k=rf x.e
 xJ:x.s.wd=L->zz x.s.F x.o.dst x.e
 f2:∀k,x.e.f2=U k->¬(1000000<=k/\k<1000004)
 guard:match x.o.guard with
  |none=>x.act=N
  |some (g,h1)=>∃t,(ops[g]?).bind (·.dst)=U t/\t∈x.s.rd/\IJ (st.db t) h1 x.act
 V8:x.act=N->∃rd,(∀t∈rd,t∈x.s.rd) /\ (x.s.wd=L->x.s.ev=L->pR x.o.op=L->hv P x.o (iW (nm rd st.db)) (pQ x.s.F st.O) x.e) /\ (x.s.wd=L->x.s.ev=N->∀O,hv P x.o (iW (nm rd st.db)) O x.e) /\ (x.s.wd=N->hv P x.o (iW (nm rd st.db)) st.O x.e) /\
  (x.s.wd=L->pR x.o.op=N->x.s.ev=L/\ ∃need:J V,(∀b∈need,b∈x.s.F/\st.O b≠cM) /\ ∀O,(∀b∈need,O b≠cM)->hv P x.o (iW (nm rd st.db)) O x.e)
 off:x.act=L->x.e=⟨.dP [],[],cM⟩
structure xK(y x:mB):Prop where
 sm:x.s.wd=L
 dst:∀d,y.o.dst=U d->d∉x.s.rd
 W:x.s.ev=L->∀b∈kz y.e,b∉x.s.F
 K:∀k,y.e.f2=U k->k∉x.s.F
 f2:∀k,y.e.f2=U k->k∈qz y.e.wr
 lt:∀k,y.e.f2=U k->tb k
def BX(x:mB)(st t):(x.app st).db t=if x.o.dst=U t then x.e.fl else uR x.e.f2 (st.db t):=by
 show te (rb x.e.f2 st.db) x.o.dst x.e.fl t=_
 cases cP:x.o.dst with
 |none=>simp[te,V3]
 |some d=>
  simp[te,fx]
  by_cases e:t=d
  .subst e;rw[gE,if_pos Z]
  .rw[gf _ _ e,cT λh=>e h.symm,V3]
def xL(x:mB)(st:fs)(b:V):(x.app st).O b=match iP x.e.wr b with|some B=>U B|none=>j8 x.e.f2 (st.O b):=uQ x.e st.O b
def N5{k x F}(h:jA (fU x) F=N)(l:∀b,k=U b->tb b)(a:∀b,k=U b->b∉F):uR k x=x:=by
 cases k with|none=>rfl|some k=>have⟨dR,e,cY⟩:=zy h;exact VX (l k Z) e λm=>a k Z (cY k m)
def N6{k o F}(h:∀B,o=U B->jA (nY B) F=N)(l:∀b,k=U b->tb b)(a:∀b,k=U b->b∉F):j8 k o=o:=by
 cases k with
 |none=>rfl
 |some k=>
  cases o with
  |none=>rfl
  |some B=>have⟨dR,e,cY⟩:=zy (h B Z);simp[j8,jp,ah1 (l k Z) e λm=>a k Z (cY k m)]
def aia{y x st}(o:xK y x)(f:∀t∈x.s.rd,jA (fU (st.db t)) x.s.F=N)(c_:x.s.ev=L->pR x.o.op=L->∀b∈x.s.F,∀B,st.O b=U B->jA (nY B) x.s.F=N):
  (∀t∈x.s.rd,(y.app st).db t=st.db t) /\ (x.s.ev=L->pR x.o.op=L->∀b∈x.s.F,(y.app st).O b=st.O b):=by
 refine⟨λt c=>?_,λl p b a=>?_⟩
 .rw[BX,cT λh=>o.dst t h c];exact N5 (f t c) o.lt o.K
 .rw[xL,xI.2 λm=>o.W l b (we.2 (.inr m)) a];exact N6 (c_ l p b a) o.lt o.K
def aib{y x st}(o:xK y x)(g:∀t∈x.s.rd,jA (fU ((y.app st).db t)) x.s.F=N)(c_:x.s.ev=L->pR x.o.op=L->∀b∈x.s.F,∀B,(y.app st).O b=U B->jA (nY B) x.s.F=N):
  (∀t∈x.s.rd,(y.app st).db t=st.db t) /\ (x.s.ev=L->pR x.o.op=L->∀b∈x.s.F,(y.app st).O b=st.O b):=by
 refine⟨λt f=>?_,λl c b d=>?_⟩
 .have Q:=g t f;rw[BX,cT λh=>o.dst t h f]at Q⊢;have⟨dR,e,_⟩:=zy Q
  cases a:y.e.f2 with
  |none=>rfl
  |some k=>rw[a]at e;exact VY (by show fU (uR (U k) (st.db t))≠cM;rw[e];simp)
 .have Q:=c_ l c b d;rw[xL,xI.2 λm=>o.W l b (we.2 (.inr m)) d]at Q⊢;simp only at Q⊢
  cases a:y.e.f2 with
  |none=>rfl
  |some k=>
   cases i:st.O b with
   |none=>rfl
   |some B=>rw[a,i]at Q;have⟨dR,e,_⟩:=zy (Q _ Z);simp[j8,jp];rw[ah2 vE]
def mC.uk{P ops x st s}(h:mC P ops x st)(hw:x.s.wd=L)(c:∀t∈x.s.rd,s.db t=st.db t)(e:x.s.ev=L->pR x.o.op=L->∀b∈x.s.F,s.O b=st.O b)(q:x.s.ev=L->∀b∈x.s.F,st.O b≠cM->s.O b≠cM):mC P ops x s:=by
 refine⟨h.dst,h.W,λ_ t m=>by rw[c t m];exact h.N4 hw t m,λ_ l p b m B n=>h.IK hw l p b m B (by simp_all),h.uS,h.xJ,h.f2,?_,λd=>?_,h.off⟩
 .have o:=h.guard;grind
 .have⟨rd,Q,k,r,_,dz⟩:=h.V8 d
  have u:nm rd s.db=nm rd st.db:=by
   funext t;unfold nm
   cases a:kd t rd with|true=>simp;exact c t (Q t (rm.1 a))|false=>rfl
  refine⟨rd,Q,λ_ l p=>?_,λ_ l=>by simp_all,(λj=>by simp_all),λ_ p=>by
   have⟨dG,need,g,i⟩:=dz hw p
   exact⟨dG,need,λb m=>⟨(g b m).1,q dG b (g b m).1 (g b m).2⟩,by simp_all⟩⟩
  have f:pQ x.s.F s.O=pQ x.s.F st.O:=by
   funext b;unfold pQ
   cases a:kd b x.s.F with|true=>simp;exact e l p b (rm.1 a)|false=>rfl
  simp_all
def mC.fwd{P ops x y st}(h:mC P ops x st)(o:xK y x):mC P ops x (y.app st):=
 let ⟨a,b⟩:=aia o (h.N4 o.sm) (h.IK o.sm)
 h.uk o.sm a b λ_ c _ cY=>by
  rw[xL]
  cases iP y.e.wr c with
  |some B=>simp
  |none=>
   cases d:st.O c with
   |none=>simp_all
   |some B=>unfold j8;grind
def mC.bwd{P ops x y st}(h:mC P ops x (y.app st))(o:xK y x):mC P ops x st:=
 let ⟨a,b⟩:=aib o (h.N4 o.sm) (h.IK o.sm)
 h.uk o.sm (λt m=>(a t m).symm) (λl p c m=>(b l p c m).symm) λl c m cY d=>by
  rw[xL,xI.2 λe=>o.W l c (we.2 (.inr e)) m,d]at cY;unfold j8 at cY;grind
structure N7(x y:mB):Prop where
 N8:xK x y
 N9:xK y x
 dst:∀d,x.o.dst=U d->y.o.dst≠U d
 W:∀b∈kz x.e,b∉kz y.e
structure Own(x:mB):Prop where
 dst:x.s.dst=x.o.dst
 W:x.s.W=kz x.e
 uS:x.s.k=rf x.e
 xJ:x.s.wd=L->zz x.s.F x.o.dst x.e
def aic{e k}:k∈rf e↔e.f2=U k:=by unfold rf;grind
def aid(a b x):uR a (uR b x)=uR b (uR a x):=by cases a<;>cases b<;>first|rfl|exact VZ _ _ _
def aie(a b x):j8 a (j8 b x)=j8 b (j8 a x):=by cases a<;>cases b<;>first|rfl|(cases x<;>simp[j8,ah3])
def N_{x y}(r:Own x)(s:Own y)(h:N7 x y)(st):y.app (x.app st)=x.app (y.app st):=by
 have a:=r.xJ h.N9.sm;have c:=s.xJ h.N8.sm
 have o:∀b,x.e.f2=U b->b∉y.s.F++kz y.e:=λb g i=>by
  have f:=we.2 (.inl g);rcases h3.1 i with m|m
  .exact h.N8.K b g m
  .exact h.W b f m
 have p:∀b,y.e.f2=U b->b∉x.s.F++kz x.e:=λb g i=>by
  have f:=we.2 (.inl g);rcases h3.1 i with m|m
  .exact h.N9.K b g m
  .exact h.W b m f
 have v:∀d,x.o.dst=U d->uR y.e.f2 x.e.fl=x.e.fl:=λd cP=>by
  rcases a.fl d cP with e|e
  .rw[e];cases y.e.f2<;>rfl
  .exact N5 e c.lt p
 have q:∀d,y.o.dst=U d->uR x.e.f2 y.e.fl=y.e.fl:=λd cP=>by
  rcases c.fl d cP with e|e
  .rw[e];cases x.e.f2<;>rfl
  .exact N5 e a.lt o
 have C:(y.app (x.app st)).db=(x.app (y.app st)).db:=by
  funext t;rw[BX,BX,BX,BX]
  by_cases j:x.o.dst=U t
  .have k:=h.dst t j;simp_all
  .by_cases k:y.o.dst=U t
   .simp_all
   .rw[cT k,cT j,cT j,cT k,aid]
 have z:(y.app (x.app st)).O=(x.app (y.app st)).O:=by
  funext b;rw[xL,xL,xL,xL]
  cases w:iP x.e.wr b with
  |some B=>
   have l:=lv λcY=>by rw[xI.2 cY]at w;cases w
   have n:=xI.2 λi=>h.W b (we.2 (.inr l)) (we.2 (.inr i));rw[n];exact N6 (λgv e=>by cases e;exact a.blk b B w) c.lt p
  |none=>
   cases n:iP y.e.wr b with|some B=>exact(N6 (λgv e=>by cases e;exact c.blk b B n) a.lt o).symm|none=>exact aie _ _ _
 cases A:y.app (x.app st) with|mk D u=>simp_all
def iY(l:J (mB×V))(st:fs):fs:=l.foldl (λs p=>p.1.app s) st
def xM(p l st):iY (p::l) st=iY l (p.1.app st):=rfl
def V9(a b st):iY (a++b) st=iY b (iY a st):=by simp[iY]
def IL{x:mB}:∀ {l},(∀p∈l,∀st,p.1.app (x.app st)=x.app (p.1.app st))->∀st,iY l (x.app st)=x.app (iY l st)
 | [],_,st=>rfl
 |p::r,h,st=>by
  rw[xM,xM,h p (mz ..)];exact IL (λq a=>h q (lD _ a)) _
def V_:∀ {a b},(∀p∈a,∀q∈b,∀st,q.1.app (p.1.app st)=p.1.app (q.1.app st))->∀st,iY b (iY a st)=iY a (iY b st)
 | [],b,_,st=>rfl
 |p::r,b,h,st=>by
  rw[xM,xM,V_ (λp' O=>h p' (lD _ O)),IL (x:=p.1) λq c=>h p (mz ..) q c]
def V'{c3:V->dh}:∀ {l},l.Pairwise (λp q=>c3 p.2=L->c3 q.2=N->∀st,q.1.app (p.1.app st)=p.1.app (q.1.app st))->∀st,
  iY l st=iY (l.filter λp=>!c3 p.2) (iY (l.filter λp=>c3 p.2) st)
 | [],_,st=>rfl
 |p::r,h,st=>by
  rw[uT]at h;rw[xM,V' h.2]
  cases O:c3 p.2 with|true=>simp[BY,O,xM]|false=>simp[BY,O,Bool.not_false,ni,xM,rh,qp];rw[IL (x:=p.1) λq a=>h.1 q (n9.1 a).1 O (by simp_all)]
def Wa{P ops x}:∀ {l st},mC P ops x st->(∀p∈l,xK p.1 x)->mC P ops x (iY l st)
 | [],st,h,_=>h|p::r,st,h,o=>Wa (l:=r) (h.fwd (o p (mz ..))) λq a=>o q (lD _ a)
def Wb{P ops x}:∀ {l st},mC P ops x (iY l st)->(∀p∈l,xK p.1 x)->mC P ops x st
 | [],st,h,_=>h|p::r,st,h,o=>(Wb (l:=r) (st:=p.1.app st) h λq a=>o q (lD _ a)).bwd (o p (mz ..))
def Wc{s p}:∀ {l m},HL s p m l=N->∀i x,l[i]?=U x->xr p (m+i)=N\/Eo x s=N
 | [],m,_,i,x,h=>by simp at h
 |y::r,m,h,i,x,a=>by
  simp only[HL]at h
  cases b:(xr p m||Eo y s) with
  |false=>simp_all
  |true=>
   simp[b,fE]at h
   cases i with|zero=>simp_all|succ i=>have:=Wc h i x (by simp_all);grind
def IM{i}:∀ {l},Bn i l=N->∀e∈l,xp e=N->e.on<i
 | [],_,e,he,_=>by cases he
 |y::r,h,e,he,hb=>by
  simp only[Bn]at h
  cases a:xp y with
  |false=>
   simp[a,jk]at h
   cases he with
   |head=>simp_all
   |tail _ he=>exact IM h e he hb
  |true=>
   simp only[a,fE]at h
   cases b:xq y.on i with
   |false=>simp_all
   |true=>
    simp[b,fE]at h
    cases he with
    |head=>simp_all
    |tail _ he=>exact IM h e he hb
def N'{p m}:∀ {l},xr (uD p l) m=N->∃e∈l,xp e=N/\ (m=e.on\/xr (p.getD e.on 0) m=N)
 | [],h=>by simp[uD]at h
 |y::r,h=>by
  simp[uD]at h
  cases a:xp y with
  |false=>simp[a,jk]at h;have⟨e,b,Q⟩:=N' h;grind
  |true=>
   simp only[a,fE]at h;have h:(2^y.on|||p.getD y.on 0|||uD p r).testBit m=N:=h;rw[aif,aif,aih,aih]at h;rcases h with (h|h)|h
   .grind
   .simp_all
   .have⟨e,b,Q⟩:=N' h;grind
def Wd:∀ {r q i done p},uE r q i done p=N->done.length=i->p.length=i->
  ∃P:J V,P.take i=p/\q.length=r.length/\ ∀k o s,r[k]?=U o->q[k]?=U s->
   Bn (i+k) o.after.toList=N/\ (∀m,xr (P.getD (i+k) 0) m=N->∃e∈o.after.toList,xp e=N/\ (m=e.on\/xr (P.getD e.on 0) m=N)) /\
   ∀m x,(done++q)[m]?=U x->m<i+k->xr (P.getD (i+k) 0) m=N\/Eo x s=N
 | [],[],i,done,p,_,_,O=>⟨p,by simp[<-O],Z,λk o s h=>by simp at h⟩| [],_::_,_,_,_,h,_,_=>by simp[uE]at h|_::_,[],_,_,_,h,_,_=>by simp[uE]at h
 |o::r,s::q,i,done,p,h,cP,O=>by
  simp[uE,lB]at h;have⟨⟨Q,w⟩,D⟩:=h;have⟨P,C,u,v⟩:=Wd D (by simp[cP]) (by simp[O])
  have g:P[i]?=U (uD p o.after.toList):=by have:=eR (·[i]?) C;simp at this;rw[this,xD R];simp[O]
  have d:P.getD i 0=uD p o.after.toList:=by simp[E7,g]
  have y:∀j,j<i->P.getD j 0=p.getD j 0:=by intro j B;have:=eR (·[j]?) C;simp[wa,show j<i+1 by omega,ni]at this;rw[v' R]at this;simp[E7,this]
  refine⟨P,?_,by simp[u],λk kh s' a b=>?_⟩
  .have:=eR (List.take i) C;grind
  .cases k with
   |zero=>
    simp at a b;subst a b;refine⟨Q,λm c=>?_,λm x f c=>?_⟩
    .rw[BO,d]at c;have⟨e,A,z,h⟩:=N' c;grind
    .rw[BO,d];rw[v' R]at f;simpa using Wc w m x f
   |succ k=>
    have⟨dG,n,t⟩:=v k kh s' (by simp_all) (by simp_all)
    have l:i+1+k=i+(k+1):=R
    rw[l]at dG n t;refine⟨dG,n,λm x f c=>t m x ?_ c⟩;rwa[jC]
theorem zA:∀ {l K},qy l K->K l
 | [],_,h=>h|x::r,K,h=>zA (l:=r) (K:=λr=>K (x::r)) h
theorem We{db F}:∀ {rd},Em db rd F=N->∀t∈rd,jA (fU (db t)) F=N
 | [],_,t,a=>by cases a
 |x::r,h,t,a=>by
  simp only[Em]at h
  cases b:jA (fU (db x)) F with
  |false=>simp_all
  |true=>
   simp[b,fE]at h
   cases a with
   |head=>exact b
   |tail _ a=>exact We h t a
theorem Oa{O F}:∀ {G},Bm O F G=N->∀b∈G,∀B,O b=U B->jA (nY B) F=N
 | [],_,b,hb,_,_=>by cases hb
 |x::r,h,b,hb,B,a=>by
  simp[Bm]at h
  cases c:O x with
  |none=>
   simp[c]at h
   cases hb with
   |head=>simp_all
   |tail _ hb=>exact Oa h b hb B a
  |some d=>
   simp only[c]at h
   cases cK:jA (nY d) F with
   |false=>simp_all
   |true=>
    simp[cK,fE]at h
    cases hb with
    |head=>simp_all
    |tail _ hb=>exact Oa h b hb B a
section
variable {P:el} {T:fL} (cS:jB P T)
include cS
omit cS in
theorem aii{g o dC F e K}(h:v2 g e K)(i:zz F o.dst e):
  ∃f,K f/\ (∀O,hv P o dC O e->hv P o dC O f) /\zz F o.dst f/\kz f=kz e/\rf f=rf e:=by
 have t:∀(b:dh) (c:dn),e.fl=.d (.bool b)->fU c=U []->(∀(M:eE) (D:gr),dV M D c (.bool b))->(∀O,hv P o dC O e->hv P o dC O ⟨c,e.wr,e.f2⟩) /\zz F o.dst ⟨c,e.wr,e.f2⟩:=by
  intro b c r cY cU;refine⟨λO s cV own M D a w n u p c_ j=>vQ (λd9 w' x=>?_) (s cV own M D a w n u p c_ j),⟨i.f2,i.lt,i.wr,i.blk,λd cP=>.inr ?_⟩⟩
  .have⟨v,B,l,eg,m,s1,C,y,dG,k1,d1⟩:=x;rw[r]at d1;have:=n1 d1;subst this;exact⟨_,B,l,eg,m,s1,C,y,dG,k1,cU l eg⟩
  .rw[cY];rfl
 cases g with
 |false=>exact⟨e,h,λ_ s=>s,i,Z,Z⟩
 |true=>
  have⟨c,A,z⟩:=e;simp[v2]at h;split at h
  .rename_i b;rcases v6 h with⟨rfl,Q⟩|⟨rfl,Q⟩
   .have⟨q,k⟩:=t N .e4 Z Z λ_ _=>.e4;exact⟨_,Q,q,k,Z,Z⟩
   .have⟨q,k⟩:=t L .fd Z Z λ_ _=>.fd;exact⟨_,Q,q,k,Z,Z⟩
  grind
omit cS in
theorem aij{v K}(h:v≠.dead)(k:K v):mY v K:=by cases v<;>first|exact k|exact dQ Z h
omit cS in
theorem aik{g o dC e K}(h:v2 g e K):
  ∃d,K d/\ (∀O,hv P o dC O e->hv P o dC O d) /\kz d=kz e/\rf d=rf e:=by
 have t:∀(b:dh) (c:dn),e.fl=.d (.bool b)->(∀(M:eE) (D:gr),dV M D c (.bool b))->(∀O,hv P o dC O e->hv P o dC O ⟨c,e.wr,e.f2⟩):=by intro b c m cU O s cV own M D a w k n l c_ f;refine vQ (λd9 w' q=>?_) (s cV own M D a w k n l c_ f);have⟨v,x,i,eg,j,s1,y,p,dG,k1,d1⟩:=q;rw[m]at d1;have:=n1 d1;subst this;exact⟨_,x,i,eg,j,s1,y,p,dG,k1,cU i eg⟩
 cases g with
 |false=>exact⟨e,h,λ_ s=>s,Z,Z⟩
 |true=>
  have⟨c,u,r⟩:=e;simp[v2]at h;split at h
  .rename_i b;rcases v6 h with⟨rfl,Q⟩|⟨rfl,Q⟩
   .exact⟨_,Q,t N .e4 Z λ_ _=>.e4,Z,Z⟩
   .exact⟨_,Q,t L .fd Z λ_ _=>.fd,Z,Z⟩
  grind
omit cS in
theorem ail{ev db O rd K c}(h:ML ev db O rd K c):
  c\/ ∃F,K F/\ (∀t∈rd,jA (fU (db t)) F=N) /\ (ev=L->∀b∈F,∀B,O b=U B->jA (nY B) F=N):=by
 unfold ML at h;split at h
 .have h:=zA h
  cases a:(Em db rd _&&(bif ev then N else Bm O _ _)) with|false=>rw[a]at h;grind|true=>rw[a]at h;rw[lB]at a;exact .inr ⟨_,h,We a.1,λe=>Oa (by simp_all)⟩
 simp_all
omit cS in
theorem aim{o dC O K}(j:uA o.op=N)(h:hs T P o dC O K):∃e,K e/\ ∀p,hs T P o dC p (λf=>f=e):=by
 have one:∀x:fu,mY (dC x) (val K)->∃e,K e/\mY (dC x) (val λf=>f=e):=λx h=>
  let q:=tl h
  ⟨_,q.1,aij q.2 Z⟩
 cases d:o.op with
 |move x=>simp[hs,d]at h⊢;simp_all
 |assign x=>simp[hs,d]at h⊢;simp_all
 |pick c a b=>
  simp only[hs,d]at h⊢;split at h
  .simp_all
  .simp_all
  .rename_i k _;rcases v6 h with⟨rfl,g⟩|⟨rfl,g⟩
   .have⟨e,Q,i⟩:=one _ g;exact⟨e,Q,λ_=>⟨i⟩⟩
   .have⟨e,Q,i⟩:=one _ g;exact⟨e,Q,λ_=>⟨i⟩⟩
  simp_all
 |_=>rw[d]at j;cases j
omit cS in
theorem ain(o)(h:pR o=N):uA o=L:=by cases o<;>first|rfl|cases h
omit cS in
theorem aio{o dC O K}(hb:pR o.op=N)(h:hs T P o dC O K):
  ∃e,K e/\ ∃need:J V,(∀b∈need,O b≠cM) /\ ∀a,(∀b∈need,a b≠cM)->hs T P o dC a (λl=>l=e):=by
 have k:∀ {s:eH} {f:V} {G:V->eH->ge},xm T s f (λo t=>K (G o t))->∃e,K e/\xm T s f (λo t=>G o t=e):=fun {s f G} h=>by
  unfold xm at h⊢;grind
 cases d:o.op with
 |nilCheck x=>
  simp[hs,d]at h⊢;split at h
  .rename_i b i j g;split at h
   .rename_i B m;refine⟨_,h,[b],λc dg=>by simp_all,λa cY=>?_⟩;grind
   simp_all
  .rename_i c j g;exact⟨_,h,[],(λc dg=>by cases dg),λa _=>by rfl⟩
  simp_all
 |fieldAddr s x f=>
  simp[hs,d]at h⊢;split at h
  .rename_i b i j g;split at h
   .rename_i B m;have⟨e,Q,c5⟩:=k h;refine⟨e,Q,[b],λc dg=>by simp_all,λa cY=>?_⟩;grind
   simp_all
  .rename_i c j g;have⟨e,Q,c5⟩:=k h;exact⟨e,Q,[],(λc dg=>by cases dg),λa _=>by omega⟩
  simp_all
 |_=>rw[d]at hb;cases hb
theorem aip{ops:ea gC}{o:gC}{A:dh}{cZ:J V}{db:V->dn}{O:V->dB d4}{K:ge->oH->Prop}(h:v3 T P o A cZ db O K)(E:∀t∈cZ,fU (db t)=U [])
  (z:match o.guard with
  |none=>True
  |some (g,w)=>∃t,(ops[g]?).bind (·.dst)=U t/\t∈cZ/\IJ (db t) w N):
  ∃e s,K e s/\ ((∀k,e.f2=U k->¬(1000000<=k/\k<1000004))->mC P ops ⟨o,N,e,s⟩ ⟨db,O⟩):=by
 unfold v3 at h;have h:=zA h
 have wd:(hs T P o (iW (nm (r' (uC o.op db)) db)) O (λe=>qy (kz e) λW=>qy (cZ++r' (uC o.op db)) λp=>v2 A e λe=>K e ⟨o.dst,p,[],W,L,rf e,N⟩))->∃e s,K e s/\ ((∀k,e.f2=U k->¬(1000000<=k/\k<1000004))->mC P ops ⟨o,N,e,s⟩ ⟨db,O⟩):=λh=>by
  have⟨e,h,i⟩:=BT cS h;have h:=zA (zA h);have⟨e,h,u,B,H⟩:=aik (P:=P) (o:=o) (dC:=iW (nm (r' (uC o.op db)) db)) h;rw[<-B]at h;refine⟨e,_,h,λG=>⟨Z,Z,λh=>g0,λh=>g0,Z,λh=>g0,G,?_,λ_=>⟨r' (uC o.op db),λt x=>po _ x,λh=>g0,λh=>g0,λ_=>u _ i,λh=>g0⟩,λh=>g0⟩⟩;split at z
  .rename_i j;rw[j]
  .rename_i g w j;have⟨t,M,dj,D⟩:=z;rw[j];exact⟨t,M,n8 _ dj,D⟩
 cases hw:T' o.op with
 |true=>simp_all
 |false=>
 rw[hw]at h;rcases ail h with h|⟨F,h,Q,cX⟩
 .exact wd h
 have f:∃e,(bif HJ F o.dst e then qy (kz e) λW=>qy (cZ++r' (uC o.op db)) λp=>v2 A e λr=>K r ⟨o.dst,p,F,W,uA o.op,rf r,L⟩ else dA) /\
   (uA o.op=L->hv P o (iW (nm (r' (uC o.op db)) db)) (pQ F O) e) /\ (uA o.op=N->∀a,hv P o (iW (nm (r' (uC o.op db)) db)) a e) /\
   (pR o.op=N->uA o.op=L/\ ∃need:J V,(∀b∈need,b∈F/\O b≠cM) /\ ∀a,(∀b∈need,a b≠cM)->hv P o (iW (nm (r' (uC o.op db)) db)) a e):=by
  cases c:pR o.op with
  |true=>
   have v:=ain o.op c;have⟨e,h,need,y,i⟩:=aio c h;have⟨r,l,cV⟩:=BT cS (i _ λb d=>y b d);subst l;refine⟨r,h,λ_=>cV,λh=>(by rw[v]at h;cases h),λ_=>⟨v,need,λb d=>?_,λa cY=>?_⟩⟩
   .have:=y b d;unfold pQ at this
    cases dr:kd b F with
    |true=>rw[dr]at this;exact⟨rm.1 dr,this⟩
    |false=>rw[dr]at this;exact dQ Z this
   .have⟨S,C,cL⟩:=BT cS (i a cY);rwa[<-C]
  |false=>
  cases d:uA o.op with
  |false=>have⟨e,h,i⟩:=BT cS h;exact⟨e,by rwa[d]at h,λ_=>i,(λh=>g0),λh=>g0⟩
  |true=>have⟨e,h,i⟩:=aim d h;refine⟨e,by rwa[d]at h,(λh=>g0),λ_ a=>?_,λh=>g0⟩;have⟨r,l,i⟩:=BT cS (i a);rwa[<-l]
 have⟨e,h,f,n,q⟩:=f;have⟨l,h⟩:=qF h;have h:=zA (zA h);obtain⟨e,h,u,l,B,H⟩:=aii h (ah7 l);rw[<-B]at h
 refine⟨e,_,h,λG=>⟨Z,Z,λ_ t x=>?_,λ_ d c=>cX (by rw[show uA o.op=L from d,show pR o.op=L from c];rfl),Z,λ_=>l,G,?_,λ_=>⟨r' (uC o.op db),λt x=>po _ x,λ_ d c=>u _ (f d),λ_ d a=>u _ (n d a),(λh=>g0),λ_ c=>by
  have⟨dG,need,y,da⟩:=q c
  exact⟨dG,need,y,λa cY=>u _ (da a cY)⟩⟩,λh=>g0⟩⟩
 .rcases h3.1 x with m|m
  .rw[E t m];rfl
  .exact Q t m
 .split at z
  .rename_i j;rw[j]
  .rename_i g w j;have⟨t,M,dj,D⟩:=z;rw[j];exact⟨t,M,n8 _ dj,D⟩
omit cS in
def E8(P:el)(ops:ea gC)(K:fs->Prop)(l:J gC)(db:V->dn)(O:V->dB d4)(a:J oH):Prop:=
 ∃dD:J mB,dD.map (·.o)=l/\uE ops.toList (a++dD.map (·.s)) 0 [] []=N/\K (dD.foldl (λs x=>x.app s) ⟨db,O⟩) /\
   ∀(i:V) (x:mB),dD[i]?=U x->mC P ops x ((dD.take i).foldl (λs x=>x.app s) ⟨db,O⟩)
theorem Wf {ops} {K}:∀ {l} {db} {O} {f},tg T P ops l db O f K->E8 P ops K l db O f
 | [],db,O,f,h=>by
  obtain ⟨Q,c5⟩:=kT h;exact ⟨[],Z,by simpa using Q,c5,fun i x h=>by simp at h⟩
 |o::rest,db,O,f,h=>by
  have next:∀ (x:mB),x.o=o->mC P ops x ⟨db,O⟩->tg T P ops rest (x.app ⟨db,O⟩).db (x.app ⟨db,O⟩).O (f++[x.s]) K->
    E8 P ops K (o::rest) db O f:=by
   intro x a ee h;obtain ⟨dD,q,r,u,v⟩:=Wf h;refine ⟨x::dD,by simp [a,q],by simpa using r,u,fun i y m=>?_⟩
   cases i with
   |zero=>
    simp only [uL,fx] at m;subst m;exact ee
   |succ i=>exact v i y (by simpa using m)
  have take:∀ cZ,(∀ t∈cZ,fU (db t)=U [])->(match o.guard with
  |none=>True
  |some (g,h1)=>∃ t,(ops[g]?).bind (·.dst)=U t/\t∈cZ/\IJ (db t) h1 N)->
    v3 T P o (uB ops o.dst ops.toList) cZ db O (fun e s=>hR db O o.dst e fun st=>tg T P ops rest st.db st.O (f++[s]) K)->E8 P ops K (o::rest) db O f:=by
   intro cZ Q c5 h;obtain ⟨e,s,z,A⟩:=aip cS h Q c5;obtain ⟨dz,dW⟩:=Bk z;exact next ⟨o,N,e,s⟩ Z (A dz) dW
  have skip:∀ t,fU (db t)=U []->(match o.guard with
  |none=>dA
  |some (g,h1)=>(ops[g]?).bind (·.dst)=U t/\IJ (db t) h1 L)->
    hR db O o.dst ⟨.dP [],[],cM⟩ (fun st=>tg T P ops rest st.db st.O (f++[⟨o.dst,[t],[],[],L,[],L⟩]) K)->E8 P ops K (o::rest) db O f:=by
   intro t Q c5 h;obtain ⟨dz,dW⟩:=Bk h;refine next ⟨o,L,⟨.dP [],[],cM⟩,⟨o.dst,[t],[],[],L,[],L⟩⟩ Z ⟨Z,Z,fun _ n j=>?_,fun _ _ _ b hb=>(by cases hb),Z,fun _=>⟨fun k h=>(by cases h),fun k h=>(by cases h),fun b hb=>(by cases hb),fun c B h=>(by cases h),fun d _=>.inr Z⟩,fun k h=>(by cases h),?_,fun h=>(by cases h),fun _=>Z⟩ dW
   ·have:n=t:=by simpa using j
    subst this;show jA (fU (db n)) []=N
    rw [Q];rfl
   ·split at c5
    ·exact c5.elim
    ·rename_i g h1 C;obtain ⟨D,E⟩:=c5
     show match o.guard with|none=>_|some (g,h1)=>_
     rw [C];exact ⟨t,D,by simp,E⟩
  rw [afQ] at h;simp only [MM,afR] at h
  cases p:o.guard with
  |none=>
   simp only [p] at h;exact take [] (fun t j=>by cases j) (by rw [p];trivial) h
  |some F=>
   obtain ⟨g,h1⟩:=F;simp only [p] at h take skip
   cases j:(ops[g]?).bind (·.dst) with
   |none=>simp [j] at h
   |some t=>
    simp only [j] at h
    have go:∀ b,fU (db t)=U []->(db t=.d (.bool b) \/ (db t=.e4/\b=N) \/ (db t=.fd/\b=L))->
      (if b=h1 then v3 T P o (uB ops o.dst ops.toList) [t] db O (fun e s=>hR db O o.dst e fun st=>tg T P ops rest st.db st.O (f++[s]) K) else hR db O o.dst ⟨.dP [],[],cM⟩ (fun st=>tg T P ops rest st.db st.O (f++[⟨o.dst,[t],[],[],L,[],L⟩]) K))->E8 P ops K (o::rest) db O f:=by
     intro b cY hb h
     by_cases e:b=h1
     ·rw [if_pos e] at h;exact take [t] (fun n G=>by rw [lE.1 G];exact cY) ⟨t,j,by simp,.inl ⟨b,hb,by simp [e]⟩⟩ h
     ·rw [cT e] at h;exact skip t cY ⟨j,.inl ⟨b,hb,by simp [e]⟩⟩ h
    split at h
    ·rename_i a;refine go N (by rw [a];rfl) (.inr (.inl ⟨a,Z⟩)) ?_
     cases h1
     ·simpa using h
     ·simpa using h
    ·rename_i a;refine go L (by rw [a];rfl) (.inr (.inr ⟨a,Z⟩)) ?_
     cases h1
     ·simpa using h
     ·simpa using h
    ·rename_i b a
     rcases v6 h with ⟨rfl,Q⟩|⟨rfl,Q⟩
     ·refine go N (by rw [a];rfl) (.inl a) ?_
      cases h1
      ·simpa using Q
      ·simpa using Q
     ·refine go L (by rw [a];rfl) (.inl a) ?_
      cases h1
      ·simpa using Q
      ·simpa using Q
    ·rename_i a;exact skip t (by rw [a];rfl) ⟨j,.inr ⟨a,Z⟩⟩ h
    ·exact h.elim
end
theorem Wh(e):B0 .any e=xp e:=by rfl
theorem Wi(l st):iY l st=(l.map (·.1)).foldl (λs x=>x.app s) st:=by simp[iY,List.foldl_map]
section
variable {cV:jm} {own:V->Prop} {cO:c'} {dJ:eE} {fK:gr} {dj:V} {P:el}
theorem aiq{ops}(dr:gG cV own dJ)(o:∀c,cO.heap.size<=c->own c){x st a w j K}(Y:ops[j]?=U x.o)(l:mC P ops x st)(af:gw cV own cO dJ fK dj st a w)(cP:xH dj x.o)
  (cL:∀d9 w',gw cV own cO dJ fK dj (x.app st) d9 w'->K d9 w'):vR P cV.main cV.F ops j K a w:=by
 have⟨M,D,Q,A,J,R,dz,dW,I,T,ab⟩:=af
 have hw:jf x.o (yielded ops a.tmps)=x.act:=by
  have da:=l.guard;unfold jf;split at da
  .simp_all
  .rename_i g dc e;rw[e];obtain⟨t,ac,ag,⟨b,V,aa⟩|⟨V,aa⟩⟩:=da
   .have cU:a.tmps.getD t undef=.bool b:=by
     have h:=I t;rcases V with q|⟨q,rfl⟩|⟨q,rfl⟩
     .exact n1 (q▸h)
     .exact(uP h).1 q
     .exact(uP h).2 q
    simp[NX ac cU,aa]
   .simp[NZ ac (NY (V▸I t)),aa]
 unfold vR;rw[Y];simp[hw]
 cases i:x.act with
 |false=>
  simp;have X:=l.off i;apply cL _ _
  have:x.app st=⟨te st.db x.o.dst (.dP []),st.O⟩:=by simp only[mB.app,X];rfl
  rw[this];exact NW ⟨M,D,Q,A,J,R,dz,dW,I,T,ab⟩ cP
 |true=>
  simp;have⟨rd,ah,u,C,F,E⟩:=l.V8 i
  have z:∀y,iW (nm rd st.db) y=.dead\/iW (nm rd st.db) y=iW st.db y:=λy=>by
   cases y with
   |tmp t=>simp[iW,nm];grind
   |_=>exact .inr Z
  have r:nT P cV.main cV.F x.o a w (λd9 w'=>∃v,d9=a.put x.o.dst v/\ ∃(f:eE) (eg:gr),jM (pe cV own) w w'/\gJ M f/\fq f w'/\jl own M f/\er own f eg (x.e.O st.O) w'/\ (∀b,pP x.e.f2 b->eg b=D b) /\ (x.o.dst≠cM->dV f eg x.e.fl v)):=by
   have cX:=λc W=>o c (fJ R.size W)
   have G:hv P x.o (iW (nm rd st.db)) st.O x.e->nT P cV.main cV.F x.o a w (λd9 w'=>∃v,d9=a.put x.o.dst v/\ ∃(f:eE) (eg:gr),jM (pe cV own) w w'/\gJ M f/\fq f w'/\jl own M f/\er own f eg (x.e.O st.O) w'/\ (∀b,pP x.e.f2 b->eg b=D b) /\ (x.o.dst≠cM->dV f eg x.e.fl v)):=by
    intro c7;refine vQ (λd9 w' B=>?_) (c7 cV own M D a w (dr.new Q J) cX A dz λy=>?_)
    .have⟨v,ai,f,eg,H,s1,ad,S,dG,k1,d1⟩:=B;grind
    .rcases z y with e|e
     .rw[e];exact .dead _
     .rw[e];exact zw I y
   cases k:x.s.wd with
   |true=>simp_all
   |false=>
    cases p:pR x.o.op with
    |true=>grind
    |false=>
    cases n:x.s.ev with
    |false=>exact ah9 (u k n p) (l.xJ k) z (λ_ _=>Z) (l.IK k n p) cV own M D a w (dr.new Q J) cX A dz (zw I)
    |true=>simp_all
  refine vQ (λd9 w' B=>?_) r;obtain⟨v,rfl,f,eg,H,s1,ad,S,dG,k1,d1⟩:=B;refine cL _ _ ⟨f,eg,Q.trans s1,ad,J.trans S,R.trans H,dG,λb ae m=>?_,?_,by rw[NT,T],by rw[NU,ab]⟩
  .rw[k1 b (VR l.f2 ae m)];exact dW b ae m
  .intro t;show dV f eg (te (rb x.e.f2 st.db) x.o.dst x.e.fl t) _
   cases s:x.o.dst with
   |none=>exact E2 s1 k1 (I t)
   |some d=>rw[<-s];exact NV (by rwa[T]) (d1 (by simp_all)) (λt=>E2 s1 k1 (I t)) t
theorem Wj{α:Type}{p q}:∀ {l:J α} {x},(∀y,q y=N->p y=N)->x∈l->p x=N->q x=L->l.countP q<l.countP p
 | [],x,_,eC,_,_=>uh
 |y::r,x,h,eC,Q,c5=>by
  have a:r.countP q<=r.countP p:=List.countP_mono_left λz _=>h z
  cases eC with|head=>grind|tail _ eC=>have:=Wj h eC Q c5;grind
def gZ(listed:ea dh)(i:V):dh:=listed.getD i L
theorem IN{listed i}(cK:i<listed.size):listed.getD i N=gZ listed i:=by simp[gZ,my,cK]
theorem B1{listed i j}(cK:i<listed.size):gZ (listed.setIfInBounds i N) j=(decide (j=i)||gZ listed j):=by
 by_cases h:j=i
 .subst h;simp[gZ,my,cK]
 .have:=getD_set_ne (listed:=listed) (i:=i) (j:=j) L λe=>h e.symm;simp[gZ,this,h]
theorem ais{ops da}(f':gG cV own dJ)(au:∀c,cO.heap.size<=c->own c)(av:∀o∈ops,xH dj o){dD:J mB}{gh}(al:dD.map (·.o)=ops.toList)(aw:uE ops.toList (dD.map (·.s)) 0 [] []=N)
  (M:∀i x,dD[i]?=U x->mC P ops x ((dD.take i).foldl (λs x=>x.app s) gh))(ax:∀a w,gw cV own cO dJ fK dj (dD.foldl (λs x=>x.app s) gh) a w->da .normal a w):
  ∀u listed a w,listed.size=ops.size->(iB ops.size).countP (λi=>!gZ listed i)<=u->(∀k o,ops[k]?=U o->gZ listed k=N->∀e∈o.after,B0 .any e=N->gZ listed e.on=N)->
   gw cV own cO dJ fK dj (iY (dD.zipIdx.filter λp=>gZ listed p.2) gh) a w->Hq P cV.main cV.F .any ops da u listed a w:=by
 have⟨ay,_,aT,b⟩:=Wd aw Z Z;simp only[np,uU]at b
 have cY:dD.length=ops.size:=by have:=eR List.length al;simpa using this
 have T:∀(k:V) (x:mB),dD[k]?=U x->ops[k]?=U x.o:=λk x v=>by
  have:=eR (·[k]?) al;grind
 have H:∀(k:V) (x:mB),dD[k]?=U x->(dD.map (·.s))[k]?=U x.s:=λk x v=>by simp[v]
 have n:∀(k:V) (x:mB),dD[k]?=U x->Own x:=λk x v=>let h:=M k x v;⟨h.dst,h.W,h.uS,h.xJ⟩
 have az:∀p∈dD.zipIdx,dD[p.2]?=U p.1:=λp O=>by
  grind
 intro u
 have main:∀(listed:ea dh),listed.size=ops.size->(∀(k:V) (o:gC),ops[k]?=U o->gZ listed k=N->∀e∈o.after,B0 .any e=N->gZ listed e.on=N)->
   ∀(j:V) (x:mB),dD[j]?=U x->gZ listed j=L->(∀e∈x.o.after,B0 .any e=N->gZ listed e.on=N)->
    mC P ops x (iY (dD.zipIdx.filter λp=>gZ listed p.2) gh)/\iY (dD.zipIdx.filter λp=>gZ (listed.setIfInBounds j N) p.2) gh=x.app (iY (dD.zipIdx.filter λp=>gZ listed p.2) gh):=by
  intro listed f t j x v am S;have X:=(fM.1 v).1
  have aA:∀(m q:V) (o:gC),ops[q]?=U o->(∀e∈o.after,B0 .any e=N->gZ listed e.on=N)->xr (ay.getD q 0) m=N->gZ listed m=N:=by
   intro m q
   induction q using s6 with
   |_ q ac=>
    intro o G O hb;have aa:=(kv.1 G).1;have⟨y,C⟩:∃y,dD[q]?=U y:=⟨dD[q]' R,by simp⟩
    have aB:y.o=o:=by have:=T q y C;rw[G]at this;exact(pM this).symm
    subst aB;have⟨dG,aC,_⟩:=b q y.o y.s (by simpa using G) (H q y C);have⟨e,he,aD,h⟩:=aC m hb;have an:=O e (by simpa using he) (by rwa[Wh]);rcases h with rfl|h
    .exact an
    .have ad:=IM dG e he aD
     have dr:ops[e.on]?=U (ops[e.on]' R):=dt
     exact ac e.on ad _ dr (t _ _ dr an) h
  have dc:∀(m k:V) (y z:mB),dD[m]?=U y->dD[k]?=U z->m<k->gZ listed m=L->(∀e∈z.o.after,B0 .any e=N->gZ listed e.on=N)->N7 y z:=by
   intro m k y z C ab aE d8 O;have⟨_,_,aF⟩:=b k z.o z.s (by have:=T k z ab;simpa using this) (H k z ab);rcases aF m y.s (H m y C) aE with h|h
   .rw[aA m k z.o (T k z ab) O h]at d8;cases d8
   .have a:=n m y C;have g:=n k z ab;simp[Eo,lB,ait]at h;have⟨⟨w,p⟩,⟨⟨⟨⟨Q,o⟩,aG⟩,aH⟩,dz⟩,dW⟩:=h;have e:=a.xJ w;have f:=g.xJ p
    have n:∀(d:dB Tmp) (l:J V),HK d l=N->∀t,d=U t->t∉l:=by intro d l h t u m;subst u;simp[HK,ait]at h;rw[rm.2 m]at h;cases h
    have off:∀ {x y:mB},Own x->uz (bif y.s.ev then x.s.k else x.s.W) y.s.F=N->(y.s.ev=L->∀b∈kz x.e,b∉y.s.F)/\ ∀k,x.e.f2=U k->k∉y.s.F:=by
     intro x y a h
     cases c:y.s.ev with|true=>simp[c,fE]at h;exact⟨λs=>(by cases s),λk j=>E3 h k (by rw[a.uS];exact aic.2 j)⟩|false=>simp[c,jk]at h;exact⟨λ_ b c=>E3 h b (by rwa[a.W]),λk j=>E3 h k (by rw[a.W];exact we.2 (.inl j))⟩
    have⟨aI,fb⟩:=off a dz;have⟨q,r⟩:=off g dW
    refine⟨⟨p,λd cP=>n _ _ Q d (by rwa[a.dst]),aI,fb,e.f2,e.lt⟩,
     ⟨w,λd cP=>n _ _ aG d (by rwa[g.dst]),q,r,f.f2,f.lt⟩,λd cP i=>?_,λb c m=>E3 aH b (by rwa[a.W]) (by rwa[g.W])⟩
    rw[a.dst,g.dst,cP,i]at o;simp[Ua]at o
  have d:=λk z ab Y=>t k z.o (T k z ab) Y
  let cL:=dD.zipIdx
  let A:=cL.take j
  let B:=cL.drop (j+1)
  have ai:cL[j]?=U (x,j):=by rw[Wk,v];simp
  have ao:cL=A++(x,j)::B:=by
   have Q:=(E9 j cL).symm
   have c5:cL.drop j=(x,j)::cL.drop (j+1):=by
    have E:=(fM.1 ai).1;rw[rk E]
    congr 1
    have:=fe E;rw[this]at ai;exact pM ai
   rwa[c5]at Q
  have c8:∀p∈A,p.2<j/\dD[p.2]?=U p.1:=λp O=>by
   have⟨i,cK⟩:=V7 O
   have:i<j:=by
    have:=(fM.1 cK).1
    have c5:A.length<=j:=by simp[A];omega
    omega
   rw[List.getElem?_take_of_lt this,Wk]at cK
   cases C:dD[i]? with
   |none=>rw[C]at cK;cases cK
   |some y=>rw[C]at cK;simp at cK;subst cK;exact⟨this,C⟩
  have I:∀p∈B,j<p.2/\dD[p.2]?=U p.1:=λp O=>by
   have⟨i,cK⟩:=V7 O;rw[Hv,Wk]at cK
   cases C:dD[j+1+i]? with
   |none=>rw[C]at cK;cases cK
   |some y=>rw[C]at cK;simp at cK;subst cK;exact⟨by simp;omega,C⟩
  have gB:iY (cL.filter λp=>gZ listed p.2) gh=iY (B.filter λp=>gZ listed p.2) (iY (A.filter λp=>gZ listed p.2) gh):=by rw[ao,wh,BY,cT (by simp[am]),V9]
  have aJ:iY (cL.filter λp=>gZ (listed.setIfInBounds j N) p.2) gh=iY (B.filter λp=>gZ listed p.2) (x.app (iY (A.filter λp=>gZ listed p.2) gh)):=by
   have aK:A.filter (λp=>gZ (listed.setIfInBounds j N) p.2)=A.filter λp=>gZ listed p.2:=aiu λp O=>by
    rw[B1 R];simp[show p.2≠j by have:=(c8 p O).1;omega]
   have aL:B.filter (λp=>gZ (listed.setIfInBounds j N) p.2)=B.filter λp=>gZ listed p.2:=aiu λp O=>by
    rw[B1 R];simp[show p.2≠j by have:=(I p O).1;omega]
   rw[ao,wh,BY,if_pos (by rw[B1 R];simp),V9,aK,aL,xM]
  have ap:∀p∈B.filter (λp=>gZ listed p.2),N7 x p.1:=λp O=>by
   have⟨D,ae⟩:=n9.1 O;have⟨aj,af⟩:=I p D;exact dc j p.2 x p.1 v af aj am (d p.2 p.1 af ae)
  refine⟨?_,?_⟩
  .rw[gB]
   have IP:mC P ops x (iY A gh):=by
    have:=M j x v;rw[Wi]
    have e:A.map (·.1)=dD.take j:=by rw[xN,aiv]
    rwa[e]
   have aq:=Wa (l:=B.filter λp=>gZ listed p.2) IP λp O=>(ap p O).N9
   have aM:A.Pairwise λp q=>gZ listed p.2=L->gZ listed q.2=N->∀st,q.1.app (p.1.app st)=p.1.app (q.1.app st):=by
    have aN:cL.Pairwise λp q=>p.2<q.2:=by rw[xO];intro i k cK Y aU;simp[cL,List.getElem_zipIdx];omega
    exact(aN.sublist (List.take_sublist j cL)).imp_of_mem fun {p q} O aa ad aO aP st=>have ak:=dc p.2 q.2 p.1 q.1 (c8 p O).2 (c8 q aa).2 ad aO (d q.2 q.1 (c8 q aa).2 aP);N_ (n _ _ (c8 p O).2) (n _ _ (c8 q aa).2) ak st
   rw[V' (c3:=gZ listed) aM,V_]at aq
   .exact Wb aq λp O=>by
     have⟨D,ae⟩:=n9.1 O;exact(dc p.2 j p.1 x (c8 p D).2 v (c8 p D).1 (by simpa using ae) S).N8
   .intro p O q aa st;have⟨D,ae⟩:=n9.1 O;have⟨ag,aQ⟩:=n9.1 aa;have ak:=dc p.2 q.2 p.1 q.1 (c8 p D).2 (I q ag).2 (by have:=(c8 p D).1;have:=(I q ag).1;omega) (by simpa using ae) (d q.2 q.1 (I q ag).2 aQ);exact N_ (n _ _ (c8 p D).2) (n _ _ (I q ag).2) ak st
  .rw[gB,aJ];exact IL (λp O st=>N_ (n j x v) (n _ _ (I p (n9.1 O).1).2) (ap p O) st) _
 have W:∀(listed:ea dh) (a:e7) (w:c') (K:e7->c'->Prop),listed.size=ops.size->(∀(k:V) (o:gC),ops[k]?=U o->gZ listed k=N->∀e∈o.after,B0 .any e=N->gZ listed e.on=N)->
   gw cV own cO dJ fK dj (iY (dD.zipIdx.filter λp=>gZ listed p.2) gh) a w->∀j∈ms .any ops listed,
   (∀d9 w',gw cV own cO dJ fK dj (iY (dD.zipIdx.filter λp=>gZ (listed.setIfInBounds j N) p.2) gh) d9 w'->K d9 w')->vR P cV.main cV.F ops j K a w:=by
  intro listed a w K f t cX j X aR;have⟨Q,o,G,c5⟩:=Ob.1 X;have E:=(kv.1 G).1;rw[IN R]at Q;have⟨x,v⟩:∃x,dD[j]?=U x:=⟨dD[j]' R,by simp⟩
  have ah:x.o=o:=by have:=T j x v;rw[G]at this;exact(pM this).symm
  subst ah;have⟨aj,af⟩:=main listed f t j x v Q c5;exact aiq f' au G aj cX (av x.o (DU G)) λd9 w' ar=>aR d9 w' (by rwa[af])
 have g:∀(listed:ea dh) (a:e7) (w:c'),listed.size=ops.size->gw cV own cO dJ fK dj (iY (dD.zipIdx.filter λp=>gZ listed p.2) gh) a w->ms .any ops listed=[]->da .normal a w:=by
  intro listed a w f cX F
  have all:∀j,j<ops.size->gZ listed j=N:=by
   intro j
   induction j using s6 with
   |_ j ac=>
    intro X
    cases cP:gZ listed j with
    |true=>rfl
    |false=>
     exfalso
     have G:ops[j]?=U (ops[j]):=dt
     have⟨x,v⟩:∃x,dD[j]?=U x:=⟨dD[j]' R,by simp⟩;have ah:=T j x v;have⟨dG,_,_⟩:=b j x.o x.s (by simpa using ah) (H j x v)
     have:j∈ms .any ops listed:=Ob.2 ⟨by rwa[IN R],x.o,ah,λe he hb=>by
      have ad:=IM dG e (by simpa using he) (by rwa[<-Wh])
      exact ac e.on ad R⟩
     rw[F]at this
     cases this
  apply ax a w
  have e:dD.zipIdx.filter (λp=>gZ listed p.2)=dD.zipIdx:=List.filter_eq_self.2 λp O=>all p.2 (by
   have:=(fM.1 (az p O)).1
   omega)
  rwa[e,Wi,aiv]at cX
 induction u with
 |zero=>
  intro listed a w f dg t cX
  have F:ms .any ops listed=[]:=by
   cases aS:ms .any ops listed with
   |nil=>rfl
   |cons j r=>
    exfalso
    have X:j∈ms .any ops listed:=by rw[aS];exact mz ..
    have⟨Q,o,G,_⟩:=Ob.1 X;have E:=(kv.1 G).1;rw[IN R]at Q;have:0<(iB ops.size).countP (λi=>!gZ listed i):=B2.2 ⟨j,E_.2 E,by simp[Q]⟩;omega
  exact⟨F,g listed a w f cX F⟩
 |succ u ac=>
  intro listed a w f dg t cX;refine⟨g listed a w f cX,λj X=>W listed a w _ f t cX j X λd9 w' ar=>?_⟩;have⟨Q,o,G,c5⟩:=Ob.1 X;have E:=(kv.1 G).1;rw[IN R]at Q;refine ac _ d9 w' (by simp[f]) ?_ ?_ ar
  .have:=Wj (p:=λi=>!gZ listed i) (q:=λi=>!gZ (listed.setIfInBounds j N) i) (l:=iB ops.size) (x:=j)
    (λy C=>by simp only[B1 (show j<listed.size by omega),Bool.not_or,lB]at C;exact C.2) (E_.2 E) (by simp[Q]) (by simp[B1 (show j<listed.size by omega)])
   omega
  .intro k kh dr Y e he hb;rw[B1 R]at Y⊢;simp at Y⊢;right;rcases Y with rfl|Y
   .rw[G]at dr;cases dr;exact c5 e he hb
   .exact t k kh dr Y e he hb
theorem Wl{T fn}(cS:jB P T)(d:gG cV own dJ)(n:∀c,cO.heap.size<=c->own c){ops da K}(g:∀st a w,K st->gw cV own cO dJ fK dj st a w->da .normal a w)(cP:∀o∈ops,xH dj o)(m:P.follows .mixedOrders=N)(id)
  {db O a w}(h:tg T P ops ops.toList db O [] K)(r:gw cV own cO dJ fK dj ⟨db,O⟩ a w):jK P cV.main cV.F fn (Code.region id ops N) da a w:=by
 have⟨dD,i,ui,e,b⟩:=Wf cS h;refine afp m (ais (gh:=⟨db,O⟩) d n cP i S5 b (λa w r=>g _ a w e r) ops.size _ a _ dt ?_ ?_ ?_)
 .exact fJ (IQ) dt
 .intro k o _ f;simp[gZ,my]at f
 .have:dD.zipIdx.filter (λp=>gZ (kx ops.size L) p.2)=[]:=List.filter_eq_nil_iff.2 λp _=>by
   simp[gZ,my]
  rwa[this]
end
namespace Dk
section
open Go.Conc Go.Conc.Lib Go.Proofs
open Go.ConcN (WgLive)
open Go.ConcR (KK wgBlock WgAt stA smA rd wr mk DC0 Payload)
open Go.ConcR.Gen
set_option maxRecDepth 100000
section
variable (Wg:V) (c:gS) (cs:J gS) (v:V->dp) (g:dN)
noncomputable def BQ:dN:=G ((baseD 16).at ⟨#[.pointer (U ⟨Wg,0,cM⟩)]++kx 83 undef,[]⟩ [.code (Tryz.f16.body.getD .skip)]) ({c with mode:=.returning}::cs)
noncomputable def Iw:dN:=
 let g:=e6 3 (put (e6 3 (BQ Wg c cs)) (.tuple #[]))
 {g with frame:={g.frame with tmps:=(.pointer (U ⟨Wg,0,cM⟩)::(iB 83).map λi=>v (i+1)).toArray}}
noncomputable def eD:=e6 16 (Iw Wg c cs v)
noncomputable def eo:=e6 48 (put (eD Wg c cs v) (.int .u64 4294967296))
noncomputable def eS:=e6 19 (put (eo Wg c cs v) (.bool N))
noncomputable def fy:=put (eS Wg c cs v) (.pointer (U ⟨Wg,1,cM⟩))
noncomputable def dW:=e6 23 (put (fy Wg c cs v) (.tuple #[]))
noncomputable def l5:=e6 16 (put (dW Wg c cs v) (.tuple #[]))
noncomputable def EW:=e6 3 (put g (.tuple #[]))
noncomputable def zq:=put (EW g) (.pointer (U ⟨Wg,0,cM⟩))
end
section
variable {P:el} {main:dh} {g:dN} {w:c'}
theorem Vd(h:it g){fS dst t x eb v}(o:(e5 g).op=.convert fS dst x)(b:(eA g).eval x=.pointer (U eb))(s:P.underlying fS=U (.pointer t))(cP:P.underlying dst=U .unsafePointer)
  (z:(P.info? t).map (λi=>decide (i.size=0))=U L)(c:w.cell? eb=U v):stepG P main g w=.go (put g (.pointer (U eb))) w #[]:=by
 have a:=run_convert_to_unsafe (P:=P) s cP z c;have d:=events_convert_to_unsafe (P:=P) s cP z c #[]
 have r:(execOp (eA g).eval (e5 g)).run P w=.ok (.value (.pointer (U eb))) w:=by simp[execOp,o,b,g2,a,g7,hM]
 have e:(execOp (eA g).eval (e5 g)).events P w #[]=#[]:=by simp[execOp,o,b,jn,a,d,kE,pk]
 rw[h.value r,listed_nil e]
end
section
variable [Payload] {Wg:V} {c:gS} {cs:J gS} {v:V->dp} {w:c'} {F:V->Prop} {eK:dN->c'->Prop}
def pm(F:V->Prop)(dm:eH)(Wg:V)(cO w:c'):Prop:=eX F cO w/\WgLive dm Wg w
theorem n5{dm cO w c0}(h:pm F dm Wg cO w)(r:k7 F dm Wg w c0):pm F dm Wg cO c0:=⟨h.1.trans r.1,r.2 h.2⟩
theorem ag6{dm cO w}(h:pm F dm Wg cO w):∃v,w.cell? ⟨Wg,0,cM⟩=U v:=let ⟨_,_,x⟩:=h.2;⟨_,x.cellSt⟩
theorem ag7{dm cO w}(h:pm F dm Wg cO w):∃v,w.cell? ⟨Wg,1,cM⟩=U v:=let ⟨_,_,x⟩:=h.2;⟨_,x.cellSm⟩
theorem BR(w):hK Wg w w #[]:=⟨Z,dt⟩
theorem ag8(w):hK Wg w w #[mk (.write (smA Wg))]:=⟨Z,λe he=>by
 simp[mk]at he;subst he
 exact⟨λx a=>by simp[MemAct.ofEvent,MemAct.touch?]at a;subst a;exact⟨⟨_,Z,Z⟩,dt⟩,dt,dt,dt⟩⟩
abbrev zr(F:V->Prop)(Wg:V)(S:dN->c'->Prop)(g:dN)(w:c'):=dO cR N (k7 F eY.tWg Wg) (hK Wg) S g w
theorem uM{g}(n:V)(k:zr F Wg eK (e6 n g) w)(h:jN cR N g (e6 n g):=by exact oL):zr F Wg eK g w:=dO.pure A8.trans BR h k
theorem Vg{g cO}(x y)(n:V)(f:pm F eY.tWg Wg cO w)(h:∀w,pm F eY.tWg Wg cO w->eK (G {c with mode:=.returning} cs) w)(Q:it g:=by exact kA)(o:(e5 g).op=.call {callee:=.value (.func 28),args:=#[],argTypes:=#[]}:=by kernel_rfl)(p:jN cR N (put g (.tuple #[])) (EW g):=by exact oL)
  (eS:it (EW g):=by exact kA)(a:(e5 (EW g)).op=.convert 74 78 x:=by kernel_rfl)(b:(eA (EW g)).eval x=.pointer (U ⟨Wg,0,cM⟩):=by kernel_rfl)(fy:it (zq Wg g):=by exact kA)(d:(e5 (zq Wg g)).op=.call {callee:=.value (.func 29),args:=#[y],argTypes:=#[78]}:=by kernel_rfl)
  (e:((#[y]:ea fu).map (eA (zq Wg g)).eval)[0]?=U (.pointer (U ⟨Wg,0,cM⟩)):=by kernel_rfl)(q:jN cR N (put (zq Wg g) (.tuple #[])) (e6 n (put (zq Wg g) (.tuple #[]))):=by exact oL)(i:e6 n (put (zq Wg g) (.tuple #[]))=G {c with mode:=.returning} cs:=by kernel_rfl):A0 cR Wg (k7 F eY.tWg Wg) (zr F Wg eK) g w:=by
 refine⟨Q.run,_,?_,dO.pure A8.trans BR p (.step eS.run (λw=>(zq Wg g,w,#[])) (λc0 h₁=>?_) λc0 h₁=>.stop λs j=>⟨fy.run,_,?_,dO.pure A8.trans BR q (dF.e (.stop λl m=>h l (n5 (n5 (n5 f h₁) j) m)) i)⟩)⟩
 .conv=>lhs;rw[Q.eq]
  exact Vh .enable dt Q.op Q.wanted Q.ne o kf.f_enable (x_enable_n eY) (x_enable_b eY) (x_enable_x eY) (x_enable_f eY)
 .have⟨x,r⟩:=ag6 (n5 f h₁);exact⟨Vd eS a b kf.underlying_tWgP kf.underlying_tUP kf.room_tWg r,BR c0⟩
 .conv=>lhs;rw[fy.eq]
  exact Vi .acquire dt fy.op fy.wanted fy.ne d kf.f_acquire (x_acquire_n eY) (x_acquire_b eY) (x_acquire_x eY) (x_acquire_f eY) e
theorem ag9{cO}(a:pm F eY.tWg Wg cO w)(b:∀w,pm F eY.tWg Wg cO w->eK (G {c with mode:=.returning} cs) w):L2 cR eY.tWg Wg (k7 F eY.tWg Wg) (zr F Wg eK) (l5 Wg c cs v) w:=by
 have Q:it (l5 Wg c cs v):=kA;refine⟨Q.run,λhw=>⟨put (l5 Wg c cs v) (.int .u64 0),?_,?_⟩⟩
 .conv=>lhs;rw[Q.eq]
  exact Vj (x:=.tmp 5) (v:=0) Q.op Q.wanted Q.ne (show(e5 (l5 Wg c cs v)).op=.call {callee:=.value (.func 58),args:=#[.tmp 5],argTypes:=#[107]} by kernel_rfl) kf.f_loadU64 (x_loadU64_n eY) (x_loadU64_b eY) (x_loadU64_x eY) .u64 (x_loadU64_f eY) c2 hw.cellSt
 .exact uM 11 (.stop λc0 h₁=>Vg (.tmp 79) (.tmp 80) 10 (n5 a h₁) b)
theorem aha{cO}(e:F Wg)(f:pm F eY.tWg Wg cO w)(g:∀w,pm F eY.tWg Wg cO w->eK (G {c with mode:=.returning} cs) w):xe cR eY.tWg Wg (k7 F eY.tWg Wg) (zr F Wg eK) (dW Wg c cs v) w:=by
 have Q:it (dW Wg c cs v):=kA;have a:(e5 (dW Wg c cs v)).op=.call {callee:=.value (.func 35),args:=#[.tmp 70,.tmp 71],argTypes:=#[82,4]}:=c2;have d:((#[.tmp 70,.tmp 71]:ea fu).map (eA (dW Wg c cs v)).eval)[0]?=U (.pointer (U ⟨Wg,1,cM⟩)):=c2;refine⟨Q.run,c2,λ⟨st,hw⟩=>?_,λee=>⟨put (dW Wg c cs v) (.tuple #[]),?_,?_⟩⟩
 .have:=stepG_semacquire_wait (P:=cR) (main:=N) (cs:=(dW Wg c cs v).callers) (kk:=(dW Wg c cs v).frame.todo.tail) (rest:=k9 (dW Wg c cs v)) (b:=(dW Wg c cs v).frame) Q.op Q.wanted a kf.f_semacquire (x_semacquire_n eY) (x_semacquire_b eY) (x_semacquire_x eY) (x_semacquire_f eY) d hw.cellSm;rwa[<-Q.eq]at this
 .conv=>lhs;rw[Q.eq]
  exact stepG_semacquire (n:=1) Q.op Q.wanted Q.ne a kf.f_semacquire (x_semacquire_n eY) (x_semacquire_b eY) (x_semacquire_x eY) (x_semacquire_f eY) d ee.cellSm c1 (ee.thaw 1)
 .exact uM 16 (.stop λc0 h₁=>ag9 (n5 (n5 f (TM e ee 0)) h₁) g)
theorem ahb{cO}(h:F Wg)(b:pm F eY.tWg Wg cO w)(i:∀w,pm F eY.tWg Wg cO w->eK (G {c with mode:=.returning} cs) w):dO cR N (k7 F eY.tWg Wg) (hK Wg) (xe cR eY.tWg Wg (k7 F eY.tWg Wg) (zr F Wg eK)) (put (eo Wg c cs v) (.bool N)) w:=by
 refine uM 19 (dF.e (g':=eS Wg c cs v) ?_);have d:it (eS Wg c cs v):=kA;refine .step d.run (λw=>(fy Wg c cs v,w,#[])) (λc0 h₁=>?_) (λc0 h₁=>?_)
 .have⟨x,j⟩:=ag7 (n5 b h₁);exact⟨Vd d (x:=.tmp 55) c2 c2 kf.underlying_tPU32 kf.underlying_tUP kf.room_tU32 j,BR c0⟩
 .have l:=n5 b h₁;have a:it (fy Wg c cs v):=kA;refine .step a.run (λw=>(put (fy Wg c cs v) (.tuple #[]),w,#[mk (.write (smA Wg))])) (λf g=>⟨?_,ag8 f⟩) (λf g=>?_)
  .conv=>lhs;rw[a.eq]
   exact Vi .write dt a.op a.wanted a.ne (show(e5 (fy Wg c cs v)).op=.call {callee:=.value (.func 33),args:=#[.tmp 56],argTypes:=#[78]} by kernel_rfl) kf.f_raceWrite (x_raceWrite_n eY) (x_raceWrite_b eY) (x_raceWrite_x eY) (x_raceWrite_f eY) c2
  .exact uM 23 (.stop λn m=>aha h (n5 (n5 l g) m) i)
def Ix(F:V->Prop)(Wg:V)(c:gS)(cs:J gS)(cO:c')(g:dN)(w:c'):Prop:=∃v,g=Iw Wg c cs v/\pm F eY.tWg Wg cO w
theorem ahc{cO}(d:F Wg)(i:∀w,pm F eY.tWg Wg cO w->eK (G {c with mode:=.returning} cs) w)(g w)(h:Ix F Wg c cs cO g w):
  dO cR N (k7 F eY.tWg Wg) (hK Wg) (r4 cR eY.tWg Wg (k7 F eY.tWg Wg) (zr F Wg eK) (Ix F Wg c cs cO)) g w:=by
 obtain⟨v,rfl,a⟩:=h;refine uM 16 (dF.e (g':=eD Wg c cs v) (.stop λc0 h₁=>have a:=n5 a h₁;have Q:it (eD Wg c cs v):=kA;have j:(e5 (eD Wg c cs v)).op=.call {callee:=.value (.func 58),args:=#[.tmp 5],argTypes:=#[107]}:=c2;have l:(eA (eD Wg c cs v)).eval (.tmp 5)=.pointer (U ⟨Wg,0,cM⟩):=c2;⟨Q.run,λhw=>⟨put (eD Wg c cs v) (.int .u64 4294967296),?_,?_⟩,λhw=>⟨put (eD Wg c cs v) (.int .u64 0),?_,?_⟩⟩))
 .conv=>lhs;rw[Q.eq]
  exact Vj (v:=4294967296) Q.op Q.wanted Q.ne j kf.f_loadU64 (x_loadU64_n eY) (x_loadU64_b eY) (x_loadU64_x eY) .u64 (x_loadU64_f eY) l hw.cellSt
 .refine uM 48 (dF.e (g':=eo Wg c cs v) (.stop λr b=>have a:=n5 a b;have c5:it (eo Wg c cs v):=kA;have m:(e5 (eo Wg c cs v)).op=.call {callee:=.value (.func 59),args:=#[.tmp 9,.tmp 10,.tmp 11],argTypes:=#[107,59,59]}:=c2;have o:(eA (eo Wg c cs v)).eval (.tmp 9)=.pointer (U ⟨Wg,0,cM⟩):=c2;have p:(eA (eo Wg c cs v)).eval (.tmp 10)=.int .u64 4294967296:=c2;have q:(eA (eo Wg c cs v)).eval (.tmp 11)=.int .u64 4294967297:=c2;⟨c5.run,λhw=>⟨put (eo Wg c cs v) (.bool N),?_,?_⟩,λhw=>⟨put (eo Wg c cs v) (.bool L),?_,?_⟩⟩))
  .conv=>lhs;rw[c5.eq]
   exact stepG_cas_hit (v:=4294967296) (n:=4294967297) c5.op c5.wanted c5.ne m kf.f_casU64 (x_casU64_n eY) (x_casU64_b eY) (x_casU64_x eY) .u64 (x_casU64_f eY) o p q hw.cellSt (hw.thaw 0)
  .exact ahb d (n5 a (TL d hw (KK+1))) i
  .conv=>lhs;rw[c5.eq]
   exact stepG_cas_miss (v:=0) (old:=4294967296) (n:=4294967297) c5.op c5.wanted c5.ne m kf.f_casU64 (x_casU64_n eY) (x_casU64_b eY) (x_casU64_x eY) .u64 (x_casU64_f eY) o p q hw.cellSt (hw.thaw 0) c1
  .exact uM 9 (dF.h (Iw Wg c cs) λf=>.stop λt s=>⟨f,Z,n5 a s⟩)
 .conv=>lhs;rw[Q.eq]
  exact Vj (v:=0) Q.op Q.wanted Q.ne j kf.f_loadU64 (x_loadU64_n eY) (x_loadU64_b eY) (x_loadU64_x eY) .u64 (x_loadU64_f eY) l hw.cellSt
 .exact uM 31 (.stop λr b=>Vg (.tmp 21) (.tmp 22) 20 (n5 a b) i)
theorem ahd{NB}(a:pm F eY.tWg Wg NB w):dO cR N (k7 F eY.tWg Wg) (hK Wg) (Hi cR Wg (k7 F eY.tWg Wg) (Ix F Wg c cs NB)) (BQ Wg c cs) w:=by
 refine uM 3 (.stop λc0 h₁=>have Q:it (e6 3 (BQ Wg c cs)):=kA;⟨Q.run,put (e6 3 (BQ Wg c cs)) (.tuple #[]),?_,uM 3 (dF.h (Iw Wg c cs) λf=>.stop λd b=>⟨f,Z,n5 (n5 a h₁) b⟩)⟩)
 .conv=>lhs;rw[Q.eq]
  exact Vh .disable dt Q.op Q.wanted Q.ne (show(e5 (e6 3 (BQ Wg c cs))).op=.call {callee:=.value (.func 26),args:=#[],argTypes:=#[]} by kernel_rfl) kf.f_disable (x_disable_n eY) (x_disable_b eY) (x_disable_x eY) (x_disable_f eY)
end
end
end Dk
open Go.RowKit
section
variable {cV:jm} {own:V->Prop} {cO:c'} {dJ:eE} {fK:gr} {dj:V}
variable {P:el} {T:fL} (cS:jB P T)
def Wm(cV:jm)(own:V->Prop)(cO:c')(dJ:eE)(fK:gr)(dj:V)(da:m0->fs->Prop):Exit->e7->c'->Prop
 | .normal,a,w=>∃st,da .normal st/\gw cV own cO dJ fK dj st a w
 | .exit i,a,w=>∃st,da (.exit i) st/\gw cV own cO dJ fK dj st a w
 | .ret,a,w=>∃st,da .ret st/\gw cV own cO dJ fK dj st a w
 |_,_,_=>dA
def E'(dj:V):J gC->dh
 | []=>N
 |o::r=>match o.dst with
  |some d=>bif xq d dj then E' dj r else L
  |none=>E' dj r
def ki(dj:V):Code->dh
 | .region _ ops _=>E' dj ops.toList
 | .seq a b=>bif ki dj a then ki dj b else L
 | .cond _ a b=>bif ki dj a then ki dj b else L
 | .block _ c=>ki dj c
 | .loop c=>ki dj c
 | .rangeFunc _ _ a b=>bif ki dj a then ki dj b else L
 | .scope c=>ki dj c
 |_=>N
theorem IR{dj}:∀ {l},E' dj l=N->∀o∈l,xH dj o
 | [],_,o,a=>by cases a
 |x::r,h,o,a=>by
  simp[E']at h
  cases b:x.dst with
  |none=>
   simp[b]at h
   cases a with
   |head=>intro d cP;simp_all
   |tail _ a=>exact IR h o a
  |some d=>
   simp only[b]at h
   cases hb:xq d dj with
   |false=>simp_all
   |true=>
    simp[hb,fE]at h
    cases a with
    |head=>intro c cP;simp_all
    |tail _ a=>exact IR h o a
include cS in
theorem aiy{fn}(p:gG cV own dJ)(z:∀c,cO.heap.size<=c->own c)(W:P.follows .mixedOrders=N):∀c da st a w,ki dj c=N->kS T P c st da->gw cV own cO dJ fK dj st a w->jK P cV.main cV.F fn c (Wm cV own cO dJ fK dj da) a w:=by
 intro c
 induction c with
 |skip=>exact λda st a w _ h d=>ae6 ⟨st,h,d⟩
 |region id ops B=>
  intro da st a w cP h d;have C:=λo X=>IR cP o (by simpa using X);rw[afU]at h;simp[MP]at h
  cases B with
  |true=>have⟨db,O⟩:=st;exact Wl cS p z (λst a w k r=>⟨st,k,r⟩) C W id h d
  |false=>apply aff;have:=N0 (fn:=fn) cS p z (da:=Wm cV own cO dJ fK dj da) (λst a w k r=>⟨st,k,r⟩) C ops.toList 0 st a w Z h d;rw[List.range_eq_range'];omega
 |seq x y t v=>
  intro da st a w cP h d;simp only[ki]at cP
  cases Q:ki dj x with
  |false=>simp_all
  |true=>
   simp[Q,fE]at cP;rw[afV]at h;refine afa (D2 (λe d9 w' g=>?_) (t _ st a w Q h d))
   cases e with
   |normal=>have⟨s,k1,eF⟩:=g;exact v da s d9 w' cP k1 eF
   |exit i=>exact g
   |ret=>exact g
   |goto l=>exact g.elim
   |panic dr=>exact g.elim
   |outgrown=>exact g.elim
 |cond o x y t v=>
  intro da st a w cP h d;simp only[ki]at cP
  cases Q:ki dj x with
  |false=>simp_all
  |true=>
   simp[Q,fE]at cP;have⟨db,O⟩:=st;rw[afW]at h;simp[Bq]at h
   have m:∃M D,dV M D (iW db o) (a.eval o):=by have⟨M,D,dG,K,cL,J,R,V,dc,aa,ab⟩:=d;exact⟨M,D,zw dc o⟩
   have⟨M,D,m⟩:=m;split at h
   .rename_i A;exact Tz ((uP m).1 A) (t da _ a w Q h d)
   .rename_i A;exact TA ((uP m).2 A) (v da _ a w cP h d)
   .rename_i b A;rcases v6 h with⟨rfl,k⟩|⟨rfl,k⟩
    .exact Tz (n1 (A▸m)) (t da _ a w Q k d)
    .exact TA (n1 (A▸m)) (v da _ a w cP k d)
   simp_all
 |block id x F=>
  intro da st a w cP h d;rw[afX]at h;refine afb (D2 (λe d9 w' g=>?_) (F _ st a w cP h d))
  cases e with
  |normal=>exact g
  |exit i=>
   have⟨s,k1,eF⟩:=g;replace k1:bif d2 i id then da .normal s else da (.exit i) s:=k1;simp[Exit.inBlock]
   cases hb:d2 i id with
   |true=>have:=gs hb;subst this;rw[hb]at k1;rw[if_pos Z];exact⟨s,k1,eF⟩
   |false=>rw[hb]at k1;rw[cT (λe=>G1)];exact⟨s,k1,eF⟩
  |ret=>exact g
  |goto l=>exact g.elim
  |panic dr=>exact g.elim
  |outgrown=>exact g.elim
 |loop x F=>
  intro da st a w cP h d;rw[afZ]at h;have h:=h.out;have⟨ac,S,cX,I,⟨j,G,H⟩,u⟩:=h;apply afc (λn a w=>∃j,cX j/\I j=n/\gw cV own cO dJ fK dj (S j) a w) (I j) ⟨j,G,Z,d.BV H⟩;rintro n a w ⟨j,G,rfl,E⟩;refine D2 (λe d9 w' g=>?_) (F _ (S j) a w cP (u j G) E)
  cases e with
  |normal=>have⟨s,⟨Y,dG,K,cL⟩,eF⟩:=g;exact⟨_,K,Y,dG,Z,eF.BV cL⟩
  |exit i=>exact g
  |ret=>exact g
  |goto l=>exact g.elim
  |panic dr=>exact g.elim
  |outgrown=>exact g.elim
 |rangeFunc f ad x y _ _=>exact λda st a w _ h=>h.elim
 |exit id=>exact λda st a w _ h d=>ae9 ⟨st,h,d⟩
 |scope x F=>intro da st a w cP h d;rw[afY]at h;refine afd (λl a w q=>q.elim) (D2 (λe d9 w' g=>?_) (F da st a w cP h d));omega
 |label l=>exact λda st a w _ h d=>ae7 ⟨st,h,d⟩
 |goto l=>exact λda st a w _ h=>h.elim
 |ret=>exact λda st a w _ h d=>ae8 ⟨st,h,d⟩
 |refuse y=>exact λda st a w _ h=>h.elim
end
section
variable {P:el} {T:fL} (cS:jB P T)
def ks(tmps:ea dp):xs->Sem dp
 | .tmp t=>pure (tmps.getD t undef)
 | .cell a t=>do loadVar t (<-asAddr (tmps.getD a undef))
theorem aiA(fn:Func)(tmps:ea dp)(w:c'){vs:J dp}(h:(fn.results.toList.mapM (ks tmps)).run P w=.ok vs w):
  (results fn tmps).run P w=.ok (if h:vs.toArray.size=1 then vs.toArray[0] else .tuple vs.toArray) w:=by
 have e:results fn tmps=(do let vs <-fn.results.mapM (ks tmps);pure (if h:vs.size=1 then vs[0] else .tuple vs)):=by
  unfold results
  congr 1
 rw[e];simp[MU,g2,U3,h,g7,hM]
theorem xP{F:V->Prop}{fn:Func}{tmps:ea dp}{w:c'}{vs:J dp}(h:∀c0,eX F w c0->(fn.results.toList.mapM (ks tmps)).run P c0=.ok vs c0/\ ∀es,∀e∈(fn.results.toList.mapM (ks tmps)).events P c0 es,e∈es\/i2 F e):
  ul P F fn tmps (if h:vs.toArray.size=1 then vs.toArray[0] else .tuple vs.toArray) w:=λc0 a=>by
 refine⟨aiA fn tmps c0 (h c0 a).1,λe b=>?_⟩
 have c:results fn tmps=(do let vs <-fn.results.mapM (ks tmps);pure (if h:vs.size=1 then vs[0] else .tuple vs)):=by
  unfold results
  congr 1
 rw[c]at b;simp[MU,jn,U3,(h c0 a).1,Sem.events_map]at b;refine((h c0 a).2 #[] e ?_).elim (λq=>by simp at q) id;simp_all
include cS in
theorem aiB{t x O K}(h:vX T t x O K):
  ∃fl,K fl/\ ∀own M D w v,fq M w->er own M D O w->dV M D x v->∃r,(∀c0,(∀a,(own a.block\/ ∃o u,M a.block o=U u)->c0.cell? a=w.cell? a)->(sc t v).run P c0=.ok r c0) /\dV M D fl r:=by
 unfold vX at h
 have c6:(T t).k.known=N:=by
  cases p:(T t).k.known with|true=>rfl|false=>simp_all
 simp[c6,fE]at h;have Q:=xx cS c6;unfold Eg at h;split at h
 .rename_i b i j;split at h
  .rename_i c cN hb;have⟨z,c5⟩:=kT h;subst z;have⟨fl,k,dw,cP⟩:=BD c5 Q;refine⟨fl,k,λown M D w v dq c_ cU=>?_⟩
   cases cU with
   |ptr _ _ _ cL f=>
    have⟨q,cs,eQ,s,A,y,B,C,_⟩:=c_.at_ b _ cL hb f;have⟨g,p,n⟩:=cP M D (λi=>cs[i]?) (λi x m=>C.den i x m);refine⟨_,λc0 hw=>?_,n⟩;simp
    exact BF cS c6 c0 _ _ g λi cK=>by rw[hw _ (.inl q),si s];simp_all
   |iV _ _ _ _ f=>rw[(c_.fD b).2 f]at hb;cases hb
  .rename_i l cQ cN hb;have⟨e,he,h⟩:=EC h;have⟨fl,k,dw,cP⟩:=BE h Q;refine⟨fl,k,λown M D w v dq c_ cU=>?_⟩
   cases cU with
   |ptr _ _ _ cL f=>
    have⟨q,cs,eQ,s,A,y,B,H,E,_⟩:=c_.at_ b _ cL hb f;have⟨g,p,n⟩:=cP M D (λj=>cs[i*cQ+j]?) (λj x m=>E.den i j e x he m);refine⟨_,λc0 hw=>?_,n⟩;simp[sc,lA,g2,hM,g7];subst y
    exact BF cS c6 c0 _ _ g λi cK=>by rw[hw _ (.inl q),si s];grind
   |iV _ _ _ _ f=>rw[(c_.fD b).2 f]at hb;cases hb
  simp_all
 .rename_i e j;have⟨fl,k,dw,cP⟩:=BE h Q;refine⟨fl,k,λown M D w v dq c_ cU=>?_⟩
  cases cU with
  |d _ _ cU=>
   cases cU with
   |ip _ _ b off val d8 F=>
    have⟨g,p,n⟩:=cP M D (λi=>w.cell? ⟨b,off+i,cM⟩) (λi x m=>⟨val i,dq _ _ _ (d8 i x m),F i x m⟩);have O:=pV cS c6;have G:j<e.length:=R;refine⟨_,λc0 hw=>?_,n⟩;simp[sc,lA,g2,hM,g7]
    exact BF cS c6 c0 _ _ g λi cK=>by rw[hw _ (.inr ⟨_,_,d8 j _ (fe G)⟩)];grind
 simp_all
include cS in
theorem Od{cV own M D O w db tmps}(dq:fq M w)(c_:er own M D O w)(f:∀t,dV M D (db t) (tmps.getD t undef))(f':gG cV own M)(r)(dg:conv O (sb T db O r)≠cM):
 ∃v,(∀c0,eX cV.F w c0->(ks tmps r).run P c0=.ok v c0/\ ∀es,∀e∈(ks tmps r).events P c0 es,e∈es\/i2 cV.F e)/\dV M D (sb T db O r) v:=by
 cases r with
 |tmp t=>exact⟨_,λc0 _=>⟨Z,λes e he=>.inl he⟩,f t⟩
 |cell a t=>
  simp[sb]at dg⊢;split at dg
  .rename_i b i j y;split at dg
   .rename_i c cN hb
    cases c6:((T t).k.known&&d2 i 0) with
    |false=>simp[c6,conv]at dg
    |true=>
     simp[c6,fE]at dg⊢;simp only[lB]at c6;have cK:=gs c6.2;subst cK
     have dw:vX T t (.ptr b 0 j) O (λfl=>fl=(bif (T t).k.agg then(bif hn (j+(T t).size) c.length then .agg ((c.drop j).take (T t).size) else .dead) else(match c[j]? with|some x=>x|none=>.dead))):=by
      simp[vX,c6.1,fE,Eg,hb];apply fC (by trivial);unfold xl
      cases g:(T t).k.agg with
      |true=>
       simp only[g,fE]at dg⊢
       cases h:hn (j+(T t).size) c.length with
       |false=>simp[h,conv]at dg
       |true=>
        simp[h,fE]at dg⊢
        have:∀(l:J dn) (K:J dn->Prop),conv.cells O l≠cM->K l->qt l K:=by
         intro l
         induction l with
         |nil=>exact λK _ m=>m
         |cons x r E=>
          intro K Q m;simp[conv.cells]at Q
          have c5:conv.one O x≠cM:=by intro e;simp[e]at Q
          have G:conv.cells O r≠cM:=by intro e;simp[e]at Q
          simp[qt]
          have:∀d:dn->Prop,d x->mY x d:=by
           intro d z
           cases x<;>first|exact z|exact dQ Z c5
          simp_all
        refine this _ _ ?_ Z;intro e;simp[conv,e]at dg
      |false=>
       simp[g,jk]at dg⊢;simp[Bf]
       cases n:c[j]? with
       |none=>simp[n,conv]at dg
       |some x=>
        simp[n]at dg⊢
        cases x<;>first|rfl|exact dQ Z dg
     have⟨fl,A,B⟩:=aiB cS dw;have cU:=f a;rw[y]at cU;have⟨r,dI,cP⟩:=B own M D w _ dq c_ cU;refine⟨r,λc0 h₁=>?_,A▸cP⟩;have dI:=dI c0 λa dq=>Nc h₁ (dq.elim (f'.own _) λ⟨o,u,q⟩=>f'.mem _ o u q);have p:=VN cS dw own M D c0 _ (tj f' h₁ dq) (BA f' h₁ c_) cU;generalize C:tmps.getD a undef=u at cU dI p
     cases cU with
     |ptr _ _ _ cL s=>
      simp only[ks,C];refine⟨by assumption,λes e he=>?_⟩;rw[Sem.events_acc]at he;rcases Array.mem_append.1 he with he|he
      .grind
      .exact .inr ((p e (by assumption)).hD f')
     |iV _ _ _ _ s=>rw[(c_.fD b).2 s]at hb;cases hb
   .exact dQ Z dg
  .exact dQ Z dg
include cS in
theorem Wn {cV} {own} {M} {D} {O} {w} {db} {tmps} (dq:fq M w) (c_:er own M D O w) (g:∀ t,dV M D (db t) (tmps.getD t undef)) (f':gG cV own M):
  ∀ {j6} {dx},nn T db O j6=U dx->∃ (vs:J dp) (dD:J dn) (dR:J V),(∀ c0,eX cV.F w c0->(j6.mapM (ks tmps)).run P c0=.ok vs c0/\ ∀ es,∀ e∈(j6.mapM (ks tmps)).events P c0 es,e∈es\/i2 cV.F e) /\vs.length=dx.length/\dD.length=dx.length/\
   ∀ (i:V) (x) (d) (v),dD[i]?=U x->dx[i]?=U d->vs[i]?=U v->dV M D x v/\conv O x=U d/\ ∀ b∈gU O x,b∈dR
 | [],dx,h=>by
  simp only [nn,fx] at h;subst h;exact ⟨[],[],[],fun c0 _=>⟨Z,fun es e he=>.inl he⟩,Z,Z,fun i x d v h=>by simp at h⟩
 |r::q,dx,h=>by
  simp only [nn] at h
  cases dg:conv O (sb T db O r) with
  |none=>simp [dg] at h
  |some d=>
   cases a:nn T db O q with
   |none=>simp [dg,a] at h
   |some p=>
    simp only [dg,a,fx] at h;subst h;obtain ⟨v,cU,j⟩:=Od cS dq c_ g f' r (by rw [dg];simp);obtain ⟨vs,dD,dR,c,k,l,cP⟩:=Wn dq c_ g f' a;refine ⟨v::vs,sb T db O r::dD,gU O (sb T db O r)++dR,?_,by simp [k],by simp [l],fun i x m fN Q c5 f=>?_⟩
    ·intro c0 h₁;refine ⟨by simp [Br,(cU c0 h₁).1,(c c0 h₁).1],fun es e he=>?_⟩;rw [Br,jn,(cU c0 h₁).1,kE,jn,(c c0 h₁).1,kE] at he;exact ((c c0 h₁).2 _ e he).elim ((cU c0 h₁).2 es e) .inr
    ·cases i with
     |zero=>
      simp only [uL,fx] at Q c5 f;subst Q c5 f;exact ⟨j,dg,fun b hb=>n8 _ hb⟩
     |succ i=>
      obtain ⟨dG,n,o⟩:=cP i x m fN (by simpa using Q) (by simpa using c5) (by simpa using f);exact ⟨dG,n,fun b hb=>po _ (o b hb)⟩
def n_(fn:Func)(n:V):dh:=
 match fn.body with
 |some c=>ki fn.ntmps c&&hn n fn.ntmps&&!(fn.name== "runtime.NumGoroutine")
 |none=>L
theorem xQ{fn n}(h:n_ fn n=N):∃c,fn.body=U c/\ki fn.ntmps c=N/\n<=fn.ntmps/\ (fn.name== "runtime.NumGoroutine")=L:=by
 unfold n_ at h;split at h
 .simp_all
 .cases h
theorem Wo{M D}:∀(dx) (n) (vs:ea dp),(∀i d v,dx[i]?=U d->vs[n+i]?=U v->e1 M d v)->vs.size=n+dx.length->∀t,dV M D (pS.go n dx t) (vs.getD t undef)
 | [],n,vs,h,a,t=>.dead _
 |d::r,n,vs,h,a,t=>by
  simp only[pS.go]
  by_cases e:t=n
  .subst e;rw[gE]
   have l:t<vs.size:=by rw[a];simp
   have:vs[t]?=U vs[t]:=dt
   have g:vs.getD t undef=vs[t]:=by simp[my,l]
   rw[g];exact EN (h 0 d _ dt R)
  .rw[gf _ _ e];exact Wo r (n+1) vs (λi b v Q c=>h (i+1) b v (by simp_all) (by grind)) (by grind) t
theorem IS(vs n t):(vs++kx n undef).getD t undef=vs.getD t undef:=by rw[um,um];grind
theorem Fa{cV dx w M vs n}(a:fq M w)(s:ly M dx vs)(cY:vs.size<=n):
  gw cV (λc=>w.heap.size<=c) w M (λ_=>cM) n ⟨pS dx,λ_=>cM⟩ {tmps:=vs++kx (n-vs.size) undef,defers:=[]} w:=by
 refine⟨M,λ_=>cM,.refl M,a,.refl _ _,.refl _ _,⟨λ_=>⟨λ_=>Z,λ_=>Z⟩,λb h=>g0,λb B cL h=>g0,λb e cL ej h=>g0⟩,λ_ _ _=>Z,λt=>?_,hd,Z⟩;rw[IS];exact Wo dx 0 vs (λi d v Q c5=>s.2 i d v Q rV) (by simpa using s.1) t
include cS in
theorem xR(m:P.follows .mixedOrders=N){f fn c cV own w M D db O b}{da:fs->Prop}{dM:dp->c'->Prop}(cP:ki fn.ntmps c=N)(d:gG cV own M)(o:∀c,w.heap.size<=c->own c)
  (h:kS T P c ⟨db,O⟩ λe st=>match e with
  | .exit _=>dA|_=>da st)(r:gw cV own w M D fn.ntmps ⟨db,O⟩ b w)(k:∀st a w',da st->gw cV own w M D fn.ntmps st a w'->a.defers=[]/\ ∃v,ul P cV.F fn a.tmps v w'/\dM v w'):
  jK P cV.main cV.F f c (Me P cV.F fn dM) b w:=
 D2 (λe a w' q=>by
  cases e<;>first|exact q.elim|have⟨st,k1,eF⟩:=q;first|exact k st a w' k1 eF|exact k1.elim) (aiy cS d o m c _ _ _ w cP h r)
theorem Fb{cV w w'}(h:jM (pe cV λc=>w.heap.size<=c) w w'):nX cV w.heap.size w w':=⟨h.os,h.tape,h.output,h.size,λc a F=>h.block c λq=>q.elim (λq=>by omega) F⟩
theorem Oe{M:eE}{dx:J c3}{vs:J dp}(dw:vs.length=dx.length)(cP:∀(i:V) (d:c3) (v:dp),dx[i]?=U d->vs[i]?=U v->e1 M d v):
  e1 M (pf dx) (if h:vs.toArray.size=1 then vs.toArray[0] else .tuple vs.toArray):=by
 by_cases Q:vs.length=1
 .rw[EI o_];obtain⟨v,rfl⟩:=Of.1 Q;obtain⟨d,rfl⟩:=Of.1 (dw.symm.trans Q);exact cP 0 d v Z Z
 .rw[dif_neg o_]
  have:pf dx=.dP dx:=by
   unfold pf;split
   .simp_all
   .rfl
  rw[this];exact .dP dx _ vC λi d v Q c5=>cP i d v Q rV
include cS in
theorem aiC(E:P.follows .mixedOrders=N){f fn dx d}(k:P.funcs[f]?=U fn)(B:n_ fn dx.length=N)(h:MQ T P fn dx d):dX P f dx d:=by
 have⟨c,hb,t,cY,n⟩:=xQ B;refine⟨⟨fn,k,DG,n⟩,λcV w M vs j A s=>xg k n hb ?_⟩;simp only[MQ,hb]at h;refine xR cS E t j (λ_ h=>h) h (Fa A s (by rwa[s.1])) λst a w' r F=>?_;have⟨m,D,Q,g,p,I,dz,dW,J,W,R⟩:=F
 cases e:nn T st.db st.O fn.results.toList with|none=>simp_all|some dj=>simp[e,jp,fx]at r;subst r;have⟨X,dD,dR,S,u,cL,x⟩:=Wn cS g dz J (j.new Q p) e;have⟨q,s2,fb,H,z,eo,y⟩:=v8 (hh:=st.O) dR m st.O g dz (.refl _);exact⟨R,_,xP S,_,q,Z,Fb I,Q.trans s2,fb,λb o v cU=>(p.trans H) b o v cU,Oe u λi d v dr K=>have G:dD[i]?=U (dD[i]'(by grind)):=dt;have⟨fA,ug,V⟩:=x i _ d v G dr K;EM z aex (xA (λb l cQ cN hb C=>y b l cQ cN (.inl hb) C) eo _ V) (fA.mono s2)⟩
include cS in
theorem aiD(d8:P.follows .mixedOrders=N){f fn dx l cQ}(ee:P.funcs[f]?=U fn)(dg:n_ fn dx.length=N)(h:MR T P fn dx l cQ):j5 P f dx l cQ:=by
 have⟨c,hb,m,cY,j⟩:=xQ dg;refine⟨⟨fn,ee,DG,j⟩,λcV w M vs f' dq k=>xg ee j hb ?_⟩;simp[MR,hb]at h;refine xR cS d8 m f' (λ_ h=>h) h (Fa dq k (by rwa[k.1])) λst a w' n dI=>?_;have⟨p,D,Q,c5,q,r,dz,dW,s,I,u⟩:=dI;have⟨t,x,y⟩:=n
 have z:∀c0,eX cV.F w' c0->(fn.results.toList.mapM (ks a.tmps)).run P c0=.ok [a.tmps.getD t undef] c0/\ ∀es,∀e∈(fn.results.toList.mapM (ks a.tmps)).events P c0 es,e∈es\/i2 cV.F e:=λc0 _=>by
  rw[x];exact⟨LL,λes e he=>.inl LB⟩
 refine⟨u,_,xP z,a.tmps.getD t undef,p,Z,Fb r,Q,c5,λb o v cU=>q b o v cU,?_⟩;have cU:=s t;rcases y with⟨b,i,g⟩|⟨i,g⟩
 .rw[i]at cU;generalize a.tmps.getD t undef=v at cU
  cases cU with|own _ cL cap d J K=>have⟨A,cs,eQ,B,O,R,C,S,E,G⟩:=dz.at_ b _ cL g d;exact .inr ⟨cL.blk,cap,cs,eQ,A,by rw[C],by omega,by simp_all,B,E,G.2 Z⟩|h7 _ H d=>have⟨V,W,X⟩:=dz.iN b d;simp_all|ji _ _ d=>rw[(dz.fD b).2 d]at g;cases g
 .rw[i]at cU;generalize a.tmps.getD t undef=v at cU
  cases cU with|nil H=>simp_all
omit cS in
theorem IT{O}:∀ {c cs seen},r1 O seen c cs->conv.cells O c≠cM
 | [],[],_,_=>by simp[conv.cells]
 |x::c,.d d::s,seen,h=>by
  simp[r1]at h;have:=IT h.2
  have Q:conv.one O x≠cM:=by cases x<;>simp[conv.nj]at h<;>simp[conv.one]
  simp[conv.cells]
  cases a:conv.one O x with|none=>simp_all|some y=>simp_all
 |x::c,.row l cQ::s,seen,h=>by
  simp[r1]at h
  have e:conv.cells O c≠cM:=by
   rcases h with⟨b,_,_,_,h⟩|⟨_,_,h⟩
   .exact IT h
   .exact IT h
  have Q:conv.one O x≠cM:=by
   rcases h with⟨b,rfl,h,_⟩|⟨rfl,_,_⟩
   .simp[conv.one,h]
   .simp[conv.one]
  simp[conv.cells]
  cases a:conv.one O x with|none=>simp_all|some y=>simp_all
 | [],_::_,_,h=>G4|_::_,[],_,h=>G4
omit cS in
theorem Fc{O:V->dB d4}:∀ {c:J dn} {cs:J iC} {seen:J V},r1 O seen c cs->c.length=cs.length/\
  (∀(i:V) (s:iC),cs[i]?=U s->∃x,c[i]?=U x/\match s with
   | .d d=>conv.nj x=U d| .row l cQ=>(∃b,x=.own b/\O b=U (.row l cQ L) /\b∉seen) \/ (x=.nil/\l=[])) /\
  ∀(i j:V) (b l e:_) (cQ z:V),cs[i]?=U (.row l cQ)->cs[j]?=U (.row e z)->c[i]?=U (.own b)->c[j]?=U (.own b)->i=j
 | [],[],_,_=>⟨Z,λi s h=>ql,λi j b l e cQ z h=>ql⟩
 |x::c,.d d::s,seen,h=>by
  simp[r1]at h;have⟨dG,k,m⟩:=Fc h.2;refine⟨by simp[dG],λi s' a=>?_,λi j b l e cQ z Q f t p=>?_⟩
  .cases i with|zero=>simp at a;subst a;simp_all|succ i=>grind
  grind
 |x::c,.row e0 r::s,seen,h=>by
  simp[r1]at h;rcases h with⟨e8,rfl,u,g,h⟩|⟨rfl,rfl,h⟩
  .have⟨dG,k,m⟩:=Fc h
   have q:e8∉seen:=λn=>by rw[rm.2 n]at g;cases g
   have o:∀(j:V) (e:_) (z:V),s[j]?=U (.row e z)->c[j]?=U (.own e8)->dA:=λj e z f p=>by
    grind
   refine⟨by simp[dG],λi s' a=>?_,λi j b l e cQ z Q f t p=>?_⟩
   .cases i with|zero=>simp at a;subst a;grind|succ i=>grind
   grind
  .have⟨dG,k,m⟩:=Fc h;refine⟨by simp[dG],λi s' a=>?_,λi j b l e cQ z Q f t p=>?_⟩
   .cases i with|zero=>simp at a;subst a;simp_all|succ i=>grind
   grind
 | [],_::_,_,h=>G4|_::_,[],_,h=>G4
omit cS in
theorem aiE{M D x d v}(h:dV M D x v)(O:conv.nj x=U d):e1 M d v:=by
 cases h<;>simp[conv.nj,fx,reduceCtorEq]at O<;>subst O
 case d h=>exact h
 case e4=>exact .bool N
 case fd=>exact .bool L
 case nil a=>exact .emp a 0
def xS(cs:J iC)(c:J dn)(D:gr)(i:V):dB kR:=match cs[i]? with
 |some (.row _ _)=>match c[i]? with
  |some (.own b)=>match D b with
   |some (U cL)=>U cL
   |_=>cM
  |_=>cM
 |_=>cM
theorem Fe{cs c D i cL}(h:xS cs c D i=U cL):∃l cQ b,cs[i]?=U (.row l cQ)/\c[i]?=U (.own b)/\D b=U (U cL):=by unfold xS at h;grind
theorem Wp{w w':c'}{M D}{O j:V->dB d4}{cs:J iC}{c:J dn}{i:V}{s x u}(c_:er (λc=>w.heap.size<=c) M D j w')(c7:cs[i]?=U s)(f:c[i]?=U x)(cP:dV M D x u)
  (d8:match (generalizing:=false) s with
   | .d d=>conv.nj x=U d
   | .row l cQ=>(∃b,x=.own b/\O b=U (.row l cQ L) /\b∉([]:J V)) \/ (x=.nil/\l=[]))(c6:∀b l cQ,x=.own b->O b=U (.row l cQ L)->j b=U (.row l cQ L)):
  match (generalizing:=false) s with
  | .d x=>e1 M x u
  | .row l cQ=>MD w w' M l cQ (xS cs c D i) u:=by
 cases s with
 |d d=>exact aiE cP d8
 |row l cQ=>
  rcases d8 with⟨b,rfl,e,_⟩|⟨rfl,rfl⟩
  .have e:=c6 b l cQ Z e
   cases cP with
   |own _ cL cap a v y=>simp only[xS,c7,f,a];have⟨o,p,eQ,q,k,m,g,z,r,t⟩:=c_.at_ b _ cL e a;exact⟨o,cap,p,eQ,by rw[g],g.symm,m.symm,k.symm,by rwa[g],by rwa[m,k],q,r,t.2 Z⟩
   |h7 _ h a=>
    simp only[xS,c7,f,a];have⟨A,B,n⟩:=c_.iN b a;rw[e]at n;cases n
    exact⟨Z,h,Z⟩
   |ji _ _ a=>rw[(c_.fD b).2 a]at e;cases e
  .simp only[xS,c7,f]
   cases cP with
   |nil h=>exact⟨Z,h,Z⟩
include cS in
theorem aiF(d8:P.follows .mixedOrders=N){f fn dx cs}(ee:P.funcs[f]?=U fn)(dg:n_ fn dx.length=N)(h:MS T P fn dx cs):Ei P f dx cs:=by
 have⟨c,hb,u,cY,g⟩:=xQ dg;refine⟨⟨fn,ee,by rw[hb];rfl,g⟩,λcV w M vs f' dq k=>xg ee g hb ?_⟩;simp only[MS,hb]at h;refine xR cS d8 u f' (λ_ h=>h) h (Fa dq k (by rwa[k.1])) λst a w' z dI=>?_;have⟨A,D,Q,c5,m,B,dz,dW,C,af,E⟩:=dI;have⟨r,c,G,n,p⟩:=z
 have⟨v,cU,q⟩:=Od cS c5 dz C (f'.new Q m) r (by
  rw[n];simp[conv]
  cases H:conv.cells st.O c with|none=>exact dQ H (IT p)|some y=>simp)
 have I:∀c0,eX cV.F w' c0->(fn.results.toList.mapM (ks a.tmps)).run P c0=.ok [v] c0/\ ∀es,∀e∈(fn.results.toList.mapM (ks a.tmps)).events P c0 es,e∈es\/i2 cV.F e:=λc0 h₁=>by
  rw[G];exact⟨by simp_all,λes e he=>(cU c0 h₁).2 es e (by simp_all)⟩
 rw[n]at q
 cases q with
 |agg _ us dw cP=>
  have⟨ag,J,K⟩:=Fc p;refine⟨E,_,xP I,us,A,xS cs c D,Z,Fb B,Q,c5,λb o v cU=>m b o v cU,R,λi s c7=>?_,λi j cL ej S V he=>?_⟩
  .have⟨x,d,W⟩:=J i s c7;have t:us[i]?=U (us[i]'(by rw[dw];exact(fM.1 d).1)):=dt
   exact⟨_,t,Wp dz c7 d (cP i x _ d t) W λ_ _ _ _ h=>h⟩
  .have⟨l,cQ,b,dG,X,Y⟩:=Fe S;have⟨aa,ab,d7,ac,ad,ae⟩:=Fe V;have:=dz.inj b d7 cL ej Y ae he;subst this;exact K i j b l aa cQ ab dG ac X ad
end
def et:J (V×V)->V->dB V
 | [],_=>cM
 |(a,b)::r,n=>bif d2 n a then U b else et r n
def qG(s:J (V×V)):dn->dn
 | .own n=>match et s n with
  |some b=>.own b
  |none=>.dead
 | .ptr n i j=>match et s n with
  |some b=>.ptr b i j
  |none=>.dead
 | .win n dy m c=>match et s n with
  |some b=>.win b dy m c
  |none=>.dead
 | .d x=>.d x
 | .e4=>.e4
 | .fd=>.fd
 | .nil=>.nil
 | .agg _=>.dead
 | .dP _=>.dead
 | .fn _ _=>.dead
 | .dead=>.dead
def wi(s:J (V×V)):J dn->J dn
 | []=>[]
 |x::r=>qG s x::wi s r
def zB(s:J (V×V)):dn->dn
 | .agg c=>.agg (wi s c)
 | .own n=>qG s (.own n)
 | .ptr n i j=>qG s (.ptr n i j)
 | .win n dy m c=>qG s (.win n dy m c)
 | .d x=>.d x
 | .e4=>.e4
 | .fd=>.fd
 | .nil=>.nil
 | .dP _=>.dead
 | .fn _ _=>.dead
 | .dead=>.dead
def n'(s:J (V×V)):J dn->J dn
 | []=>[]
 |x::r=>zB s x::n' s r
def ns(s:J (V×V)):d4->d4
 | .row l cQ cN=>.row l cQ cN
 | .box c cN=>.box (wi s c) cN
def kj(s:J (V×V)):J (V×d4)->J (V×d4)
 | []=>[]
 |(n,B)::r=>match et s n with
  |some b=>(b,ns s B)::kj s r
  |none=>kj s r
def B3:dn->dh
 | .agg _=>L
 | .dP _=>L
 | .fn _ _=>L
 |_=>N
def zC:J dn->dh
 | []=>N
 |x::r=>bif B3 x then zC r else L
def IU:dn->dh
 | .agg c=>zC c
 |x=>B3 x
def uV:J dn->dh
 | []=>N
 |x::r=>bif IU x then uV r else L
def B4:d4->dh
 | .row _ _ _=>N
 | .box c _=>zC c
def wj:J (V×d4)->dh
 | []=>N
 |(n,B)::r=>bif B4 B&&(hn 1000000 n&&hn n 1000004) then wj r else L
def tt:J (V×d4)->J (V×d4)->dh
 | [],[]=>N
 |(n,_)::r,(m,_)::q=>bif d2 n m then tt r q else L
 |_,_=>L
def tu(args:J dn):V->dn:=go 0 args
 where
 go (n:V):J dn->V->dn
  | []=>λ_=>.dead
  |x::r=>eO (go (n+1) r) n x
def qH(T:fL)(db:V->dn)(O:V->dB d4):J xs->J V
 | []=>[]
 |r::q=>gU O (sb T db O r)++qH T db O q
def Ff:J V->dh
 | []=>N
 |b::r=>bif hn 1000000 b&&hn b 1000004 then L else Ff r
structure Wq(T:fL)(db:V->dn)(O:V->dB d4)(j6:J xs)(post:J (V×d4))(d:c3):Prop where
 res:(nn T db O j6).map pf=U d
 hD:Ff (qH T db O j6)=N
 post:nZ O post
def Og(T:fL)(P:el)(fn:Func)(args:J dn)(pre post:J (V×d4))(d:c3):Prop:=
 match fn.body with
 |some c=>kS T P c ⟨tu args,fo.fF pre⟩ λe st=>match e with
  | .exit _=>dA
  |_=>Wq T st.db st.O fn.results.toList post d
 |none=>dA
structure Fg(s:J (V×V))(pre:J (V×d4)):Prop where
 inj:∀n mx b,et s n=U b->et s mx=U b->n=mx
 fD:∀n,et s n=cM↔fo.fF pre n=cM
def fG(P:el)(f:ig)(args:J dn)(pre post:J (V×d4))(d:c3):Prop:=
 nk P f/\ ∀(s:J (V×V)) (O:V->dB d4),Fg s pre->(∀n B b,fo.fF pre n=U B->et s n=U b->O b=U (ns s B))->
  rc P f (n' s args) O ⟨lx d,kj s post,et s 1000004⟩
theorem IV(s):∀(c) (i:V),(wi s c)[i]?=(c[i]?).map (qG s)
 | [],i=>by simp[wi]|x::r,0=>by simp[wi]|x::r,i+1=>by simpa[wi]using IV s r i
theorem zD(s):∀c,(wi s c).length=c.length
 | []=>rfl|x::r=>by simp[wi,zD s r]
theorem Oh(s):∀(c) (i:V),(n' s c)[i]?=(c[i]?).map (zB s)
 | [],i=>by simp[n']|x::r,0=>by simp[n']|x::r,i+1=>by simpa[n']using Oh s r i
theorem Oi(s):∀c,(n' s c).length=c.length
 | []=>rfl|x::r=>by simp[n',Oi s r]
theorem Oj:∀ {c},zC c=N->∀x∈c,B3 x=N
 | [],_,x,eC=>uh
 |y::r,h,x,eC=>by
  simp only[zC]at h
  cases a:B3 y with
  |false=>simp_all
  |true=>
   simp[a,fE]at h
   cases eC with
   |head=>exact a
   |tail _ eC=>exact Oj h x eC
theorem Ok:∀ {c},uV c=N->∀x∈c,IU x=N
 | [],_,x,eC=>uh
 |y::r,h,x,eC=>by
  simp only[uV]at h
  cases a:IU y with
  |false=>simp_all
  |true=>
   simp[a,fE]at h
   cases eC with
   |head=>exact a
   |tail _ eC=>exact Ok h x eC
section
variable {M:eE} {D fK:gr} {s:J (V×V)}
theorem wl(cW:∀n,fK n=match et s n with|some b=>D b|none=>cM){x:dn}{v:dp}(O:B3 x=N)(h:dV M D (qG s x) v):dV M fK x v:=by
 cases x with
 |own n=>
  have cY:=cW n;simp[qG]at h
  cases g:et s n with
  |none=>rw[g]at cY;exact .ji _ _ cY
  |some b=>
   rw[g]at cY h;simp only at cY h
   cases h with
   |own _ cL cap e Q c5=>exact .own n cL cap (cY.trans e) Q c5
   |h7 _ a e=>exact .h7 n a (cY.trans e)
   |ji _ _ e=>exact .ji n _ (cY.trans e)
 |ptr n i j=>
  have cY:=cW n;simp[qG]at h
  cases g:et s n with
  |none=>rw[g]at cY;exact .iV _ _ _ _ cY
  |some b=>
   rw[g]at cY h;simp only at cY h
   cases h with
   |ptr _ _ _ cL e=>exact .ptr n i j cL (cY.trans e)
   |iV _ _ _ _ e=>exact .iV n i j _ (cY.trans e)
 |win n dy m c=>
  have cY:=cW n;simp[qG]at h
  cases g:et s n with
  |none=>rw[g]at cY;exact .jj _ _ _ _ _ cY
  |some b=>
   rw[g]at cY h;simp only at cY h
   cases h with
   |win _ _ _ _ cL k base e l o p q=>exact .win n dy m c cL k base (cY.trans e) l o p q
   |jj _ _ _ _ _ e=>exact .jj n dy m c _ (cY.trans e)
 |d x=>cases h with|d _ _ h=>exact .d _ _ h
 |e4=>cases h;exact .e4
 |fd=>cases h;exact .fd
 |nil=>cases h with|nil a=>exact .nil a
 |dead=>exact .dead _
 |agg c=>cases O
 |dP c=>cases O
 |fn f c=>cases O
theorem Wr(cW:∀n,fK n=match et s n with|some b=>D b|none=>cM){x:dn}{v:dp}(O:IU x=N)(h:dV M D (zB s x) v):dV M fK x v:=by
 cases x with
 |agg c=>
  simp[zB]at h
  cases h with|agg _ vs dw cP=>refine .agg c vs (by rw[dw,zD]) λi x v Q c5=>wl cW (Oj O x (jg Q)) (cP i _ v ?_ c5);rw[IV,Q];rfl
 |own n=>exact wl cW Z h|ptr n i j=>exact wl cW Z h|win n dy m c=>exact wl cW Z h|d x=>exact wl cW (x:=.d x) Z h|e4=>exact wl cW (x:=.e4) Z h|fd=>exact wl cW (x:=.fd) Z h|nil=>exact wl cW (x:=.nil) Z h|dead=>exact .dead _|dP c=>cases O|fn f c=>cases O
theorem Fh(cW:∀n b,et s n=U b->D b=fK n){x v}(h:dV M fK x v):dV M D (qG s x) v:=by
 cases x with
 |own n=>
  simp[qG]
  cases g:et s n with
  |none=>exact .dead _
  |some b=>
   have cY:=cW n b g
   cases h with
   |own _ cL cap e Q c5=>exact .own b cL cap (cY.trans e) Q c5
   |h7 _ a e=>exact .h7 b a (cY.trans e)
   |ji _ _ e=>exact .ji b _ (cY.trans e)
 |ptr n i j=>
  simp[qG]
  cases g:et s n with
  |none=>exact .dead _
  |some b=>
   have cY:=cW n b g
   cases h with
   |ptr _ _ _ cL e=>exact .ptr b i j cL (cY.trans e)
   |iV _ _ _ _ e=>exact .iV b i j _ (cY.trans e)
 |win n dy m c=>
  simp[qG]
  cases g:et s n with
  |none=>exact .dead _
  |some b=>
   have cY:=cW n b g
   cases h with
   |win _ _ _ _ cL k base e l o p q=>exact .win b dy m c cL k base (cY.trans e) l o p q
   |jj _ _ _ _ _ e=>exact .jj b dy m c _ (cY.trans e)
 |d x=>cases h with|d _ _ h=>exact .d _ _ h
 |e4=>cases h;exact .e4
 |fd=>cases h;exact .fd
 |nil=>cases h with|nil a=>exact .nil a
 |dead=>exact .dead _
 |agg c=>exact .dead _
 |dP c=>exact .dead _
 |fn f c=>exact .dead _
theorem aiG(cW:∀n,fK n=match et s n with|some b=>D b|none=>cM){w:c'}{B:d4}{cL:kR}(O:B4 B=N)(h:jz M D w (ns s B) cL):jz M fK w B cL:=by
 have⟨cs,eQ,g,i,a⟩:=h;refine⟨cs,eQ,g,i,?_⟩
 cases B with|row l cQ cN=>exact a|box c cN=>have⟨d,fb,k,e⟩:=a;rw[zD]at d fb e;exact⟨d,fb,⟨by omega,λj x f=>have⟨v,m,o⟩:=k.den j (qG s x) (by rw[IV,f];rfl);⟨v,m,wl cW (Oj O x (jg f)) o⟩⟩,e⟩
theorem aiH(cW:∀n b,et s n=U b->D b=fK n){w B cL}(h:jz M fK w B cL):jz M D w (ns s B) cL:=by
 have⟨cs,eQ,e,f,d⟩:=h;refine⟨cs,eQ,e,f,?_⟩
 cases B with
 |row l cQ cN=>exact d
 |box c cN=>
  have⟨m,fb,g,o⟩:=d;refine⟨by rwa[zD],by rwa[zD],⟨by rw[zD];omega,λj x a=>?_⟩,by rwa[zD]⟩;rw[IV]at a
  cases dg:c[j]? with
  |none=>simp_all
  |some y=>rw[dg]at a;simp at a;subst a;have⟨v,i,k⟩:=g.den j y dg;exact⟨v,i,Fh cW k⟩
end
theorem IW{M D}:∀(dD) (n) (vs:ea dp),(∀i x v,dD[i]?=U x->vs[n+i]?=U v->dV M D x v)->vs.size=n+dD.length->∀t,dV M D (tu.go n dD t) (vs.getD t undef)
 | [],n,vs,h,a,t=>.dead _
 |d::r,n,vs,h,a,t=>by
  simp only[tu.go]
  by_cases e:t=n
  .subst e;rw[gE]
   have l:t<vs.size:=by rw[a];simp
   have:vs[t]?=U vs[t]:=dt
   have g:vs.getD t undef=vs[t]:=by simp[my,l]
   rw[g];exact h 0 d _ dt R
  .rw[gf _ _ e];exact IW r (n+1) vs (λi b v Q c=>h (i+1) b v (by simp_all) (by grind)) (by grind) t
theorem Ol{O}:∀ {l},nZ O l->∀n B,fo.fF l n=U B->O n=U B
 | [],_,n,B,h=>g0
 |(t,v)::r,c,n,B,h=>by
  simp[fo.fF]at h
  cases b:d2 n t with|true=>simp[b,fE,fx]at h;subst h;rw[gs b];exact c.1|false=>simp[b,jk]at h;exact Ol c.2 n B h
theorem Om:∀ {a b},tt a b=N->∀n,fo.fF a n=cM↔fo.fF b n=cM
 | [],[],_,n=>Iff.rfl
 | [],_::_,h,_=>by simp[tt]at h
 |_::_,[],h,_=>by simp[tt]at h
 |(m,B)::r,(d,gv)::q,h,n=>by
  simp only[tt]at h
  cases c:d2 m d with
  |false=>simp_all
  |true=>
   simp[c,fE]at h;have:=gs c;subst this;simp[fo.fF]
   cases d2 n m with
   |true=>simp
   |false=>exact Om h n
theorem IX:∀ {l},wj l=N->∀n B,fo.fF l n=U B->B4 B=N/\1000000<=n/\n<1000005
 | [],_,n,B,h=>g0
 |(t,v)::r,O,n,B,h=>by
  simp only[wj]at O
  cases c:(B4 v&&(hn 1000000 t&&hn t 1000004)) with
  |false=>simp_all
  |true=>
   simp[c,fE]at O;simp only[lB]at c;simp[fo.fF]at h
   cases b:d2 n t with
   |true=>simp[b,fE,fx]at h;subst h;rw[gs b];exact⟨c.1,ta c.2.1,by have:=ta c.2.2;omega⟩
   |false=>simp[b,jk]at h;exact IX O n B h
theorem Ws{s}(i:∀n w b,et s n=U b->et s w=U b->n=w):∀ {l n b B},l.Pairwise (λp q=>p.1≠q.1)->et s n=U b->fo.fF l n=U B->iP (kj s l) b=U (ns s B)
 | [],_,_,_,_,_,h=>g0
 |(t,v)::r,n,b,B,O,cY,h=>by
  rw[uT]at O;simp[fo.fF]at h
  have o:∀ {l:J (V×d4)} {b:V},(∀p∈l,∀a,et s p.1=U a->a≠b)->iP (kj s l) b=cM:=by
   intro l
   induction l with
   |nil=>intro b _;rfl
   |cons p q d=>
    intro b u;have⟨m,C⟩:=p;simp[kj]
    cases k:et s m with
    |none=>grind
    |some a=>
     simp[iP];rw[d λp O=>u p (lD _ O)];have g:=u (m,C) (mz ..) a k
     have:d2 b a=L:=by
      cases c:d2 b a with
      |false=>rfl
      |true=>exact dQ (gs c).symm g
     simp[this]
  cases c:d2 n t with
  |true=>simp[c,fE,fx]at h;subst h;have:=gs c;subst this;simp only[kj,cY,iP];rw[o λp j a f e=>O.1 p j (i n p.1 b cY (by rw[f,e]))];simp
  |false=>
   simp[c,jk]at h;have d:=Ws i O.2 cY h;simp[kj]
   cases k:et s t with
   |none=>exact d
   |some a=>simp[iP];rw[d]
theorem On{s b}(c:∀n,et s n≠U b):∀ {l},iP (kj s l) b=cM
 | []=>rfl
 |(t,v)::r=>by
  simp[kj]
  cases g:et s t with
  |none=>exact On c
  |some a=>
   simp[iP];rw[On c]
   have:d2 b a=L:=by
    cases h:d2 b a with
    |false=>rfl
    |true=>simp_all
   simp[this]
def tv:J (V×d4)->dh
 | []=>N
 |(n,_)::r=>bif r.all λp=>!d2 n p.1 then tv r else L
theorem IY:∀ {l},tv l=N->l.Pairwise (λp q=>p.1≠q.1)
 | [],_=>.nil
 |(n,B)::r,h=>by
  simp only[tv]at h
  cases c:(r.all λp=>!d2 n p.1) with|false=>simp_all|true=>simp[c,fE]at h;rw[uT];refine⟨λp O e=>?_,IY h⟩;have:=(n0.1 c) p O;simp_all
theorem Wu:∀ {l},Ff l=N->∀b∈l,¬(1000000<=b/\b<1000005)
 | [],_,b,h=>g0
 |x::r,h,b,hb=>by
  simp only[Ff]at h
  cases dg:(hn 1000000 x&&hn x 1000004) with
  |true=>simp_all
  |false=>
   simp[dg,jk]at h
   cases hb with
   |head=>
    rintro⟨Q,c5⟩;rw[r_ Q,r_ (aiI.1 c5)]at dg
    cases dg
   |tail _ hb=>exact Wu h b hb
def qI(s:J (V×V))(D:gr):gr:=λn=>match et s n with|some b=>D b|none=>cM
def oa(own:V->Prop)(s:J (V×V))(D:gr):V->Prop:=λc=>own c/\ ∀b cL,¬(∃n,et s n=U b)->D b=U (U cL)->cL.blk≠c
theorem Wv{own M D O w s p}(d:∀n,et s n=cM↔fo.fF p n=cM)(cK:∀n c b,et s n=U b->et s c=U b->n=c)
  (r:∀n B b,fo.fF p n=U B->et s n=U b->O b=U (ns s B))(l:∀n B,fo.fF p n=U B->B4 B=N)(c_:er own M D O w):
  er (oa own s D) M (qI s D) (fo.fF p) w:=by
 have e:∀n b,et s n=U b->qI s D n=D b:=λn b e=>by rw[qI,e]
 have z:∀n,et s n=cM->qI s D n=cM:=λn e=>by rw[qI,e]
 have a:∀n b,et s n=U b->∃B,fo.fF p n=U B/\O b=U (ns s B):=λn b e=>by
  cases x:fo.fF p n with|none=>rw[(d n).2 x]at e;cases e|some B=>exact⟨B,Z,r n B b x e⟩
 refine⟨λn=>?_,λn cU=>?_,λn B cL m y=>?_,λn c cL ej Q k t=>?_⟩<;>cases g:et s n
 .simp[z n g,(d n).1 g]
 .have⟨B,A,f⟩:=a n _ g;have:=c_.fD;grind
 .grind
 .rw[e n _ g]at cU;have⟨cQ,cN,h⟩:=c_.iN _ cU;have⟨B,A,f⟩:=a n _ g;rw[h]at f
  cases B<;>simp[ns]at f;grind
 .grind
 .rw[e n _ g]at y;have⟨u,v⟩:=c_.at_ _ (ns s B) cL (r n B _ m g) y;refine⟨⟨u,λo ej q i e=>?_⟩,aiG (λn=>Z) (l n B m) v⟩;have:=c_.inj o _ ej cL i y e;grind
 .grind
 .cases j:et s c
  .grind
  .rw[e n _ g]at Q;rw[e c _ j]at k;have:=c_.inj _ _ cL ej Q k t;grind
theorem Ww{cV own M i D eg O H w w' s p}{S:V->Prop}(c_:er own M D O w)(F:gJ M i)(cY:jl (oa own s D) M i)(A:∀c,own c->¬cV.F c)(P:jM (pe cV (oa own s D)) w w')
  (C:∀b,(∃n,et s n=U b)↔S b)(J:∀b,¬S b->H b=j8 p (O b)/\eg b=D b)(y:∀b,pP p b->eg b=D b)
  (c8:∀b,S b->(H b=cM↔eg b=cM)/\(eg b=U cM->∃cQ cN,H b=U (.row [] cQ cN))/\∀B cL,H b=U B->eg b=U (U cL)->oa own s D cL.blk/\jz i eg w' B cL)
  (dr:∀b g cL ej,S b->S g->eg b=U (U cL)->eg g=U (U ej)->cL.blk=ej.blk->b=g):er own i eg H w'/\jM (pe cV own) w w'/\jl own M i:=by
 have k:∀b B cL,H b=U B->eg b=U (U cL)->own cL.blk/\jz i eg w' B cL/\(S b↔oa own s D cL.blk):=by
  intro b B cL d I
  by_cases a:S b
  .have⟨k1,eF⟩:=(c8 b a).2.2 B cL d I;exact⟨k1.1,eF,by simp[a,k1]⟩
  .rw[(J b a).1]at d;rw[(J b a).2]at I;have l:¬oa own s D cL.blk:=λh=>h.2 b cL (by rwa[C]) I Z
   cases x:O b with
   |none=>rw[x]at d;unfold j8 at d;grind
   |some t=>
    have⟨z,K⟩:=c_.at_ b t cL x I
    have Q:=K.h2 F (P.block _ λh=>h.elim l (A _ z)) λr o=>by
     cases cU:i cL.blk o with
     |none=>rfl
     |some u=>
      rcases cY _ _ _ cU with h|h
      .rw[c_.closed I t x r o]at h;cases h
      grind
    refine⟨z,?_,by simp[a,l]⟩;rw[x]at d;unfold j8 at d;split at d<;>simp at d<;>subst d
    .have:=funext λb=>y b trivial;rwa[this]
    .exact Q.kill y
 refine⟨⟨λb=>?_,λb cU=>?_,λb B cL d I=>⟨(k b B cL d I).1,(k b B cL d I).2.1⟩,λb g cL ej I f j=>?_⟩,⟨P.os,P.tape,P.output,P.size,λc E=>P.block c λh=>E (h.elim (λq=>.inl q.1) .inr)⟩,λb o v cU=>Ds (cY b o v cU) λh=>h.1⟩
 .by_cases a:S b
  .exact(c8 b a).1
  .rw[(J b a).1,(J b a).2,<-c_.fD b];unfold j8;split<;>simp
 .by_cases a:S b
  .exact(c8 b a).2.1 cU
  .rw[(J b a).2]at cU;have⟨cQ,cN,e⟩:=c_.iN b cU;rw[(J b a).1,e];refine⟨cQ,cN,?_⟩;unfold j8;split<;>rfl
 .have get:∀b cL,eg b=U (U cL)->∃B,H b=U B:=λb cL I=>by
   cases x:H b with
   |some B=>exact⟨B,Z⟩
   |none=>
    by_cases a:S b
    .rw[(c8 b a).1.1 x]at I;cases I
    .rw[(J b a).2]at I;rw[(J b a).1]at x;have:=c_.fD b;unfold j8 at x;cases p<;>simp_all
  have⟨B,d⟩:=get b cL I;have⟨gv,m⟩:=get g ej f;have q:=(k b B cL d I).2.2;have G:=(k g gv ej m f).2.2;rw[j,<-G]at q
  by_cases a:S b
  .exact dr b g cL ej a (q.1 a) I f j
  .rw[(J b a).2]at I;rw[(J g λh=>a (q.2 h)).2]at f;exact c_.inj b g cL ej I f j
theorem Wx{own M D O w s p}(c:Fg s p)(r:∀n B b,fo.fF p n=U B->et s n=U b->O b=U (ns s B))(a:wj p=N)(c_:er own M D O w):
 er (oa own s D) M (qI s D) (fo.fF p) w:=Wv c.fD c.inj r (λn B h=>(IX a n B h).1) c_
open Classical in
theorem Wy{cV own M f D a O l w w' s pre post}(c7:Fg s pre)(J:wj pre=N)(c_:er own M D O w)
  (K:tt pre post=N)(q:tv post=N)(r:gJ M f)(t:jl (oa own s D) M f)(f':∀c,own c->¬cV.F c)(u:jM (pe cV (oa own s D)) w w')(g:er (oa own s D) f a l w')
  (v:∀n b,et s n=U b->∃B,fo.fF post n=U B/\l n=U B)(dW:∀n b,et s n=U b->n≠1000004->a n=qI s D n)(fl):
  ∃eg,er own f eg (ge.O ⟨fl,kj s post,et s 1000004⟩ O) w'/\ (∀b,pP (et s 1000004) b->eg b=D b) /\ (∀n b,et s n=U b->eg b=a n) /\jM (pe cV own) w w'/\jl own M f:=by
 let S:V->Prop:=λb=>∃n,et s n=U b
 let eg:gr:=λb=>if hb:S b then a (IZ hb) else D b
 have d:∀n b,et s n=U b->eg b=a n:=λn b e=>by
  have hb:S b:=⟨n,e⟩;show(if hb:S b then a (IZ hb) else D b)=_;rw[EI hb,c7.inj _ n b (Wz hb) e]
 have cY:∀b,¬S b->eg b=D b:=λb hb=>dif_neg hb
 have c6:∀b,pP (et s 1000004) b->eg b=D b:=λb hb=>by
  by_cases h:S b
  .have⟨n,e⟩:=h
   have x:n≠1000004:=λy=>by
    subst y;rw[e]at hb;exact td hb Z
   rw[d n b e,dW n b e x,qI,e]
  .exact cY b h
 have gB:∀n b B,et s n=U b->fo.fF post n=U B->ge.O ⟨fl,kj s post,et s 1000004⟩ O b=U (ns s B):=λn b B e k=>by
  rw[uQ];simp[Ws c7.inj (IY q) e k]
 have⟨z,A,C⟩:=Ww (H:=ge.O ⟨fl,kj s post,et s 1000004⟩ O) (eg:=eg) c_ r t f' u (λb=>.rfl) (λb hb=>⟨by
  rw[uQ];simp[On λn e=>hb ⟨n,e⟩],cY b hb⟩) c6 (by
  rintro b ⟨n,e⟩;have⟨m,E,i⟩:=v n b e;rw[gB n b m e E,d n b e];refine⟨⟨nofun,λh=>by rw[(g.fD n).2 h]at i;cases i⟩,λcU=>?_,λB cL k j=>?_⟩
  .have⟨cQ,cN,o⟩:=g.iN n cU;rw[i]at o;cases o;exact⟨cQ,cN,Z⟩
  .cases k;have⟨k1,eF⟩:=g.at_ n m cL i j;exact⟨k1,aiH (λn b e=>d n b e) eF⟩) (by
  rintro b d7 cL ej ⟨n,e⟩ ⟨mx,G⟩ j p I;rw[d n b e]at j;rw[d mx d7 G]at p;have:=g.inj n mx cL ej j p I;grind)
 exact⟨eg,z,c6,d,A,C⟩
theorem WA{cV o M D s w n args vs h}(b:fq M w)(r:er o M (qI s D) h w)(O:uV args=N)(cY:args.length<=n)(a:y_ M D (n' s args) vs):
  gw cV o w M (qI s D) n ⟨tu args,h⟩ {tmps:=vs++kx (n-vs.size) undef,defers:=[]} w:=by
 have l:=a.1;rw[Oi]at l;refine⟨M,qI s D,.refl M,b,.refl _ _,.refl _ _,r,λ_ _ _=>Z,λt=>?_,by simp;omega,Z⟩;rw[IS];refine IW args 0 vs (λi x v Q c=>Wr (λn=>Z) (Ok O x (jg Q)) (a.2 i _ v ?_ (by simp_all))) R t;rw[Oh,Q];rfl
section
variable {P:el} {T:fL} (cS:jB P T)
include cS
theorem I0 {cV} {own} {M} {D} {O} {w} {db} {tmps} (dq:fq M w) (c_:er own M D O w) (g:∀ t,dV M D (db t) (tmps.getD t undef)) (f':gG cV own M):
  ∀ {j6} {dx},nn T db O j6=U dx->∃ (vs:J dp) (dD:J dn),(∀ c0,eX cV.F w c0->(j6.mapM (ks tmps)).run P c0=.ok vs c0/\ ∀ es,∀ e∈(j6.mapM (ks tmps)).events P c0 es,e∈es\/i2 cV.F e) /\vs.length=dx.length/\dD.length=dx.length/\
   ∀ (i:V) (x) (d) (v),dD[i]?=U x->dx[i]?=U d->vs[i]?=U v->dV M D x v/\conv O x=U d/\ ∀ b∈gU O x,b∈qH T db O j6
 | [],dx,h=>by
  simp only [nn,fx] at h;subst h;exact ⟨[],[],fun c0 _=>⟨Z,fun es e he=>.inl he⟩,Z,Z,fun i x d v h=>by simp at h⟩
 |r::q,dx,h=>by
  simp only [nn] at h
  cases dg:conv O (sb T db O r) with
  |none=>simp [dg] at h
  |some d=>
   cases a:nn T db O q with
   |none=>simp [dg,a] at h
   |some p=>
    simp only [dg,a,fx] at h;subst h;obtain ⟨v,cU,j⟩:=Od cS dq c_ g f' r (by rw [dg];simp);obtain ⟨vs,dD,c,k,l,cP⟩:=I0 dq c_ g f' a;refine ⟨v::vs,sb T db O r::dD,?_,by simp [k],by simp [l],fun i x m fN Q c5 f=>?_⟩
    ·intro c0 h₁;refine ⟨by simp [Br,(cU c0 h₁).1,(c c0 h₁).1],fun es e he=>?_⟩;rw [Br,jn,(cU c0 h₁).1,kE,jn,(c c0 h₁).1,kE] at he;exact ((c c0 h₁).2 _ e he).elim ((cU c0 h₁).2 es e) .inr
    ·cases i with
     |zero=>
      simp only [uL,fx] at Q c5 f;subst Q c5 f;exact ⟨j,dg,fun b hb=>n8 _ hb⟩
     |succ i=>
      obtain ⟨dG,n,o⟩:=cP i x m fN (by simpa using Q) (by simpa using c5) (by simpa using f);exact ⟨dG,n,fun b hb=>po _ (o b hb)⟩
omit cS in
theorem I1{O n}:∀ {dR},n∉dR->iP (f9 O dR) n=cM
 | [],_=>rfl
 |b::r,h=>by
  have c:n≠b:=λe=>h ue;have a:=λe=>h (lD _ e);simp[f9];split
  .simp[iP];rw[I1 a]
   have:d2 n b=L:=by
    cases q:d2 n b with|false=>rfl|true=>simp_all
   simp[this]
  .exact I1 a
theorem aiJ(K:P.follows .mixedOrders=N){f fn args r p d}(X:P.funcs[f]?=U fn)(H:n_ fn args.length=N)
  (A:(uV args&&(wj r&&(tt r p&&tv p)))=N)(h:Og T P fn args r p d):fG P f args r p d:=by
 simp at A;have⟨R,j,G,dj⟩:=A;have⟨c,m,t,cY,u⟩:=xQ H;have y:nk P f:=⟨fn,X,by rw[m];rfl,u⟩;refine⟨y,λs O cX C=>⟨y,λcV own M D w vs W z dq c_ S=>xg X u m ?_⟩⟩;simp[Og,m]at h;have k:gG cV (oa own s D) M:=W.low λc h=>h.1;refine xR cS K t k (λc H=>⟨z c H,λb cL _ V e=>by have:=c_.lt V;omega⟩) h (WA dq (Wx cX C j c_) R cY S) λst a w' F da=>?_;have⟨g,q,o⟩:=F;have⟨aa,au,Q,dc,I,ab,dz,dW,ac,av,ad⟩:=da
 cases E:nn T st.db st.O fn.results.toList with
 |none=>simp_all
 |some j6=>
  simp[E,jp,fx]at g;subst g;have⟨us,dD,ae,af,ag,ah⟩:=I0 cS dc dz ac (k.new Q I) E;have⟨ai,s2,fb,aj,J,eo,ak⟩:=v8 (hh:=st.O) (qH T st.db st.O fn.results.toList) aa st.O dc dz (.refl _)
  have dr:∀n b,et s n=U b->(1000000<=n/\n<1000005)/\ ∃B,fo.fF p n=U B:=λn b e=>by
   cases x:fo.fF r n with
   |none=>rw[(cX.fD n).2 x]at e;cases e
   |some B=>
    refine⟨(IX j n B x).2,?_⟩
    cases al:fo.fF p n with
    |none=>rw[(Om G n).2 al]at x;cases x
    |some B=>exact⟨B,Z⟩
  have⟨eg,am,an,_,ao,ap⟩:=Wy cX j c_ G dj (Q.trans s2) (I.trans aj) W.own ab J (λn b e=>by
   have⟨da,B,x⟩:=dr n b e
   refine⟨B,x,?_⟩;rw[IH,I1 λK=>Wu q n K da];exact Ol o n B x) (λn b e aw=>dW n (dr n b e).1.1 (by have:=dr n b e;omega)) (lx (pf j6))
  refine⟨ad,_,xP ae,_,ai,eg,Z,ao,Q.trans s2,fb,ap,am,an,EN (Oe af λi d v Y aq=>?_)⟩
  have x:dD[i]?=U (dD[i]'(by rw[ag];exact(fM.1 Y).1)):=dt
  have⟨fA,ax,ar⟩:=ah i _ d v x Y aq;exact EM J (by rwa[DF eo]) (xA (λb l cQ cN m he=>ak b l cQ cN (.inl m) he) eo _ ar) (fA.mono s2)
end
def wm:J (V×V)->J (V×d4)->dh
 | [],[]=>N
 |(n,_)::r,(m,_)::q=>bif d2 n m then wm r q else L
 |_,_=>L
def zE:J (V×V)->dh
 | []=>N
 |(_,b)::r=>bif r.all λp=>!d2 b p.2 then zE r else L
theorem WB:∀ {s n b},et s n=U b->(n,b)∈s
 | [],_,_,h=>g0
 |(a,c)::r,n,b,h=>by
  simp[et]at h
  cases d:d2 n a with|true=>simp_all|false=>simp[d,jk]at h;exact lD _ (WB h)
theorem I2{s d}(h:(wm s d&&zE s)=N):Fg s d:=by
 simp at h;obtain⟨k,cU⟩:=h;constructor
 .clear k
  induction s with
  |nil=>intro n f b h;cases h
  |cons p r u=>
   obtain⟨a,c⟩:=p;simp only[zE]at cU
   cases j:(r.all λp=>!d2 c p.2) with
   |false=>simp_all
   |true=>
    simp at cU
    have o:∀ {m b:V},et r m=U b->b≠c:=fun {m b} l e=>by
     have:=(n0.1 j) _ (WB l);simp_all
    intro n f b Q g;simp[et]at Q g
    cases v:d2 n a with
    |true=>
     simp[v,fE,fx]at Q
     cases w:d2 f a with
     |true=>simp_all
     |false=>grind
    |false=>grind
 .clear cU
  induction s generalizing d with
  |nil=>cases d with
   |nil=>intro n;simp[et,fo.fF]
   |cons _ _=>simp[wm]at k
  |cons p r u=>
   cases d with
   |nil=>have⟨a,c⟩:=p;simp[wm]at k
   |cons q t=>
    obtain⟨a,c⟩:=p;obtain⟨m,B⟩:=q;simp only[wm]at k
    cases i:d2 a m with
    |false=>simp_all
    |true=>simp at k;have:=gs i;subst this;intro n;simp[et,fo.fF];grind
theorem zF{s O}:∀ {e},nZ O (kj s e)->∀n B b,fo.fF e n=U B->et s n=U b->O b=U (ns s B)
 | [],_,n,B,b,h,_=>g0
 |(m,C)::r,c,n,B,b,h,g=>by
  simp[fo.fF]at h;simp[kj]at c
  cases a:d2 n m with
  |true=>simp[a,fE,fx]at h;subst h;rw[<-gs a,g]at c;exact c.1
  |false=>
   simp[a,jk]at h
   cases q:et s m with
   |none=>rw[q]at c;exact zF c n B b h g
   |some d=>rw[q]at c;exact zF c.2 n B b h g
theorem I3{P f args dD r p d O dst dx dR K}(H:fG P f args r p d)(s)
  (a:(wm s r&&zE s)=N)(h:nZ O (kj s r))(x:n' s args=dD)(k:K ⟨lx d,kj s p,et s 1000004⟩):re P f N dD O dst dx dR K:=
 HE (x▸H.2 s O (I2 a) (zF h)) k
theorem ga{P f args dD r p d O K}(H:fG P f args r p d)(s)
  (a:(wm s r&&zE s)=N)(h:nZ O (kj s r))(x:n' s args=dD)(k:K ⟨lx d,kj s p,et s 1000004⟩):y' P f dD O K:=
 MF (x▸H.2 s O (I2 a) (zF h)) k
theorem f7{T db O r o d a}(h:(nn T db O r).map pf=U a)(e:a=d)(f:Ff (qH T db O r)=N)(p:nZ O o):Wq T db O r o d:=⟨by rw[h,e],f,p⟩
section
variable {P:el} {T:fL} (cS:jB P T)
theorem XB(T db O):∀q,HU T db O q=qH T db O q
 | []=>rfl|r::q=>by rw[HU,qH,XB T db O q]
theorem XC{b}:∀ {l},b∈l->kd b l=N
 | [],h=>g0
 |x::r,h=>by
  simp only[kd]
  cases h with
  |head=>simp
  |tail _ h=>
   cases d2 b x with
   |true=>rfl
   |false=>exact XC h
theorem XD{F}:∀ {l},uz l F=N->∀b∈l,b∉F
 | [],_,b,hb=>by cases hb
 |x::r,h,b,hb=>by
  simp only[uz]at h
  cases a:kd x F with
  |true=>simp_all
  |false=>
   rw[a]at h
   cases hb with
   |head=>exact λd8=>by rw[XC d8]at a;cases a
   |tail _ hb=>exact XD h b hb
theorem XE{b}:∀ {c},dn.own b∈c->b∈HT c
 | [],h=>g0
 |x::r,h=>by
  cases h with
  |head=>exact .head _
  |tail _ h=>
   have:=XE h
   cases x<;>first|exact this|exact .tail _ this
theorem ajS{hh b}(dR O)(h:b∉dR):gj O (f9 hh dR) b=O b:=EQ dR O h
include cS in
theorem ajT(d8:P.follows .mixedOrders=N){f fn dx X cs}(ee:P.funcs[f]?=U fn)(dg:n_ fn dx.length=N)(h:MT T P fn dx cs X):Ej P f dx cs X:=by
 have⟨c,H,K,cY,ac⟩:=xQ dg;refine⟨⟨fn,ee,by rw[H];rfl,ac⟩,λcV w M vs f' dq dr=>xg ee ac H ?_⟩;simp only[MT,H]at h;refine xR cS d8 K f' (λ_ h=>h) h (Fa dq dr (by rwa[dr.1])) λst a w' S dI=>?_;have⟨ai,D,Q,c5,ad,aj,dz,dW,ae,aP,ak⟩:=dI;have⟨t,r,q,b,c,al,am,n,an,k,cX⟩:=S;rw[XB]at cX;have⟨m,dD,J,ao,ap,aq⟩:=I0 cS c5 dz ae (f'.new Q ad) k;have⟨ar,s2,fb,au,G,eo,av⟩:=v8 (hh:=st.O) (qH T st.db st.O (r::q)) ai st.O c5 dz (.refl _);have C:=ae t;rw[am]at C;generalize da:a.tmps.getD t undef=qM at C
 have A:∀E l cQ,dn.own E∈c->st.O E=U (.row l cQ L)->gj st.O (f9 st.O (qH T st.db st.O (r::q))) E=U (.row l cQ L):=λE l cQ d8 aQ=>by
  rwa[ajS _ _ (XD cX E (XE d8))]
 have aw:gj st.O (f9 st.O (qH T st.db st.O (r::q))) b=U (.box c L):=by
  rcases eo b with e|⟨l,cQ,cN,F,aR⟩
  .rwa[e]
  .rw[n]at F;cases F
 have⟨cL,I,ax⟩:∃cL,D b=U (U cL) /\qM=.pointer (U ⟨cL.blk,0*cL.cQ+0,cM⟩):=by
  cases C with|ptr _ _ _ cL I=>exact⟨cL,I,Z⟩|iV _ _ _ _ I=>rw[(dz.fD b).2 I]at n;cases n
 have⟨w1,Y,eQ,w2,ay,aS,az,uZ,aA⟩:=G.at_ b _ cL aw I;have⟨af,ag,aB⟩:=Fc an
 have aC:∀c0,eX cV.F w' c0->(fn.results.toList.mapM (ks a.tmps)).run P c0=.ok (qM::m) c0/\ ∀es,∀e∈(fn.results.toList.mapM (ks a.tmps)).events P c0 es,e∈es\/i2 cV.F e:=λc0 g=>by
  rw[al,Br];refine⟨?_,λes e z=>(J c0 g).2 es e ?_⟩
  .simp only[g2,ks,hM,g7,da,(J c0 g).1]
  .simpa only[jn,pk,ks,hM,kE,da,(J c0 g).1]using z
 have dj:=ao
 have aT:0<X.length:=by
  cases X with
  |nil=>
   simp[nn]at k;split at k
   .split at k<;>cases k
   .cases k
  |cons=>simp
 have dc:(if h:(HY (U ⟨cL.blk,0*cL.cQ+0,cM⟩)::m).toArray.size=1 then(HY (U ⟨cL.blk,0*cL.cQ+0,cM⟩)::m).toArray[0] else .tuple (HY (U ⟨cL.blk,0*cL.cQ+0,cM⟩)::m).toArray)=Value.tuple (#[.pointer (U ⟨cL.blk,0,cM⟩)]++m.toArray):=by rw[dif_neg (by simp only[List.size_toArray,pW];omega)];simp
 refine⟨ak,_,xP (ax▸aC),cL.blk,Y,m.toArray,eQ,ar,xS cs c D,by rw[dc],w1,w2,aA.2 Z,Fb aj,Q.trans s2,fb,λb o v cU=>(ad.trans au) b o v cU,?_,⟨by simp[dj],λi d v ah aD=>?_⟩,λi s c7=>?_,λi j R aE y aF z=>?_,λi R y z=>?_⟩
 .rw[ay,az];first|exact af|exact af.symm
 .have p:dD[i]?=U (dD[i]'(by rw[ap];exact(fM.1 ah).1)):=dt
  have⟨fA,aU,aG⟩:=aq i _ d v p ah (by simpa using aD);exact EM G (by rwa[DF eo]) (xA (λb l cQ cN H z=>av b l cQ cN (.inl H) z) eo _ aG) (fA.mono s2)
 .have⟨x,p,B⟩:=ag i s c7;have⟨u,aH,aI⟩:=uZ.den i x p;exact⟨u,aH,Wp G c7 p aI B λb l cQ e=>A b l cQ (e▸jg p)⟩
 .have⟨l,cQ,W,dG,V,aa⟩:=Fe y;have⟨aJ,aK,aL,aM,aN,aO⟩:=Fe aF;have:=G.inj W aL R aE aa aO z;subst this;exact aB i j W l aJ cQ aK dG aM V aN
 .have⟨l,cQ,W,dG,V,aa⟩:=Fe y;have:=G.inj W b R cL aa I z;subst this;have⟨x,p,B⟩:=ag i _ dG;rw[V]at p
  cases p
  rcases B with⟨E,ab,F,_⟩|⟨ab,_⟩
  .cases ab
   rw[n]at F;cases F
  .cases ab
end
def Fu:d4->dh
 | .row _ _ _=>N
 | .box _ _=>L
def zI:J (V×d4)->dh
 | []=>N
 |(_,B)::r=>bif Fu B then zI r else L
theorem OH:∀ {l},zI l=N->∀n B,fo.fF l n=U B->Fu B=N
 | [],_,n,B,h=>g0
 |(t,v)::r,O,n,B,h=>by
  simp only[zI]at O
  cases c:Fu v with
  |false=>simp_all
  |true=>
   simp[c,fE]at O;simp[fo.fF]at h
   cases b:d2 n t with
   |true=>simp_all
   |false=>simp[b,jk]at h;exact OH O n B h
def xZ(b:V):dh:=bif hn 1000000 b&&hn b 1000003 then L else N
theorem ajV{b}(h:xZ b=N):¬(1000000<=b/\b<1000004):=by
 rintro⟨Q,a⟩;unfold xZ at h;rw[r_ Q,r_ (aiI.1 a)]at h
 cases h
inductive Jj(O:V->dB d4)(l:J (J c3))(cQ:V):dn->Prop
 |win (b n:V) (c:dB V) (r:J (J c3)) (h:O b=U (.row r cQ L)) (cY:n<=r.length) (dw:r.take n=l) (hb:xZ b=N):Jj O l cQ (.win b 0 n c)
 |own (b:V) (h:O b=U (.row l cQ L)) (hb:xZ b=N):Jj O l cQ (.own b)
 |nil (h:l=[]):Jj O l cQ .nil
structure Cd(db:V->dn)(O:V->dB d4)(j6:J xs)(l:J (J c3))(cQ:V)(post:J (V×d4)):Prop where
 res:∃t,j6=[.tmp t] /\Jj O l cQ (db t)
 post:nZ O post
def OI(T:fL)(P:el)(fn:Func)(l:J (J c3))(cQ:V)(rest:J dn)(pre post:J (V×d4))(a:J (J c3)):Prop:=
 match fn.body with
 |some c=>(∀cap,l.length<=cap->kS T P c ⟨tu (.win 1000004 0 l.length (U cap)::rest),fo.fF ((1000004,.row (l++eL (cap-l.length) (eL cQ .mm)) cQ L)::pre)⟩ λe st=>match e with
   | .exit _=>dA
   |_=>Cd st.db st.O fn.results.toList a cQ post) /\
  (l=[]->kS T P c ⟨tu (.nil::rest),fo.fF ((1000004,.row [] cQ L)::pre)⟩ λe st=>match e with
   | .exit _=>dA
   |_=>Cd st.db st.O fn.results.toList a cQ post)
 |none=>dA
def u0(P:el)(f:ig)(l:J (J c3))(cQ:V)(rest:J dn)(pre post:J (V×d4))(a:J (J c3)):Prop:=
 nk P f/\ ∀(s:J (V×V)) (O:V->dB d4) (e8:V),Fg ((1000004,e8)::s) ((1000004,.row l cQ L)::pre)->(∀n B b,fo.fF ((1000004,.row l cQ L)::pre) n=U B->et ((1000004,e8)::s) n=U b->O b=U (ns ((1000004,e8)::s) B))->
  rc P f (.own e8::n' ((1000004,e8)::s) rest) O ⟨.own e8,kj ((1000004,e8)::s) ((1000004,.row a cQ L)::post),U e8⟩
theorem OJ{M D eg w B cL}(a:Fu B=N)(h:jz M D w B cL):jz M eg w B cL:=by
 have⟨cs,eQ,b,d,e⟩:=h;refine⟨cs,eQ,b,d,?_⟩
 cases B with|row l cQ cN=>exact e|box c cN=>cases a
theorem er.ajW{own M D O w}(h:er own M D O w)(r:∀b B,O b=U B->Fu B=N){n l cQ}(q:O n=U (.row l cQ L)){cL}(J:D n=U (U cL)){cap}(cV:l.length<=cap)(F:cap*cQ<=cL.size):
 er own M (eO D n (U (U ⟨cL.blk,cL.cQ,cL.size,cap⟩))) (eO O n (U (.row (l++eL (cap-l.length) (eL cQ .mm)) cQ L))) w:=by
 have g:∀b,b≠n->eO D n (U (U ⟨cL.blk,cL.cQ,cL.size,cap⟩)) b=D b:=λb q=>gf _ _ q
 have k:∀b ej,eO D n (U (U ⟨cL.blk,cL.cQ,cL.size,cap⟩)) b=U (U ej)->∃p,D b=U (U p)/\p.blk=ej.blk:=by
  intro b ej e
  by_cases q:b=n
  .subst q;rw[gE]at e;grind
  .simp_all
 refine⟨λb=>?_,λb cU=>?_,λb B ej o f=>?_,λb x K P Q A c=>?_⟩
 .by_cases a:b=n
  .subst a;simp[gE]
  .rw[g b a,gf _ _ a];exact h.fD b
 .by_cases a:b=n
  .subst a;rw[gE]at cU;cases cU
  .rw[g b a]at cU;rw[gf _ _ a];exact h.iN b cU
 .by_cases a:b=n
  .subst a;rw[gE]at f o
   cases f;cases o
   have⟨E,cs,eQ,G,u,v,W,X,I,S⟩:=h.at_ b _ cL q J;have t:(l++eL (cap-l.length) (eL cQ c3.mm)).length=cap:=hd;refine⟨E,cs,eQ,G,u,v,t,by simp_all,⟨λi e c=>?_,λi j e d c m=>?_⟩,rW,λ_=>S.2 Z⟩
   .by_cases cK:i<l.length
    .rw[v' cK]at c;exact I.len i e c
    grind
   .by_cases cK:i<l.length
    .rw[v' cK]at c;exact I.den i j e d c m
    .have s:=(fM.1 c).1;rw[t]at s;rw[xD R,zo]at c;split at c
     .cases c
      have C:=(fM.1 m).1;rw[zo]at m;split at m
      .cases m
       have o':i*cQ+j<cs.size:=by rw[u];exact ro (zp s R) F
       exact⟨cs[i*cQ+j],uf,.mm _⟩
      .cases m
     .cases c
  .rw[g b a]at f;rw[gf _ _ a]at o;have⟨u,v⟩:=h.at_ b B ej o f;exact⟨u,OJ (r b B o) v⟩
 .have⟨T,y,H⟩:=k b K Q;have⟨V,z,dr⟩:=k x P A;exact h.inj b x T V y z R
section
variable {P:el} {T:fL} (cS:jB P T)
include cS
open Classical in
theorem ajX(d8:P.follows .mixedOrders=N){f fn l C cQ rest y o}(ee:P.funcs[f]?=U fn)(dg:n_ fn (rest.length+1)=N)
 (aD:(uV rest&&(!eu.parts 1000004 rest&&(wj ((1000004,.row l cQ L)::y)&&(tt y o&&(tv ((1000004,.row C cQ L)::o)&&(zI y&&zI o))))))=N)(h:OI T P fn l cQ rest y o C):u0 P f l cQ rest y o C:=by
 simp at aD;have⟨aR,aS,am,aT,aU,aV,aW⟩:=aD;have aX:=λx K=>Mo (by simpa using aS) x K 1000004 (Hx _);have⟨c,hb,aY,cY,aE⟩:=xQ dg;have aF:nk P f:=⟨fn,ee,DG,aE⟩;refine⟨aF,λgh O e8 c7 aG=>⟨aF,λcV own M D w vs f' aZ dq c_ an=>xg ee aE hb ?_⟩⟩;simp[OI,hb]at h;have⟨c8,a0⟩:=h
 have aH:vs.size=rest.length+1:=by rw[an.1];simp[Oi]
 have bs:vs.size<=fn.ntmps:=by rwa[aH]
 have aI:et ((1000004,e8)::gh) 1000004=U e8:=Z;have aJ:tt ((1000004,.row l cQ L)::y) ((1000004,.row C cQ L)::o)=N:=aT;have aK:=Wx c7 aG am c_;have a1:gG cV (oa own ((1000004,e8)::gh) D) M:=f'.low λc h=>h.1;have a2:∀c,w.heap.size<=c->oa own ((1000004,e8)::gh) D c:=λc dg=>⟨aZ c dg,λb cL _ jJ e=>aeB⟩;have ae:=aG 1000004 (.row l cQ L) e8 Z aI;have a3:=OH (l:=(1000004,.row l cQ L)::y) aV
 have ao:∃af,vs[0]?=U af/\dV M D (.own e8) af:=by have o':=R;exact⟨vs[0],uf,an.2 0 (.own e8) _ Z uf⟩
 have⟨af,ao,a4⟩:=ao
 have a5:∀(g:gr),(∀n,n≠1000004->g n=qI ((1000004,e8)::gh) D n)->∀(i:V) (x:dn) (v:dp),rest[i]?=U x->vs[i+1]?=U v->dV M g x v:=by
  intro g Q i x v K cU
  have u:=Wr (s:=(1000004,e8)::gh) (λn=>Z) (Ok aR x (jg K)) (an.2 (i+1) _ v (by
   show(n' ((1000004,e8)::gh) rest)[i]?=U (zB ((1000004,e8)::gh) x)
   rw[Oh,K];rfl) cU)
  exact u.Ba (S:=λb=>b≠1000004) (λb hb=>Q b hb) λb hb=>by
   have:=lv hb;subst this;exact aX x (jg K)
 suffices H:∃(g:gr) (ag:V->dB d4) (dj:dn),er (oa own ((1000004,e8)::gh) D) M g ag w/\dV M g dj af/\ (∀n,n≠1000004->g n=qI ((1000004,e8)::gh) D n)/\
  kS T P c ⟨tu (dj::rest),ag⟩ λe st=>match e with
   | .exit _=>dA
   |_=>Cd st.db st.O fn.results.toList C cQ o by
  have⟨g,ag,dj,k1,eF,aL,a6⟩:=H
  have a7:gw cV (oa own ((1000004,e8)::gh) D) w M g fn.ntmps ⟨tu (dj::rest),ag⟩ {tmps:=vs++kx (fn.ntmps-vs.size) undef,defers:=[]} w:=by
   refine⟨M,g,.refl M,dq,.refl _ _,.refl _ _,k1,λ_ _ _=>Z,λt=>?_,hd,Z⟩;rw[IS];refine IW (dj::rest) 0 vs (λi x v Q c5=>?_) (by rw[aH];simp) t
   cases i with
   |zero=>
    simp at Q;subst Q;rw[np,ao]at c5;cases c5
    exact eF
   |succ i=>exact a5 g aL i x v o_ rV
  refine xR cS d8 aY a1 a2 a6 a7 λst a w' a8 dI=>?_;have⟨⟨t,a9,hw⟩,a_⟩:=a8;have⟨ap,dr,Q,c5,a',p,dz,dW,ba,bt,bb⟩:=dI
  have aM:∀c0,eX cV.F w' c0->(fn.results.toList.mapM (ks a.tmps)).run P c0=.ok [a.tmps.getD t undef] c0/\ ∀es,∀e∈(fn.results.toList.mapM (ks a.tmps)).events P c0 es,e∈es\/i2 cV.F e:=λc0 _=>by
   rw[a9];exact⟨LL,λes e he=>.inl LB⟩
  have cU:=ba t;generalize a.tmps.getD t undef=v at cU aM
  have bc:∃X:dB kR,(∀I,X=U I->(oa own ((1000004,e8)::gh) D I.blk/\ (∀aq,jz ap aq w' (.row C cQ L) I)/\ (∃b J,xZ b=N/\dr b=U (U J)/\J.blk=I.blk)/\
   ∃cap,v=.slice (U ⟨I.blk,0,cM⟩) I.len cap/\I.len<=cap/\cap*I.cQ<=I.size))/\ (X=cM->C=[]/\ ∃a,v=.slice a 0 0):=by
   generalize st.db t=x at cU hw
   cases hw with
   |nil he=>
    cases cU with
    |nil dj=>exact⟨cM,(λI e=>rZ),λ_=>⟨he,dj,Z⟩⟩
   |own b hb ar=>
    cases cU with
    |own _ cL cap jJ aN au=>
     have⟨E,G⟩:=dz.at_ b _ cL hb jJ;refine⟨U cL,λI e=>?_,λe=>rZ⟩
     cases e
     exact⟨E,λaq=>OJ Z G,⟨b,cL,ar,jJ,Z⟩,cap,Z,aN,au⟩
    |h7 _ dj jJ=>
     have⟨av,aw,ad⟩:=dz.iN b jJ;rw[hb]at ad;cases ad
     exact⟨cM,(λI e=>rZ),λ_=>⟨Z,dj,Z⟩⟩
    |ji _ _ jJ=>rw[(dz.fD b).2 jJ]at hb;cases hb
   |win b n bu r hb bv dw ar=>
    cases cU with
    |jj _ _ _ _ _ jJ=>rw[(dz.fD b).2 jJ]at hb;cases hb
    |win _ _ _ _ cL k base jJ bd bw be bf=>
     have⟨tz,cs,eQ,E,G,bg,bx,bh,aO,bi⟩:=dz.at_ b _ cL hb jJ
     have bj:base=0:=by
      rcases bf with e|e
      .simpa using e
      .omega
     subst bj
     have bk:C.length=n:=by rw[<-dw];simp;omega
     refine⟨U ⟨cL.blk,cL.cQ,cL.size,n⟩,λI e=>?_,λe=>rZ⟩
     cases e
     refine⟨tz,λaq=>⟨cs,eQ,E,G,bg,bk,?_,⟨λi e he=>?_,λi j e d he dL=>?_⟩,rW,bi.2⟩,⟨b,cL,ar,jJ,Z⟩,k,Z,bd,by simpa using be⟩
     .exact fJ (l4 _ R) bh
     .apply aO.len i e;rw[<-dw,wa]at he;split at he
      .exact he
      .cases he
     .refine aO.den i j e d ?_ dL;rw[<-dw,wa]at he;split at he
      .exact he
      .cases he
  have⟨X,ah,aP⟩:=bc
  let ai:gr:=λn=>match et ((1000004,e8)::gh) n with
   |none=>cM
   |some _=>if n=1000004 then U X else dr n
  let dc:V->dB d4:=λn=>match et ((1000004,e8)::gh) n with
   |none=>cM
   |some _=>fo.fF ((1000004,.row C cQ L)::o) n
  have W:∀n,et ((1000004,e8)::gh) n=cM->ai n=cM/\dc n=cM:=λn e=>by
   constructor
   .show(match et ((1000004,e8)::gh) n with|none=>cM|some _=>if n=1000004 then U X else dr n)=cM;rw[e]
   .show(match et ((1000004,e8)::gh) n with|none=>cM|some _=>fo.fF ((1000004,.row C cQ L)::o) n)=cM;rw[e]
  have A:ai 1000004=U X/\dc 1000004=U (.row C cQ L):=hg
  have u:∀n b,et ((1000004,e8)::gh) n=U b->n≠1000004->ai n=dr n/\dc n=fo.fF ((1000004,.row C cQ L)::o) n:=λn b e da=>by
   constructor
   .show(match et ((1000004,e8)::gh) n with|none=>cM|some _=>if n=1000004 then U X else dr n)=_;rw[e];simp[da]
   .show(match et ((1000004,e8)::gh) n with|none=>cM|some _=>fo.fF ((1000004,.row C cQ L)::o) n)=_;rw[e]
  have F:∀n b,et ((1000004,e8)::gh) n=U b->1000000<=n/\n<1000005:=λn b e=>by
   cases K:fo.fF ((1000004,.row l cQ L)::y) n with
   |none=>rw[(c7.fD n).2 K]at e;cases e
   |some B=>exact(IX am n B K).2
  have aj:∀n b,et ((1000004,e8)::gh) n=U b->∃B,fo.fF ((1000004,.row C cQ L)::o) n=U B/\dc n=U B:=λn b e=>by
   by_cases p:n=1000004
   .subst p;exact⟨_,Z,Z⟩
   .cases K:fo.fF ((1000004,.row C cQ L)::o) n with
    |none=>rw[(c7.fD n).2 ((Om aJ n).2 K)]at e;cases e
    |some B=>exact⟨B,Z,by rw[(u n b e p).2,K]⟩
  have ax:∀n b B,et ((1000004,e8)::gh) n=U b->n≠1000004->fo.fF ((1000004,.row C cQ L)::o) n=U B->st.O n=U B:=λn b B e p K=>by
   apply Ol a_ n B;simp[fo.fF]at K
   have:d2 n 1000004=L:=by
    cases ay:d2 n 1000004 with
    |false=>rfl
    |true=>exact dQ (gs ay) p
   rwa[this]at K
  have aQ:∀n b Y cL J,et ((1000004,e8)::gh) n=U b->n≠1000004->xZ Y=N->dr Y=U (U J)->dr n=U (U cL)->J.blk≠cL.blk:=by intro n b Y cL J e p ee bl jJ he;have:=dz.inj Y n J cL bl jJ he;subst this;have:=F Y b e;exact ajV ee ⟨this.1,R⟩
  have bm:er (oa own ((1000004,e8)::gh) D) ap ai dc w':=by
   refine⟨λn=>?_,λn cX=>?_,λn B cL ak jJ=>?_,λn mx cL ej ab aa he=>?_⟩
   .cases z:et ((1000004,e8)::gh) n with
    |none=>have⟨E,G⟩:=W n z;rw[E,G];simp
    |some b=>
     have⟨B,E,G⟩:=aj n b z;rw[G]
     by_cases p:n=1000004
     .subst p;rw[A.1];simp
     .rw[(u n b z p).1];constructor
      .intro e;cases e
      .intro e;have:=ax n b B z p E;rw[(dz.fD n).2 e]at this;cases this
   .cases z:et ((1000004,e8)::gh) n with
    |none=>rw[(W n z).1]at cX;cases cX
    |some b=>
     by_cases p:n=1000004
     .subst p;rw[A.1,fx]at cX;have⟨q,_⟩:=aP cX;exact⟨cQ,L,by rw[A.2,q]⟩
     .have⟨B,E,G⟩:=aj n b z;rw[(u n b z p).1]at cX;have⟨av,aw,q⟩:=dz.iN n cX;rw[ax n b B z p E]at q;exact⟨av,aw,by rw[G,q]⟩
   .cases z:et ((1000004,e8)::gh) n with
    |none=>rw[(W n z).1]at jJ;cases jJ
    |some b=>
     by_cases p:n=1000004
     .subst p;rw[A.1,fx]at jJ;rw[A.2,fx]at ak;subst ak;have⟨E,G,_⟩:=ah cL jJ;exact⟨E,G _⟩
     .have⟨gv,E,G⟩:=aj n b z;rw[G,fx]at ak;subst ak;rw[(u n b z p).1]at jJ;have⟨k1,eF⟩:=dz.at_ n gv cL (ax n b gv z p E) jJ;exact⟨k1,OJ (OH (l:=(1000004,.row C cQ L)::o) aW n gv E) eF⟩
   .cases z:et ((1000004,e8)::gh) n with
    |none=>rw[(W n z).1]at ab;cases ab
    |some b=>
     cases al:et ((1000004,e8)::gh) mx with
     |none=>rw[(W mx al).1]at aa;cases aa
     |some d7=>
      by_cases p:n=1000004
      .by_cases ac:mx=1000004
       .rw[p,ac]
       .subst p;rw[A.1,fx]at ab;rw[(u mx d7 al ac).1]at aa;have⟨_,_,⟨Y,J,az,aA,aB⟩,_⟩:=ah cL ab;exact dQ (aB.trans he) (aQ mx d7 Y ej J al ac az aA aa)
      .rw[(u n b z p).1]at ab
       by_cases ac:mx=1000004
       .subst ac;rw[A.1,fx]at aa;have⟨_,_,⟨Y,J,az,aA,aB⟩,_⟩:=ah ej aa;exact dQ (aB.trans he.symm) (aQ n b Y cL J z p az aA ab)
       .rw[(u mx d7 al ac).1]at aa;exact dz.inj n mx cL ej ab aa he
  have⟨eg,fY,gY,bn,bo,bp⟩:=Wy c7 am c_ aJ aU Q a' f'.own p bm aj (λn b e da=>by
   rw[(u n b e da).1,dW n (F n b e).1 (by have:=(F n b e).2;omega)]
   exact aL n da) (.own e8)
  refine⟨bb,_,xP aM,v,ap,eg,Z,bo,Q,c5,bp,fY,gY,?_⟩;have aC:=bn 1000004 e8 aI;rw[A.1]at aC
  cases X with
  |none=>obtain⟨_,dj,rfl⟩:=aP Z;exact .h7 e8 dj aC
  |some I=>obtain⟨_,_,_,cap,rfl,g6,bq⟩:=ah I Z;exact .own e8 I cap aC g6 bq
 have br:qI ((1000004,e8)::gh) D 1000004=D e8:=rfl
 cases a4 with
 |ji _ _ jJ=>rw[(c_.fD e8).2 jJ]at ae;cases ae
 |h7 _ dj jJ=>
  have⟨av,aw,ad⟩:=c_.iN e8 jJ;rw[ae]at ad;cases ad
  exact⟨_,_,.nil,aK,.nil dj,λn _=>Z,a0 Z⟩
 |own _ cL cap jJ aN au=>
  have⟨_,cs,eQ,_,_,E,G,_⟩:=c_.at_ e8 _ cL ae jJ;have hw:=aK.ajW a3 (n:=1000004) (l:=l) (cQ:=cQ) Z (br.trans jJ) (cap:=cap) R (by rwa[E]);refine⟨_,_,.win 1000004 0 l.length (U cap),hw,?_,λn da=>gf _ _ da,?_⟩
  .rw[<-G];exact .win 1000004 0 _ _ ⟨cL.blk,cL.cQ,cL.size,cap⟩ cap 0 (gE _ _ _) R (λm h=>by cases h;rfl) (by simpa using au) (.inl dt)
  .have:=c8 cap R
   have e:eO (fo.fF ((1000004,.row l cQ L)::y)) 1000004 (U (.row (l++eL (cap-l.length) (eL cQ .mm)) cQ L))=fo.fF ((1000004,.row (l++eL (cap-l.length) (eL cQ .mm)) cQ L)::y):=by
    funext n
    by_cases p:n=1000004
    .subst p;rw[gE];rfl
    .rw[gf _ _ p]
     have:d2 n 1000004=L:=by
      cases ay:d2 n 1000004 with
      |false=>rfl
      |true=>exact dQ (gs ay) p
     simp[fo.fF,this,jk]
   rwa[e]
end
theorem wt{P f rest dD r p l a cQ e8 O dst dx dR K}(H:u0 P f l cQ rest r p a)(s)
  (b:(wm ((1000004,e8)::s) ((1000004,.row l cQ L)::r)&&zE ((1000004,e8)::s))=N)(h:nZ O (kj ((1000004,e8)::s) ((1000004,.row l cQ L)::r)))(x:.own e8::n' ((1000004,e8)::s) rest=dD)
  (k:K ⟨.own e8,kj ((1000004,e8)::s) ((1000004,.row a cQ L)::p),U e8⟩):re P f N dD O dst dx dR K:=
 HE (x▸H.2 s O e8 (I2 b) (zF h)) k
theorem zJ{db O s l cQ p}{t b n:V}{c r}(Q:s=[.tmp t])(h:db t=.win b 0 n c)(a:O b=U (.row r cQ L))(d:n<=r.length)(dz:r.take n=l)(dW:xZ b=N)(e:nZ O p):Cd db O s l cQ p:=
 ⟨⟨t,Q,h▸.win b n c r a d dz dW⟩,e⟩
theorem ajY{db O r l cQ p}{t b:V}(Q:r=[.tmp t])(h:db t=.own b)(a:O b=U (.row l cQ L))(dW:xZ b=N)(c:nZ O p):Cd db O r l cQ p:=
 ⟨⟨t,Q,h▸.own b a dW⟩,c⟩
theorem ajZ{db O r l cQ p}{t:V}(Q:r=[.tmp t])(h:db t=.nil)(a:l=[])(b:nZ O p):Cd db O r l cQ p:=
 ⟨⟨t,Q,h▸.nil a⟩,b⟩
def OK(T:fL)(P:el)(fn:Func)(args:J dn)(l:J (J c3))(cQ:V):Prop:=
 match fn.body with
 |some c=>kS T P c ⟨tu args,λ_=>cM⟩ λe st=>match e with
  | .exit _=>dA
  |_=>∃t,fn.results.toList=[.tmp t] /\ ((∃b r n a,st.db t=.win b 0 n a/\st.O b=U (.row r cQ L) /\n<=r.length/\r.take n=l) \/ (st.db t=.nil/\l=[]))
 |none=>dA
def Jk:dn->dh
 | .d _=>N
 | .nil=>N
 |_=>L
def Fv:J dn->dh
 | []=>N
 |x::r=>bif Jk x then Fv r else L
theorem XF:∀ {l},Fv l=N->∀x∈l,Jk x=N
 | [],_,x,h=>g0
 |y::r,h,x,a=>by
  simp only[Fv]at h
  cases b:Jk y with
  |false=>simp_all
  |true=>
   rw[b]at h
   cases a with
   |head=>exact b
   |tail _ a=>exact XF h x a
theorem aj0{M D eg x v}(ee:Jk x=N)(h:dV M D x v):dV M eg x v:=by
 cases x with
 |d x=>cases h with|d _ _ h=>exact .d _ _ h
 |nil=>cases h with|nil a=>exact .nil a
 |e4=>cases ee
 |fd=>cases ee
 |agg c=>cases ee
 |dP c=>cases ee
 |own b=>cases ee
 |ptr b i j=>cases ee
 |win b dy n c=>cases ee
 |fn f c=>cases ee
 |dead=>cases ee
section
variable {P:el} {T:fL} (cS:jB P T)
include cS in
theorem aj1(d8:P.follows .mixedOrders=N){f fn args l cQ}(ee:P.funcs[f]?=U fn)(dg:n_ fn args.length=N)(X:Fv args=N)(h:OK T P fn args l cQ)
  (O t):rc P f args O ⟨.own t,[(t,.row l cQ L)],U t⟩:=by
 have⟨c,hb,K,cY,V⟩:=xQ dg;refine⟨⟨fn,ee,DG,V⟩,λcV own M D w vs f' E dq c_ C=>xg ee V hb ?_⟩;simp only[OK,hb]at h
 have aq:vs.size<=fn.ntmps:=by rwa[C.1]
 have W:=f'.low E
 have A:gw cV (λc=>w.heap.size<=c) w M (λ_=>cM) fn.ntmps ⟨tu args,λ_=>cM⟩ {tmps:=vs++kx (fn.ntmps-vs.size) undef,defers:=[]} w:=by refine⟨M,λ_=>cM,.refl M,dq,.refl _ _,.refl _ _,⟨λ_=>⟨λ_=>Z,λ_=>Z⟩,λb h=>g0,λb B cL h=>g0,λb d7 cL ej h=>g0⟩,λ_ _ _=>Z,λt=>?_,hd,Z⟩;rw[IS];exact IW args 0 vs (λi x v Q c5=>aj0 (XF X x (jg Q)) (C.2 i x v Q rV)) (by rw[C.1];simp) t
 refine xR cS d8 K W (λ_ h=>h) h A λst a w' da I=>?_;have⟨s,ar,Q,c5,ac,ad,dz,dW,ae,au,af⟩:=I;have⟨q,ag,ah⟩:=da
 have S:∀c0,eX cV.F w' c0->(fn.results.toList.mapM (ks a.tmps)).run P c0=.ok [a.tmps.getD q undef] c0/\ ∀es,∀e∈(fn.results.toList.mapM (ks a.tmps)).events P c0 es,e∈es\/i2 cV.F e:=λc0 _=>by
  rw[ag];exact⟨LL,λes e he=>.inl LB⟩
 have g:=Fb ad;have y:=λb o v cU=>ac b o v cU;have z:=c_.behind f'.own g Q y;have H:(⟨.own t,[(t,.row l cQ L)],U t⟩:ge).O O=eO (hL (U t) O) t (U (.row l cQ L)):=Z;refine⟨af,_,xP S,a.tmps.getD q undef,s,?_⟩;have cU:=ae q
 have m:l=[]->(∃F,a.tmps.getD q undef=.slice F 0 0)->∃eg:gr,Ending.returned (if h:([a.tmps.getD q undef].toArray.size)=1 then [a.tmps.getD q undef].toArray[0] else .tuple [a.tmps.getD q undef].toArray)=.returned (a.tmps.getD q undef) /\jM (pe cV own) w w'/\gJ M s/\fq s w'/\jl own M s/\
   er own s eg ((⟨.own t,[(t,.row l cQ L)],U t⟩:ge).O O) w'/\ (∀b,pP (U t) b->eg b=D b) /\dV s eg (.own t) (a.tmps.getD q undef):=by
  rintro rfl ⟨F,ai⟩;refine⟨eO D t (U cM),Z,xB g E,Q,c5,zk y E,?_,λb hb=>gf _ _ λe=>td hb e,by rw[ai];exact .h7 t F (gE _ _ _)⟩;rw[H];exact z.BG t cQ L
 rcases ah with⟨b,r,n,av,J,G,aj,dc⟩|⟨J,G⟩
 .rw[J]at cU;generalize Y:a.tmps.getD q undef=v at cU m⊢
  cases cU with
  |jj _ _ _ _ _ R=>rw[(dz.fD b).2 R]at G;cases G
  |win _ _ _ _ cL k base R aw ax ak al=>
   have⟨fA,cs,eQ,am,aa,an,ay,ao,ab,ap⟩:=dz.at_ b _ cL G R
   have dj:l.length=n:=by rw[<-dc,pn];omega
   have u:base=0:=by rcases al with e|⟨_,e⟩<;>omega
   subst u
   let p:kR:=⟨cL.blk,cQ,cs.size,l.length⟩
   have cX:lz s cs l cQ:=⟨λi e he=>ab.len i e (by rw[<-dc]at he;rw[wa]at he;split at he<;>first|exact he|cases he),λi j e d he cP=>ab.den i j e d (by rw[<-dc]at he;rw[wa]at he;split at he<;>first|exact he|cases he) cP⟩;refine⟨eO D t (U (U p)),Z,xB g E,Q,c5,zk y E,?_,λb hb=>gf _ _ λe=>td hb e,?_⟩
   .rw[H];refine z.new t (.row l cQ L) p (.refl _) (E _ fA) ⟨cs,eQ,am,Z,Z,Z,?_,cX,rW,λ_=>ap.2 Z⟩ λd7 ej az dr=>⟨?_,Z,z.closed dr⟩
    .show l.length*cQ<=cs.size;rw[dj,aa];exact fJ (l4 _ aj) ao
    .have:=c_.lt dr;show ej.blk≠cL.blk;omega
   .have:=dV.own (M:=s) (D:=eO D t (U (U p))) t p k (gE _ _ _) (by show l.length<=k;omega) (by show k*cQ<=cs.size;rw[aa,an];rwa[np]at ak);rwa[show p.len=n from dj]at this
 .rw[J]at cU;generalize Y:a.tmps.getD q undef=v at cU m⊢
  cases cU with
  |nil F=>have⟨eg,I⟩:=m G ⟨F,Z⟩;exact⟨eg,I⟩
end
def g8:J (V×V):=[(1000000,1000000),(3000001,3000001),(3000002,3000002),(3000003,3000003),(3000004,3000004),(3000005,3000005),(3000006,3000006),(3000007,3000007)]
def i7(n:V):dh:=d2 n 1000000||(hn 3000001 n&&hn n 3000007)
def zG(s:J (V×V)):dn->dn
 | .own n=>match et s n with
  |some b=>.own b
  |none=>.nil
 | .ptr n i j=>match et s n with
  |some b=>.ptr b i j
  |none=>.dead
 | .win n dy m c=>match et s n with
  |some b=>.win b dy m c
  |none=>.dead
 |x=>x
def xT(s:J (V×V)):J dn->J dn
 | []=>[]
 |x::r=>zG s x::xT s r
def Fi(s:J (V×V)):d4->d4
 | .row l cQ cN=>.row l cQ cN
 | .box c cN=>.box (xT s c) cN
def xU(s:J (V×V)):dn->dh
 | .own n=>i7 n
 | .ptr n _ _=>(et s n).isSome
 | .win n _ _ _=>(et s n).isSome
 | .agg _=>L
 | .dP _=>L
 | .fn _ _=>L
 |_=>N
def B5(s:J (V×V)):J dn->dh
 | []=>N
 |x::r=>bif xU s x then B5 s r else L
def Fj(s:J (V×V)):d4->dh
 | .row _ _ _=>N
 | .box c _=>B5 s c
def xV(s:J (V×V)):J (V×d4)->dh
 | []=>N
 |(n,B)::r=>bif Fj s B&&i7 n then xV s r else L
def I4(n:V):V:=bif d2 n 3000000 then 1000000 else n
def qJ(n:V):J (V×d4)->dh
 | []=>d2 n 3000008
 |(m,_)::r=>bif d2 m (I4 n) then qJ (n+1) r else L
def I5(O:V->dB d4)(s:J (V×V)):J (V×d4)->Prop
 | []=>True
 |(n,B)::r=>(match et s n with
  |some t=>O t=U (Fi s B)
  |none=>∃cQ,B=.row [] cQ L) /\I5 O s r
def I6:J (V×V)->dh
 | []=>N
 |(n,t)::r=>bif r.all λp=>!d2 t p.2&&!d2 n p.1 then I6 r else L
def I7(s:J (V×V)):dh:=I6 s&&(match et s 1000000 with
 |some t=>d2 t 1000000
 |none=>L)
def Fl(s:J (V×V)):J V->dh
 | []=>N
 |b::r=>bif s.all λp=>!d2 b p.2 then Fl s r else L
structure WC(T:fL)(db:V->dn)(O:V->dB d4)(j6:J xs)(s:J (V×V))(post:J (V×d4))(d:c3):Prop where
 res:(nn T db O j6).map pf=U d
 hD:Fl s (qH T db O j6)=N
 post:I5 O s post
def Oo(T:fL)(P:el)(fn:Func)(args:J dn)(pre post:J (V×d4))(d:c3):Prop:=
 match fn.body with
 |some c=>kS T P c ⟨tu args,fo.fF pre⟩ λe st=>match e with
  | .exit _=>dA
  |_=>∃s,(xV s post&&(I7 s&&s.all λp=>i7 p.1))=N/\WC T st.db st.O fn.results.toList s post d
 |none=>dA
def rn(P:el)(f:ig)(args:J dn)(pre post:J (V×d4))(d:c3):Prop:=
 nk P f/\ ∀(O:V->dB d4),(∀n B,fo.fF pre n=U B->O n=U (ns g8 B))->rc P f (n' g8 args) O ⟨lx d,post,U 3000000⟩
theorem B6{n}:i7 n=N↔n=1000000\/ (3000001<=n/\n<=3000007):=by unfold i7;simp_all
theorem I8{n}:et g8 n=if i7 n then U n else cM:=by
 by_cases h:i7 n=N
 .rw[if_pos h];rcases B6.1 h with rfl|⟨Q,c⟩
  .rfl
  .obtain⟨k,rfl⟩:∃k,n=3000001+k:=⟨n-3000001,R⟩;exact(show ∀k,k<7->et g8 (3000001+k)=U (3000001+k) by decide+kernel) k R
 .rw[cT h];have a:¬(n=1000000\/ (3000001<=n/\n<=3000007)):=λa=>h (B6.2 a)
  have e:∀m,(m=1000000\/ (3000001<=m/\m<=3000007))->d2 n m=L:=λm Q=>by
   cases b:d2 n m with|false=>rfl|true=>have:=gs b;omega
  simp[g8,et,e]
theorem I9{n b}(h:et g8 n=U b):b=n/\i7 n=N:=by rw[I8]at h;grind
theorem aiK{n}(h:g1 3000000 n=L)(Q:n≠1000000):i7 n=L:=by
 have e:g1 3000000 n=d2 (n/8) 375000:=c2;rw[e]at h
 cases f:i7 n with|false=>rfl|true=>have a:=B6.1 f;have:n/8=375000:=R;simp_all
theorem WD(s):∀(c) (i:V),(xT s c)[i]?=(c[i]?).map (zG s)
 | [],i=>by simp[xT]|x::r,0=>by simp[xT]|x::r,i+1=>by simpa[xT]using WD s r i
theorem WE(s):∀c,(xT s c).length=c.length
 | []=>rfl|x::r=>by simp[xT,WE s r]
theorem WF{s}:∀ {c},B5 s c=N->∀x∈c,xU s x=N
 | [],_,x,eC=>uh
 |y::r,h,x,eC=>by
  simp only[B5]at h
  cases a:xU s y with
  |false=>simp_all
  |true=>
   simp[a,fE]at h
   cases eC with
   |head=>exact a
   |tail _ eC=>exact WF h x eC
theorem Oq{s}:∀ {l},xV s l=N->∀n B,fo.fF l n=U B->Fj s B=N/\i7 n=N
 | [],_,n,B,h=>g0
 |(t,v)::r,O,n,B,h=>by
  simp only[xV]at O
  cases c:(Fj s v&&i7 t) with
  |false=>simp_all
  |true=>
   simp[c,fE]at O;simp at c;simp[fo.fF]at h
   cases b:d2 n t with
   |true=>simp_all
   |false=>simp[b,jk]at h;exact Oq O n B h
theorem WG{O:V->dB d4}{s:J (V×V)}:∀ {l:J (V×d4)},I5 O s l->∀n B,fo.fF l n=U B->match et s n with
  |some t=>O t=U (Fi s B)|none=>∃cQ,B=.row [] cQ L
 | [],_,n,B,h=>g0
 |(t,v)::r,c,n,B,h=>by
  simp[fo.fF]at h
  cases b:d2 n t with|true=>simp[b,fE,fx]at h;subst h;rw[gs b];exact c.1|false=>simp[b,jk]at h;exact WG c.2 n B h
theorem Ot{s}:∀ {n t},et s n=U t->(n,t)∈s:=by
 induction s with
 |nil=>intro n t h;cases h
 |cons p r i=>
  have⟨a,b⟩:=p;intro n t h;simp[et]at h
  cases c:d2 n a with|true=>simp_all|false=>simp_all
theorem WH:∀ {s},I6 s=N->∀n c t,et s n=U t->et s c=U t->n=c
 | [],_,n,c,t,h,_=>g0
 |(a,b)::r,h,n,c,t,Q,e=>by
  simp only[I6]at h
  cases g:(r.all λp=>!d2 b p.2&&!d2 a p.1) with
  |false=>simp_all
  |true=>
   simp[g,fE]at h
   have o:∀m,et r m=U b->dA:=λm i=>by
    have:=(n0.1 g) _ (Ot i);simp at this
   simp[et]at Q e
   cases f:d2 n a with
   |true=>
    simp[f,fE,fx]at Q;subst Q
    cases d:d2 c a with
    |true=>simp_all
    |false=>simp_all
   |false=>
    simp[f,jk]at Q
    cases d:d2 c a with
    |true=>simp_all
    |false=>simp[d,jk]at e;exact WH h n c t Q e
theorem WI{s}:∀ {l},Fl s l=N->∀n t,et s n=U t->t∉l
 | [],_,n,t,_,h=>g0
 |b::r,h,n,t,cY,d8=>by
  simp only[Fl]at h
  cases dg:(s.all λp=>!d2 b p.2) with
  |false=>simp_all
  |true=>
   simp[dg,fE]at h
   cases d8 with
   |head=>have:=(n0.1 dg) _ (Ot cY);simp at this
   |tail _ d8=>exact WI h n t cY d8
section
variable {M:eE} {D eg:gr} {s:J (V×V)}
theorem aiL(cW:∀n,i7 n=N->eg n=match et s n with|some t=>D t|none=>U cM)(c7:∀n t,et s n=U t->i7 n=N){x:dn}{v:dp}(O:xU s x=N)(h:dV M D (zG s x) v):dV M eg x v:=by
 cases x with
 |own n=>
  have cY:=cW n O;simp[zG]at h
  cases g:et s n with
  |none=>
   rw[g]at cY h
   cases h with
   |nil a=>exact .h7 n a cY
  |some b=>
   rw[g]at cY h;simp only at cY h
   cases h with
   |own _ cL cap e Q c5=>exact .own n cL cap (cY.trans e) Q c5
   |h7 _ a e=>exact .h7 n a (cY.trans e)
   |ji _ _ e=>exact .ji n _ (cY.trans e)
 |ptr n i j=>
  simp[zG]at h
  cases g:et s n with
  |none=>simp only[xU,g]at O;cases O
  |some b=>
   have cY:=cW n (c7 n b g);rw[g]at cY h;simp only at cY h
   cases h with
   |ptr _ _ _ cL e=>exact .ptr n i j cL (cY.trans e)
   |iV _ _ _ _ e=>exact .iV n i j _ (cY.trans e)
 |win n dy m c=>
  simp[zG]at h
  cases g:et s n with
  |none=>simp only[xU,g]at O;cases O
  |some b=>
   have cY:=cW n (c7 n b g);rw[g]at cY h;simp only at cY h
   cases h with
   |win _ _ _ _ cL k base e l o p q=>exact .win n dy m c cL k base (cY.trans e) l o p q
   |jj _ _ _ _ _ e=>exact .jj n dy m c _ (cY.trans e)
 |d x=>cases h with|d _ _ h=>exact .d _ _ h
 |e4=>cases h;exact .e4
 |fd=>cases h;exact .fd
 |nil=>cases h with|nil a=>exact .nil a
 |dead=>exact .dead _
 |agg c=>cases O
 |dP c=>cases O
 |fn f c=>cases O
theorem aiM(cW:∀n,i7 n=N->eg n=match et s n with|some t=>D t|none=>U cM)(c7:∀n t,et s n=U t->i7 n=N){w:c'}{B:d4}{cL:kR}(O:Fj s B=N)(h:jz M D w (Fi s B) cL):jz M eg w B cL:=by
 have⟨cs,eQ,f,g,a⟩:=h;refine⟨cs,eQ,f,g,?_⟩
 cases B with|row l cQ cN=>exact a|box c cN=>have⟨b,fb,i,d⟩:=a;rw[WE]at b fb d;exact⟨b,fb,⟨by omega,λj x e=>have⟨v,k,m⟩:=i.den j (zG s x) (by rw[WD,e];rfl);⟨v,k,aiL cW c7 (WF O x (jg e)) m⟩⟩,d⟩
end
theorem Fm:∀ {l},qJ 3000000 l=N->∀n,fo.fF l n=cM↔i7 n=L:=by
 have y:∀(l:J (V×d4)) (k:V),3000001<=k->k<=3000008->qJ k l=N->∀n,fo.fF l n=cM↔¬(k<=n/\n<=3000007):=by
  intro l
  induction l with
  |nil=>intro k Q o h n;have:=gs h;simp[fo.fF,true_iff];omega
  |cons p r i=>
   have⟨m,B⟩:=p;intro k Q o h n
   have g:∀k,3000001<=k->I4 k=k:=λk h=>by
    unfold I4
    cases b:d2 k 3000000 with
    |true=>simp_all
    |false=>rfl
   simp only[qJ,g k Q]at h
   cases b:d2 m k with
   |false=>simp_all
   |true=>
    simp[b,fE]at h;have e:=gs b;subst e
    have d:m+1<=3000008:=by
     rcases jd m 3000008 with c|c
     .omega
     .exfalso;have e:m=3000008:=R;subst e;clear i b o
      have:∀(r:J (V×d4)) (j:V),3000008<j->qJ j r=N->dA:=by
       intro r
       induction r with
       |nil=>intro j q h;have:=gs h;omega
       |cons p r i=>intro j q h;simp[qJ,g j R]at h;grind
      simp_all
    simp[fo.fF]
    cases a:d2 n m with
    |true=>simp_all
    |false=>simp;rw[i (m+1) R d h n];grind
 intro l h n
 cases l with
 |nil=>simp[qJ]at h
 |cons p r=>
  have⟨m,B⟩:=p;simp only[qJ]at h;have t:I4 3000000=1000000:=Z;rw[t]at h
  cases b:d2 m 1000000 with
  |false=>simp_all
  |true=>
   simp[b,fE]at h;have e:=gs b;subst e;simp[fo.fF]
   cases a:d2 n 1000000 with
   |true=>
    have e:=gs a;subst e;simp only[fE];constructor
    .simp_all
    .exact λh=>dQ h c1
   |false=>
    simp;rw[y r 3000001 c1 c1 h n]
    have s:n≠1000000:=λe=>by simp_all
    cases f:i7 n with
    |true=>have:=B6.1 f;simp;omega
    |false=>
     simp only[iff_true];intro c;rw[B6.2 (.inr c)]at f
     cases f
theorem aiN{s x}(h:xU s x=N):B3 x=N:=by cases x<;>first|rfl|cases h
theorem WJ{s}:∀ {c},B5 s c=N->zC c=N
 | [],_=>rfl
 |x::r,h=>by
  simp only[B5]at h
  cases a:xU s x with|false=>simp_all|true=>simp[a,fE]at h;simp[zC,aiN a,fE];exact WJ h
theorem aiO{s B}(h:Fj s B=N):B4 B=N:=by
 cases B with|row l cQ cN=>rfl|box c cN=>exact WJ h
theorem WK:∀ {l n},fo.fF l n=cM->iP l n=cM
 | [],_,_=>rfl
 |(t,v)::r,n,h=>by
  simp[fo.fF]at h
  cases b:d2 n t with|true=>simp_all|false=>simp[b,jk]at h;simp[iP];rw[WK h];simp[b]
theorem Ou:∀ {l n B},l.Pairwise (λp q=>p.1≠q.1)->fo.fF l n=U B->iP l n=U B
 | [],_,_,_,h=>g0
 |(t,v)::r,n,B,O,h=>by
  rw[uT]at O;simp[fo.fF]at h;simp[iP]
  cases b:d2 n t with
  |true=>
   simp[b,fE,fx]at h;subst h;have e:=gs b;subst e
   have:iP r n=cM:=by
    cases x:iP r n with|none=>rfl|some gv=>exact dQ Z (O.1 (n,gv) (N3 x))
   simp_all
  |false=>simp[b,jk]at h;rw[Ou O.2 h]
section
variable {P:el} {T:fL} (cS:jB P T)
include cS
theorem aiP(d8:P.follows .mixedOrders=N){f fn args y p d}(ee:P.funcs[f]?=U fn)(dg:n_ fn args.length=N)
 (W:(uV args&&(xV g8 y&&(qJ 3000000 y&&(qJ 3000000 p&&tv p))))=N)(h:Oo T P fn args y p d):rn P f args y p d:=by
 simp at W;have⟨af,ag,ah,V,ai⟩:=W;have⟨c,g,dj,cY,S⟩:=xQ dg;have aa:nk P f:=⟨fn,ee,by rw[g];rfl,S⟩;refine⟨aa,λO X=>⟨aa,λcV own M D w vs f' dc dq c_ aj=>xg ee S g ?_⟩⟩;simp only[Oo,g]at h;have K:gG cV (oa own g8 D) M:=f'.low λc h=>h.1;have ak:∀b,(∃n,et g8 n=U b)↔i7 b=N:=λb=>⟨λ⟨n,e⟩=>by have:=I9 e;simp_all,λh=>⟨b,by rw[I8,if_pos h]⟩⟩
 refine xR cS d8 dj K (λc dg=>⟨dc c dg,λb cL _ I e=>by have:=c_.lt I;omega⟩) h (WA dq (Wv (λn=>by
  rw[I8,Fm ah n]
  simp_all) (λn mx b u m=>(I9 u).1.symm.trans (I9 m).1) (λn B b dr e=>(I9 e).1▸X n B dr) (λn B dr=>aiO (Oq ag n B dr).1) c_) af cY aj) λst a w' Y dI=>?_
 have⟨q,ab,r,da,C⟩:=Y;simp only[lB]at ab;have⟨al,x,am⟩:=ab;rw[I7,lB]at x;have⟨x,cX⟩:=x
 have cX:et q 1000000=U 1000000:=by
  cases u:et q 1000000 with
  |none=>simp_all
  |some t=>simp_all
 have an:∀n t,et q n=U t->i7 n=N:=λn t e=>(n0.1 am) _ (Ot e);have⟨ao,ac,Q,c5,ad,ap,dz,dW,aq,aI,ar⟩:=dI
 cases E:nn T st.db st.O fn.results.toList with
 |none=>simp[E]at r
 |some j6=>
  simp[E,jp,fx]at r;subst r;have⟨us,dD,au,av,aw,ax⟩:=I0 cS c5 dz aq (K.new Q ad) E;have⟨ay,s2,fb,az,G,eo,aA⟩:=v8 (hh:=st.O) (qH T st.db st.O fn.results.toList) ao st.O c5 dz (.refl _)
  let eg:gr:=λb=>if i7 b then(match et q b with|some t=>ac t|none=>U cM) else D b
  have s:∀n,i7 n=N->eg n=match et q n with|some t=>ac t|none=>U cM:=λn h=>if_pos h
  have A:∀b,¬i7 b=N->eg b=D b:=λb g=>cT g
  have o:∀b,pP (U 3000000) b->eg b=D b:=λb g=>by
   by_cases Q:b=1000000
   .subst Q;rw[s _ Z,cX];exact dW _ R R
   .exact A b λh=>by rw[aiK g Q]at h;cases h
  have⟨aB,aC,aD⟩:=Ww (H:=ge.O ⟨lx (pf j6),p,U 3000000⟩ O) (eg:=eg) c_ (Q.trans s2) (ad.trans az) f'.own ap ak (λb g=>⟨by
   have z:=(Fm V b).2 (by simpa using g);rw[uQ];simp[WK z],A b g⟩) o (by
   intro b g
   cases z:fo.fF p b with
   |none=>rw[(Fm V b).1 z]at g;cases g
   |some F=>
    have j:=WG C b F z
    have:ge.O ⟨lx (pf j6),p,U 3000000⟩ O b=U F:=by rw[uQ];simp[Ou (IY ai) z]
    rw[this,s b g]
    cases u:et q b with
    |none=>rw[u]at j;obtain⟨cQ,rfl⟩:=j;exact⟨by simp,λ_=>⟨cQ,L,Z⟩,nofun⟩
    |some t=>
     rw[u]at j;simp only at j⊢;replace j:gj st.O (f9 st.O (qH T st.db st.O fn.results.toList)) t=U (Fi q F):=by rwa[IH,I1 (WI da b t u)]
     refine⟨⟨nofun,λh=>by rw[(G.fD t).2 h]at j;cases j⟩,λcU=>?_,λB cL dr I=>?_⟩
     .have⟨cQ,cN,J⟩:=G.iN t cU;rw[j]at J
      cases F<;>simp[Fi]at J;obtain⟨rfl,rfl,rfl⟩:=J;exact⟨_,_,Z⟩
     .cases dr;have⟨k1,eF⟩:=G.at_ t _ cL j I;exact⟨k1,aiM s an (Oq al b F z).1 eF⟩) (by
   intro b d7 cL ej g aE I k aF;rw[s b g]at I;rw[s d7 aE]at k
   cases u:et q b with
   |none=>rw[u]at I;cases I
   |some t=>
    cases m:et q d7 with
    |none=>rw[m]at k;cases k
    |some aG=>rw[u]at I;rw[m]at k;have:=G.inj t aG cL ej I k aF;subst this;exact WH x b d7 t u m)
  refine⟨ar,_,xP au,_,ay,eg,Z,aC,Q.trans s2,fb,aD,aB,o,EN (Oe av λi d v ae j=>?_)⟩
  have z:dD[i]?=U (dD[i]'(by rw[aw];exact(fM.1 ae).1)):=dt
  have⟨fA,aJ,aH⟩:=ax i _ d v z ae j;exact EM G (by rwa[DF eo]) (xA (λb l cQ cN g he=>aA b l cQ cN (.inl g) he) eo _ aH) (fA.mono s2)
end
def apZ{P}(w es S CY e)(o:P.underlying S=U (.slice e))(s)(z:∀w,(Go.sizeOf e).run P w=.ok s w)
  (a b c p d q)(n:a.block≠b.block)(y C A k)
  (j:w.shape? a.block=U (y,A))(m:w.shape? b.block=U (C,k))(B:k≠0)
  (f:w.frozen? a=L)(g:w.frozen? {block:=a.block,off:=A}=L):
  (ap0 #[S,S] #[CY] #[.slice (U a) c p,.slice (U b) d q]).events P w es=es:=by
 have i:(a.block !=b.block)=N:=by simpa using n
 have h:(a.block==b.block)=L:=by simpa using n
 suffices H:∀t,Sem.events P (α:=dp) (do
  let .slice l <-underlying S|stuck t
  let s <-sizeOf l
  match (U a:dB gP),(U b:dB gP) with
  |some a,U b=>
   if c=0\/d=0\/s=0 then pure (JI L)
   else if a.block !=b.block&&(<-frozen a)&&(<-frozen b) then unsupported .addressObserved
   else do
    if a.block !=b.block then do
     noView a;noView b
     if <-mayBeOne a b then return JI ((<-choose (.extern "sameAddr.stringBytes" 2))==1)
    pure (JI (a.block==b.block&&a.off<b.off+d*s&&b.off<a.off+c*s))
  |_,_=>pure (JI L)) w es=es from H _
 intro _
 have r:∀(w:c') (x:gP),(frozen x).run P w=.ok (w.frozen? x) w:=λw x=>by rfl
 have u:∀(w:c') (x:V),(shape x).run P w=.ok (w.shape? x) w:=λw x=>by rfl
 have dG:∀(w:c') (es:ea hB) (x:gP),(frozen x).events P w es=es:=λ_ _ _=>Z;have v:∀(w:c') (es:ea hB) (x:V),(shape x).events P w es=es:=λ_ _ _=>Z
 by_cases cW:c=0\/d=0\/s=0
 .simp[fv o,z,cW,ed.sizeOf e P]
 .cases k with|zero=>omega|succ k=>simp[fv o,z,cW,i,h,noView,viewAt,mayBeOne,stringish,r,u,dG,v,j,m,f,g,ed.sizeOf e P]
def ap1{P T}(cS:jB P T){f fn t e CY}(ee:P.funcs[f]?=U fn)(o:(fn.name== "runtime.NumGoroutine")=L)(p:fn.body.isNone=N)(cY:Extern.findNext fn=cM)
  (he:Extern.find fn=U (ap0 #[t,t] #[CY]))(c6:(T t).k=.slice e){O a b dy n c q r wD s I J}
  (dq:O a=U (.row q wD I))(hb:O b=U (.row r s J))(K:a≠b)(V:q≠[])(dw:0<r.length)(c7:0<s):ME P f [.own a,.win b dy n c] O L:=by
 have⟨u,R⟩:=kC cS c6;refine⟨⟨fn,ee,by cases W:fn.body<;>simp_all⟩,λown M D w vs c8 c_ i=>?_⟩;have S:=i.1
 obtain⟨j,l,rfl⟩:∃j l,vs=#[j,l]:=by
  match vs,S with
  |⟨[x,y]⟩,_=>simp_all
 have cW:=i.2 0 _ j Z Z;have Q:=i.2 1 _ l Z Z;have v:=λw=>iu cS w R
 cases Q with
 |jj _ _ _ _ _ g=>rw[(c_.fD b).2 g]at hb;cases hb
 |win _ _ _ _ h k base z X Y aa ab=>
  have⟨_,m,Tb,A,cZ,ac,ad,ae,_⟩:=c_.at_ b _ h hb z
  cases cW with
  |ji _ _ g=>rw[(c_.fD a).2 g]at dq;cases dq
  |h7 _ af g=>have⟨ag,ah,ai⟩:=c_.iN a g;simp_all
  |own _ d cap B aj ak=>
   have⟨_,C,E,LI,_⟩:=c_.at_ a _ d dq B;have F:=λe=>K (c_.inj a b d h B z e)
   have G:m.size≠0:=by have:=Nat.mul_pos dw c7;omega
   refine⟨?_,λdu H=>?_⟩
   .rw[I' ee o p cY he,Lib.run_overlaps_apart w t CY e u (T e).size v ⟨d.blk,0,cM⟩ ⟨h.blk,base,cM⟩ d.len cap n k F E Tb C.size m.size (by simp[Fq,LI]) (by simp[Fq,A]) G G0 G0];rfl
   .rw[Ja ee o p cY he,apZ w _ t CY e u (T e).size v ⟨d.blk,0,cM⟩ ⟨h.blk,base,cM⟩ d.len cap n k F E Tb C.size m.size (by simp[Fq,LI]) (by simp[Fq,A]) G G0 G0]at H
    have:du=⟨.mark (.extern f),L,N⟩:=by simpa using H
    subst this;trivial
