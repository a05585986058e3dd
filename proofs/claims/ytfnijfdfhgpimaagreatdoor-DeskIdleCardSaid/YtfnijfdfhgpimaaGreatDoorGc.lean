/- What is proved here: what functions of the program compute, and what follows; no condition beyond each theorem's own. -/
import Derived.Conc.AtomicLaws
import Derived.Conc.WgGenN2
import Derived.Laws.BytesString
import Derived.Lib.Overlaps
import Derived.LoopN
import Derived.Orders
import Derived.Scope
import Derived.Test.YtfnijfdfhgpimaaGreatDoorGb
set_option linter.all false
noncomputable section
set_option maxHeartbeats 0
open Array renaming getD->mJ,mapM_eq_mapM_toList->NT,replicate->kM
open Bool renaming false->L,not_eq_true'->ajN,or_eq_true->ajB,true->N
open Classical renaming choose->JM,choose_spec->XA
open Go renaming Act->e8,Addr->g3,Event->hJ,Frame->g6,FuncId->im,Goroutine->dP,Oper->gL,Operand->fw,Program->en,ResultVar->xX,TypeId->eF,Value->dr,World->da,binOp->jA,convert->x',invoke->iq,mem_ready->Pa,resolve->ip
open Go.Act renaming eval->Oh,put->WT
open Go.Builtin renaming append_->ie,clear_->OQ,copy_->WN,firstCells->lx,lenOf->p7,len_->x_,max_->aja,min_->WM,zeroCells->oo
open Go.CallKind renaming early->zP
open Go.Conc renaming stepG_load_atomic->Wl,stepG_mark0->Wj,stepG_markAt->Wk
open Go.Conv renaming bytesToString->OO
open Go.Deferred renaming ofValue->sH
open Go.Extern.SlicesOverlaps renaming overlaps->aq0
open Go.GStep renaming after->tq
open Go.Instr renaming box->ajg,extract->NW,field->NV,fieldAt->FA,loadAt->sG,storeAt->z5,sureAddr->lU
open Go.Op renaming equal->Fz,equalIn->oh,unary->FV
open Go.Proofs.Tryz renaming prog->cQ
open Go.Region renaming binds->CI,ready->mF,wanted->js
open Go.Sem renaming run_map->V1
open Go.Value renaming bool->Ko,pointer->IJ
open Go.World renaming shape?->Gf
open List renaming filter_congr->ajO,foldlM_cons->ai7,foldlM_nil->ai8,getElem?_of_mem->W_,getElem?_zipIdx->Xm,length_eq_one_iff->Pe,range->iz,range'->tN,replicate->eQ,zipIdx_map_fst->ajP
open Nat renaming beq->d3,ble->hn,blt->xV,lt_succ_iff->aj2,min->uR,mul_one->Jq,strongRecOn->to,testBit->xW,testBit_or->ajA
open Option renaming none->cL,some->U
open Prod.mk renaming injEq->Jn
open _root_ renaming Array->d',Bool->di,False->dA,Fin->eP,List->I,Nat->V,Option->dB,absurd->dN,rfl->Z
namespace Go.Lk
def z4:=@Array.toList_inj
def JZ:=@Conc.events_callFunc_extern
def px:=@Sem.events_pure
def JY:=@run_callFunc_extern
def j4:=@List.append_assoc
def qW:=@List.append_nil
def JD:=@List.countP_le_length
def CK:=@List.countP_pos_iff
def z':=@List.filter_append
def CG:=@List.filter_cons
def wM:=@List.getD_eq_getElem?_getD
def ly:=@List.getElem?_set
def o5:=@List.length_take
def yg:=@List.map_take
def ot:=@List.mem_append_left
def pz:=@List.mem_append_right
def ou:=@List.mem_filter
def F2:=@List.mem_range
def vh:=@List.nil_append
def vg:=@List.pairwise_cons
def yh:=@List.pairwise_iff_getElem
def Gk:=@List.size_toArray
def JB:=@List.take_append_drop
def sR:=@Nat.lt_of_lt_of_le
open Go.RowKit
section
variable {P:en} {T:fM} (cT:jL P T)
theorem WE:∀ {l dW},wx l=U dW->l=dW.map λn=>[c3.int .u8 n]
 | [],dW,h=>by simp[wx]at h;subst h;rfl
 |e::r,dW,h=>by
  simp[wx]at h;split at h
  .rename_i k n
   cases a:d3 (kf k) 4 with
   |false=>simp_all
   |true=>
    rw[a]at h
    have b:k=.u8:=by cases k<;>first|rfl|exact dN a cZ
    subst b;simp at h;split at h
    .rename_i s m
     cases h
     rw[WE m];rfl
    .cases h
  .cases h
theorem WF{own M w eb c l vs dW}(b:tJ P own M w (.slice eb l.length c) l 1 vs)(h:wx l=U dW):
  (OO (.slice eb l.length c)).run P w=.ok (.string (qN dW)) w:=by
 have d:=WE h
 have n:l.length=dW.length:=by rw[d];simp
 have s:vs=(dW.map (Value.int .u8)).toArray:=by
  apply Array.ext
  .rw[b.size];simp[n]
  .intro i Q c5;have cK:=sn;have⟨v,cY,cP⟩:=b.row.den i 0 [c3.int .u8 dW[i]] (.int .u8 dW[i]) (by simp_all) Z;rw[Jq,Cu,zt Q]at cY;have cY:=pV cY;generalize vs[i]=u at cY⊢;subst cY
   cases cP
   simp
 have r:=b.run w (λ_ _=>Z)
 cases eb with
 |none=>
  simp only[lx,hU]at r
  have e:vs=#[]:=by injection r with q _;exact q.symm
  have:dW=[]:=by have:=eL Array.size (s.symm.trans e);simpa using this
  subst this;rfl
 |some a=>simp[lx,Jq]at r;exact run_bytesToString w a l.length c dW (by rw[r,s])
theorem WH{own M w eb d l vs}(c':tJ P own M w (.slice eb l.length d) l 1 vs):
  ∀dq∈(OO (.slice eb l.length d)).events P w #[],h7 own M dq:=by
 intro dq b;have dQ:=c'.rd w #[] (λ_ _=>Z)
 cases eb with
 |none=>simp[OO]at b
 |some a=>
  simp only[lx,Jq]at dQ;refine(dQ dq ?_).elim (λq=>by simp at q) id;simp only[OO]at b;rw[jz]at b
  cases e:(loadCells a l.length).run P w with
  |halt x w'=>simp_all
  |ok r w'=>
   rw[e]at b;simp only[kT]at b
   have f:∀ {s:Sem dr} {es:d' hJ},dq∈s.events P w' es->hM P s->dq∈es:=λh k=>by rwa[k w' _]at h
   refine f b (.bind' (.aiN (λc s=>?_) _ _) λs=>ed.at (.pure _));split
   .exact ed.at (.pure _)
   .exact .bind' (ed.at (.stuck _)) λ_=>ed.at (.pure _)
theorem aiZ {k fo} {A} (h:bif d3 (kf k) (kf fo) then A else dA):k=fo/\A:=by have⟨Q,a⟩:=qU h;exact ⟨Ft Q,a⟩
theorem z3{o dC O c}{s:(fw->dr)->Sem dr}
  (j:∀f,execOp f o=(do pure (.value (<-s f))))(K:gp->Prop)(d:K ⟨c,[],cL⟩)
  (h:∀(own M D) (a:e8) (w),fp M w->er own M D O w->(∀x,dZ M D (dC x) (a.eval x))->∃v,(s a.eval).run P w=.ok v w/\ (∀e∈(s a.eval).events P w #[],h7 own M e) /\dZ M D c v):
  ∃e,K e/\hE P o dC O e:=by
 refine⟨_,d,u6 λown M D a w g c9 b=>?_⟩;have⟨v,Q,i,k⟩:=h own M D a w g c9 b;simp_all
theorem rJ{o dC O c}{s:(fw->dr)->Sem dr}
  (j:∀f,execOp f o=(do pure (.value (<-s f))))(k:∀f,hM P (s f))(K:gp->Prop)(g:K ⟨c,[],cL⟩)
  (h:∀(own M D) (a:e8) (w),fp M w->er own M D O w->(∀x,dZ M D (dC x) (a.eval x))->∃v,(s a.eval).run P w=.ok v w/\dZ M D c v):
  ∃e,K e/\hE P o dC O e:=z3 j K g λown M D a w i c9 b=>by
 have⟨v,Q,d⟩:=h own M D a w i c9 b;exact⟨v,Q,tF (k a.eval w #[]),d⟩
include cT in
theorem ai0{o c x t dC O K}(y:o.op=.call c)(dj:c.callee=.builtin .len)(dt:c.args.toList=[x])(tk:c.argTypes.toList=[t])
  (h:Nx T t (dC x) O (val K)):∃e,K e/\hE P o dC O e:=by
 have p:c.args=#[x]:=xy;have r:c.argTypes=#[t]:=ze
 have z:∀f:fw->dr,execOp f o=(do pure (.value (<-(do let d <-ip f c o.type;match d.target with| .builtin _ at' dn _=>x_ at' dn d.args|_=>pure undef)))):=by intro f;simp[execOp,y,ip,dj,iq,builtin]
 have j:∀(n:V),(∀(own:V->Prop) (M:eI) (D:gD) (w:da) (v:dr),er own M D O w->dZ M D (dC x) v->(x_ #[t] o.type #[v]).run P w=.ok (.int .i64 n) w/\ (x_ #[t] o.type #[v]).events P w #[]=#[])->K ⟨.d (.int .i64 n),[],cL⟩->∃e,K e/\hE P o dC O e:=by
  intro n dQ A;refine z3 z K A λown M D a w c8 c9 u=>⟨.int .i64 n,?_,?_,.d _ _ (.int _ _)⟩
  .have:=dQ own M D w _ c9 (u x);simp[ip,dj,p,r,this.1]
  .have:=dQ own M D w _ c9 (u x);exact tF (by simp[ip,dj,p,r,this.2])
 unfold Nx at h;split at h
 .rename_i c_;have m:=wC cT c_;split at h
  .rename_i s g;refine j s.size (λown M D w v c9 cY=>?_) h;rw[g]at cY;rw[sI cY];constructor<;>simp[x_,fx m,goInt]
  simp_all
 .rename_i iB c_;have⟨m,_⟩:=kR cT c_
  have run:∀(w:da) (a:dB g3) (n c:V),(x_ #[t] o.type #[.slice a n c]).run P w=.ok (.int .i64 n) w/\ (x_ #[t] o.type #[.slice a n c]).events P w #[]=#[]:=by intro w a n c;constructor<;>simp[x_,fx m,goInt]
  split at h
  .rename_i l g;refine j l.length (λown M D w v c9 cY=>?_) h;rw[g]at cY
   cases cY with
   |d _ _ cY=>
    cases cY with|emp a c=>simp_all|dm _ b off cap cR val dv c' d6 cP=>simp_all
  .rename_i g;refine j 0 (λown M D w v c9 cY=>?_) h;rw[g]at cY
   cases cY with|nil a=>simp_all
  .rename_i b dz n C g;split at h
   .rename_i B hb;refine j n (λown M D w v c9 cY=>?_) h;rw[g]at cY
    cases cY with|win _ _ _ _ cM k base i c0 dj c_ E=>simp_all|jv _ _ _ _ _ i=>rw[(c9.fE b).2 i]at hb;cases hb
   simp_all
  .rename_i b g;split at h
   .rename_i l cR cN hb;refine j l.length (λown M D w v c9 cY=>?_) h;rw[g]at cY
    cases cY with|own _ cM cap i c0 dj=>have⟨_,cs,eV,_,_,_,q,_⟩:=c9.at_ b _ cM hb i;simp_all|ib _ a i=>have⟨F,G,H⟩:=c9.iX b i;simp_all|ju _ _ i=>rw[(c9.fE b).2 i]at hb;cases hb
   simp_all
  simp_all
 simp_all
theorem WI {o:gL} {c:Call} {x y:fw} {dC:fw->dp} {O:V->dB d4} {K:gp->Prop} {g:Int->Int->Int} {b:Go.Builtin} {s:d' eF->eF->d' dr->Sem dr} (z:o.op=.call c) (u:c.callee=.builtin b) (dt:c.args.toList=[x,y])
  (r:∀ t t2 cs vs,builtin b t t2 cs vs=do pure (.value (<-s t t2 vs))) (v:∀ t t2 k n m w,(s t t2 #[.int k n,.int k m]).run P w=.ok (.int k (g n m)) w/\ (s t t2 #[.int k n,.int k m]).events P w #[]=#[])
  (h:match dC x with
    | .d (.int k a)=>match dC y with
     | .d (.int fo b)=>bif d3 (kf k) (kf fo) then K ⟨.d (.int k (g a b)),[],cL⟩ else dA|_=>dA
    |_=>dA):∃ e,K e/\hE P o dC O e:=by
 have f:c.args=#[x,y]:=xy
 split at h
 .rename_i k n A
  split at h
  .rename_i fo m B;have⟨i,q⟩:=aiZ h;subst i
   refine ⟨_,q,u6 fun own M D a w c8 c9 d=>⟨.int k (g n m),?_,tF ?_,.d _ _ (.int _ _)⟩⟩<;>
   have j:=kH (A▸d x)<;>
   have l:=kH (B▸d y)<;>
   simp [execOp,z,ip,u,iq,r,f,j,l,v]
  simp_all
 simp_all
include cT in
theorem ai1{o:gL}{c:Call}{x y:fw}{t t2:eF}{dC:fw->dp}{O:V->dB d4}{K:gp->Prop}(F:o.op=.call c)(E:c.callee=.builtin .append)(C:c.args.toList=[x,y])(G:c.argTypes.toList=[t,t2]){e S:eF}(cX:(T t).k=.slice e)(k:(T t2).k=.slice S)
 (h:BY (T e).size (dC y) O λfT=>match dC x with
  | .nil=>match o.dst with
   |some d=>sB fT.length (T e).bytes (K ⟨.own d,[(d,.row fT (T e).size L)],U d⟩)
   |none=>dA
  | .own b=>match O b with
   |some (.row l cR L)=>bif d3 cR (T e).size then sB (l.length+fT.length) (T e).bytes (K ⟨.own b,[(b,.row (l++fT) cR L)],U b⟩) else dA
   |_=>dA
  | .win b dz n (U c)=>Io T e b dz n c fT O o.dst K
  |_=>dA):∃e,K e/\hE P o dC O e:=by
 have H:c.args=#[x,y]:=by rw[<-z4];exact C
 have cM:c.argTypes=#[t,t2]:=by rw[<-z4];exact G
 have m:∀(a:e8) (w w':da) (v:dr),(ie #[t,t2] o.type #[a.eval x,a.eval y]).run P w=.ok v w'->(execOp a.eval o).run P w=.ok (.value v) w':=by
  intro a w w' v r;simp[execOp,F,ip,E,iq,builtin,H,cM,r]
 obtain⟨fT,h,s⟩:=Oq (P:=P) h;split at h
 .rename_i B
  split at h
  .rename_i d cP
   obtain⟨dc,I,h⟩:=Cf h;refine⟨_,h,rI λown M D a w g c8 c9 i=>?_⟩;obtain⟨eb,db,vs,u,q,j⟩:=s own M D w _ c8 c9 (i y);have cY:=i x;rw[B]at cY;generalize A:a.eval x=v at cY
   cases cY with
   |nil cU=>
    rw[u]at q;obtain⟨v,w',r,dh,p⟩:=Wp cT (dn:=o.type) cX k g c8 c9 (x:=d) (base:=cU) q dc I;exact⟨v,w',m a w w' v (by rw[A,u];exact r),λdq f=>dh dq (by rw[CA F E C G,A,u]at f;exact f),p⟩
  simp_all
 .rename_i b B
  split at h
  .rename_i l cR J
   obtain⟨z,h⟩:=qU h;have z:=gE z;subst z;obtain⟨dc,I,h⟩:=Cf h;refine⟨_,h,rI λown M D a w g c8 c9 i=>?_⟩;obtain⟨eb,db,vs,u,q,j⟩:=s own M D w _ c8 c9 (i y);rw[u]at q;obtain⟨v,w',r,dh,p⟩:=aiA cT (dn:=o.type) cX k g c8 c9 J (B▸i x) q j dc I;exact⟨v,w',m a w w' v (by rw[u];exact r),λdq f=>dh dq (by rw[CA F E C G,u]at f;exact f),p⟩
  simp_all
 .rename_i b dz n db B
  exact aiJ cT F E C G cX k B s h
 simp_all
theorem Jr{dC M D}{a:e8}(h:∀x,dZ M D (dC x) (a.eval x))(l:d' fw):zJ M D (ki dC l.toList) (l.map a.eval):=by refine⟨by rw[OG];simp,λi x v b e=>?_⟩;rw[OF]at b;grind
theorem OP{cX o a w f vs dc}(r:∀w,(execOp a.eval o).run P w=.ok (.enter f vs) w)(b:∀w,(execOp a.eval o).events P w #[]=#[])
  (h:uT P cX f vs w λe w'=>∃v,e=.returned v/\dc (a.put o.dst v) w'):n9 P cX.main cX.F o a w dc:=
 agF (λc2=>⟨r c2,b c2⟩) (g7.mono h λv w' q=>by
  simp_all)
theorem WJ{f}(h:nC P f)(vs w es):(callFunc f vs).events P w es=es:=by
 have⟨fn,Q,a,eG⟩:=h
 have b:fn.body≠cL:=by grind
 have du:=HG;simp[callFunc,Q,b,du]
theorem WK{o c f}(d:o.op=.call c)(b:c.callee=.value (.func f))(h:nC P f)(a:e8)(w):(execOp a.eval o).events P w #[]=#[]:=by simp[execOp,d,ip,b,Oh,sH,iq,WJ h]
theorem ai2{o c f t vs}(d:o.op=.call c)(b:c.callee=.value (.tmp t))(h:nC P f)(a:e8)(w)(e:a.eval (.tmp t)=.func (.func f) #[] vs):
  (execOp a.eval o).events P w #[]=#[]:=by
 simp[execOp,d,ip,b,e,sH,iq,WJ h]
theorem WL(f:fw->dr)(l:d' fw):(l.toList.map f).toArray=l.map f:=by grind
theorem ai3{o c f dC O K}(i:o.op=.call c)(g:c.callee=.value (.func f))
  (h:zK P f (ki dC c.args.toList) O K):∃e,K e/\hE P o dC O e:=by
 rcases h.out with⟨e,E,j⟩|⟨b,E,j⟩
 .exact⟨e,j,λcX own M D a w u n x c9 d=>OP (VE i g E.1 a) (WK i g E.1 a) ((E.2 cX own M D w _ u n x c9 (Jr d c.args)).mono λz w' y=>have⟨v,k,ei,A,l,m,p,q,r,s,t⟩:=y;⟨v,A,v,Z,k,ei,l,m,p,q,r,s,t⟩)⟩
 .refine⟨_,j,u6 λown M D a w c8 c9 d=>⟨.bool b,?_,?_,.d _ _ (.bool b)⟩⟩
  .have:=(E.2 own M D w _ c8 c9 (Jr d c.args)).1;simp[execOp,i,ip,g,Oh,sH,iq,this]
  .have:=(E.2 own M D w _ c8 c9 (Jr d c.args)).2;simpa[execOp,i,ip,g,Oh,sH,iq]using this
theorem ai4{o c f dC O K}(k:o.op=.call c)(g:c.callee=.value (.func f))
  (h:zH O dC c.args.toList λdx dW=>rC P f N (ki dC c.args.toList) O o.dst dx dW K):∃e,K e/\hE P o dC O e:=by
 have⟨dx,dW,h,l,cP⟩:=Oi h
 have q:rC P f N (ki dC c.args.toList) O o.dst (dx++[]) dW K:=by rwa[qW]
 have⟨e,t,j,s⟩:=VL q l cP (λ_=>g_);refine⟨e,t,λcX own M D a w r n u c9 b=>OP (VE k g j a) (WK k g j a) ?_⟩;have:=s cX own M D a w #[] r n u c9 b ⟨Z,λi d v Q=>by simp at Q⟩;rw[WL,Array.append_empty]at this;exact this.mono λy w' x=>let ⟨v,p,m⟩:=x;⟨v,p,v,Z,m⟩
theorem ai5{o c f t cs dC O K}(m:o.op=.call c)(j:c.callee=.value (.tmp t))(A:dC (.tmp t)=.d (.fn f cs))
  (h:zH O dC c.args.toList λdx dW=>rC P f L [] O o.dst (dx++cs) dW K):∃e,K e/\hE P o dC O e:=by
 have⟨dx,dW,h,l,cP⟩:=Oi h;have⟨e,u,k,s⟩:=VL h l cP (λh=>hh);refine⟨e,u,λcX own M D a w r n x c9 g=>?_⟩;have cY:=g (.tmp t);rw[A]at cY;generalize b:a.eval (.tmp t)=v at cY
 cases cY with
 |d _ _ cY=>
  cases cY with|fn _ _ vs y i=>apply OP (λw=>ahT m j k a w b) (λw=>ai2 m j k a w b);have:=s cX own M D a w vs r n x c9 g ⟨y,i⟩;rw[WL]at this;exact this.mono λB w' z=>let ⟨v,p,q⟩:=z;⟨v,p,v,Z,q⟩
include cT in
theorem ai6{o c dC O K}(i:o.op=.call c)(h:NH T P o c dC O K):∃e,K e/\hE P o dC O e:=by
 unfold NH at h;split at h
 .rename_i b d;split at h
  .split at h
   .rename_i x a;split at h
    .rename_i t j;exact ai0 cT i d a j h
    simp_all
   simp_all
  .split at h
   .rename_i x y a
    exact WI (g:=min) (s:=WM) i d a (λ_ _ _ _=>Z) (λB t2 k n m w=>by
     refine⟨?_,by rfl⟩;simp[WM,ai7,ai8,Builtin.min2,hc,hU,hj]
     grind) h
   simp_all
  .split at h
   .rename_i x y a
    exact WI (g:=max) (s:=aja) i d a (λ_ _ _ _=>Z) (λB t2 k n m w=>by
     refine⟨?_,by rfl⟩;simp[aja,ai7,ai8,Builtin.max2,hc,hU,hj]
     grind) h
   simp_all
  .split at h
   .rename_i x y a;split at h
    .rename_i t t2 j;split at h
     .rename_i E p;split at h
      .rename_i e l;exact ai1 cT i d a j l p h
      simp_all
     .rename_i F p;split at h
      .rename_i e l;split at h
       .rename_i b dz n C v;split at h
        .rename_i A q z;exact aiK cT i d a j l p v z h
        simp_all
       .rename_i v;split at h
        .rename_i A q z;exact aiL cT i d a j l p v z h
        simp_all
       simp_all
      simp_all
     simp_all
    simp_all
   simp_all
  .split at h
   .rename_i x a;split at h
    .rename_i t j;split at h
     .rename_i e l;have g4:=i;have dj:=d;have dt:=a;have uz:c.args=#[x]:=by rw[<-z4];exact dt
      have uA:c.argTypes=#[t]:=by rw[<-z4];exact j
      obtain⟨mB,H⟩:=kR cT l;split at h
      .rename_i b dz n V J
       split at h
       .rename_i B hb
        refine⟨_,h,u6 λown M D a w c8 c9 I=>⟨.int .i64 V,?_⟩⟩;have cY:=I x;rw[J]at cY;generalize lM:a.eval x=v at cY
        cases cY with
        |jv _ _ _ _ _ G=>rw[(c9.fE b).2 G]at hb;cases hb
        |win _ _ _ _ cM k base G c0 aa ah W=>
         have:=aa V Z;subst this;exact⟨TA,λdq sr=>Ty,.d _ _ (.int _ _)⟩
       simp_all
      .rename_i J
       refine⟨_,h,u6 λown M D a w c8 c9 I=>⟨.int .i64 0,?_⟩⟩;have cY:=I x;rw[J]at cY;generalize lM:a.eval x=v at cY
       cases cY with
       |nil base=>
        exact⟨TA,λdq sr=>Ty,.d _ _ (.int _ _)⟩
      simp_all
     simp_all
    simp_all
   simp_all
  .split at h
   .rename_i x y a;split at h
    .rename_i t t2 j;split at h
     .rename_i e l;have dj:=d;have dt:=a;have tk:=j;have uz:c.args=#[x,y]:=xy
      have uA:c.argTypes=#[t,t2]:=ze
      have⟨mB,H⟩:=kR cT l;unfold U7 at h
      split at h
      .rename_i b dz n V J
       split at h
       .rename_i r cR hb;have⟨Q,h⟩:=qU h;have Q:=gE Q;subst Q;have⟨fT,h,aj⟩:=aiH (P:=P) h;have⟨⟨ak,ab⟩,h⟩:=k_ h;refine⟨_,h,rI λown M D a w al c8 c9 I=>?_⟩;have⟨R,e3,vs,ac,X,am⟩:=aj _ ab own M D w _ c8 c9 (I y);have cY:=I x;rw[J]at cY;generalize lM:a.eval x=v at cY
        cases cY with
        |jv _ _ _ _ _ G=>rw[(c9.fE b).2 G]at hb;cases hb
        |win _ _ _ _ cM k base G c0 aa ah W=>
         have⟨_,_,_,_,_,ad,_⟩:=c9.at_ b _ cM hb G
         have d6:(fT.take (uR fT.length n)).length=uR fT.length n:=by rw[o5];exact Nat.min_eq_left (Nat.min_le_left _ _)
         have au:uR fT.length n<=n:=Nat.min_le_right _ _
         have⟨w',dI,ae,af⟩:=OK (P:=P) c8 c9 hb G (dz:=dz) (base:=base) X.row X.size am (by rw[d6];omega) (by
          rcases W with h|h
          .exact .inl (by rw[h,ad])
          .right
           apply FT
           rw[d6];omega)
         have S:=af (.d (.int .i64 (uR fT.length n))) (.int .i64 (uR fT.length n)) (.d _ _ (.int _ _));rw[d6]at S
         have dQ:=X.run w λ_ _=>Z
         have ag:(lx (T e).size (uR fT.length n) (.slice R fT.length e3)).run P w=.ok vs w:=by
          rw[d6]at dQ
          cases R with
          |none=>exact dQ
          |some R=>exact dQ
         have an:∀dq∈(lx (T e).size (uR fT.length n) (.slice R fT.length e3)).events P w #[],h7 own M dq:=by
          have dQ:=X.rd w #[] λ_ _=>Z
          rw[d6]at dQ;intro dq sr;refine(dQ dq ?_).elim (λq=>by simp at q) id
          cases R with
          |none=>exact sr
          |some R=>exact sr
         refine⟨_,w',?_,λdq sr=>?_,S⟩
         rotate_left
         .simp[execOp,i,ip,dj,iq,builtin,uz,uA,lM,ac,WN,fx mB,iE cT w H,p7,ag,dI,goInt]at sr;exact(ae _ dq sr).elim (an dq) id
         simp only[execOp,i,ip,dj,iq,builtin,uz,uA,lM,ac,WN,fx mB,iE cT w H,p7,ag,dI,goInt,Array.map,hc,hU,hj];simp[WN,fx mB,iE cT w H,p7,ag,dI,goInt,lM,ac]
       simp_all
      simp_all
     simp_all
    simp_all
   simp_all
  .split at h
   .rename_i x a;split at h
    .rename_i t j;split at h
     .rename_i e l;have g4:=i;have dt:=a;have tk:=j;have uz:c.args=#[x]:=xy;have uA:c.argTypes=#[t]:=ze;have⟨mB,H⟩:=kR cT l;unfold U8 at h;split at h
      .rename_i b dz n V J;split at h
       .rename_i r cR hb;have⟨Q,h⟩:=qU h;have Q:=gE Q;subst Q;have⟨⟨ak,ab⟩,h⟩:=k_ h;refine⟨_,h,rI λown M D a w al c8 c9 I=>?_⟩;have cY:=I x;rw[J]at cY;generalize lM:a.eval x=v at cY
        cases cY with
        |jv _ _ _ _ _ G=>rw[(c9.fE b).2 G]at hb;cases hb
        |win _ _ _ _ cM k base G c0 aa ah W=>
         have⟨_,_,_,_,_,ad,_⟩:=c9.at_ b _ cM hb G;have⟨_,av,_,zl,_,_,_,⟨z,MG,ao⟩,_⟩:=(lW cT H).desc;have ai:(zeroValue e).run P w=.ok z w:=MF;have⟨ap,aw,aq⟩:=OL ao (Fu cT H) (p4 cT H) n M
         have Y:(eQ n (T e).zero).length=n:=p8 ..
         have⟨w',dI,ae,af⟩:=OK (P:=P) c8 c9 hb G (dz:=dz) (base:=base) ap (by rwa[Y]) (aq ab) (by rw[Y];omega) (by
          rcases W with h|h
          .exact .inl (by rw[h,ad])
          .right;apply FT
           rw[Y];omega)
         have S:=af (.dS []) (.tuple #[]) (.dS [] #[] Z λi x v h=>qB);rw[Y]at S;refine⟨_,w',?_,λdq sr=>?_,S⟩
         rotate_left
         .cases n with
          |zero=>simp[execOp,g4,ip,d,iq,builtin,uz,uA,lM,OQ,fx mB]at sr
          |succ n=>simp[execOp,g4,ip,d,iq,builtin,uz,uA,lM,OQ,fx mB,ai,dI,ed.zeroValue e P]at sr;exact(ae _ dq sr).elim (λq=>by simp at q) id
         cases n with
         |zero=>
          have:w'=w:=by
           have ar:(storeCells ⟨cM.blk,base,cL⟩ (oo z.cells 0).toList).run P w=.ok () w:=by simp[oo,storeCells]
           rw[ar]at dI
           cases dI;rfl
          subst this;simp[execOp,g4,ip,d,iq,builtin,uz,uA,lM,OQ,fx mB]
         |succ n=>simp[execOp,g4,ip,d,iq,builtin,uz,uA,lM,OQ,fx mB,ai,dI]
       simp_all
      simp_all
     simp_all
    simp_all
   simp_all
  simp_all
 .rename_i f d;split at h
  .rename_i f
   cases u:NG (ki dC c.args.toList) with|true=>rw[u]at h;exact ai3 i d h|false=>rw[u]at h;exact ai4 i d h
  .rename_i t;split at h
   .rename_i f cs r;refine ai5 i d ?_ h;unfold U_ at r;grind
   simp_all
  simp_all
 simp_all
theorem WO{P T}(cT:jL P T){t e}(h:(T t).k=.ptr e):P.underlying t=U (.pointer e):=by
 have⟨d,i,u,_,k,_,_,_,a,_⟩:=(lW cT (t:=t) ED).desc;rw[h]at k a
 cases d<;>simp[u5]at k
 simp_all
theorem afL{P}(w n t e a)(h:P.underlying t=U (.pointer e)):(oh (n+1) t (.pointer a) (.pointer cL)).run P w=.ok a.isNone w:=by cases a<;>simp[oh,fx h]
theorem ajd{P T}(cT:jL P T){t e hD x y O K}(c_:(T t).k=.ptr e)(h:Ff hD x y O K):
  ∃r,K ⟨.d (.bool r),[],cL⟩ /\ ∀own M D v u X Y w,er own M D O w->dZ M D x v->dZ M D y u->
   (do eqGuard hD t X Y v u;jA hD t v u:Sem dr).run P w=.ok (.bool r) w:=by
 have mB:=WO cT c_
 have f:∀(r:di),uV hD K r->∃io:di,K ⟨.d (.bool io),[],cL⟩ /\ ∀(a:dB g3) (X Y:fw) (w:da),r=a.isNone->
   (do eqGuard hD t X Y (.pointer a) (.pointer cL);jA hD t (.pointer a) (.pointer cL):Sem dr).run P w=.ok (.bool io) w:=by
  intro r c;unfold uV at c;split at c
  .exact⟨r,c,λa X Y w dQ=>Tz⟩
  .exact⟨!r,c,λa X Y w dQ=>Tz⟩
  .grind
 unfold Ff at h;split at h
 .split at h
  .rename_i b i j;split at h
   .rename_i B hb;have⟨r,c,c'⟩:=f _ h;refine⟨r,c,λown M D v u X Y w c9 cY mB=>?_⟩
    cases mB with
    |d _ _ mB=>
     cases mB
     cases cY with|ptr _ _ _ cM g=>simp_all|i6 _ _ _ _ g=>rw[(c9.fE b).2 g]at hb;cases hb
   simp_all
  .have⟨r,c,c'⟩:=f _ h;refine⟨r,c,λown M D v u X Y w c9 cY mB=>?_⟩
   cases mB with
   |d _ _ mB=>
    cases mB
    cases cY with|d _ _ cY=>cases cY;simp_all
  simp_all
 simp_all
include cT in
theorem WP{s f F l}(c:P.underlying s=U (.struct F))(b:F[f]?=U l)(z:(T l.type).k.known=N)(v):hM P (FA s v f):=by
 unfold FA;refine .bind (ed.at (.underlying _)) λw u w' r=>?_;rw[fx c]at r
 cases r
 simp[b];refine .bind' (ed.at (.sureAddr _)) λa=>.bind' ?_ λ_=>ed.at (.pure _);unfold fieldPlace;refine .bind (ed.at (.sizeOf _)) λw n w' r=>?_;rw[iE cT w z]at r
 cases r
 have:=p4 cT z;rw[cS R];exact ed.at (.pure _)
include cT in
theorem OR{t}(k:(T t).k.known=N){own M w b o}(h:∀i,i<(T t).size->(w.cell? ⟨b,o+i,cL⟩).isSome)(g:own b\/ ∃o v,M b o=U v):
  ∀dq∈(loadVar t ⟨b,o,cL⟩).events P w #[],h7 own M dq:=by
 intro dq e;simp only[loadVar,jz,Cd cT w k,kT,ed.isAgg t P w]at e
 cases a:(T t).k.agg with
 |true=>
  simp[a,nz,jz,iE cT w k,kT,ed.sizeOf t P w]at e
  have e:dq∈(loadCells ⟨b,o,cL⟩ (T t).size).events P w #[]:=by
   revert e
   cases (loadCells ⟨b,o,cL⟩ (T t).size).run P w<;>exact id
  rcases Je (P:=P) ⟨b,o,cL⟩ (T t).size 0 _ w #[] (λj l=>by rw[mL,mM];grind) dq e with q|⟨d,eb,f,m⟩
  .simp at q
  .unfold h7;simp_all
 |false=>
  simp only[a,rG,qF]at e;have⟨u,c⟩:=Option.isSome_iff_exists.1 (h 0 (p4 cT k));rcases Oo w _ #[] c dq e with q|⟨d,f⟩
  .simp at q
  .unfold h7;simp_all
include cT in
theorem WQ{t x O K}(h:wu T t x O K):
  ∀own M D w v,fp M w->er own M D O w->dZ M D x v->∀dq∈(sG t v).events P w #[],h7 own M dq:=by
 unfold wu at h
 have c_:(T t).k.known=N:=by
  cases n:(T t).k.known with|true=>rfl|false=>simp_all
 simp[c_,fF]at h;have Q:=x1 cT c_
 have o:∀(a:g3) (w:da),(sG t (.pointer (U a))).events P w #[]=(loadVar t a).events P w #[]:=λa w=>by rfl
 unfold E_ at h;split at h
 .rename_i b i j;split at h
  .rename_i c cN hb;have⟨u,c5⟩:=k_ h;subst u;have⟨fj,k,dv,cP⟩:=Ch c5 Q;intro own M D w v dt c9 cY
   cases cY with|ptr _ _ _ cM f=>have⟨p,cs,eV,q,y,r,z,A,_⟩:=c9.at_ b _ cM hb f;have⟨g,n,s⟩:=cP M D (λi=>cs[i]?) (λi x m=>A.den i x m);rw[o];exact OR cT c_ (λi cK=>by rw[sJ q];simp_all) (.inl p)|i6 _ _ _ _ f=>rw[(c9.fE b).2 f]at hb;cases hb
  .rename_i l cR cN hb;have⟨e,he,h⟩:=Fw h;have⟨fj,k,dv,cP⟩:=Ci h Q;intro own M D w v dt c9 cY
   cases cY with|ptr _ _ _ cM f=>have⟨p,cs,eV,q,y,r,z,F,B,_⟩:=c9.at_ b _ cM hb f;have⟨g,n,s⟩:=cP M D (λj=>cs[i*cR+j]?) (λj x m=>B.den i j e x he m);subst r;rw[o];exact OR cT c_ (λk cK=>by rw[sJ q];grind) (.inl p)|i6 _ _ _ _ f=>rw[(c9.fE b).2 f]at hb;cases hb
  simp_all
 .rename_i e j;have⟨fj,k,dv,cP⟩:=Ci h Q;intro own M D w v dt c9 cY
  cases cY with
  |d _ _ cY=>
   cases cY with|ix _ _ b off val d6 C=>have⟨g,n,s⟩:=cP M D (λi=>w.cell? ⟨b,off+i,cL⟩) (λi x m=>⟨val i,dt _ _ _ (d6 i x m),C i x m⟩);rw[o];have O:=p4 cT c_;exact OR cT c_ (λk cK=>by grind) (.inr (have E:j<e.length:=R;⟨_,_,d6 j _ (fq E)⟩))
 simp_all
include cT in
theorem aje{t e hD x y O K}(c_:(T t).k=.ptr e)(h:Ff hD x y O K):
  ∀own M D v u X Y w,er own M D O w->dZ M D x v->dZ M D y u->hM P (do eqGuard hD t X Y v u;jA hD t v u:Sem dr):=by
 have c:=WO cT c_
 have m:∀(r:di),uV hD K r->∀(a:dB g3) (X Y:fw),hM P (do eqGuard hD t X Y (.pointer a) (.pointer cL);jA hD t (.pointer a) (.pointer cL):Sem dr):=by
  intro r f a X Y
  have g:hM P (Fz t (.pointer a) (.pointer cL)):=by
   show hM P (oh (9999+1) t (.pointer a) (.pointer cL));unfold oh;refine .bind (ed.at (.underlying _)) λw u w' dQ=>?_;rw[fx c]at dQ
   cases dQ
   cases a<;>exact ed.at (.pure _)
  unfold uV at f;split at f
  .exact .bind' (ed.at (z2 _ _ _ _ _ _ dw dw)) λ_=>.bind' g λ_=>ed.at (.pure _)
  .exact .bind' (ed.at (z2 _ _ _ _ _ _ dw dw)) λ_=>.bind' g λ_=>ed.at (.pure _)
  .grind
 unfold Ff at h;split at h
 .split at h
  .rename_i b i j;split at h
   .rename_i B hb;intro own M D v u X Y w c9 cY c
    cases c with
    |d _ _ c=>
     cases c
     cases cY with|ptr _ _ _ cM l=>simp_all|i6 _ _ _ _ l=>rw[(c9.fE b).2 l]at hb;cases hb
   simp_all
  .intro own M D v u X Y w c9 cY c
   cases c with
   |d _ _ c=>
    cases c
    cases cY with|d _ _ cY=>cases cY;simp_all
  simp_all
 simp_all
include cT in
theorem CB{o dC O K}(h:hz T P o dC O K):∃e,K e/\hE P o dC O e:=by
 unfold hz at h;split at h
 case h_1 x g4=>exact rJ (s:=λf=>pure (f x)) (λf=>ma) (λf=>ed.at (.pure _)) K (tG h).1 λown M D a w _ _ gW=>⟨_,Z,gW x⟩
 case h_2 x g4=>exact rJ (s:=λf=>pure (f x)) (λf=>ma) (λf=>ed.at (.pure _)) K (tG h).1 λown M D a w _ _ gW=>⟨_,Z,gW x⟩
 case h_3 c x y g4=>
  have ah:∀(b:di) (z:fw),(∀(M:eI) (D:gD) v,dZ M D (dC c) v->v=.bool b)->(z=if b then x else y)->na (dC z) (val K)->∃e,K e/\hE P o dC O e:=by
   intro b z hb ad h;refine rJ (s:=λf=>do pure (if <-asBool (f c) then f x else f y)) (λf=>ma) (λf=>.bind' (ed.at (.asBool _)) λ_=>ed.at (by split<;>exact .pure _)) K (tG h).1 λown M D a w _ _ gW=>⟨_,?_,gW z⟩;rw[hb M D _ (gW c),ad]
   cases b<;>rfl
  split at h
  .rename_i dj;exact ah N x (λM D v cY=>by rw[dj]at cY;cases cY;rfl) Z h
  .rename_i dj;exact ah L y (λM D v cY=>by rw[dj]at cY;cases cY;rfl) Z h
  .rename_i b dj;rcases wD h with⟨rfl,Q⟩|⟨rfl,Q⟩
   .exact ah N x (λM D v cY=>og (dj▸cY)) Z Q
   .exact ah L y (λM D v cY=>og (dj▸cY)) Z Q
  simp_all
 case h_4 t x g4=>
  have⟨fj,aa,c'⟩:=ahI cT h
  exact z3 (s:=λf=>sG t (f x)) (λf=>ma) K aa λown M D a w c8 c9 gW=>by
   have⟨r,Q,c5⟩:=c' own M D w _ c8 c9 (gW x);exact⟨r,Q,WQ cT h own M D w _ c8 c9 (gW x),c5⟩
 case h_5 x g4=>
  split at h
  .rename_i b i j eE;split at h
   .rename_i B hb;refine⟨_,h,u6 λown M D a w c8 c9 gW=>⟨a.eval x,?_⟩⟩;have cY:=gW x;rw[eE]at cY;generalize lM:a.eval x=v at cY
    cases cY with
    |ptr _ _ _ cM J=>exact⟨HP,tF HP,.ptr _ _ _ cM J⟩
    |i6 _ _ _ _ J=>rw[(c9.fE b).2 J]at hb;cases hb
   simp_all
  .rename_i c j eE;refine⟨_,h,u6 λown M D a w c8 c9 gW=>⟨a.eval x,?_⟩⟩;have cY:=gW x;rw[eE]at cY;generalize lM:a.eval x=v at cY
   cases cY with
   |d _ _ cY=>
    cases cY with
    |ix _ _ b off val d6 ak=>exact⟨HP,tF HP,.d _ _ (.ix _ _ b off val d6 ak)⟩
  simp_all
 case h_6 op t x y k g4=>
  split at h
  .rename_i e c_;have⟨r,aa,c'⟩:=ajd cT c_ h;exact z3 (s:=λf=>do eqGuard op t x y (f x) (f y);jA op t (f x) (f y)) (λf=>ma) K aa λown M D a w c8 c9 gW=>⟨_,c' own M D _ _ x y w c9 (gW x) (gW y),tF (aje cT c_ h own M D _ _ x y w c9 (gW x) (gW y) w #[]),.d _ _ (.bool r)⟩
  .have⟨fj,aa,c'⟩:=ahJ cT h
   exact z3 (s:=λf=>do eqGuard op t x y (f x) (f y);jA op t (f x) (f y)) (λf=>ma) K aa λown M D a w c8 c9 gW=>by
    have⟨r,Q,c5⟩:=c' M D _ _ (gW x) (gW y) x y w;exact⟨r,Q,tF (aiX cT h M D _ _ (gW x) (gW y) x y w #[]),c5⟩
 case h_7 op t x g4=>
  split at h
  .split at h
   .rename_i b eE;exact rJ (s:=λf=>FV .not (f x)) (λf=>ma) (λf=>ed.at (Jp _ _)) K h λown M D a w c8 c9 gW=>⟨.bool (!b),by have uy:=og (eE▸gW x);rw[uy];rfl,.d _ _ (.bool _)⟩
   .rename_i eE
    exact rJ (s:=λf=>FV .not (f x)) (λf=>ma) (λf=>ed.at (Jp _ _)) K h λown M D a w c8 c9 gW=>⟨.bool L,by
     have cY:=gW x;rw[eE]at cY;generalize lM:a.eval x=v at cY
     cases cY;rfl,.fd⟩
   .rename_i eE
    exact rJ (s:=λf=>FV .not (f x)) (λf=>ma) (λf=>ed.at (Jp _ _)) K h λown M D a w c8 c9 gW=>⟨.bool N,by
     have cY:=gW x;rw[eE]at cY;generalize lM:a.eval x=v at cY
     cases cY;rfl,.eN⟩
   simp_all
  .split at h
   .rename_i k n eE;exact rJ (s:=λf=>FV .xor (f x)) (λf=>ma) (λf=>ed.at (Jp _ _)) K h λown M D a w c8 c9 gW=>⟨_,by have uy:=kH (eE▸gW x);rw[uy];rfl,.d _ _ (.int _ _)⟩
   simp_all
  simp_all
 case h_8 fT dst x g4=>
  split at h
  .rename_i k c_;split at h
   .rename_i eK eR;split at h
    .rename_i fo n eE;have aa:=Fv h;exact z3 (s:=λf=>x' fT dst (f x)) (λf=>ma) K aa λown M D a w c8 c9 gW=>⟨_,Tx,tF Tx,.d _ _ (.int _ _)⟩
    simp_all
   simp_all
  .rename_i c_;split at h
   .rename_i e eR;split at h
    .rename_i al aB
     cases aC:d3 (kf al) 4 with
     |false=>simp_all
     |true=>
      rw[aC]at h
      have aL:al=.u8:=by cases al<;>first|rfl|exact dN aC cZ
      subst aL;have⟨l,h,aM⟩:=Oq (P:=P) (show BY 1 (dC x) O _ from h);split at h
      .rename_i dW aN;refine z3 (s:=λf=>x' fT dst (f x)) (λf=>ma) K h λown M D a w c8 c9 gW=>?_;have⟨eb,bb,vs,ab,c',_⟩:=aM own M D w _ c8 c9 (gW x);rw[ab]at c';refine⟨_,?_,λdq aD=>WH c' dq (by rw[ab]at aD;simpa[x',fx (wC cT c_),fx (kR cT eR).1,fx (v4 cT aB)]using aD),.d _ _ (.str _)⟩;rw[ab,run_convert_bytes_string w fT dst e eb _ _ (kR cT eR).1 (v4 cT aB) (wC cT c_)];exact WF c' aN
      simp_all
    simp_all
   simp_all
  simp_all
 case h_9 t x dz cK oa g4=>exact aiG cT g4 h
 case h_10 s x f g4=>
  split at h
  .rename_i b i j eE;split at h
   .rename_i B hb;have⟨F,jC,ab,ee,c_,aa⟩:=Od cT h;refine rJ (s:=λg=>FA s (g x) f) (λf=>ma) (λf=>WP cT ab ee c_ _) K aa λown M D a w c8 c9 gW=>?_;have cY:=gW x;rw[eE]at cY;generalize lM:a.eval x=v at cY
    cases cY with
    |ptr _ _ _ cM J=>exact⟨_,Vx cT ab ee c_ _ _ w,by rw[FB];exact .ptr b i _ cM J⟩
    |i6 _ _ _ _ J=>rw[(c9.fE b).2 J]at hb;cases hb
   simp_all
  .rename_i c j eE;have⟨F,jC,ab,ee,c_,aa⟩:=Od cT h;refine rJ (s:=λg=>FA s (g x) f) (λf=>ma) (λf=>WP cT ab ee c_ _) K aa λown M D a w c8 c9 gW=>?_;have cY:=gW x;rw[eE]at cY;generalize lM:a.eval x=v at cY
   cases cY with
   |d _ _ cY=>
    cases cY with
    |ix _ _ b off val d6 ak=>exact⟨_,Vx cT ab ee c_ _ _ w,by rw[FB];exact .d _ _ (.ix c _ b off val d6 ak)⟩
  simp_all
 case h_11 s x f g4=>
  split at h
  .rename_i c eE;have⟨F,jC,ab,ee,c_,h⟩:=Od cT h;have⟨fj,aa,dv,cP⟩:=Ch h (x1 cT c_);refine rJ (s:=λg=>NV s (g x) f) (λf=>ma) (λf=>ed.at (ahr _ _ _)) K aa λown M D a w c8 c9 gW=>?_;have cY:=gW x;rw[eE]at cY;have⟨vs,am,c',an⟩:=x2 cY
   have⟨g,aO,aP⟩:=cP M D (λi=>vs[i]?) (λi x eE=>by
    have pn:i<vs.size:=by rw[c'];exact(f_.1 eE).1
    exact⟨vs[i],uE,an i x _ eE uE⟩)
   refine⟨_,?_,aP⟩;rw[am];simp[NV,asAgg,hc,hU,hj,fx ab,ee,part,Cd cT w c_]
   cases dt:(T jC.type).k.agg with
   |true=>
    simp[nz,hc,iE cT w c_,hj,hU]
    congr 2
    grind
   |false=>have:=aO 0 (by have:=p4 cT c_;omega);simp_all
  simp_all
 case h_12 t x i g4=>have⟨fj,aa,c'⟩:=ahL cT h;exact rJ (s:=λf=>Instr.indexAt t (f x) (f i)) (λf=>ma) (λf=>ed.at (II _ _ _)) K aa λown M D a w c8 c9 gW=>c' own M D w _ _ c9 (gW x) (gW i)
 case h_13 t x i g4=>have⟨fj,aa,c'⟩:=ahM cT h;exact rJ (s:=λf=>Instr.index t (f x) (f i)) (λf=>ma) (λf=>ed.at (ahs _ _ _)) K aa λown M D a w c8 c9 gW=>c' M D w _ _ (gW x) (gW i)
 case h_14 x i g4=>
  split at h
  .rename_i c eE;unfold xP at h;split at h
   .rename_i y ai;refine rJ (s:=λf=>NW (f x) i) (λf=>ma) (λf=>ed.at (aht _ _)) K (tG h).1 λown M D a w c8 c9 gW=>?_;have cY:=gW x;rw[eE]at cY;have⟨vs,am,c',an⟩:=ahG cY
    have pn:i<vs.size:=by rw[c'];exact(f_.1 ai).1
    exact⟨vs[i],by rw[am];simp[NW,pn],an i y _ ai uE⟩
   simp_all
  simp_all
 case h_15 t aQ g4=>exact aic cT g4 h
 case h_16 t g4=>
  split at h
  .rename_i d cP;exact ah5 cT g4 h
  simp_all
 case h_17 t x g4=>
  split at h
  .rename_i d cP;have h:=(tG h).1
   cases k:sC O (cellsOf (dC x)) with
   |false=>simp_all
   |true=>
    simp[k,fF]at h;refine⟨_,Fy h,rI λown M D a w n q c9 i=>?_⟩;have⟨ac,m,u⟩:=I5 c9 k (i x);have r:=ah4 ac m
    have g:tw M D (a.eval x).cells (ht.cells d (cellsOf (dC x))):=by
     refine⟨by rwa[FE],λj y f=>?_⟩;rw[FD]at f
     cases b:(cellsOf (dC x))[j]? with
     |none=>simp_all
     |some z=>simp[b,jB,fC]at f;subst f;have⟨v,dI,p⟩:=r.den j z b;exact⟨v,dI,p.ev d⟩
    refine⟨_,w.alloc (.cells (a.eval x).cells t),?_,tF (by simp[execOp,g4,ajg,newVar,newRow]),VR n q c9 g λy f=>?_⟩
    .simp[execOp,g4,ajg,VQ]
    .obtain⟨j,s,rfl⟩:=List.getElem_of_mem f;have:=FD d (cellsOf (dC x)) j;rw[fq s]at this
     cases b:(cellsOf (dC x))[j]? with
     |none=>simp_all
     |some z=>simp[b,jB,fC]at this;rw[this];exact Nq d z
  simp_all
 case h_18 t x y g4=>
  split at h
  .rename_i b i j eE;split at h
   .rename_i c hb;have iN:=(tG h).1;clear h;have cK:=(k_ iN).1;have h:=(k_ iN).2;clear iN;subst cK
    cases c_:(T t).k.known&&d3 (cellsOf (dC y)).length (T t).size with
    |false=>simp_all
    |true=>
     simp only[c_,fF]at h;simp only[lV]at c_;have ao:=gE c_.2
     cases dj:sC O (cellsOf (dC y)) with
     |false=>simp_all
     |true=>
      cases dv:hn (j+(T t).size) c.length with
      |false=>simp_all
      |true=>
       simp[dj,dv,fF]at h;have aR:=tt dv;have h:=aia R h;refine⟨_,h,VP λown M D a w aS dt c9 gW=>?_⟩;have⟨ac,ap,aq⟩:=I5 c9 dj (gW y);have lM:=gW x;rw[eE]at lM;generalize aE:a.eval x=aT at lM
       cases lM with
       |i6 _ _ _ _ J=>rw[(c9.fE b).2 J]at hb;cases hb
       |ptr _ _ _ cM J=>
        have⟨aU,cs,eV,aV,bc,aF,fh,aG,bd⟩:=c9.at_ b _ cM hb J;have aH:=c9.closed J _ hb Z;have⟨aI,dI,ar,au,av,aj,aw,ax⟩:=I9 (P:=P) (own:=own) dt aU aH aV (a.eval y).cells.toList j (by simp_all) aq;refine⟨w.setRow cM.blk aI,?_,?_,M,D,au,.refl M,ar,.refl _ _,?_,λ_ _=>Z,.dead _⟩
        .have:(0*cM.cR+j)=j:=R
         simp[execOp,g4,aE,z5,lU,VW cT c_.1 (v:=a.eval y) (by rw[ac,ao]) dI.1]
        .intro dq he;apply dI.2 dq;have uy:=R;simpa[execOp,g4,aE,z5,lU,VX cT c_.1 (v:=a.eval y) (by rw[ac,ao]),uy]using he
        .refine c9.set b (.box (iC c j (cellsOf (dC y))) L) MP (.refl M) (λe=>by rw[J]at e;cases e) (λek ae=>?_) λd7 ek aW ae=>⟨ax _ λe=>aW (c9.inj d7 b ek cM ae J e),c9.closed ae⟩;rw[J]at ae;cases ae
         refine⟨aI,eV,av,by rwa[aj],by rwa[zW],by rwa[zW],⟨by rw[zW,aj];exact aG.size,λk z ad=>?_⟩,sq,λ_=>aH⟩;rw[Cp _ _ _ _ (by rwa[ao])]at ad;rw[aw k]
         have ay:(a.eval y).cells.toList.length=(cellsOf (dC y)).length:=by simpa using ac
         rw[ay];split at ad
         .rename_i af;rw[if_pos af];have eR:=(f_.1 ad).1;have:(a.eval y).cells.toList[k-j]?=U ((a.eval y).cells.toList[k-j]' R):=fq _;exact⟨_,this,ap (k-j) z _ ad Ub⟩
         .rename_i af;rw[cS af];exact aG.den k z ad
   .rename_i l cR hb;have h:=(tG h).1
    cases B:conv.cells O (cellsOf (dC y)) with
    |none=>simp_all
    |some dD=>
     simp only[B]at h
     cases dh:(T t).k.known&&d3 (cellsOf (dC y)).length (T t).size&&!kp b (g8.cells O (cellsOf (dC y))) with
     |false=>simp_all
     |true=>
      simp only[dh,fF]at h;simp only[lV]at dh;have n:=gE dh.1.2;have aX:=ah8 (by simpa using dh.2)
      cases dj:sC O (cellsOf (dC y)) with
      |false=>simp_all
      |true=>
       simp only[dj,fF]at h;have⟨e,cU,h⟩:=Fw h
       cases dv:hn (j+(T t).size) e.length with
       |false=>simp_all
       |true=>
        simp[dv,fF]at h;have aR:=tt dv;refine⟨_,h,VP λown M D a w aS dt c9 X=>?_⟩;have⟨az,s1,aF,fA,Q,eB,aY⟩:=wF (ho:=O) (g8.cells O (cellsOf (dC y))) M O dt c9 (.refl O)
        have A:gu O (gh O (g8.cells O (cellsOf (dC y)))) b=U (.row l cR L):=by rwa[FJ _ _ aX]
        have⟨ac,ap,aq⟩:=I5 c9 dj (X y);have⟨aZ,a0⟩:=Cm B
        have a1:∀(k:V) (d:c3),dD[k]?=U d->∃u,(a.eval y).cells[k]?=U u/\e4 az d u:=by
         intro k d cP;have⟨z,fV,gY,_⟩:=a0 k d cP;have be:=(f_.1 fV).1
         have ab:(a.eval y).cells[k]?=U (a.eval y).cells[k]:=dw
         refine⟨_,ab,wG Q (by rwa[Og eB]) ?_ ((ap k z _ fV ab).mono s1)⟩;have:=x4 (ho:=O) (λb l cR cN hb e=>aY b l cR cN (.inl hb) e) eB (.agg (cellsOf (dC y))) (λb hb=>by simpa[g8]using hb);obtain⟨_,_,bf⟩:=(Cm (O:=gu O (gh O (g8.cells O (cellsOf (dC y))))) (by rw[IU eB];exact B)).2 k d cP
         have H:∀(c:I dp) (O:V->dB d4),g8.cells O c=[]->∀(k:V) (z:dp),c[k]?=U z->g8.one O z=[]:=by
          intro c O
          induction c with
          |nil=>intro _ k z H;simp at H
          |cons q r a2=>
           intro aA k z H;simp[g8.cells,zT]at aA
           cases k with
           |zero=>simp at H;subst H;exact aA.1
           |succ k=>exact a2 aA.2 k z (by simpa using H)
         exact H _ _ (by simpa[g8]using this) k z fV
        have G:=X x;rw[eE]at G;generalize de:a.eval x=aT at G
        cases G with
        |i6 _ _ _ _ J=>rw[(c9.fE b).2 J]at hb;cases hb
        |ptr _ _ _ cM J=>
         have⟨F,cs,eV,C,a3,a4,a5,aJ,ag,bg⟩:=Q.at_ b _ cM A J;subst a4;have db:=Q.closed J _ A Z;have bh:=ag.len i e cU;have a6:=(f_.1 cU).1
         have a7:i*cM.cR+j+(T t).size<=cs.size:=by
          rw[a3];refine fG ?_ aJ
          calc i*cM.cR+j+(T t).size<=i*cM.cR+cM.cR:=R
           _=(i+1)*cM.cR:=by rw[qR,FL]
           _<=l.length*cM.cR:=mh _ a6
         have⟨dc,dI,ar,au,av,aj,aw,ax⟩:=I9 (P:=P) (own:=own) aF F db C (a.eval y).cells.toList (i*cM.cR+j) (by simp[ac,n];exact a7) aq;refine⟨w.setRow cM.blk dc,?_,?_,az,D,au,s1,ar,fA,?_,λ_ _=>Z,.dead _⟩
         .simp[execOp,g4,de,z5,lU,VW cT dh.1.1 (v:=a.eval y) (by rw[ac,n]) dI.1]
         .intro dq cU;have:=dI.2 dq (by simpa[execOp,g4,de,z5,lU,VX cT dh.1.1 (v:=a.eval y) (by rw[ac,n])]using cU);exact ahB fA this
         .have a8:(⟨.dead,gh O (g8.cells O (cellsOf (dC y)))++[(b,.row (l.set i (iC e j dD)) cM.cR L)],cL⟩:gp).O O=eS (gu O (gh O (g8.cells O (cellsOf (dC y))))) b (U (.row (l.set i (iC e j dD)) cM.cR L)):=by
           simp[gp.O,zV,gu];rfl
          rw[a8];refine Q.set b _ (by rw[A];simp) (.refl az) (λe=>by rw[J]at e;cases e) (λek m=>?_) λd7 ek E m=>⟨ax _ λe=>E (Q.inj d7 b ek cM m J e),Q.closed m⟩;rw[J]at m;cases m
          have W:dD.length=(T t).size:=by rw[aZ,n]
          refine⟨dc,eV,av,by rwa[aj],Z,by simpa using a5,by simpa using aJ,⟨λp Y f=>?_,λp cX Y aK f g=>?_⟩,(by intro e;cases e),λ_=>db⟩
          .rw[ly]at f;split at f
           .simp at f;subst f;rwa[zW]
           .exact ag.len p Y f
          .rw[aw]
           have ay:(a.eval y).cells.toList.length=(T t).size:=by simp[ac,n]
           rw[ay];rw[ly]at f;split at f
           .rename_i S;subst S;simp at f;subst f;rw[Cp _ _ _ _ (by rwa[W])]at g;rw[W]at g;split at g
            .rename_i af;rw[if_pos ⟨by omega,by omega⟩];have⟨u,a9,a_⟩:=a1 _ _ g;exact⟨u,by rw[show i*cM.cR+cX-(i*cM.cR+j)=cX-j by omega];simpa using a9,a_⟩
            .rename_i af;rw[cS R];exact ag.den i cX e aK cU g
           .rename_i S;have a':=(f_.1 g).1;rw[ag.len p Y f]at a'
            have E:¬(i*cM.cR+j<=p*cM.cR+cX/\p*cM.cR+cX<i*cM.cR+j+(T t).size):=by
             rintro⟨hi,bi⟩;rcases jr p i with pn|ax0
             .have:(p+1)*cM.cR<=i*cM.cR:=mh _ pn;rw[qR,FL]at this;omega
             .have ba:i+1<=p:=R
              have:(i+1)*cM.cR<=p*cM.cR:=mh _ ba;rw[qR,FL]at this;omega
            rw[cS E];exact ag.den p cX Y aK f g
   simp_all
  simp_all
 case h_19 t x y g4=>
  split at h
  .rename_i d cP;split at h
   .rename_i e c_;split at h
    .rename_i k1 n eE;split at h
     .rename_i eK c ai;exact aih cT g4 eE ai c_ h
     simp_all
    simp_all
   simp_all
  simp_all
 case h_20 t n aQ g4=>
  split at h
  .rename_i d cP;exact aif cT g4 h
  simp_all
 case h_21 fn first cap g4=>
  split at h
  .rename_i f;exact aiC g4 h
  simp_all
 case h_22 c g4=>exact ai6 cT g4 h
 simp_all
end
end Go.Lk
namespace Go.Lk
open Go Go.Conc Go.Proofs
set_option maxRecDepth 100000
noncomputable def e7(n:V)(g:dP):dP:=zO cQ N n g
def o2(g:dP):eF:=match (e6 g).op with
 | .load t _=>t
 | .store t _ _=>t
 | .indexAddr t _ _=>t
 |_=>0
def pw(g:dP):fw:=match (e6 g).op with
 | .load _ x=>x
 | .store _ x _=>x
 | .indexAddr _ x _=>x
 |_=>.tmp 0
def x9(g:dP):fw:=match (e6 g).op with
 | .store _ _ y=>y
 | .indexAddr _ _ y=>y
 |_=>.tmp 0
def u'(g:dP):d' fw:=match (e6 g).op with
 | .call c=>c.args
 |_=>#[]
def FO(g:dP):d' eF:=match (e6 g).op with
 | .call c=>c.argTypes
 |_=>#[]
abbrev dE(main:di)(F:V->Prop)(dy:dP->da->Prop)(g:dP)(w:da):=dR cQ main (e0 F) (jd F) dy g w
section
variable {main:di} {F:V->Prop} {dy:dP->da->Prop} {g g':dP} {w:da}
theorem o3{n}(cW:zO cQ main n g=e7 n g:=by kernel_rfl)(Q:∀w,NX cQ main n g w=NY cQ main n g w:=by intro w;kernel_rfl)(h:NZ cQ main n g=N1 n:=by kernel_rfl):j1 cQ main g (e7 n g):=oe n cW Q h
theorem dE.p(n:V)(k:dE main F dy (e7 n g) w)(h:j1 cQ main g (e7 n g):=by exact o3):dE main F dy g w:=dR.pure tC.trans oZ h k
theorem dE.q(g')(n:V)(k:dE main F dy g' w)(e:e7 n g=g':=by kernel_rfl)(h:j1 cQ main g (e7 n g):=by exact o3):dE main F dy g w:=dE.p n (e▸k) h
end
section
variable {P:en} {main:di} {cU:da->da->Prop} {c3:da->da->d' hJ->Prop} {dy:dP->da->Prop} {g g':dP} {w:da}
theorem dE.e(k:dR P main cU c3 dy g' w)(h:g=g':=by kernel_rfl):dR P main cU c3 dy g w:=h▸k
theorem dE.h(f:(V->dr)->dP)(k:∀v,dR P main cU c3 dy (f v) w)(h:g=f (λt=>g.frame.tmps.getD t undef):=by kernel_rfl):dR P main cU c3 dy g w:=by rw[h];exact k _
theorem dE.b(t:V)(b:di)(k:b=N->dR P main cU c3 dy (tB g t (.bool N)) w)(l:b=L->dR P main cU c3 dy (tB g t (.bool L)) w)(h:g=tB g t (.bool b):=by kernel_rfl):dR P main cU c3 dy g w:=by
 rw[h]
 cases b with|true=>exact k Z|false=>exact l Z
theorem dE.c(t:V)(p:Prop)[Decidable p](k:p->dR P main cU c3 dy (tB g t (.bool N)) w)(l:¬p->dR P main cU c3 dy (tB g t (.bool L)) w)(h:g=tB g t (.bool (decide p)):=by kernel_rfl):dR P main cU c3 dy g w:=dE.b t _ (λq=>k (of_decide_eq_true q)) (λq=>l (of_decide_eq_false q)) h
theorem sL{P ops n l a d8}(i:V)(v:dr)(k:u4 P ops n (l.setIfInBounds i N) (a.put (ops[i]?.getD default).dst v) d8)(cY:∀w,(execOp a.eval (ops[i]?.getD default)).run P w=.ok (.value v) w/\ (execOp a.eval (ops[i]?.getD default)).events P w #[]=#[]:=by intro w;constructor<;>kernel_rfl)
 (cK:ops[i]?=U (ops[i]?.getD default):=by kernel_rfl)(ee:Region.free .any ops l i=N:=by kernel_rfl)(dQ:(mF .any ops l).contains i=N:=by kernel_rfl)(hw:js (ops[i]?.getD default) (yielded ops a.tmps)=N:=by kernel_rfl):u4 P ops (n+1) l a d8:=.take n i _ v l a d8 cK ee dQ hw cY k
end
def Oz(main:di)(F:V->Prop)(f:im)(fn:Func)(dO:dr->da->Prop)(cs:I g6)(dy:dP->da->Prop):Prop:=∀(g:dP) (v:dr) (w:da),dO v w->g=G {(base f).at (eA g) g.frame.todo with mode:=.returning} cs->(eA g).defers=[]->(∀w,(results fn (eA g).tmps).run cQ w=.ok v w/\ (results fn (eA g).tmps).events cQ w #[]=#[])->dE main F dy g w
theorem Oz.z{main F f fn dO cs dy g v w}(k:Oz main F f fn dO cs dy)(p:dO v w)(e:g=G {(base f).at (eA g) g.frame.todo with mode:=.returning} cs:=by kernel_rfl)(x:(eA g).defers=[]:=by kernel_rfl)(r:∀w,(results fn (eA g).tmps).run cQ w=.ok v w/\ (results fn (eA g).tmps).events cQ w #[]=#[]:=by intro w;constructor<;>kernel_rfl):dE main F dy g w:=k g v w p e x r
theorem qV{main F f fn args w}{dO:dr->da->Prop}(d:cQ.funcs[f]?=U fn)(h:∀cs dy,Oz main F f fn dO cs dy->dE main F dy (G ((base f).at {tmps:=args++kM (fn.ntmps-args.size) undef,defers:=[]} [.code (fn.body.getD .skip)]) cs) w)
 (n:(fn.name== "runtime.NumGoroutine")=L:=by kernel_rfl)(b:fn.body=U (fn.body.getD .skip):=by kernel_rfl):g7 cQ main F f args w dO:=
 Vm d n b λcs S k=>h cs S λg v w' p e x r=>by rw[e];exact k _ _ _ x ⟨v,ahy r,p⟩
theorem dE.k{main F f vs w}{dO:dr->da->Prop}{dy:dP->da->Prop}{g:dP}(c:g7 cQ main F f vs w dO)(k:∀v w',dO v w'->dE main F dy (put g v) w')(o:(e6 g).op=.call {callee:=.value (.func f),args:=u' g,argTypes:=FO g}:=by kernel_rfl)(y:(u' g).map (eA g).eval=vs:=by kernel_rfl)(h:iD g:=by exact kP):dE main F dy g w:=dR.IN h o y c k
end Go.Lk
namespace Go.Lk.Dk
open Go Go.Conc Go.Proofs
structure mi(g:dP):Prop where
 eq:g=G g.frame g.callers
 mode:g.frame.mode=.run
 kind:(g.frame.kind==zP)=L
 o4:g.frame.todo=.inRegion (jg g) (lu g::lv g)::g.frame.todo.tail
 op:(jg g)[lu g]?=U (e6 g)
 wanted:js (e6 g) (yielded (jg g) g.frame.tmps)=N
 eO:(match (e6 g).op with| .defer _=>L|_=>N)=N
theorem sM{g:dP}(Q:g=G g.frame g.callers:=by kernel_rfl)(h:g.frame.mode=.run:=by kernel_rfl)(a:(g.frame.kind==zP)=L:=by kernel_rfl)(b:g.frame.todo=.inRegion (jg g) (lu g::lv g)::g.frame.todo.tail:=by kernel_rfl)
  (du:(jg g)[lu g]?=U (e6 g):=by kernel_rfl)(dY:js (e6 g) (yielded (jg g) g.frame.tmps)=N:=by kernel_rfl)(c:(match (e6 g).op with| .defer _=>L|_=>N)=N:=by kernel_rfl):mi g:=⟨Q,h,a,b,du,dY,c⟩
theorem aip(g):g.frame.eval=(eA g).eval:=by rfl
def f'(g:dP)(v:dr):dP:=G (g.frame.finish v) g.callers
section
variable {P:en} {main:di} {cU:da->da->Prop} {c3:da->da->d' hJ->Prop} {dy:dP->da->Prop} {g:dP} {w w':da} {v:dr} {l:V}
theorem mi.app(h:mi g):stepG P main g w=stepG.apply P N g.frame g.callers cL (execOp (eA g).eval (e6 g)) w:=by
 have⟨⟨fn,tmps,todo,defers,mode,k,r⟩,cs,st,d,off⟩:=g;have⟨Q,a,l,f,du,dY,j⟩:=h;simp at Q
 cases Q
 simp only at a f dY;subst a;rw[<-aip];have t:todo=.inRegion (jg (G ⟨fn,tmps,todo,defers,.run,k,r⟩ cs)) (lu (G ⟨fn,tmps,todo,defers,.run,k,r⟩ cs)::lv (G ⟨fn,tmps,todo,defers,.run,k,r⟩ cs))::todo.tail:=f
 generalize O:jg (G ⟨fn,tmps,todo,defers,.run,k,r⟩ cs)=ops at*
 generalize dh:lu (G ⟨fn,tmps,todo,defers,.run,k,r⟩ cs)=i at*
 generalize cU:lv (G ⟨fn,tmps,todo,defers,.run,k,r⟩ cs)=rest at*
 have e:ops[i]?=U (e6 (G ⟨fn,tmps,todo,defers,.run,k,r⟩ cs)):=by rwa[<-O,<-dh]
 have b:js (e6 (G ⟨fn,tmps,todo,defers,.run,k,r⟩ cs)) (yielded ops tmps)=N:=by rwa[<-O]
 have c:(match (e6 (G ⟨fn,tmps,todo,defers,.run,k,r⟩ cs)).op with| .defer _=>L|_=>N)=N:=j;show stepG P main (G ⟨fn,tmps,todo,defers,.run,k,r⟩ cs) w=stepG.apply P N ⟨fn,tmps,todo,defers,.run,k,r⟩ cs cL (execOp (Frame.eval ⟨fn,tmps,todo,defers,.run,k,r⟩) (e6 (G ⟨fn,tmps,todo,defers,.run,k,r⟩ cs))) w
 generalize e6 (G ⟨fn,tmps,todo,defers,.run,k,r⟩ cs)=o at*
 clear du dY j f;rw[t];simp[G,stepG,stepG.exec,e,Option.map,b,Option.getD,nz,stepG.oper,Frame.oper?];grind
theorem mi.value(h:mi g)(r:(execOp (eA g).eval (e6 g)).run P w=.ok (.value v) w'):stepG P main g w=.go (f' g v) w' (listed P g.frame.fn (eA g) (e6 g) w):=by rw[h.app];simp[stepG.apply,r,f',G,h.kind,tq,listed]
theorem mi.skip(h:mi g)(r:(execOp (eA g).eval (e6 g)).run P w=.ok .skip w'):stepG P main g w=.go (f' g undef) w' (listed P g.frame.fn (eA g) (e6 g) w):=by rw[h.app];simp[stepG.apply,r,f',G,h.kind,tq,listed]
theorem mi.run(h:mi g):g.status=.running:=by rw[h.eq];rfl
theorem dR.zZ (h:mi g) (dQ:∀ c2,cU w c2->∃ v w',(execOp (eA g).eval (e6 g)).run P c2=.ok (.value v) w'/\c3 c2 w' (listed P g.frame.fn (eA g) (e6 g) c2) /\dR P main cU c3 dy (f' g v) w'):dR P main cU c3 dy g w:=
 dR.nx h.run fun c2 h₁=>TO
theorem dR.Wd (h:mi g) (dQ:∀ c2,cU w c2->∃ w',(execOp (eA g).eval (e6 g)).run P c2=.ok .skip w'/\c3 c2 w' (listed P g.frame.fn (eA g) (e6 g) c2) /\dR P main cU c3 dy (f' g undef) w'):dR P main cU c3 dy g w:=
 dR.nx h.run fun c2 h₁=>afO
end
end Go.Lk.Dk
namespace Go.Lk
open Go.RowKit
theorem ajh(M D v):dZ M D (wo v) v:=by
 have one:∀v:dr,dZ M D (wo.one v) v:=by
  intro v;unfold wo.one;split
  .exact .d _ _ (.int _ _)
  .exact .eN
  .exact .fd
  .exact .d _ _ (.str _)
  .exact .nil _
  .exact .d _ _ .km
  .exact .dead _
 have c:∀l:I dr,(wo.cells l).length=l.length/\ ∀(i:V) (x:dp) (v:dr),(wo.cells l)[i]?=U x->l[i]?=U v->dZ M D x v:=by
  intro l
  induction l with
  |nil=>exact⟨Z,λi x v h=>by simp_all⟩
  |cons y r a=>
   refine⟨by simp[wo.cells,a.1],λi x v Q c5=>?_⟩
   cases i with|zero=>simp[wo.cells,u9,fC]at Q c5;grind|succ i=>exact a.2 i x v (by assumption) sn
 unfold wo;split
 .exact .d _ _ (.int _ _)
 .exact .eN
 .exact .fd
 .exact .d _ _ (.str _)
 .exact .nil _
 .exact .d _ _ .km
 .rename_i cs;exact .agg _ _ (by simp_all) λi x v Q c5=>(c cs.toList).2 i x v Q sn
 .exact .dead _
theorem z6{M D dd}{a:e8}(h:∀t,dZ M D (dd t) (a.tmps.getD t undef))(x):dZ M D (i7 dd x) (a.eval x):=by
 cases x with|tmp t=>exact h t|const v=>exact ajh M D v|global g=>exact .dead _|func f=>exact .d _ _ (.fn f [] #[] Z λi x v h=>qB)
def WR(fK D:gD):Prop:=∀b,1000000<=b->b<1000004->D b=fK b
def gH(cX:jy)(own:V->Prop)(cO:da)(dL:eI)(fK:gD)(dc:V)(st:ft)(a:e8)(w:da):Prop:=
 ∃(M:eI) (D:gD),gS dL M/\fp M w/\jx own dL M/\j0 (pr cX own) cO w/\er own M D st.O w/\WR fK D/\ (∀t,dZ M D (st.dd t) (a.tmps.getD t undef)) /\a.tmps.size=dc/\a.defers=[]
theorem WS{a:e8}{t:Tmp}{v}(h:t<a.tmps.size)(s:Tmp):((a.put (U t) v).tmps.getD s undef)=if s=t then v else a.tmps.getD s undef:=by simp[WT,uM];grind
theorem FW{M c D ei k}(s:gS M c)(a:∀b,pZ k b->ei b=D b){dd t v}(h:dZ M D (dd t) v):dZ c ei (rA k dd t) v:=by
 cases k with|none=>have:=funext λb=>a b trivial;subst this;exact h.mono s|some k=>exact((h.ev k).mono s).uK (b:=k) (λd e=>a d e) (Nq k (dd t))
theorem WU{l b}(a:∀k,l=U k->¬(1000000<=k/\k<1000004))(cW:1000000<=b)(Q:b<1000004):pZ l b:=by
 cases l with
 |none=>trivial
 |some k=>
  have a:=a k Z;show ha k b=L;unfold ha
  cases c:hn 2000000 k&&d3 (k%8) 0 with
  |true=>
   have:=tt (Bool.and_eq_true_iff.1 c).1
   cases h:d3 (b/8) (k/8) with
   |false=>rfl
   |true=>have:=gE h;omega
  |false=>
   cases h:d3 b k with
   |false=>rfl
   |true=>have:=gE h;omega
def ya(dc:V)(o:gL):Prop:=∀d,o.dst=U d->d<dc
section
variable {cX:jy} {own:V->Prop} {cO:da} {dL:eI} {fK:gD} {dc:V}
theorem OS(a:e8)(d v):(a.put d v).tmps.size=a.tmps.size:=by cases d<;>simp[WT]
theorem OT(a:e8)(d v):(a.put d v).defers=a.defers:=by cases d<;>rfl
theorem OU{M D dd}{a:e8}{b v}{dst:dB Tmp}(cP:∀d,dst=U d->d<a.tmps.size)(cY:dZ M D b v)(h:∀t,dZ M D (dd t) (a.tmps.getD t undef))(t:Tmp):
  dZ M D (ty dd dst b t) ((a.put dst v).tmps.getD t undef):=by
 cases dst with
 |none=>exact h t
 |some d=>
  rw[WS (cP d Z)];simp only[ty]
  by_cases e:t=d
  .subst e;rwa[gP,if_pos Z]
  .rw[gq _ _ e,cS e];exact h t
theorem WV{M D dd O}{a:e8}{w w' e v}{dst:dB Tmp}(o:∀c,cO.heap.size<=c->own c)(Q:gS dL M)(l:jx own dL M)(m:j0 (pr cX own) cO w)(dY:WR fK D)(q:∀t,dZ M D (dd t) (a.tmps.getD t undef))(r:a.tmps.size=dc)(s:a.defers=[])
  (p:IP cX own M D O w e v w')(cP:∀d,dst=U d->d<dc)(j:∀k,e.f5=U k->¬(1000000<=k/\k<1000004)):
  gH cX own cO dL fK dc ⟨ty (rA e.f5 dd) dst e.fj,e.O O⟩ (a.put dst v) w':=by
 have⟨g,ei,i,s1,u,n,dI,k1,d1⟩:=p;refine⟨g,ei,Q.trans s1,u,l.trans n,m.trans i,dI,λb f h=>?_,OU (by simp_all) d1 λt=>FW s1 k1 (q t),by rw[OS,r],by rw[OT,s]⟩;rw[k1 b (WU j f h)];exact dY b f h
theorem OV{dd O a w}{dst:dB Tmp}(h:gH cX own cO dL fK dc ⟨dd,O⟩ a w)(cP:∀d,dst=U d->d<dc):
  gH cX own cO dL fK dc ⟨ty dd dst (.dS []),O⟩ (a.put dst undef) w:=by
 have⟨M,D,Q,b,c,e,du,dY,f,g,j⟩:=h;exact⟨M,D,Q,b,c,e,du,dY,OU (by simp_all) (.dS [] #[] Z λi x v h=>qB) f,by rw[OS,g],by rw[OT,j]⟩
theorem dZ.CC{M D ei}(l:∀b,ei b=cL\/ei b=D b){x v}(h:dZ M D x v):dZ M ei x v:=by
 induction h with
 |d x v o=>exact .d x v o|eN=>exact .eN|fd=>exact .fd|agg c vs dv _ m=>exact .agg c vs dv m|dS c vs dv _ m=>exact .dS c vs dv m
 |own b cM cap g c0 dj=>
  rcases l b with e|e
  .exact .ju _ _ e
  .exact .own b cM cap (e.trans g) c0 dj
 |ib b a g=>
  rcases l b with e|e
  .exact .ju _ _ e
  .exact .ib b a (e.trans g)
 |ju b v g=>
  rcases l b with e|e
  .exact .ju _ _ e
  .exact .ju b v (e.trans g)
 |ptr b i j cM g=>
  rcases l b with e|e
  .exact .i6 _ _ _ _ e
  .exact .ptr b i j cM (e.trans g)
 |i6 b i j v g=>
  rcases l b with e|e
  .exact .i6 _ _ _ _ e
  .exact .i6 b i j v (e.trans g)
 |win b dz n c cM k base g p q r s=>
  rcases l b with e|e
  .exact .jv _ _ _ _ _ e
  .exact .win b dz n c cM k base (e.trans g) p q r s
 |jv b dz n c v g=>
  rcases l b with e|e
  .exact .jv _ _ _ _ _ e
  .exact .jv b dz n c v (e.trans g)
 |nil a=>exact .nil a|fn f cap vs dv _ m=>exact .fn f cap vs dv m|dead v=>exact .dead v
theorem er.CC{M D ei O g w}(h:er own M D O w)(hb:∀b,(g b=cL/\ei b=cL) \/ (g b=O b/\ei b=D b)):er own M ei g w:=by
 have k:∀b,ei b=cL\/ei b=D b:=λb=>(hb b).elim (λe=>.inl e.2) (λe=>.inr e.2)
 have up:∀b cM,ei b=U cM->D b=U cM/\g b=O b:=λb cM e=>by
  grind
 refine⟨λb=>?_,λb cY=>?_,λb B cM i m=>?_,λb d7 cM ek Q c5 he=>h.inj b d7 cM ek (up b _ Q).1 (up d7 _ c5).1 he⟩
 .rcases hb b with⟨a,d⟩|⟨a,d⟩
  .grind
  .rw[a,d];exact h.fE b
 .have⟨a,d⟩:=up b _ cY;rw[d];exact h.iX b a
 .have⟨a,d⟩:=up b _ m;rw[d]at i;have⟨dI,cs,eV,n,o,f⟩:=h.at_ b B cM i a;refine⟨dI,cs,eV,n,o,?_⟩
  cases B with|row l cR cN=>exact f|box c cN=>exact⟨f.1,f.2.1,⟨f.2.2.1.size,λj x p=>let ⟨v,q,r⟩:=f.2.2.1.den j x p;⟨v,q,r.CC k⟩⟩,f.2.2.2⟩
open Classical in
theorem gH.le{s st a w}(h:gH cX own cO dL fK dc st a w)(dv:B4 s st):gH cX own cO dL fK dc s a w:=by
 have⟨M,D,Q,c5,c,d,du,dY,f,g,i⟩:=h;have⟨eB,el,fY⟩:=dv
 let ei:gD:=λb=>if s.O b=cL then cL else D b
 have j:∀b,ei b=cL\/ei b=D b:=λb=>by
  grind
 have hb:∀b,(s.O b=cL/\ei b=cL) \/ (s.O b=st.O b/\ei b=D b):=λb=>by
  grind
 refine⟨M,ei,Q,c5,c,d,du.CC hb,λb l m=>?_,λt=>?_,g,i⟩
 .rw[<-dY b l m]
  have e:s.O b=st.O b:=by
   have⟨n,fh,o,p⟩:=fY;have:b=1000000\/b=1000001\/b=1000002\/b=1000003:=R;rcases this with rfl|rfl|rfl|rfl
   .exact n
   .exact fh
   .exact o
   .exact p
  by_cases c0:s.O b=cL
  .rw[show ei b=cL from if_pos c0];exact((du.fE b).1 (e▸c0)).symm
  grind
 .rcases eB t with e|e
  .rw[e];exact .dead _
  .rw[e];exact(f t).CC j
theorem gH.u3{k st a w}(h:gH cX own cO dL fK dc st a w)(c_:Fm k st):gH cX own cO dL fK dc (Lk.u3 k st) a w:=by
 have⟨M,D,Q,c5,m,n,du,dY,g,p,q⟩:=h
 cases k with
 |row t b cR=>
  have⟨A,z⟩:=c_;refine⟨M,eS D b (U cL),Q,c5,m,n,du.Ck b cR L,λc dj S=>?_,λs=>?_,p,q⟩
  .rw[gq _ _ (λe=>?_)]
   .exact dY c dj S
   .subst e;rw[rD dj,rD (show c<=1000003 by omega)]at z
    cases z
  .by_cases e:s=t
   .subst e;show dZ M _ (eS (rA (U b) st.dd) s (.own b) s) _;rw[gP];have:=g s;rw[A]at this;generalize a.tmps.getD s undef=u at this⊢
    cases this with|nil B=>exact .ib b B (gP _ _ _)
   .show dZ M _ (eS (rA (U b) st.dd) t (.own b) s) _;rw[gq _ _ e];exact FW (.refl M) (λc dj=>gq _ _ (tx dj)) (g s)
 |dm t=>
  refine⟨M,D,Q,c5,m,n,du,dY,λs=>?_,p,q⟩
  by_cases e:s=t
  .subst e;show dZ M _ (eS st.dd s (.d (.dm [])) s) _;rw[gP];have:=g s;rw[show st.dd s=.nil from c_]at this;generalize a.tmps.getD s undef=u at this⊢
   cases this with|nil B=>exact .d _ _ (.emp B 0)
  .show dZ M _ (eS st.dd t (.d (.dm [])) s) _;rw[gq _ _ e];exact g s
 |cell jf j b cR=>
  have⟨A,z,T⟩:=c_
  have ac:jf≠b:=λe=>by simp_all
  have cY:=du.Ck b cR L
  have ad:∀c,1000000<=c->c<1000004->eS D b (U cL) c=fK c:=λc dj S=>by
   rw[gq _ _ (λe=>?_)]
   .exact dY c dj S
   .subst e;rw[rD dj,rD (show c<=1000003 by omega)]at T
    cases T
  unfold Lk.u3;split at A
  .rename_i c cN hb;obtain⟨C,rfl⟩:=A;simp[hb]
   have ae:eS (hT (U b) st.O) b (U (.row [] cR L)) jf=U (.box (ht.cells b c) L):=by rw[gq _ _ ac];simp[hT,hb];rfl
   refine⟨M,eS D b (U cL),Q,c5,m,n,cY.set jf _ (by grind) (.refl M) (λe=>?_) (λcM E=>?_) (λd7 ek V F=>⟨Z,λgG G H o=>cY.closed F gG G H o⟩),ad,λs=>FW (.refl M) (λc dj=>gq _ _ (tx dj)) (g s),p,q⟩
   .have⟨W,X,Y⟩:=cY.iX jf e;simp_all
   .have⟨_,cs,eV,I,J,aa,ab,r,K⟩:=cY.at_ jf _ cM ae E;refine⟨cs,eV,I,J,by simp_all,by simp_all,⟨by simp_all,λi x f=>?_⟩,⟨λh=>(by cases h),λ_=>K.2 Z⟩⟩;rw[ly]at f;split at f
    .rename_i e;subst e;split at f
     .cases f
      have⟨v,P,R⟩:=r.den j .nil (by rw[FD,C];rfl);refine⟨v,P,?_⟩
      cases R with|nil B=>exact .ib b B (gP _ _ _)
     .cases f
    .exact r.den i x f
  simp_all
 |wk t y=>
  refine⟨M,D,Q,c5,m,n,du,dY,λs=>?_,p,q⟩
  by_cases e:s=t
  .subst e;show dZ M _ (eS st.dd s y s) _;rw[gP];exact c_.out _ _ _ (g s)
  .show dZ M _ (eS st.dd t y s) _;rw[gq _ _ e];exact g s
 |B5 jf j y=>
  dsimp only[Fm]at c_;dsimp only[Lk.u3];split at c_
  .rename_i c cN hb;obtain⟨⟨af,C,ag⟩,rfl⟩:=c_;refine⟨M,D,Q,c5,m,n,du.set jf _ (by grind) (.refl M) (λe=>?_) (λcM E=>?_) (λd7 ek V F=>⟨Z,λgG G H o=>du.closed F gG G H o⟩),dY,g,p,q⟩
   .have⟨W,X,Y⟩:=du.iX jf e;simp_all
   .have⟨_,cs,eV,I,J,aa,ab,r,K⟩:=du.at_ jf _ cM hb E;refine⟨cs,eV,I,J,by simp_all,by simp_all,⟨by simp_all,λi x f=>?_⟩,⟨λh=>(by cases h),λ_=>K.2 Z⟩⟩;rw[ly]at f;split at f
    .rename_i e;subst e;split at f
     .cases f
      have⟨v,P,R⟩:=r.den j af C;exact⟨v,P,ag.out _ _ _ R⟩
     .cases f
    .exact r.den i x f
  simp_all
 |gh b l cR=>have⟨cN,hb⟩:=c_;have⟨ah,s1,ai,fA,dI⟩:=freeze c5 du hb (gG:=.row l cR N) (.inl ⟨_,_,_,Z,Z⟩);exact⟨ah,D,Q.trans s1,ai,m.trans fA,n,dI,dY,λt=>(g t).mono s1,p,q⟩
 |NN t b l cR=>
  have⟨A,z⟩:=c_;refine⟨M,D,Q,c5,m,n,du,dY,λs=>?_,p,q⟩
  by_cases e:s=t
  .subst e;show dZ M D (eS st.dd s (.d (.dm l)) s) _;rw[gP];have:=g s;rw[A]at this;exact .d _ _ (IV du z this)
  .show dZ M D (eS st.dd t (.d (.dm l)) s) _;rw[gq _ _ e];exact g s
 |je jf j b l cR=>
  dsimp only[Fm]at c_;dsimp only[Lk.u3];have⟨z,c_⟩:=c_;split at c_
  .rename_i c cN hb;obtain⟨C,rfl⟩:=c_;refine⟨M,D,Q,c5,m,n,du.set jf _ (by grind) (.refl M) (λe=>?_) (λcM E=>?_) (λd7 ek V F=>⟨Z,λgG G H o=>du.closed F gG G H o⟩),dY,g,p,q⟩
   .have⟨W,X,Y⟩:=du.iX jf e;simp_all
   .have⟨_,cs,eV,I,J,aa,ab,r,K⟩:=du.at_ jf _ cM hb E;refine⟨cs,eV,I,J,by simp_all,by simp_all,⟨by simp_all,λi x f=>?_⟩,⟨λh=>(by cases h),λ_=>K.2 Z⟩⟩;rw[ly]at f;split at f
    .rename_i e;subst e;split at f
     .cases f
      have⟨v,P,R⟩:=r.den j _ C;exact⟨v,P,.d _ _ (IV du z R)⟩
     .cases f
    .exact r.den i x f
  simp_all
theorem gH.WW:∀ {dW st a w},gH cX own cO dL fK dc st a w->IA dW st->gH cX own cO dL fK dc (Lk.Iz dW st) a w
 | [],_,_,_,h,_=>h|k::r,st,_,_,h,b=>gH.WW (dW:=r) (st:=Lk.u3 k st) (gH.u3 h b.1) b.2
theorem gH.CD{s st a w}(h:gH cX own cO dL fK dc st a w)(l:wB s st):gH cX own cO dL fK dc s a w:=by have⟨dW,Q,b⟩:=l.out;exact(gH.WW h Q).le b
theorem OW{ops}{a:e8}{g}{t:Tmp}{b}(c:(ops[g]?).bind (·.dst)=U t)(h:a.tmps.getD t undef=.bool b):yielded ops a.tmps g=U b:=by
 have:a.tmps[t]?=U (.bool b):=by
  rw[uM]at h
  cases x:a.tmps[t]? with|none=>rw[x]at h;simp[undef]at h|some v=>simp_all
 simp[yielded,c,this]
theorem gH.refine{dd O a w}{t:Tmp}{b}(h:gH cX own cO dL fK dc ⟨dd,O⟩ a w)(d:dd t=.d (.bool b)):
  gH cX own cO dL fK dc ⟨eS dd t (bif b then .eN else .fd),O⟩ a w:=by
 have⟨M,D,Q,c,g,i,du,dY,f,j,l⟩:=h;refine⟨M,D,Q,c,g,i,du,dY,λs=>?_,j,l⟩
 by_cases e:s=t
 .subst e;show dZ M D (eS dd s _ s) _;rw[gP];have:=f s;have cY:=og (by rwa[<-d]);rw[cY]
  cases b
  .exact .fd
  .exact .eN
 .show dZ M D (eS dd t _ s) _;rw[gq _ _ e];exact f s
theorem vc{M D x v}(h:dZ M D x v):(x=.eN->v=.bool N) /\ (x=.fd->v=.bool L):=
 ⟨λe=>by subst e;cases h;rfl,λe=>by subst e;cases h;rfl⟩
theorem OX{M D v}(h:dZ M D (.dS []) v):v=undef:=by
 cases h with|dS _ vs dv _=>have:=v5;rw[this];rfl
theorem OY{ops}{a:e8}{g}{t:Tmp}(b:(ops[g]?).bind (·.dst)=U t)(h:a.tmps.getD t undef=undef):yielded ops a.tmps g=cL:=by
 unfold yielded;rw[b];simp;rw[uM]at h
 cases x:a.tmps[t]? with|none=>rfl|some v=>rw[x]at h;simp at h;rw[h];rfl
variable {P:en} {T:fM} (cT:jL P T)
theorem aji{P}(w n t e b k c)(h:P.underlying t=U (.slice e)):(oh (n+1) t (.slice b k c) (.slice cL 0 0)).run P w=.ok b.isNone w:=by cases b<;>simp[oh,fx h]
include cT in
theorem ajj{hD t e x y fj O K M D w}{a:e8}{v}(c_:(T t).k=.slice e)(m:Is y=N)
  (h:NI fj O (uV hD K))(c9:er own M D O w)(cY:dZ M D fj v):∃b,K ⟨.d (.bool b),[],cL⟩ /\ ∀w,(do eqGuard hD t x y v (a.eval y);jA hD t v (a.eval y):Sem dr).run P w=.ok (.bool b) w/\ (do eqGuard hD t x y v (a.eval y);jA hD t v (a.eval y):Sem dr).events P w #[]=#[]:=by
 have o:=(kR cT c_).1
 have z:a.eval y=.slice cL 0 0:=by
  unfold Is at m;split at m
  .rfl
  .cases m
 rw[z]
 have f:∀(r:di) (b:dB g3) (n c:V),v=.slice b n c->r=b.isNone->uV hD K r->∃b:di,K ⟨.d (.bool b),[],cL⟩ /\ ∀w:da,(do eqGuard hD t x y v (.slice cL 0 0);jA hD t v (.slice cL 0 0):Sem dr).run P w=.ok (.bool b) w/\ (do eqGuard hD t x y v (.slice cL 0 0);jA hD t v (.slice cL 0 0):Sem dr).events P w #[]=#[]:=by
  intro r b n c cY dQ i;subst cY;have Es:=λw=>aji w 9999 t e b n c o;rw[<-dQ]at Es
  have p:hM P (Fz t (.slice b n c) (.slice cL 0 0)):=by
   show hM P (oh (9999+1) t (.slice b n c) (.slice cL 0 0));unfold oh;refine .bind (ed.at (.underlying _)) λw u w' dQ=>?_;rw[fx o]at dQ
   cases dQ
   cases b<;>exact ed.at (.pure _)
  have q:∀hD:BinOp,hD=.eql\/hD=.neq->hM P (do eqGuard hD t x y (.slice b n c) (.slice cL 0 0);jA hD t (.slice b n c) (.slice cL 0 0):Sem dr):=by
   rintro hD (rfl|rfl)
   .exact .bind' (ed.at (z2 _ _ _ _ _ _ dw dw)) λ_=>.bind' p λ_=>ed.at (.pure _)
   .exact .bind' (ed.at (z2 _ _ _ _ _ _ dw dw)) λ_=>.bind' p λ_=>ed.at (.pure _)
  unfold uV at i;split at i
  .exact⟨r,i,λw=>⟨T7,q _ (.inl Z) w #[]⟩⟩
  .exact⟨!r,i,λw=>⟨T7,q _ (.inr Z) w #[]⟩⟩
  .grind
 unfold NI at h;split at h
 .rename_i l
  cases cY with
  |d _ _ cP=>
   cases cP with
   |emp g c=>exact f _ g 0 c Z Z (h.out _ λ_=>Z)
   |dm _ b off cap cR val dv _ _ _=>exact f L _ _ _ Z Z (h.out _ λe=>ss)
 .cases cY with
  |nil g=>exact f _ g 0 0 Z Z (h.out _ λ_=>Z)
 .rename_i b;split at h
  .rename_i l cR cN hb
   cases cY with
   |own _ cM cap j c0 dj=>exact f L _ _ _ Z Z (h.out _ λe=>ss)
   |ib _ g j=>
    have⟨A,B,s⟩:=c9.iX b j;rw[hb]at s;cases s
    exact f _ g 0 0 Z Z (h.out _ λ_=>Z)
   |ju _ _ j=>rw[(c9.fE b).2 j]at hb;cases hb
  simp_all
 simp_all
include cT in
theorem WX(u:gQ cX own dL)(n:∀c,cO.heap.size<=c->own c){o dd O a w K}(h:uW T P o (i7 dd) O λe=>h0 dd O o.dst e K)
  (F:gH cX own cO dL fK dc ⟨dd,O⟩ a w)(cP:ya dc o):n9 P cX.main cX.F o a w (λd8 w'=>∃st,K st/\gH cX own cO dL fK dc st d8 w'):=by
 have⟨M,D,Q,q,G,I,du,dY,H,J,R⟩:=F
 have l:hz T P o (i7 dd) O (λe=>h0 dd O o.dst e K)->n9 P cX.main cX.F o a w (λd8 w'=>∃st,K st/\gH cX own cO dL fK dc st d8 w'):=by intro h;have⟨e,j,m⟩:=CB cT h;have⟨k,g⟩:=B0 j;refine wl (λd8 w' E=>?_) (m cX own M D a w (u.new Q G) (λc C=>n c (fG I.size C)) q du (z6 H));obtain⟨v,rfl,p⟩:=E;exact⟨_,g,WV n Q G I dY H J R p cP k⟩
 unfold uW at h;split at h
 .rename_i f t x y z B;split at h
  .rename_i e k
   cases c0:Is y with
   |false=>simp_all
   |true=>
    simp[c0,fF]at h;have⟨b,j,r⟩:=ajj (a:=a) (x:=x) cT k c0 h du (z6 H x);have⟨i,g⟩:=B0 j;refine agE λc2 d=>⟨.bool b,c2,?_,⟨.refl _ _,?_⟩,?_⟩
    .rw[show execOp a.eval o=(do pure (.value (<-(do eqGuard f t x y (a.eval x) (a.eval y);jA f t (a.eval x) (a.eval y):Sem dr)))) by simp[execOp,B]];have r:=(r c2).1;generalize (do eqGuard f t x y (a.eval x) (a.eval y);jA f t (a.eval x) (a.eval y):Sem dr)=s at r;simp[r]
    .rw[show execOp a.eval o=(do pure (.value (<-(do eqGuard f t x y (a.eval x) (a.eval y);jA f t (a.eval x) (a.eval y):Sem dr)))) by simp[execOp,B],Wv,(r c2).2];simp_all
    .have A:=u.new Q G;exact⟨_,g,WV n Q G I dY H J R (Oa d (Vo (tE A d q) (Ce A d du) (.d _ _ (.bool b)))) cP i⟩
  simp_all
 simp_all
include cT in
theorem OZ {fn} (gj:gQ cX own dL) (p:∀ c,cO.heap.size<=c->own c) {ops} {db} {K} (q:∀ st a w,K st->gH cX own cO dL fK dc st a w->db .normal a w) (cP:∀ o∈ops,ya dc o):
  ∀ (l) (i) (st) (a) (w),ops.toList.drop i=l->wy T P ops l st K->gH cX own cO dL fK dc st a w->m' P cX.main cX.F fn ops (tN i l.length) db a w
 | [],i,st,a,w,dv,h,dQ=>Nc (q st a w (ag8.mp h) dQ)
 |o::rest,i,st,a,w,dv,h,dQ=>by
  have r:ops[i]?=U o:=by
   have:=eL (·[0]?) dv
   simpa using this
  have s:ops.toList.drop (i+1)=rest:=by
   have:=eL (List.drop 1) dv
   simpa [Nat.add_comm] using this
  have u:=cP o (EN r);obtain ⟨dd,O⟩:=st;simp only [nF,List.range'_succ]
  have take:∀ d,uW T P o (i7 d) O (fun e=>h0 d O o.dst e fun st=>wy T P ops rest st K)->gH cX own cO dL fK dc ⟨d,O⟩ a w->n9 P cX.main cX.F o a w (fun d8 w'=>m' P cX.main cX.F fn ops (tN (i+1) rest.length) db d8 w'):=by
   intro d h dQ;refine wl (fun d8 w' x=>?_) (WX cT gj p h dQ u);obtain ⟨IB,k1,eK⟩:=x;exact OZ gj p q cP rest (i+1) IB d8 w' s k1 eK
  have skip:∀ d,h0 d O o.dst ⟨.dS [],[],cL⟩ (fun st=>wy T P ops rest st K)->gH cX own cO dL fK dc ⟨d,O⟩ a w->m' P cX.main cX.F fn ops (tN (i+1) rest.length) db (a.put o.dst undef) w:=by
   intro d h dQ;exact OZ gj p q cP rest (i+1) _ _ w s (B0 h).2 (OV dQ u)
  have cons:(if js o (yielded ops a.tmps) then n9 P cX.main cX.F o a w (fun d8 w'=>m' P cX.main cX.F fn ops (tN (i+1) rest.length) db d8 w') else m' P cX.main cX.F fn ops (tN (i+1) rest.length) db (a.put o.dst undef) w)->
    m' P cX.main cX.F fn ops (i::tN (i+1) rest.length) db a w:=fun h=>by
   by_cases hw:js o (yielded ops a.tmps)=N
   ·rw [if_pos hw] at h;exact UE r hw h
   ·rw [cS hw] at h;exact UD r (by simpa using hw) h
  apply cons;rw [ag9] at h;simp only [NJ] at h
  cases m:o.guard with
  |none=>
   simp only [m] at h;rw [if_pos (by simp [js,m])];exact take dd h dQ
  |some y=>
   obtain ⟨g,h8⟩:=y;simp only [m] at h
   cases n:(ops[g]?).bind (·.dst) with
   |none=>simp [n] at h
   |some t=>
    simp only [n] at h
    have j:∃ M D,dZ M D (dd t) (a.tmps.getD t undef):=by
     obtain ⟨M,D,Q,c5,B,C,du,dY,z,E,G⟩:=dQ;exact ⟨M,D,z t⟩
    obtain ⟨M,D,j⟩:=j
    have run:∀ (b:di) d,a.tmps.getD t undef=.bool b->gH cX own cO dL fK dc ⟨d,O⟩ a w->
      (if b=h8 then uW T P o (i7 d) O (fun e=>h0 d O o.dst e fun st=>wy T P ops rest st K) else h0 d O o.dst ⟨.dS [],[],cL⟩ (fun st=>wy T P ops rest st K))->
      if js o (yielded ops a.tmps) then n9 P cX.main cX.F o a w (fun d8 w'=>m' P cX.main cX.F fn ops (tN (i+1) rest.length) db d8 w') else m' P cX.main cX.F fn ops (tN (i+1) rest.length) db (a.put o.dst undef) w:=by
     intro b d cY v h;have A:=OW n cY
     have hw:js o (yielded ops a.tmps)=(b==h8):=by
      simp [js,m,A]
     rw [hw]
     by_cases e:b=h8
     ·subst e;rw [if_pos Z] at h;rw [if_pos (by simp)];exact take d h v
     ·rw [cS e] at h;rw [cS (by simpa using e)];exact skip d h v
    split at h
    ·rename_i f;refine run N dd ((vc j).1 f) dQ ?_
     cases h8
     ·simpa using h
     ·simpa using h
    ·rename_i f;refine run L dd ((vc j).2 f) dQ ?_
     cases h8
     ·simpa using h
     ·simpa using h
    ·rename_i b f
     rcases wD h with ⟨rfl,Q⟩|⟨rfl,Q⟩
     ·refine run N (eS dd t .eN) (og (f▸j)) (dQ.refine f) ?_
      cases h8
      ·simpa using Q
      ·simpa using Q
     ·refine run L (eS dd t .fd) (og (f▸j)) (dQ.refine f) ?_
      cases h8
      ·simpa using Q
      ·simpa using Q
    ·rename_i f;have cY:a.tmps.getD t undef=undef:=OX (f▸j)
     have hw:js o (yielded ops a.tmps)=L:=by
      simp [js,m,OY n cY]
     rw [hw,cS (by simp)];exact skip dd h dQ
    ·exact h.elim
end
def rK{b}:∀ {l},kp b l=N↔b∈l
 | []=>by simp[kp]
 |x::r=>by
  simp[kp]
  cases hb:d3 b x with|true=>simp_all|false=>have:b≠x:=λe=>HO;simp[this,rK]
def WY:∀ {l F},B1 l F=N->∀x∈l,x∈F
 | [],F,_,x,eE=>uH
 |y::r,F,h,x,eE=>by
  simp only[B1]at h
  cases d6:kp y F with
  |false=>simp_all
  |true=>
   simp[d6,fF]at h
   cases eE with
   |head=>exact rK.1 d6
   |tail _ eE=>exact WY h x eE
def FX:∀ {l F},uX l F=N->∀x∈l,x∉F
 | [],F,_,x,eE=>uH
 |y::r,F,h,x,eE=>by
  simp only[uX]at h
  cases d6:kp y F with
  |true=>simp_all
  |false=>
   simp[d6,jw]at h
   cases eE with
   |head=>exact λe=>by rw[rK.2 e]at d6;cases d6
   |tail _ eE=>exact FX h x eE
def FY{k}(dv:tu k){x dW}(h:fW.one x=U dW)(c_:k∉dW):ev.one k x=L:=by
 cases x with
 |own b=>
  simp[fW.one,fC]at h;subst h;simp[ev.one,dv.out]
  cases hb:d3 b k with|true=>simp_all|false=>rfl
 |ptr b i j=>
  simp[fW.one,fC]at h;subst h;simp[ev.one,dv.out]
  cases hb:d3 b k with|true=>simp_all|false=>rfl
 |win b dz n c=>
  simp[fW.one,fC]at h;subst h;simp[ev.one,dv.out]
  cases hb:d3 b k with|true=>simp_all|false=>rfl
 |d x=>rfl|eN=>rfl|fd=>rfl|nil=>rfl|dead=>rfl|agg c=>cases h|dS c=>cases h|fn f c=>cases h
def Jt{k}(l:tu k):∀ {c dW},fW.cells c=U dW->k∉dW->ev.names k c=L
 | [],dW,h,d=>rfl
 |x::r,dW,h,d=>by
  simp[fW.cells]at h
  cases Q:fW.one x with
  |none=>simp_all
  |some a=>
   cases f:fW.cells r with
   |none=>simp_all
   |some b=>simp[Q,f,fC]at h;subst h;simp[ev.names,FY l Q λe=>d (ot _ e),jw];exact Jt l f λe=>d (pz _ e)
def ajk{k}(dv:tu k){x dW}(h:fW.part x=U dW)(c_:k∉dW):ev.part k x=L:=by
 cases x with|agg c=>exact Jt dv h c_|_=>simp[fW.part]at h;simp[ev.part];exact FY dv h c_
def WZ{k}(l:tu k):∀ {c dW},fW.parts c=U dW->k∉dW->ev.parts k c=L
 | [],dW,h,d=>rfl
 |x::r,dW,h,d=>by
  simp[fW.parts]at h
  cases Q:fW.part x with
  |none=>simp_all
  |some a=>
   cases f:fW.parts r with
   |none=>simp_all
   |some b=>simp[Q,f,fC]at h;subst h;simp[ev.parts,ajk l Q λe=>d (ot _ e),jw];exact WZ l f λe=>d (pz _ e)
def W0{k}(dv:tu k){x dW}(h:fW x=U dW)(c_:k∉dW):ev k x=x:=by
 cases x with|own b=>have:=FY dv (x:=.own b) h c_;simp[ev.one]at this;simp[ev,this]|ptr b i j=>have:=FY dv (x:=.ptr b i j) h c_;simp[ev.one]at this;simp[ev,this]|win b dz n c=>have:=FY dv (x:=.win b dz n c) h c_;simp[ev.one]at this;simp[ev,this]|agg c=>simp[ev,Jt dv h c_,jw]|dS c=>simp[ev,WZ dv h c_,jw]|fn f c=>simp[ev,Jt dv h c_,jw]|_=>rfl
def W1{k x}(h:fW (ev k x)≠cL):ev k x=x:=by
 cases x with|own b=>simp[ev]at h⊢;cases hb:ha k b<;>simp_all [fW,fW.one]|ptr b i j=>simp[ev]at h⊢;cases hb:ha k b<;>simp_all [fW,fW.one]|win b dz n c=>simp[ev]at h⊢;cases hb:ha k b<;>simp_all [fW,fW.one]|agg c=>simp[ev]at h⊢;cases hb:ev.names k c<;>simp_all [fW,fW.one]|dS c=>simp[ev]at h⊢;cases hb:ev.parts k c<;>simp_all [fW,fW.one]|fn f c=>simp[ev]at h⊢;cases hb:ev.names k c<;>simp_all [fW,fW.one]|_=>rfl
def W2(a b x):ev a (ev b x)=ev b (ev a x):=by
 cases x with|own c=>simp[ev];grind|ptr c i j=>simp[ev];grind|win c dz n q=>simp[ev];grind|agg c=>simp[ev];grind|dS c=>simp[ev];grind|fn f c=>simp[ev];grind|_=>rfl
def ajl{x}(h:fW.one x≠cL):fW x≠cL:=by cases x<;>first|exact h|exact dN Z h
def ajm{k x}(h:fW.one (ev k x)≠cL):ev k x=x:=W1 (ajl h)
def W3{k}(l:tu k):∀ {c dW},fW.cells c=U dW->k∉dW->ht.cells k c=c
 | [],dW,h,d=>rfl
 |x::r,dW,h,d=>by
  simp[fW.cells]at h
  cases Q:fW.one x with
  |none=>simp_all
  |some a=>
   cases f:fW.cells r with
   |none=>simp_all
   |some b=>
    simp[Q,f,fC]at h;subst h
    have g:fW x=U a:=by cases x<;>first|exact Q|cases Q
    simp[ht.cells,W0 l g λe=>d (ot _ e),W3 l f λe=>d (pz _ e)]
def W4{k}:∀ {c},fW.cells (ht.cells k c)≠cL->ht.cells k c=c
 | [],h=>rfl
 |x::r,h=>by
  simp only[ht.cells,fW.cells]at h⊢
  cases Q:fW.one (ev k x) with
  |none=>simp_all
  |some a=>
   cases d:fW.cells (ht.cells k r) with
   |none=>simp_all
   |some b=>rw[ajm (by grind),W4 (by grind)]
def ajn{k}(dv:tu k){B dW}(h:oc B=U dW)(c_:k∉dW):ht k B=B:=by
 cases B with|row l cR cN=>rfl|box c cN=>simp[ht,W3 dv h c_]
def ajo{k B}(h:oc (ht k B)≠cL):ht k B=B:=by
 cases B with|row l cR cN=>rfl|box c cN=>simp[ht,oc]at h⊢;rw[W4 h]
def ajp(a b B):ht a (ht b B)=ht b (ht a B):=by
 cases B with
 |row l cR cN=>rfl
 |box c cN=>
  simp only[ht]
  congr 1
  induction c with
  |nil=>rfl
  |cons x r d=>simp[ht.cells,W2,d]
def z8{o F}(h:jK o F=N):∃dW,o=U dW/\ ∀b∈dW,b∈F:=by
 cases o with|none=>cases h|some dW=>exact⟨dW,Z,WY h⟩
def O0{b x dW}(h:fW.one x=U dW)(hb:b∉dW):kN b x:=by
 cases x with|own d7=>cases h;exact .own d7 λe=>hb uD|ptr d7 i j=>cases h;exact .ptr d7 i j λe=>hb uD|win d7 dz n c=>cases h;exact .win d7 dz n c λe=>hb uD|d x=>exact .d x|eN=>exact .eN|fd=>exact .fd|nil=>exact .nil|dead=>exact .dead|agg c=>cases h|dS c=>cases h|fn f c=>cases h
def FZ{b}:∀ {c dW},fW.cells c=U dW->b∉dW->∀x∈c,kN b x
 | [],dW,h,hb,x,eE=>uH
 |y::r,dW,h,hb,x,eE=>by
  simp[fW.cells]at h
  cases Q:fW.one y with
  |none=>simp_all
  |some a=>
   cases c5:fW.cells r with
   |none=>simp_all
   |some q=>
    simp[Q,c5,fC]at h;subst h
    cases eE with
    |head=>exact O0 Q λe=>hb (ot _ e)
    |tail _ eE=>exact FZ c5 (λe=>hb (pz _ e)) x eE
def ajq{b x dW}(h:fW.part x=U dW)(hb:b∉dW):kN b x:=by
 cases x with|agg c=>exact .agg c (FZ h hb)|_=>exact O0 h hb
def W5{b}:∀ {c dW},fW.parts c=U dW->b∉dW->∀x∈c,kN b x
 | [],dW,h,hb,x,eE=>uH
 |y::r,dW,h,hb,x,eE=>by
  simp[fW.parts]at h
  cases Q:fW.part y with
  |none=>simp_all
  |some a=>
   cases c5:fW.parts r with
   |none=>simp_all
   |some q=>
    simp[Q,c5,fC]at h;subst h
    cases eE with
    |head=>exact ajq Q λe=>hb (ot _ e)
    |tail _ eE=>exact W5 c5 (λe=>hb (pz _ e)) x eE
def ajr{b x dW}(h:fW x=U dW)(hb:b∉dW):kN b x:=by
 cases x with|agg c=>exact .agg c (FZ h hb)|dS c=>exact .dS c (W5 h hb)|fn f c=>exact .fn f c (FZ h hb)|_=>exact O0 h hb
def O1{B F}(h:jK (oc B) F=N)(b)(a:b∉F):∀c cN,B=.box c cN->∀x∈c,kN b x:=by rintro c cN rfl x d;have⟨dW,e,c0⟩:=z8 h;exact FZ e (λm=>a (c0 b m)) x d
def iZ:I (V×d4)->V->dB d4
 | [],_=>cL
 |(b,B)::r,c=>match iZ r c with
  |some gG=>U gG
  |none=>bif d3 c b then U B else cL
def Ju:∀(ws:I (V×d4)) (O:V->dB d4) (c:V),gu O ws c=match iZ ws c with|some B=>U B|none=>O c
 | [],O,c=>rfl
 |(b,B)::r,O,c=>by
  simp[gu,iZ];rw[Ju r]
  cases h:iZ r c with|some gG=>rfl|none=>simp[eS];grind
def yb{ws c}:iZ ws c=cL↔c∉qP ws:=by
 induction ws with
 |nil=>simp[iZ,qP]
 |cons p r i=>
  have⟨b,B⟩:=p;simp[iZ,qP,nG,not_or]
  cases a:iZ r c with
  |some gG=>simp_all
  |none=>
   rw[a]at i;have:=i.1 Z
   cases hb:d3 c b with
   |true=>simp_all
   |false=>have n:c≠b:=λe=>HO;simp_all
def O2{ws c B}(h:iZ ws c=U B):(c,B)∈ws:=by
 induction ws with
 |nil=>cases h
 |cons p r i=>
  have⟨b,d⟩:=p;simp[iZ]at h
  cases a:iZ r c with
  |some gG=>simp_all
  |none=>
   rw[a]at h
   cases e:d3 c b with
   |false=>simp_all
   |true=>simp_all
def kj(k:dB V)(o:dB d4):dB d4:=match k with|none=>o|some k=>o.map (ht k)
def ajs(k O c):hT k O c=kj k (O c):=by
 cases k with|none=>rfl|some k=>simp[hT,kj];grind
def vd (e:gp) (O:V->dB d4) (c:V):e.O O c=match iZ e.wr c with|some B=>U B|none=>kj e.f5 (O c):=by
 unfold gp.O;rw [Ju,ajs]
def ve(k:dB V)(x:dp):dp:=match k with|none=>x|some k=>ev k x
def W6(k dd t):rA k dd t=ve k (dd t):=by cases k<;>rfl
structure z9(F:I V)(dst:dB Tmp)(e:gp):Prop where
 f5:∀k,e.f5=U k->k∈qP e.wr
 lt:∀k,e.f5=U k->tu k
 wr:∀b∈qP e.wr,b∈F\/e.f5=U b
 blk:∀c B,iZ e.wr c=U B->jK (oc B) (F++kO e)=N
 fj:∀d,dst=U d->e.fj=.dead\/jK (fW e.fj) (F++kO e)=N
def W7:∀ {l F},(∀x∈l,x∈F)->B1 l F=N
 | [],F,_=>rfl|y::r,F,h=>by simp[B1,rK.2 (h y (mK ..)),fF];exact W7 λx a=>h x (lX _ a)
def Jv{o F G}(h:jK o F=N)(s:∀b∈F,b∈G):jK o G=N:=by obtain⟨dW,rfl,c0⟩:=z8 h;exact W7 λx a=>s x (c0 x a)
def F0{F}:∀ {ws},Fh F ws=N->∀p∈ws,p.1∈F/\jK (oc p.2) F=N
 | [],_,p,O=>by cases O
 |(b,B)::r,h,p,O=>by
  simp only[Fh]at h
  cases d6:(kp b F&&jK (oc B) F) with
  |false=>simp_all
  |true=>
   simp[d6,fF]at h;simp at d6
   cases O with
   |head=>exact⟨rK.1 d6.1,d6.2⟩
   |tail _ O=>exact F0 h p O
def W8{ws b}:b∈qP ws↔∃B,(b,B)∈ws:=by
 induction ws with
 |nil=>simp[qP]|cons p r i=>have⟨c,B⟩:=p;simp[qP,nG,i,Jn];grind
def W9{F dst a}(h:NK F dst a=N)(d)(cP:dst=U d):a=.dead\/jK (fW a) F=N:=by
 subst cP
 cases a<;>first|exact .inl Z|exact .inr h
def ajt{F dst e}(h:Iu F dst e=N):z9 F dst e:=by
 unfold Iu at h
 cases c_:e.f5 with
 |none=>
  simp[c_,lV]at h;have⟨Q,c5⟩:=h;refine⟨λk a=>(by simp_all),λk a=>(by simp_all),λb hb=>?_,λc B dj=>?_,λd cP=>?_⟩
  .have⟨B,f⟩:=W8.1 hb;exact .inl (F0 Q _ f).1
  .exact Jv (F0 Q _ (O2 dj)).2 λb hb=>ot _ hb
  .exact Eo (W9 c5 d cP) λh=>Jv h λb hb=>ot _ hb
 |some k=>
  simp only[c_,lV]at h;have⟨⟨⟨CE,cW⟩,Q⟩,c5⟩:=h
  have g:∀b∈k::F,b∈F++kO e:=by
   intro b hb
   cases hb with|head=>exact pz _ (by simp[kO,c_])|tail _ hb=>exact ot _ hb
  refine⟨λfo a=>?_,λfo a=>?_,λb hb=>?_,λc B dj=>?_,λd cP=>?_⟩
  .rw[c_]at a;cases a;exact rK.1 cW
  .rw[c_]at a;cases a;rcases Bool.or_eq_true_iff.1 CE with CE|CE
   .exact⟨ag2 (by have:=tt CE;omega)⟩
   .have CE:d3 (k%8) 0=L:=by simpa using CE
    exact⟨λb=>by unfold ha;simp_all⟩
  .have⟨B,f⟩:=W8.1 hb;have:=(F0 Q _ f).1;grind
  .exact Jv (F0 Q _ (O2 dj)).2 g
  .exact Eo (W9 c5 d cP) λh=>Jv h g
def wL{e b}:b∈kO e↔e.f5=U b\/b∈qP e.wr:=by unfold kO;grind
def jJ.BR{M D ei}{S:V->Prop}(e:∀b,S b->ei b=D b){w B cM}(h:jJ M D w B cM)(ee:∀b,¬S b->∀c cN,B=.box c cN->∀x∈c,kN b x):jJ M ei w B cM:=by
 have⟨cs,eV,f,g,a⟩:=h;refine⟨cs,eV,f,g,?_⟩
 cases B with|row l cR cN=>exact a|box c cN=>exact⟨a.1,a.2.1,⟨a.2.2.1.size,λj x d=>let ⟨v,i,k⟩:=a.2.2.1.den j x d;⟨v,i,k.BR e λb hb=>ee b hb c cN Z x (jY d)⟩⟩,a.2.2.2⟩
open Classical in
def aju{P o}{dC aa:fw->dp}{F O j e}(aj:hE P o dC (p0 F O) e)(he:z9 F o.dst e)
  (ak:∀x,dC x=.dead\/dC x=aa x)(al:∀b∈F,j b=O b)(am:∀b∈F,∀B,O b=U B->jK (oc B) F=N):
  ∀cX own M D a w,gQ cX own M->(∀c,w.heap.size<=c->own c)->fp M w->er own M D j w->(∀x,dZ M D (aa x) (a.eval x))->
  n9 P cX.main cX.F o a w (λd8 w'=>∃v,d8=a.put o.dst v/\ ∃(p:eI) (ei:gD),j0 (pr cX own) w w'/\gS M p/\fp p w'/\jx own M p/\er own p ei (e.O j) w'/\ (∀b,pZ e.f5 b->ei b=D b)/\ (o.dst≠cL->dZ p ei e.fj v)):=by
 intro cX own M D a w gj an dt c9 ao
 let fK:gD:=λb=>if b∈F then D b else cL
 let E:V->Prop:=λc=>own c/\ ∀b cM,b∉F->D b=U (U cM)->cM.blk≠c
 have ab:∀b∈F,p0 F O b=j b:=λb hb=>by unfold p0;rw[rK.2 hb,fF,al b hb]
 have aG:∀b,b∉F->p0 F O b=cL:=λb hb=>by
  unfold p0
  cases d6:kp b F with
  |true=>exact dN (rK.1 d6) hb
  |false=>rfl
 have ac:∀b∈F,fK b=D b:=λb hb=>if_pos hb;have ap:∀b,b∉F->fK b=cL:=λb hb=>cS hb
 have aq:∀b,fK b=cL\/fK b=D b:=λb=>by
  grind
 have H:=c9.CC λb=>by
  by_cases hb:b∈F
  .exact .inr ⟨ab b hb,ac b hb⟩
  simp_all
 have ar:er E M fK (p0 F O) w:=by
  refine⟨H.fE,H.iX,λb B cM f g=>⟨⟨(H.at_ b B cM f g).1,λd7 ek n s e=>?_⟩,(H.at_ b B cM f g).2⟩,H.inj⟩
  have J:=nA λhb=>by rw[ap b hb]at g;cases g
  have:=c9.inj d7 b ek cM s (ac b J▸g) e;exact n (this▸J)
 have au:∀c,w.heap.size<=c->E c:=λc dj=>⟨an c dj,λb cM _ g e=>by have:=c9.lt g;omega⟩
 have av:∀x,dZ M fK (dC x) (a.eval x):=λx=>by
  rcases ak x with e|e
  .rw[e];exact .dead _
  .rw[e];exact(ao x).CC aq
 refine wl (λd8 w' aw=>?_) (aj cX E M fK a w ⟨λc h=>gj.own c h.1,gj.mem,gj.xT⟩ au dt ar av);obtain⟨v,rfl,p,ad,G,s1,ax,fA,dI,k1,d1⟩:=aw;refine⟨v,Z,?_⟩
 let S:V->Prop:=λb=>b∈F\/e.f5=U b
 let ei:gD:=λb=>if S b then ad b else D b
 have t:∀b,S b->ei b=ad b:=λb hb=>if_pos hb;have z:∀b,¬S b->ei b=D b:=λb hb=>cS hb
 have W:∀b,pZ e.f5 b->ei b=D b:=λb hb=>by
  by_cases ay:b∈F
  .grind
  .exact z b λh=>h.elim ay λh=>by rw[h]at hb;exact tx hb Z
 have X:∀b,b∈F++kO e->S b:=λb hb=>by
  rcases iY.1 hb with h|h
  .grind
  .rcases wL.1 h with h|h
   .grind
   .exact he.wr b h
 have aH:∀ {o:dB (I V)},jK o (F++kO e)=N->∀b,¬S b->b∉F++kO e:=λ_ b hb d6=>hb (X b d6)
 have Q:∀b,S b->e.O j b=e.O (p0 F O) b:=λb hb=>by
  rw[vd,vd]
  cases hw:iZ e.wr b with
  |some B=>rfl
  |none=>
   rcases hb with hb|hb
   .grind
   .exact dN (he.f5 b hb) (yb.1 hw)
 have R:∀b,¬S b->e.O j b=kj e.f5 (j b):=λb hb=>by
  rw[vd];have:=yb.2 λd6=>hb (he.wr b d6);rw[this]
 have az:∀b B,S b->e.O (p0 F O) b=U B->∀d7,¬S d7->∀c cN,B=.box c cN->∀x∈c,kN d7 x:=by
  intro b B hb f d7 n;rw[vd]at f
  cases hw:iZ e.wr b with
  |some A=>rw[hw]at f;simp at f;subst f;exact O1 (he.blk b A hw) d7 λd6=>n (X d7 d6)
  |none=>
   rw[hw]at f;have J:=hb.elim id λh=>dN (he.f5 b h) (yb.1 hw);rw[ab b J]at f;simp only at f;intro c cN sO x r
   cases C:j b with
   |none=>rw[C]at f;unfold kj at f;grind
   |some A=>
    have ae:=am b J A (by simp_all);have af:=λd6=>n (.inl d6);rw[C]at f;unfold kj at f;split at f
    .simp at f;subst f;exact O1 ae d7 af c cN sO x r
    .rename_i k c_;simp at f;subst f
     cases A with
     |row l cR cN=>cases sO
     |box e3 aA=>
      simp[ht,d4.box.injEq]at sO;obtain⟨rfl,rfl⟩:=sO;have⟨i,cK⟩:=W_ r;rw[FD]at cK
      cases ag:e3[i]? with
      |none=>simp_all
      |some y=>
       rw[ag]at cK;simp at cK;subst cK;rcases ahN k y with uI|uI
       .rw[uI];exact O1 ae d7 af e3 aA Z y (jY ag)
       .rw[uI];exact .dead
 have T:∀b B cM,e.O j b=U B->ei b=U (U cM)->own cM.blk/\jJ p ei w' B cM/\ (S b->E cM.blk)/\ (¬S b->¬E cM.blk):=by
  intro b B cM f g
  by_cases hb:S b
  .rw[Q b hb]at f;rw[t b hb]at g;have⟨K,Y⟩:=dI.at_ b B cM f g;exact⟨K.1,Y.BR t λd7 n=>az b B hb f d7 n,λ_=>K,λh=>dN hb h⟩
  .rw[R b hb]at f;rw[z b hb]at g;have ah:¬E cM.blk:=λh=>h.2 b cM (λd6=>hb (.inl d6)) g Z
   cases C:j b with
   |none=>rw[C]at f;unfold kj at f;grind
   |some A=>
    have⟨K,Y⟩:=c9.at_ b A cM C g
    have aB:=Y.k' s1 (G.block _ λh=>h.elim ah (gj.own _ K)) λaC o=>by
     cases cY:p cM.blk o with
     |none=>rfl
     |some u=>
      rcases fA _ _ _ cY with h|h
      .rw[c9.closed g A C aC o]at h;cases h
      simp_all
    refine⟨K,?_,λh=>dN h hb,λ_=>ah⟩;rw[C]at f;unfold kj at f;split at f
    .rename_i c_;simp at f;subst f;have:=funext λb=>W b (by rw[c_];trivial);simp_all
    .rename_i k c_;simp at f;subst f;exact aB.kill λd7 n=>W d7 (by rwa[c_])
 refine⟨p,ei,⟨G.os,G.tape,G.output,G.size,λc dj=>G.block c λh=>dj (h.elim (λq=>.inl q.1) .inr)⟩,s1,ax,λb o v cY=>Eo (fA b o v cY) λh=>h.1,⟨λb=>?_,λb cY=>?_,λb B cM f g=>⟨(T b B cM f g).1,(T b B cM f g).2.1⟩,λb d7 cM ek g s ai=>?_⟩,W,λcP=>?_⟩
 .by_cases hb:S b
  .rw[Q b hb,t b hb];exact dI.fE b
  .rw[R b hb,z b hb,<-c9.fE b];unfold kj;split
   .rfl
   simp_all
 .by_cases hb:S b
  .rw[t b hb]at cY;rw[Q b hb];exact dI.iX b cY
  .rw[z b hb]at cY;have⟨cR,cN,aD⟩:=c9.iX b cY;rw[R b hb,aD];refine⟨cR,cN,?_⟩;unfold kj;split<;>rfl
 .have get:∀b cM,ei b=U (U cM)->∃B,e.O j b=U B:=λb cM g=>by
   cases r:e.O j b with
   |some B=>simp_all
   |none=>
    exfalso
    by_cases hb:S b
    .rw[Q b hb]at r;rw[t b hb,(dI.fE b).1 r]at g;cases g
    .rw[R b hb]at r;rw[z b hb]at g
     have:j b=cL:=by
      unfold kj at r;split at r
      .exact r
      .simp_all
     rw[(c9.fE b).1 this]at g;cases g
  have⟨B,f⟩:=get b cM g;have⟨gG,aE⟩:=get d7 ek s;have q:=(T b B cM f g).2.2;have aI:=(T d7 gG ek aE s).2.2
  by_cases hb:S b
  .by_cases n:S d7
   .rw[t b hb]at g;rw[t d7 n]at s;exact dI.inj b d7 cM ek g s ai
   simp_all
  .by_cases n:S d7
   .simp_all
   .rw[z b hb]at g;rw[z d7 n]at s;exact c9.inj b d7 cM ek g s ai
 .cases aF:o.dst with
  |none=>simp_all
  |some d=>
   rcases he.fj d aF with sO|sO
   .rw[sO];exact .dead _
   .exact d1.BR t λb hb=>by have a:=λd6=>hb (X b d6);have⟨dW,e,c0⟩:=z8 sO;exact ajr e λm=>a (c0 b m)
structure mN where
 o:gL
 act:di
 e:gp
 s:oY
def mN.app(x:mN)(st:ft):ft:=⟨ty (rA x.e.f5 st.dd) x.o.dst x.e.fj,x.e.O st.O⟩
def Jw(fj:dp)(h8 act:di):Prop:=(∃b,(fj=.d (.bool b) \/ (fj=.eN/\b=N) \/ (fj=.fd/\b=L)) /\act=(b==h8)) \/ (fj=.dS [] /\act=L)
structure mO(P:en)(ops:d' gL)(x:mN)(st:ft):Prop where
 dst:x.s.dst=x.o.dst
 W:x.s.W=kO x.e
 O3:x.s.wd=L->∀t∈x.s.rd,jK (fW (st.dd t)) x.s.F=N
 Jx:x.s.wd=L->x.s.ew=L->p1 x.o.op=L->∀b∈x.s.F,∀B,st.O b=U B->jK (oc B) x.s.F=N
 vf:x.s.k=rE x.e
 yc:x.s.wd=L->z9 x.s.F x.o.dst x.e
 f5:∀k,x.e.f5=U k->¬(1000000<=k/\k<1000004)
 guard:match x.o.guard with
  |none=>x.act=N
  |some (g,h8)=>∃t,(ops[g]?).bind (·.dst)=U t/\t∈x.s.rd/\Jw (st.dd t) h8 x.act
 W':x.act=N->∃rd,(∀t∈rd,t∈x.s.rd) /\ (x.s.wd=L->x.s.ew=L->p1 x.o.op=L->hE P x.o (i7 (nD rd st.dd)) (p0 x.s.F st.O) x.e) /\ (x.s.wd=L->x.s.ew=N->∀O,hE P x.o (i7 (nD rd st.dd)) O x.e) /\ (x.s.wd=N->hE P x.o (i7 (nD rd st.dd)) st.O x.e) /\
  (x.s.wd=L->p1 x.o.op=N->x.s.ew=L/\ ∃need:I V,(∀b∈need,b∈x.s.F/\st.O b≠cL) /\ ∀O,(∀b∈need,O b≠cL)->hE P x.o (i7 (nD rd st.dd)) O x.e)
 off:x.act=L->x.e=⟨.dS [],[],cL⟩
structure yd(y x:mN):Prop where
 sP:x.s.wd=L
 dst:∀d,y.o.dst=U d->d∉x.s.rd
 W:x.s.ew=L->∀b∈kO y.e,b∉x.s.F
 K:∀k,y.e.f5=U k->k∉x.s.F
 f5:∀k,y.e.f5=U k->k∈qP y.e.wr
 lt:∀k,y.e.f5=U k->tu k
def CF(x:mN)(st t):(x.app st).dd t=if x.o.dst=U t then x.e.fj else ve x.e.f5 (st.dd t):=by
 show ty (rA x.e.f5 st.dd) x.o.dst x.e.fj t=_
 cases cP:x.o.dst with
 |none=>simp[ty,W6]
 |some d=>
  simp[ty,fC]
  by_cases e:t=d
  .subst e;rw[gP,if_pos Z]
  .rw[gq _ _ e,cS λh=>e h.symm,W6]
def ye(x:mN)(st:ft)(b:V):(x.app st).O b=match iZ x.e.wr b with|some B=>U B|none=>kj x.e.f5 (st.O b):=vd x.e st.O b
def O4{k x F}(h:jK (fW x) F=N)(l:∀b,k=U b->tu b)(a:∀b,k=U b->b∉F):ve k x=x:=by
 cases k with|none=>rfl|some k=>have⟨dW,e,c0⟩:=z8 h;exact W0 (l k Z) e λm=>a k Z (c0 k m)
def O5{k o F}(h:∀B,o=U B->jK (oc B) F=N)(l:∀b,k=U b->tu b)(a:∀b,k=U b->b∉F):kj k o=o:=by
 cases k with
 |none=>rfl
 |some k=>
  cases o with
  |none=>rfl
  |some B=>have⟨dW,e,c0⟩:=z8 (h B Z);simp[kj,jB,ajn (l k Z) e λm=>a k Z (c0 k m)]
def ajv{y x st}(o:yd y x)(f:∀t∈x.s.rd,jK (fW (st.dd t)) x.s.F=N)(c9:x.s.ew=L->p1 x.o.op=L->∀b∈x.s.F,∀B,st.O b=U B->jK (oc B) x.s.F=N):
  (∀t∈x.s.rd,(y.app st).dd t=st.dd t) /\ (x.s.ew=L->p1 x.o.op=L->∀b∈x.s.F,(y.app st).O b=st.O b):=by
 refine⟨λt c=>?_,λl p b a=>?_⟩
 .rw[CF,cS λh=>o.dst t h c];exact O4 (f t c) o.lt o.K
 .rw[ye,yb.2 λm=>o.W l b (wL.2 (.inr m)) a];exact O5 (c9 l p b a) o.lt o.K
def ajw{y x st}(o:yd y x)(g:∀t∈x.s.rd,jK (fW ((y.app st).dd t)) x.s.F=N)(c9:x.s.ew=L->p1 x.o.op=L->∀b∈x.s.F,∀B,(y.app st).O b=U B->jK (oc B) x.s.F=N):
  (∀t∈x.s.rd,(y.app st).dd t=st.dd t) /\ (x.s.ew=L->p1 x.o.op=L->∀b∈x.s.F,(y.app st).O b=st.O b):=by
 refine⟨λt f=>?_,λl c b d=>?_⟩
 .have Q:=g t f;rw[CF,cS λh=>o.dst t h f]at Q⊢;have⟨dW,e,_⟩:=z8 Q
  cases a:y.e.f5 with
  |none=>rfl
  |some k=>rw[a]at e;exact W1 (by show fW (ve (U k) (st.dd t))≠cL;rw[e];simp)
 .have Q:=c9 l c b d;rw[ye,yb.2 λm=>o.W l b (wL.2 (.inr m)) d]at Q⊢;simp only at Q⊢
  cases a:y.e.f5 with
  |none=>rfl
  |some k=>
   cases i:st.O b with
   |none=>rfl
   |some B=>rw[a,i]at Q;have⟨dW,e,_⟩:=z8 (Q _ Z);simp[kj,jB];rw[ajo v7]
def mO.uK{P ops x st s}(h:mO P ops x st)(hw:x.s.wd=L)(c:∀t∈x.s.rd,s.dd t=st.dd t)(e:x.s.ew=L->p1 x.o.op=L->∀b∈x.s.F,s.O b=st.O b)(q:x.s.ew=L->∀b∈x.s.F,st.O b≠cL->s.O b≠cL):mO P ops x s:=by
 refine⟨h.dst,h.W,λ_ t m=>by rw[c t m];exact h.O3 hw t m,λ_ l p b m B n=>h.Jx hw l p b m B (by simp_all),h.vf,h.yc,h.f5,?_,λd=>?_,h.off⟩
 .have o:=h.guard;grind
 .have⟨rd,Q,k,r,_,du⟩:=h.W' d
  have u:nD rd s.dd=nD rd st.dd:=by
   funext t;unfold nD
   cases a:kp t rd with|true=>simp;exact c t (Q t (rK.1 a))|false=>rfl
  refine⟨rd,Q,λ_ l p=>?_,λ_ l=>by simp_all,(λj=>by simp_all),λ_ p=>by
   have⟨dI,need,g,i⟩:=du hw p
   exact⟨dI,need,λb m=>⟨(g b m).1,q dI b (g b m).1 (g b m).2⟩,by simp_all⟩⟩
  have f:p0 x.s.F s.O=p0 x.s.F st.O:=by
   funext b;unfold p0
   cases a:kp b x.s.F with|true=>simp;exact e l p b (rK.1 a)|false=>rfl
  simp_all
def mO.fwd{P ops x y st}(h:mO P ops x st)(o:yd y x):mO P ops x (y.app st):=
 let ⟨a,b⟩:=ajv o (h.O3 o.sP) (h.Jx o.sP)
 h.uK o.sP a b λ_ c _ c0=>by
  rw[ye]
  cases iZ y.e.wr c with
  |some B=>simp
  |none=>
   cases d:st.O c with
   |none=>simp_all
   |some B=>unfold kj;grind
def mO.bwd{P ops x y st}(h:mO P ops x (y.app st))(o:yd y x):mO P ops x st:=
 let ⟨a,b⟩:=ajw o (h.O3 o.sP) (h.Jx o.sP)
 h.uK o.sP (λt m=>(a t m).symm) (λl p c m=>(b l p c m).symm) λl c m c0 d=>by
  rw[ye,yb.2 λe=>o.W l c (wL.2 (.inr e)) m,d]at c0;unfold kj at c0;grind
structure O6(x y:mN):Prop where
 O7:yd x y
 O8:yd y x
 dst:∀d,x.o.dst=U d->y.o.dst≠U d
 W:∀b∈kO x.e,b∉kO y.e
structure Own(x:mN):Prop where
 dst:x.s.dst=x.o.dst
 W:x.s.W=kO x.e
 vf:x.s.k=rE x.e
 yc:x.s.wd=L->z9 x.s.F x.o.dst x.e
def ajx{e k}:k∈rE e↔e.f5=U k:=by unfold rE;grind
def ajy(a b x):ve a (ve b x)=ve b (ve a x):=by cases a<;>cases b<;>first|rfl|exact W2 _ _ _
def ajz(a b x):kj a (kj b x)=kj b (kj a x):=by cases a<;>cases b<;>first|rfl|(cases x<;>simp[kj,ajp])
def O9{x y}(r:Own x)(s:Own y)(h:O6 x y)(st):y.app (x.app st)=x.app (y.app st):=by
 have a:=r.yc h.O8.sP;have c:=s.yc h.O7.sP
 have o:∀b,x.e.f5=U b->b∉y.s.F++kO y.e:=λb g i=>by
  have f:=wL.2 (.inl g);rcases iY.1 i with m|m
  .exact h.O7.K b g m
  .exact h.W b f m
 have p:∀b,y.e.f5=U b->b∉x.s.F++kO x.e:=λb g i=>by
  have f:=wL.2 (.inl g);rcases iY.1 i with m|m
  .exact h.O8.K b g m
  .exact h.W b m f
 have v:∀d,x.o.dst=U d->ve y.e.f5 x.e.fj=x.e.fj:=λd cP=>by
  rcases a.fj d cP with e|e
  .rw[e];cases y.e.f5<;>rfl
  .exact O4 e c.lt p
 have q:∀d,y.o.dst=U d->ve x.e.f5 y.e.fj=y.e.fj:=λd cP=>by
  rcases c.fj d cP with e|e
  .rw[e];cases x.e.f5<;>rfl
  .exact O4 e a.lt o
 have C:(y.app (x.app st)).dd=(x.app (y.app st)).dd:=by
  funext t;rw[CF,CF,CF,CF]
  by_cases j:x.o.dst=U t
  .have k:=h.dst t j;simp_all
  .by_cases k:y.o.dst=U t
   .simp_all
   .rw[cS k,cS j,cS j,cS k,ajy]
 have z:(y.app (x.app st)).O=(x.app (y.app st)).O:=by
  funext b;rw[ye,ye,ye,ye]
  cases w:iZ x.e.wr b with
  |some B=>
   have l:=nA λc0=>by rw[yb.2 c0]at w;cases w
   have n:=yb.2 λi=>h.W b (wL.2 (.inr l)) (wL.2 (.inr i));rw[n];exact O5 (λgG e=>by cases e;exact a.blk b B w) c.lt p
  |none=>
   cases n:iZ y.e.wr b with|some B=>exact(O5 (λgG e=>by cases e;exact c.blk b B n) a.lt o).symm|none=>exact ajz _ _ _
 cases A:y.app (x.app st) with|mk D u=>simp_all
def i9(l:I (mN×V))(st:ft):ft:=l.foldl (λs p=>p.1.app s) st
def yf(p l st):i9 (p::l) st=i9 l (p.1.app st):=rfl
def Xa(a b st):i9 (a++b) st=i9 b (i9 a st):=by simp[i9]
def Jy{x:mN}:∀ {l},(∀p∈l,∀st,p.1.app (x.app st)=x.app (p.1.app st))->∀st,i9 l (x.app st)=x.app (i9 l st)
 | [],_,st=>rfl
 |p::r,h,st=>by
  rw[yf,yf,h p (mK ..)];exact Jy (λq a=>h q (lX _ a)) _
def Xb:∀ {a b},(∀p∈a,∀q∈b,∀st,q.1.app (p.1.app st)=p.1.app (q.1.app st))->∀st,i9 b (i9 a st)=i9 a (i9 b st)
 | [],b,_,st=>rfl
 |p::r,b,h,st=>by
  rw[yf,yf,Xb (λp' O=>h p' (lX _ O)),Jy (x:=p.1) λq c=>h p (mK ..) q c]
def Xc{c3:V->di}:∀ {l},l.Pairwise (λp q=>c3 p.2=L->c3 q.2=N->∀st,q.1.app (p.1.app st)=p.1.app (q.1.app st))->∀st,
  i9 l st=i9 (l.filter λp=>!c3 p.2) (i9 (l.filter λp=>c3 p.2) st)
 | [],_,st=>rfl
 |p::r,h,st=>by
  rw[vg]at h;rw[yf,Xc h.2]
  cases O:c3 p.2 with|true=>simp[CG,O,yf]|false=>simp[CG,O,Bool.not_false,nz,yf,rG,qF];rw[Jy (x:=p.1) λq a=>h.1 q (ou.1 a).1 O (by simp_all)]
def Xd{P ops x}:∀ {l st},mO P ops x st->(∀p∈l,yd p.1 x)->mO P ops x (i9 l st)
 | [],st,h,_=>h|p::r,st,h,o=>Xd (l:=r) (h.fwd (o p (mK ..))) λq a=>o q (lX _ a)
def Xe{P ops x}:∀ {l st},mO P ops x (i9 l st)->(∀p∈l,yd p.1 x)->mO P ops x st
 | [],st,h,_=>h|p::r,st,h,o=>(Xe (l:=r) (st:=p.1.app st) h λq a=>o q (lX _ a)).bwd (o p (mK ..))
def Xf{s p}:∀ {l m},Iw s p m l=N->∀i x,l[i]?=U x->xW p (m+i)=N\/Fi x s=N
 | [],m,_,i,x,h=>by simp at h
 |y::r,m,h,i,x,a=>by
  simp only[Iw]at h
  cases b:(xW p m||Fi y s) with
  |false=>simp_all
  |true=>
   simp[b,fF]at h
   cases i with|zero=>simp_all|succ i=>have:=Xf h i x (by simp_all);grind
def Jz{i}:∀ {l},B3 i l=N->∀e∈l,xU e=N->e.on<i
 | [],_,e,he,_=>by cases he
 |y::r,h,e,he,hb=>by
  simp only[B3]at h
  cases a:xU y with
  |false=>
   simp[a,jw]at h
   cases he with
   |head=>simp_all
   |tail _ he=>exact Jz h e he hb
  |true=>
   simp only[a,fF]at h
   cases b:xV y.on i with
   |false=>simp_all
   |true=>
    simp[b,fF]at h
    cases he with
    |head=>simp_all
    |tail _ he=>exact Jz h e he hb
def O_{p m}:∀ {l},xW (u1 p l) m=N->∃e∈l,xU e=N/\ (m=e.on\/xW (p.getD e.on 0) m=N)
 | [],h=>by simp[u1]at h
 |y::r,h=>by
  simp[u1]at h
  cases a:xU y with
  |false=>simp[a,jw]at h;have⟨e,b,Q⟩:=O_ h;grind
  |true=>
   simp only[a,fF]at h;have h:(2^y.on|||p.getD y.on 0|||u1 p r).testBit m=N:=h;rw[ajA,ajA,ajB,ajB]at h;rcases h with (h|h)|h
   .grind
   .simp_all
   .have⟨e,b,Q⟩:=O_ h;grind
def Xg:∀ {r q i done p},u2 r q i done p=N->done.length=i->p.length=i->
  ∃P:I V,P.take i=p/\q.length=r.length/\ ∀k o s,r[k]?=U o->q[k]?=U s->
   B3 (i+k) o.after.toList=N/\ (∀m,xW (P.getD (i+k) 0) m=N->∃e∈o.after.toList,xU e=N/\ (m=e.on\/xW (P.getD e.on 0) m=N)) /\
   ∀m x,(done++q)[m]?=U x->m<i+k->xW (P.getD (i+k) 0) m=N\/Fi x s=N
 | [],[],i,done,p,_,_,O=>⟨p,by simp[<-O],Z,λk o s h=>by simp at h⟩| [],_::_,_,_,_,h,_,_=>by simp[u2]at h|_::_,[],_,_,_,h,_,_=>by simp[u2]at h
 |o::r,s::q,i,done,p,h,cP,O=>by
  simp[u2,lV]at h;have⟨⟨Q,w⟩,D⟩:=h;have⟨P,C,u,v⟩:=Xg D (by simp[cP]) (by simp[O])
  have g:P[i]?=U (u1 p o.after.toList):=by have:=eL (·[i]?) C;simp at this;rw[this,x7 R];simp[O]
  have d:P.getD i 0=u1 p o.after.toList:=by simp[wM,g]
  have y:∀j,j<i->P.getD j 0=p.getD j 0:=by intro j B;have:=eL (·[j]?) C;simp[u_,show j<i+1 by omega,nz]at this;rw[wH R]at this;simp[wM,this]
  refine⟨P,?_,by simp[u],λk ks s' a b=>?_⟩
  .have:=eL (List.take i) C;grind
  .cases k with
   |zero=>
    simp at a b;subst a b;refine⟨Q,λm c=>?_,λm x f c=>?_⟩
    .rw[Cu,d]at c;have⟨e,A,z,h⟩:=O_ c;grind
    .rw[Cu,d];rw[wH R]at f;simpa using Xf w m x f
   |succ k=>
    have⟨dI,n,t⟩:=v k ks s' (by simp_all) (by simp_all)
    have l:i+1+k=i+(k+1):=R
    rw[l]at dI n t;refine⟨dI,n,λm x f c=>t m x ?_ c⟩;rwa[j4]
theorem z_:∀ {l K},qO l K->K l
 | [],_,h=>h|x::r,K,h=>z_ (l:=r) (K:=λr=>K (x::r)) h
theorem Xh{dd F}:∀ {rd},Fg dd rd F=N->∀t∈rd,jK (fW (dd t)) F=N
 | [],_,t,a=>by cases a
 |x::r,h,t,a=>by
  simp only[Fg]at h
  cases b:jK (fW (dd x)) F with
  |false=>simp_all
  |true=>
   simp[b,fF]at h
   cases a with
   |head=>exact b
   |tail _ a=>exact Xh h t a
theorem O'{O F}:∀ {G},B2 O F G=N->∀b∈G,∀B,O b=U B->jK (oc B) F=N
 | [],_,b,hb,_,_=>by cases hb
 |x::r,h,b,hb,B,a=>by
  simp[B2]at h
  cases c:O x with
  |none=>
   simp[c]at h
   cases hb with
   |head=>simp_all
   |tail _ hb=>exact O' h b hb B a
  |some d=>
   simp only[c]at h
   cases cK:jK (oc d) F with
   |false=>simp_all
   |true=>
    simp[cK,fF]at h
    cases hb with
    |head=>simp_all
    |tail _ hb=>exact O' h b hb B a
section
variable {P:en} {T:fM} (cT:jL P T)
include cT
omit cT in
theorem ajC{g o dC F e K}(h:wz g e K)(i:z9 F o.dst e):
  ∃f,K f/\ (∀O,hE P o dC O e->hE P o dC O f) /\z9 F o.dst f/\kO f=kO e/\rE f=rE e:=by
 have t:∀(b:di) (c:dp),e.fj=.d (.bool b)->fW c=U []->(∀(M:eI) (D:gD),dZ M D c (.bool b))->(∀O,hE P o dC O e->hE P o dC O ⟨c,e.wr,e.f5⟩) /\z9 F o.dst ⟨c,e.wr,e.f5⟩:=by
  intro b c r c0 cY;refine⟨λO s cX own M D a w n u p c9 j=>wl (λd8 w' x=>?_) (s cX own M D a w n u p c9 j),⟨i.f5,i.lt,i.wr,i.blk,λd cP=>.inr ?_⟩⟩
  .have⟨v,B,l,ei,m,s1,C,y,dI,k1,d1⟩:=x;rw[r]at d1;have:=og d1;subst this;exact⟨_,B,l,ei,m,s1,C,y,dI,k1,cY l ei⟩
  .rw[c0];rfl
 cases g with
 |false=>exact⟨e,h,λ_ s=>s,i,Z,Z⟩
 |true=>
  have⟨c,A,z⟩:=e;simp[wz]at h;split at h
  .rename_i b;rcases wD h with⟨rfl,Q⟩|⟨rfl,Q⟩
   .have⟨q,k⟩:=t N .eN Z Z λ_ _=>.eN;exact⟨_,Q,q,k,Z,Z⟩
   .have⟨q,k⟩:=t L .fd Z Z λ_ _=>.fd;exact⟨_,Q,q,k,Z,Z⟩
  grind
omit cT in
theorem ajD{v K}(h:v≠.dead)(k:K v):na v K:=by cases v<;>first|exact k|exact dN Z h
omit cT in
theorem ajE{g o dC e K}(h:wz g e K):
  ∃d,K d/\ (∀O,hE P o dC O e->hE P o dC O d) /\kO d=kO e/\rE d=rE e:=by
 have t:∀(b:di) (c:dp),e.fj=.d (.bool b)->(∀(M:eI) (D:gD),dZ M D c (.bool b))->(∀O,hE P o dC O e->hE P o dC O ⟨c,e.wr,e.f5⟩):=by intro b c m cY O s cX own M D a w k n l c9 f;refine wl (λd8 w' q=>?_) (s cX own M D a w k n l c9 f);have⟨v,x,i,ei,j,s1,y,p,dI,k1,d1⟩:=q;rw[m]at d1;have:=og d1;subst this;exact⟨_,x,i,ei,j,s1,y,p,dI,k1,cY i ei⟩
 cases g with
 |false=>exact⟨e,h,λ_ s=>s,Z,Z⟩
 |true=>
  have⟨c,u,r⟩:=e;simp[wz]at h;split at h
  .rename_i b;rcases wD h with⟨rfl,Q⟩|⟨rfl,Q⟩
   .exact⟨_,Q,t N .eN Z λ_ _=>.eN,Z,Z⟩
   .exact⟨_,Q,t L .fd Z λ_ _=>.fd,Z,Z⟩
  grind
omit cT in
theorem ajF{ew dd O rd K c}(h:NL ew dd O rd K c):
  c\/ ∃F,K F/\ (∀t∈rd,jK (fW (dd t)) F=N) /\ (ew=L->∀b∈F,∀B,O b=U B->jK (oc B) F=N):=by
 unfold NL at h;split at h
 .have h:=z_ h
  cases a:(Fg dd rd _&&(bif ew then N else B2 O _ _)) with|false=>rw[a]at h;grind|true=>rw[a]at h;rw[lV]at a;exact .inr ⟨_,h,Xh a.1,λe=>O' (by simp_all)⟩
 simp_all
omit cT in
theorem ajG{o dC O K}(j:uY o.op=N)(h:hz T P o dC O K):∃e,K e/\ ∀p,hz T P o dC p (λf=>f=e):=by
 have one:∀x:fw,na (dC x) (val K)->∃e,K e/\na (dC x) (val λf=>f=e):=λx h=>
  let q:=tG h
  ⟨_,q.1,ajD q.2 Z⟩
 cases d:o.op with
 |move x=>simp[hz,d]at h⊢;simp_all
 |assign x=>simp[hz,d]at h⊢;simp_all
 |pick c a b=>
  simp only[hz,d]at h⊢;split at h
  .simp_all
  .simp_all
  .rename_i k _;rcases wD h with⟨rfl,g⟩|⟨rfl,g⟩
   .have⟨e,Q,i⟩:=one _ g;exact⟨e,Q,λ_=>⟨i⟩⟩
   .have⟨e,Q,i⟩:=one _ g;exact⟨e,Q,λ_=>⟨i⟩⟩
  simp_all
 |_=>rw[d]at j;cases j
omit cT in
theorem ajH(o)(h:p1 o=N):uY o=L:=by cases o<;>first|rfl|cases h
omit cT in
theorem ajI{o dC O K}(hb:p1 o.op=N)(h:hz T P o dC O K):
  ∃e,K e/\ ∃need:I V,(∀b∈need,O b≠cL) /\ ∀a,(∀b∈need,a b≠cL)->hz T P o dC a (λl=>l=e):=by
 have k:∀ {s:eF} {f:V} {G:V->eF->gp},xR T s f (λo t=>K (G o t))->∃e,K e/\xR T s f (λo t=>G o t=e):=fun {s f G} h=>by
  unfold xR at h⊢;grind
 cases d:o.op with
 |nilCheck x=>
  simp[hz,d]at h⊢;split at h
  .rename_i b i j g;split at h
   .rename_i B m;refine⟨_,h,[b],λc dj=>by simp_all,λa c0=>?_⟩;grind
   simp_all
  .rename_i c j g;exact⟨_,h,[],(λc dj=>by cases dj),λa _=>by rfl⟩
  simp_all
 |fieldAddr s x f=>
  simp[hz,d]at h⊢;split at h
  .rename_i b i j g;split at h
   .rename_i B m;have⟨e,Q,c5⟩:=k h;refine⟨e,Q,[b],λc dj=>by simp_all,λa c0=>?_⟩;grind
   simp_all
  .rename_i c j g;have⟨e,Q,c5⟩:=k h;exact⟨e,Q,[],(λc dj=>by cases dj),λa _=>by omega⟩
  simp_all
 |_=>rw[d]at hb;cases hb
theorem ajJ{ops:d' gL}{o:gL}{A:di}{c1:I V}{dd:V->dp}{O:V->dB d4}{K:gp->oY->Prop}(h:wA T P o A c1 dd O K)(E:∀t∈c1,fW (dd t)=U [])
  (z:match o.guard with
  |none=>True
  |some (g,w)=>∃t,(ops[g]?).bind (·.dst)=U t/\t∈c1/\Jw (dd t) w N):
  ∃e s,K e s/\ ((∀k,e.f5=U k->¬(1000000<=k/\k<1000004))->mO P ops ⟨o,N,e,s⟩ ⟨dd,O⟩):=by
 unfold wA at h;have h:=z_ h
 have wd:(hz T P o (i7 (nD (sD (u0 o.op dd)) dd)) O (λe=>qO (kO e) λW=>qO (c1++sD (u0 o.op dd)) λp=>wz A e λe=>K e ⟨o.dst,p,[],W,L,rE e,N⟩))->∃e s,K e s/\ ((∀k,e.f5=U k->¬(1000000<=k/\k<1000004))->mO P ops ⟨o,N,e,s⟩ ⟨dd,O⟩):=λh=>by
  have⟨e,h,i⟩:=CB cT h;have h:=z_ (z_ h);have⟨e,h,u,B,H⟩:=ajE (P:=P) (o:=o) (dC:=i7 (nD (sD (u0 o.op dd)) dd)) h;rw[<-B]at h;refine⟨e,_,h,λG=>⟨Z,Z,λh=>hh,λh=>hh,Z,λh=>hh,G,?_,λ_=>⟨sD (u0 o.op dd),λt x=>pz _ x,λh=>hh,λh=>hh,λ_=>u _ i,λh=>hh⟩,λh=>hh⟩⟩;split at z
  .rename_i j;rw[j]
  .rename_i g w j;have⟨t,M,dc,D⟩:=z;rw[j];exact⟨t,M,ot _ dc,D⟩
 cases hw:Vb o.op with
 |true=>simp_all
 |false=>
 rw[hw]at h;rcases ajF h with h|⟨F,h,Q,cU⟩
 .exact wd h
 have f:∃e,(bif Iu F o.dst e then qO (kO e) λW=>qO (c1++sD (u0 o.op dd)) λp=>wz A e λr=>K r ⟨o.dst,p,F,W,uY o.op,rE r,L⟩ else dA) /\
   (uY o.op=L->hE P o (i7 (nD (sD (u0 o.op dd)) dd)) (p0 F O) e) /\ (uY o.op=N->∀a,hE P o (i7 (nD (sD (u0 o.op dd)) dd)) a e) /\
   (p1 o.op=N->uY o.op=L/\ ∃need:I V,(∀b∈need,b∈F/\O b≠cL) /\ ∀a,(∀b∈need,a b≠cL)->hE P o (i7 (nD (sD (u0 o.op dd)) dd)) a e):=by
  cases c:p1 o.op with
  |true=>
   have v:=ajH o.op c;have⟨e,h,need,y,i⟩:=ajI c h;have⟨r,l,cX⟩:=CB cT (i _ λb d=>y b d);subst l;refine⟨r,h,λ_=>cX,λh=>(by rw[v]at h;cases h),λ_=>⟨v,need,λb d=>?_,λa c0=>?_⟩⟩
   .have:=y b d;unfold p0 at this
    cases dh:kp b F with
    |true=>rw[dh]at this;exact⟨rK.1 dh,this⟩
    |false=>rw[dh]at this;exact dN Z this
   .have⟨S,C,cM⟩:=CB cT (i a c0);rwa[<-C]
  |false=>
  cases d:uY o.op with
  |false=>have⟨e,h,i⟩:=CB cT h;exact⟨e,by rwa[d]at h,λ_=>i,(λh=>hh),λh=>hh⟩
  |true=>have⟨e,h,i⟩:=ajG d h;refine⟨e,by rwa[d]at h,(λh=>hh),λ_ a=>?_,λh=>hh⟩;have⟨r,l,i⟩:=CB cT (i a);rwa[<-l]
 have⟨e,h,f,n,q⟩:=f;have⟨l,h⟩:=qU h;have h:=z_ (z_ h);obtain⟨e,h,u,l,B,H⟩:=ajC h (ajt l);rw[<-B]at h
 refine⟨e,_,h,λG=>⟨Z,Z,λ_ t x=>?_,λ_ d c=>cU (by rw[show uY o.op=L from d,show p1 o.op=L from c];rfl),Z,λ_=>l,G,?_,λ_=>⟨sD (u0 o.op dd),λt x=>pz _ x,λ_ d c=>u _ (f d),λ_ d a=>u _ (n d a),(λh=>hh),λ_ c=>by
  have⟨dI,need,y,db⟩:=q c
  exact⟨dI,need,y,λa c0=>u _ (db a c0)⟩⟩,λh=>hh⟩⟩
 .rcases iY.1 x with m|m
  .rw[E t m];rfl
  .exact Q t m
 .split at z
  .rename_i j;rw[j]
  .rename_i g w j;have⟨t,M,dc,D⟩:=z;rw[j];exact⟨t,M,ot _ dc,D⟩
omit cT in
def F1(P:en)(ops:d' gL)(K:ft->Prop)(l:I gL)(dd:V->dp)(O:V->dB d4)(a:I oY):Prop:=
 ∃dD:I mN,dD.map (·.o)=l/\u2 ops.toList (a++dD.map (·.s)) 0 [] []=N/\K (dD.foldl (λs x=>x.app s) ⟨dd,O⟩) /\
   ∀(i:V) (x:mN),dD[i]?=U x->mO P ops x ((dD.take i).foldl (λs x=>x.app s) ⟨dd,O⟩)
theorem Xi {ops} {K}:∀ {l} {dd} {O} {f},tA T P ops l dd O f K->F1 P ops K l dd O f
 | [],dd,O,f,h=>by
  obtain ⟨Q,c5⟩:=k_ h;exact ⟨[],Z,by simpa using Q,c5,fun i x h=>by simp at h⟩
 |o::rest,dd,O,f,h=>by
  have next:∀ (x:mN),x.o=o->mO P ops x ⟨dd,O⟩->tA T P ops rest (x.app ⟨dd,O⟩).dd (x.app ⟨dd,O⟩).O (f++[x.s]) K->
    F1 P ops K (o::rest) dd O f:=by
   intro x a ee h;obtain ⟨dD,q,r,u,v⟩:=Xi h;refine ⟨x::dD,by simp [a,q],by simpa using r,u,fun i y m=>?_⟩
   cases i with
   |zero=>
    simp only [u9,fC] at m;subst m;exact ee
   |succ i=>exact v i y (by simpa using m)
  have take:∀ c1,(∀ t∈c1,fW (dd t)=U [])->(match o.guard with
  |none=>True
  |some (g,h8)=>∃ t,(ops[g]?).bind (·.dst)=U t/\t∈c1/\Jw (dd t) h8 N)->
    wA T P o (uZ ops o.dst ops.toList) c1 dd O (fun e s=>h0 dd O o.dst e fun st=>tA T P ops rest st.dd st.O (f++[s]) K)->F1 P ops K (o::rest) dd O f:=by
   intro c1 Q c5 h;obtain ⟨e,s,z,A⟩:=ajJ cT h Q c5;obtain ⟨du,dY⟩:=B0 z;exact next ⟨o,N,e,s⟩ Z (A du) dY
  have skip:∀ t,fW (dd t)=U []->(match o.guard with
  |none=>dA
  |some (g,h8)=>(ops[g]?).bind (·.dst)=U t/\Jw (dd t) h8 L)->
    h0 dd O o.dst ⟨.dS [],[],cL⟩ (fun st=>tA T P ops rest st.dd st.O (f++[⟨o.dst,[t],[],[],L,[],L⟩]) K)->F1 P ops K (o::rest) dd O f:=by
   intro t Q c5 h;obtain ⟨du,dY⟩:=B0 h;refine next ⟨o,L,⟨.dS [],[],cL⟩,⟨o.dst,[t],[],[],L,[],L⟩⟩ Z ⟨Z,Z,fun _ n j=>?_,fun _ _ _ b hb=>(by cases hb),Z,fun _=>⟨fun k h=>(by cases h),fun k h=>(by cases h),fun b hb=>(by cases hb),fun c B h=>(by cases h),fun d _=>.inr Z⟩,fun k h=>(by cases h),?_,fun h=>(by cases h),fun _=>Z⟩ dY
   ·have:n=t:=by simpa using j
    subst this;show jK (fW (dd n)) []=N
    rw [Q];rfl
   ·split at c5
    ·exact c5.elim
    ·rename_i g h8 C;obtain ⟨D,E⟩:=c5
     show match o.guard with|none=>_|some (g,h8)=>_
     rw [C];exact ⟨t,D,by simp,E⟩
  rw [ahb] at h;simp only [NM,ahc] at h
  cases p:o.guard with
  |none=>
   simp only [p] at h;exact take [] (fun t j=>by cases j) (by rw [p];trivial) h
  |some F=>
   obtain ⟨g,h8⟩:=F;simp only [p] at h take skip
   cases j:(ops[g]?).bind (·.dst) with
   |none=>simp [j] at h
   |some t=>
    simp only [j] at h
    have go:∀ b,fW (dd t)=U []->(dd t=.d (.bool b) \/ (dd t=.eN/\b=N) \/ (dd t=.fd/\b=L))->
      (if b=h8 then wA T P o (uZ ops o.dst ops.toList) [t] dd O (fun e s=>h0 dd O o.dst e fun st=>tA T P ops rest st.dd st.O (f++[s]) K) else h0 dd O o.dst ⟨.dS [],[],cL⟩ (fun st=>tA T P ops rest st.dd st.O (f++[⟨o.dst,[t],[],[],L,[],L⟩]) K))->F1 P ops K (o::rest) dd O f:=by
     intro b c0 hb h
     by_cases e:b=h8
     ·rw [if_pos e] at h;exact take [t] (fun n G=>by rw [p6.1 G];exact c0) ⟨t,j,by simp,.inl ⟨b,hb,by simp [e]⟩⟩ h
     ·rw [cS e] at h;exact skip t c0 ⟨j,.inl ⟨b,hb,by simp [e]⟩⟩ h
    split at h
    ·rename_i a;refine go N (by rw [a];rfl) (.inr (.inl ⟨a,Z⟩)) ?_
     cases h8
     ·simpa using h
     ·simpa using h
    ·rename_i a;refine go L (by rw [a];rfl) (.inr (.inr ⟨a,Z⟩)) ?_
     cases h8
     ·simpa using h
     ·simpa using h
    ·rename_i b a
     rcases wD h with ⟨rfl,Q⟩|⟨rfl,Q⟩
     ·refine go N (by rw [a];rfl) (.inl a) ?_
      cases h8
      ·simpa using Q
      ·simpa using Q
     ·refine go L (by rw [a];rfl) (.inl a) ?_
      cases h8
      ·simpa using Q
      ·simpa using Q
    ·rename_i a;exact skip t (by rw [a];rfl) ⟨j,.inr ⟨a,Z⟩⟩ h
    ·exact h.elim
end
theorem Xj(e):CI .any e=xU e:=by rfl
theorem Xk(l st):i9 l st=(l.map (·.1)).foldl (λs x=>x.app s) st:=by simp[i9,List.foldl_map]
section
variable {cX:jy} {own:V->Prop} {cO:da} {dL:eI} {fK:gD} {dc:V} {P:en}
theorem ajK{ops}(dh:gQ cX own dL)(o:∀c,cO.heap.size<=c->own c){x st a w j K}(Y:ops[j]?=U x.o)(l:mO P ops x st)(af:gH cX own cO dL fK dc st a w)(cP:ya dc x.o)
  (cM:∀d8 w',gH cX own cO dL fK dc (x.app st) d8 w'->K d8 w'):wm P cX.main cX.F ops j K a w:=by
 have⟨M,D,Q,A,J,R,du,dY,I,T,ab⟩:=af
 have hw:js x.o (yielded ops a.tmps)=x.act:=by
  have db:=l.guard;unfold js;split at db
  .simp_all
  .rename_i g de e;rw[e];obtain⟨t,ac,ag,⟨b,V,aa⟩|⟨V,aa⟩⟩:=db
   .have cY:a.tmps.getD t undef=.bool b:=by
     have h:=I t;rcases V with q|⟨q,rfl⟩|⟨q,rfl⟩
     .exact og (q▸h)
     .exact(vc h).1 q
     .exact(vc h).2 q
    simp[OW ac cY,aa]
   .simp[OY ac (OX (V▸I t)),aa]
 unfold wm;rw[Y];simp[hw]
 cases i:x.act with
 |false=>
  simp;have X:=l.off i;apply cM _ _
  have:x.app st=⟨ty st.dd x.o.dst (.dS []),st.O⟩:=by simp only[mN.app,X];rfl
  rw[this];exact OV ⟨M,D,Q,A,J,R,du,dY,I,T,ab⟩ cP
 |true=>
  simp;have⟨rd,ah,u,C,F,E⟩:=l.W' i
  have z:∀y,i7 (nD rd st.dd) y=.dead\/i7 (nD rd st.dd) y=i7 st.dd y:=λy=>by
   cases y with
   |tmp t=>simp[i7,nD];grind
   |_=>exact .inr Z
  have r:n9 P cX.main cX.F x.o a w (λd8 w'=>∃v,d8=a.put x.o.dst v/\ ∃(f:eI) (ei:gD),j0 (pr cX own) w w'/\gS M f/\fp f w'/\jx own M f/\er own f ei (x.e.O st.O) w'/\ (∀b,pZ x.e.f5 b->ei b=D b) /\ (x.o.dst≠cL->dZ f ei x.e.fj v)):=by
   have cU:=λc W=>o c (fG R.size W)
   have G:hE P x.o (i7 (nD rd st.dd)) st.O x.e->n9 P cX.main cX.F x.o a w (λd8 w'=>∃v,d8=a.put x.o.dst v/\ ∃(f:eI) (ei:gD),j0 (pr cX own) w w'/\gS M f/\fp f w'/\jx own M f/\er own f ei (x.e.O st.O) w'/\ (∀b,pZ x.e.f5 b->ei b=D b) /\ (x.o.dst≠cL->dZ f ei x.e.fj v)):=by
    intro c';refine wl (λd8 w' B=>?_) (c' cX own M D a w (dh.new Q J) cU A du λy=>?_)
    .have⟨v,ai,f,ei,H,s1,ad,S,dI,k1,d1⟩:=B;grind
    .rcases z y with e|e
     .rw[e];exact .dead _
     .rw[e];exact z6 I y
   cases k:x.s.wd with
   |true=>simp_all
   |false=>
    cases p:p1 x.o.op with
    |true=>grind
    |false=>
    cases n:x.s.ew with
    |false=>exact aju (u k n p) (l.yc k) z (λ_ _=>Z) (l.Jx k n p) cX own M D a w (dh.new Q J) cU A du (z6 I)
    |true=>simp_all
  refine wl (λd8 w' B=>?_) r;obtain⟨v,rfl,f,ei,H,s1,ad,S,dI,k1,d1⟩:=B;refine cM _ _ ⟨f,ei,Q.trans s1,ad,J.trans S,R.trans H,dI,λb ae m=>?_,?_,by rw[OS,T],by rw[OT,ab]⟩
  .rw[k1 b (WU l.f5 ae m)];exact dY b ae m
  .intro t;show dZ f ei (ty (rA x.e.f5 st.dd) x.o.dst x.e.fj t) _
   cases s:x.o.dst with
   |none=>exact FW s1 k1 (I t)
   |some d=>rw[<-s];exact OU (by rwa[T]) (d1 (by simp_all)) (λt=>FW s1 k1 (I t)) t
theorem Xl{α:Type}{p q}:∀ {l:I α} {x},(∀y,q y=N->p y=N)->x∈l->p x=N->q x=L->l.countP q<l.countP p
 | [],x,_,eE,_,_=>uH
 |y::r,x,h,eE,Q,c5=>by
  have a:r.countP q<=r.countP p:=List.countP_mono_left λz _=>h z
  cases eE with|head=>grind|tail _ eE=>have:=Xl h eE Q c5;grind
def g9(listed:d' di)(i:V):di:=listed.getD i L
theorem JA{listed i}(cK:i<listed.size):listed.getD i N=g9 listed i:=by simp[g9,mJ,cK]
theorem CJ{listed i j}(cK:i<listed.size):g9 (listed.setIfInBounds i N) j=(decide (j=i)||g9 listed j):=by
 by_cases h:j=i
 .subst h;simp[g9,mJ,cK]
 .have:=getD_set_ne (listed:=listed) (i:=i) (j:=j) L λe=>h e.symm;simp[g9,this,h]
theorem ajM{ops db}(gj:gQ cX own dL)(au:∀c,cO.heap.size<=c->own c)(av:∀o∈ops,ya dc o){dD:I mN}{gK}(al:dD.map (·.o)=ops.toList)(aw:u2 ops.toList (dD.map (·.s)) 0 [] []=N)
  (M:∀i x,dD[i]?=U x->mO P ops x ((dD.take i).foldl (λs x=>x.app s) gK))(ax:∀a w,gH cX own cO dL fK dc (dD.foldl (λs x=>x.app s) gK) a w->db .normal a w):
  ∀u listed a w,listed.size=ops.size->(iz ops.size).countP (λi=>!g9 listed i)<=u->(∀k o,ops[k]?=U o->g9 listed k=N->∀e∈o.after,CI .any e=N->g9 listed e.on=N)->
   gH cX own cO dL fK dc (i9 (dD.zipIdx.filter λp=>g9 listed p.2) gK) a w->Ic P cX.main cX.F .any ops db u listed a w:=by
 have⟨ay,_,aT,b⟩:=Xg aw Z Z;simp only[mM,vh]at b
 have c0:dD.length=ops.size:=by have:=eL List.length al;simpa using this
 have T:∀(k:V) (x:mN),dD[k]?=U x->ops[k]?=U x.o:=λk x v=>by
  have:=eL (·[k]?) al;grind
 have H:∀(k:V) (x:mN),dD[k]?=U x->(dD.map (·.s))[k]?=U x.s:=λk x v=>by simp[v]
 have n:∀(k:V) (x:mN),dD[k]?=U x->Own x:=λk x v=>let h:=M k x v;⟨h.dst,h.W,h.vf,h.yc⟩
 have az:∀p∈dD.zipIdx,dD[p.2]?=U p.1:=λp O=>by
  grind
 intro u
 have main:∀(listed:d' di),listed.size=ops.size->(∀(k:V) (o:gL),ops[k]?=U o->g9 listed k=N->∀e∈o.after,CI .any e=N->g9 listed e.on=N)->
   ∀(j:V) (x:mN),dD[j]?=U x->g9 listed j=L->(∀e∈x.o.after,CI .any e=N->g9 listed e.on=N)->
    mO P ops x (i9 (dD.zipIdx.filter λp=>g9 listed p.2) gK)/\i9 (dD.zipIdx.filter λp=>g9 (listed.setIfInBounds j N) p.2) gK=x.app (i9 (dD.zipIdx.filter λp=>g9 listed p.2) gK):=by
  intro listed f t j x v am S;have X:=(f_.1 v).1
  have aA:∀(m q:V) (o:gL),ops[q]?=U o->(∀e∈o.after,CI .any e=N->g9 listed e.on=N)->xW (ay.getD q 0) m=N->g9 listed m=N:=by
   intro m q
   induction q using to with
   |_ q ac=>
    intro o G O hb;have aa:=(kL.1 G).1;have⟨y,C⟩:∃y,dD[q]?=U y:=⟨dD[q]' R,by simp⟩
    have aB:y.o=o:=by have:=T q y C;rw[G]at this;exact(pV this).symm
    subst aB;have⟨dI,aC,_⟩:=b q y.o y.s (by simpa using G) (H q y C);have⟨e,he,aD,h⟩:=aC m hb;have an:=O e (by simpa using he) (by rwa[Xj]);rcases h with rfl|h
    .exact an
    .have ad:=Jz dI e he aD
     have dh:ops[e.on]?=U (ops[e.on]' R):=dw
     exact ac e.on ad _ dh (t _ _ dh an) h
  have de:∀(m k:V) (y z:mN),dD[m]?=U y->dD[k]?=U z->m<k->g9 listed m=L->(∀e∈z.o.after,CI .any e=N->g9 listed e.on=N)->O6 y z:=by
   intro m k y z C ab aE d6 O;have⟨_,_,aF⟩:=b k z.o z.s (by have:=T k z ab;simpa using this) (H k z ab);rcases aF m y.s (H m y C) aE with h|h
   .rw[aA m k z.o (T k z ab) O h]at d6;cases d6
   .have a:=n m y C;have g:=n k z ab;simp[Fi,lV,ajN]at h;have⟨⟨w,p⟩,⟨⟨⟨⟨Q,o⟩,aG⟩,aH⟩,du⟩,dY⟩:=h;have e:=a.yc w;have f:=g.yc p
    have n:∀(d:dB Tmp) (l:I V),Iv d l=N->∀t,d=U t->t∉l:=by intro d l h t u m;subst u;simp[Iv,ajN]at h;rw[rK.2 m]at h;cases h
    have off:∀ {x y:mN},Own x->uX (bif y.s.ew then x.s.k else x.s.W) y.s.F=N->(y.s.ew=L->∀b∈kO x.e,b∉y.s.F)/\ ∀k,x.e.f5=U k->k∉y.s.F:=by
     intro x y a h
     cases c:y.s.ew with|true=>simp[c,fF]at h;exact⟨λs=>(by cases s),λk j=>FX h k (by rw[a.vf];exact ajx.2 j)⟩|false=>simp[c,jw]at h;exact⟨λ_ b c=>FX h b (by rwa[a.W]),λk j=>FX h k (by rw[a.W];exact wL.2 (.inl j))⟩
    have⟨aI,fh⟩:=off a du;have⟨q,r⟩:=off g dY
    refine⟨⟨p,λd cP=>n _ _ Q d (by rwa[a.dst]),aI,fh,e.f5,e.lt⟩,
     ⟨w,λd cP=>n _ _ aG d (by rwa[g.dst]),q,r,f.f5,f.lt⟩,λd cP i=>?_,λb c m=>FX aH b (by rwa[a.W]) (by rwa[g.W])⟩
    rw[a.dst,g.dst,cP,i]at o;simp[Vc]at o
  have d:=λk z ab Y=>t k z.o (T k z ab) Y
  let cM:=dD.zipIdx
  let A:=cM.take j
  let B:=cM.drop (j+1)
  have ai:cM[j]?=U (x,j):=by rw[Xm,v];simp
  have ao:cM=A++(x,j)::B:=by
   have Q:=(JB j cM).symm
   have c5:cM.drop j=(x,j)::cM.drop (j+1):=by
    have E:=(f_.1 ai).1;rw[qT E]
    congr 1
    have:=fq E;rw[this]at ai;exact pV ai
   rwa[c5]at Q
  have c8:∀p∈A,p.2<j/\dD[p.2]?=U p.1:=λp O=>by
   have⟨i,cK⟩:=W_ O
   have:i<j:=by
    have:=(f_.1 cK).1
    have c5:A.length<=j:=by simp[A];omega
    omega
   rw[List.getElem?_take_of_lt this,Xm]at cK
   cases C:dD[i]? with
   |none=>rw[C]at cK;cases cK
   |some y=>rw[C]at cK;simp at cK;subst cK;exact⟨this,C⟩
  have J:∀p∈B,j<p.2/\dD[p.2]?=U p.1:=λp O=>by
   have⟨i,cK⟩:=W_ O;rw[Ii,Xm]at cK
   cases C:dD[j+1+i]? with
   |none=>rw[C]at cK;cases cK
   |some y=>rw[C]at cK;simp at cK;subst cK;exact⟨by simp;omega,C⟩
  have gJ:i9 (cM.filter λp=>g9 listed p.2) gK=i9 (B.filter λp=>g9 listed p.2) (i9 (A.filter λp=>g9 listed p.2) gK):=by rw[ao,z',CG,cS (by simp[am]),Xa]
  have aJ:i9 (cM.filter λp=>g9 (listed.setIfInBounds j N) p.2) gK=i9 (B.filter λp=>g9 listed p.2) (x.app (i9 (A.filter λp=>g9 listed p.2) gK)):=by
   have aK:A.filter (λp=>g9 (listed.setIfInBounds j N) p.2)=A.filter λp=>g9 listed p.2:=ajO λp O=>by
    rw[CJ R];simp[show p.2≠j by have:=(c8 p O).1;omega]
   have aL:B.filter (λp=>g9 (listed.setIfInBounds j N) p.2)=B.filter λp=>g9 listed p.2:=ajO λp O=>by
    rw[CJ R];simp[show p.2≠j by have:=(J p O).1;omega]
   rw[ao,z',CG,if_pos (by rw[CJ R];simp),Xa,aK,aL,yf]
  have ap:∀p∈B.filter (λp=>g9 listed p.2),O6 x p.1:=λp O=>by
   have⟨D,ae⟩:=ou.1 O;have⟨aj,af⟩:=J p D;exact de j p.2 x p.1 v af aj am (d p.2 p.1 af ae)
  refine⟨?_,?_⟩
  .rw[gJ]
   have JC:mO P ops x (i9 A gK):=by
    have:=M j x v;rw[Xk]
    have e:A.map (·.1)=dD.take j:=by rw[yg,ajP]
    rwa[e]
   have aq:=Xd (l:=B.filter λp=>g9 listed p.2) JC λp O=>(ap p O).O8
   have aM:A.Pairwise λp q=>g9 listed p.2=L->g9 listed q.2=N->∀st,q.1.app (p.1.app st)=p.1.app (q.1.app st):=by
    have aN:cM.Pairwise λp q=>p.2<q.2:=by rw[yh];intro i k cK Y aU;simp[cM,List.getElem_zipIdx];omega
    exact(aN.sublist (List.take_sublist j cM)).imp_of_mem fun {p q} O aa ad aO aP st=>have ak:=de p.2 q.2 p.1 q.1 (c8 p O).2 (c8 q aa).2 ad aO (d q.2 q.1 (c8 q aa).2 aP);O9 (n _ _ (c8 p O).2) (n _ _ (c8 q aa).2) ak st
   rw[Xc (c3:=g9 listed) aM,Xb]at aq
   .exact Xe aq λp O=>by
     have⟨D,ae⟩:=ou.1 O;exact(de p.2 j p.1 x (c8 p D).2 v (c8 p D).1 (by simpa using ae) S).O7
   .intro p O q aa st;have⟨D,ae⟩:=ou.1 O;have⟨ag,aQ⟩:=ou.1 aa;have ak:=de p.2 q.2 p.1 q.1 (c8 p D).2 (J q ag).2 (by have:=(c8 p D).1;have:=(J q ag).1;omega) (by simpa using ae) (d q.2 q.1 (J q ag).2 aQ);exact O9 (n _ _ (c8 p D).2) (n _ _ (J q ag).2) ak st
  .rw[gJ,aJ];exact Jy (λp O st=>O9 (n j x v) (n _ _ (J p (ou.1 O).1).2) (ap p O) st) _
 have W:∀(listed:d' di) (a:e8) (w:da) (K:e8->da->Prop),listed.size=ops.size->(∀(k:V) (o:gL),ops[k]?=U o->g9 listed k=N->∀e∈o.after,CI .any e=N->g9 listed e.on=N)->
   gH cX own cO dL fK dc (i9 (dD.zipIdx.filter λp=>g9 listed p.2) gK) a w->∀j∈mF .any ops listed,
   (∀d8 w',gH cX own cO dL fK dc (i9 (dD.zipIdx.filter λp=>g9 (listed.setIfInBounds j N) p.2) gK) d8 w'->K d8 w')->wm P cX.main cX.F ops j K a w:=by
  intro listed a w K f t cU j X aR;have⟨Q,o,G,c5⟩:=Pa.1 X;have E:=(kL.1 G).1;rw[JA R]at Q;have⟨x,v⟩:∃x,dD[j]?=U x:=⟨dD[j]' R,by simp⟩
  have ah:x.o=o:=by have:=T j x v;rw[G]at this;exact(pV this).symm
  subst ah;have⟨aj,af⟩:=main listed f t j x v Q c5;exact ajK gj au G aj cU (av x.o (EN G)) λd8 w' ar=>aR d8 w' (by rwa[af])
 have g:∀(listed:d' di) (a:e8) (w:da),listed.size=ops.size->gH cX own cO dL fK dc (i9 (dD.zipIdx.filter λp=>g9 listed p.2) gK) a w->mF .any ops listed=[]->db .normal a w:=by
  intro listed a w f cU F
  have all:∀j,j<ops.size->g9 listed j=N:=by
   intro j
   induction j using to with
   |_ j ac=>
    intro X
    cases cP:g9 listed j with
    |true=>rfl
    |false=>
     exfalso
     have G:ops[j]?=U (ops[j]):=dw
     have⟨x,v⟩:∃x,dD[j]?=U x:=⟨dD[j]' R,by simp⟩;have ah:=T j x v;have⟨dI,_,_⟩:=b j x.o x.s (by simpa using ah) (H j x v)
     have:j∈mF .any ops listed:=Pa.2 ⟨by rwa[JA R],x.o,ah,λe he hb=>by
      have ad:=Jz dI e (by simpa using he) (by rwa[<-Xj])
      exact ac e.on ad R⟩
     rw[F]at this
     cases this
  apply ax a w
  have e:dD.zipIdx.filter (λp=>g9 listed p.2)=dD.zipIdx:=List.filter_eq_self.2 λp O=>all p.2 (by
   have:=(f_.1 (az p O)).1
   omega)
  rwa[e,Xk,ajP]at cU
 induction u with
 |zero=>
  intro listed a w f dj t cU
  have F:mF .any ops listed=[]:=by
   cases aS:mF .any ops listed with
   |nil=>rfl
   |cons j r=>
    exfalso
    have X:j∈mF .any ops listed:=by rw[aS];exact mK ..
    have⟨Q,o,G,_⟩:=Pa.1 X;have E:=(kL.1 G).1;rw[JA R]at Q;have:0<(iz ops.size).countP (λi=>!g9 listed i):=CK.2 ⟨j,F2.2 E,by simp[Q]⟩;omega
  exact⟨F,g listed a w f cU F⟩
 |succ u ac=>
  intro listed a w f dj t cU;refine⟨g listed a w f cU,λj X=>W listed a w _ f t cU j X λd8 w' ar=>?_⟩;have⟨Q,o,G,c5⟩:=Pa.1 X;have E:=(kL.1 G).1;rw[JA R]at Q;refine ac _ d8 w' (by simp[f]) ?_ ?_ ar
  .have:=Xl (p:=λi=>!g9 listed i) (q:=λi=>!g9 (listed.setIfInBounds j N) i) (l:=iz ops.size) (x:=j)
    (λy C=>by simp only[CJ (show j<listed.size by omega),Bool.not_or,lV]at C;exact C.2) (F2.2 E) (by simp[Q]) (by simp[CJ (show j<listed.size by omega)])
   omega
  .intro k ks dh Y e he hb;rw[CJ R]at Y⊢;simp at Y⊢;right;rcases Y with rfl|Y
   .rw[G]at dh;cases dh;exact c5 e he hb
   .exact t k ks dh Y e he hb
theorem Xn{T fn}(cT:jL P T)(d:gQ cX own dL)(n:∀c,cO.heap.size<=c->own c){ops db K}(g:∀st a w,K st->gH cX own cO dL fK dc st a w->db .normal a w)(cP:∀o∈ops,ya dc o)(m:P.follows .mixedOrders=N)(id)
  {dd O a w}(h:tA T P ops ops.toList dd O [] K)(r:gH cX own cO dL fK dc ⟨dd,O⟩ a w):jX P cX.main cX.F fn (Code.region id ops N) db a w:=by
 have⟨dD,i,uI,e,b⟩:=Xi cT h;refine agK m (ajM (gK:=⟨dd,O⟩) d n cP i Ua b (λa w r=>g _ a w e r) ops.size _ a _ dw ?_ ?_ ?_)
 .exact fG (JD) dw
 .intro k o _ f;simp[g9,mJ]at f
 .have:dD.zipIdx.filter (λp=>g9 (kM ops.size L) p.2)=[]:=List.filter_eq_nil_iff.2 λp _=>by
   simp[g9,mJ]
  rwa[this]
end
namespace Dk
section
open Go.Conc Go.Conc.Lib Go.Proofs
open Go.ConcN (WgLive)
open Go.ConcR (KK wgBlock WgAt stA smA rd wr mk DC0 Payload)
open Go.ConcR.Gen
set_option maxRecDepth 100000
section
variable (Wg:V) (c:g6) (cs:I g6) (v:V->dr) (g:dP)
noncomputable def Cx:dP:=G ((baseD 16).at ⟨#[.pointer (U ⟨Wg,0,cL⟩)]++kM 83 undef,[]⟩ [.code (Tryz.f16.body.getD .skip)]) ({c with mode:=.returning}::cs)
noncomputable def Jj:dP:=
 let g:=e7 3 (put (e7 3 (Cx Wg c cs)) (.tuple #[]))
 {g with frame:={g.frame with tmps:=(.pointer (U ⟨Wg,0,cL⟩)::(iz 83).map λi=>v (i+1)).toArray}}
noncomputable def eB:=e7 16 (Jj Wg c cs v)
noncomputable def el:=e7 48 (put (eB Wg c cs v) (.int .u64 4294967296))
noncomputable def eG:=e7 19 (put (el Wg c cs v) (.bool N))
noncomputable def fb:=put (eG Wg c cs v) (.pointer (U ⟨Wg,1,cL⟩))
noncomputable def dY:=e7 23 (put (fb Wg c cs v) (.tuple #[]))
noncomputable def hL:=e7 16 (put (dY Wg c cs v) (.tuple #[]))
noncomputable def FQ:=e7 3 (put g (.tuple #[]))
noncomputable def z0:=put (FQ g) (.pointer (U ⟨Wg,0,cL⟩))
end
section
variable {P:en} {main:di} {g:dP} {w:da}
theorem We(h:iD g){fT dst t x eb v}(o:(e6 g).op=.convert fT dst x)(b:(eA g).eval x=.pointer (U eb))(s:P.underlying fT=U (.pointer t))(cP:P.underlying dst=U .unsafePointer)
  (z:(P.info? t).map (λi=>decide (i.size=0))=U L)(c:w.cell? eb=U v):stepG P main g w=.go (put g (.pointer (U eb))) w #[]:=by
 have a:=run_convert_to_unsafe (P:=P) s cP z c;have d:=events_convert_to_unsafe (P:=P) s cP z c #[]
 have r:(execOp (eA g).eval (e6 g)).run P w=.ok (.value (.pointer (U eb))) w:=by simp[execOp,o,b,hc,a,hj,hU]
 have e:(execOp (eA g).eval (e6 g)).events P w #[]=#[]:=by simp[execOp,o,b,jz,a,d,kT,px]
 rw[h.value r,listed_nil e]
end
section
variable [Payload] {Wg:V} {c:g6} {cs:I g6} {v:V->dr} {w:da} {F:V->Prop} {eP:dP->da->Prop}
def py(F:V->Prop)(dn:eF)(Wg:V)(cO w:da):Prop:=e0 F cO w/\WgLive dn Wg w
theorem om{dn cO w c2}(h:py F dn Wg cO w)(r:lr F dn Wg w c2):py F dn Wg cO c2:=⟨h.1.trans r.1,r.2 h.2⟩
theorem air{dn cO w}(h:py F dn Wg cO w):∃v,w.cell? ⟨Wg,0,cL⟩=U v:=let ⟨_,_,x⟩:=h.2;⟨_,x.cellSt⟩
theorem ais{dn cO w}(h:py F dn Wg cO w):∃v,w.cell? ⟨Wg,1,cL⟩=U v:=let ⟨_,_,x⟩:=h.2;⟨_,x.cellSm⟩
theorem Cy(w):hS Wg w w #[]:=⟨Z,dw⟩
theorem ait(w):hS Wg w w #[mk (.write (smA Wg))]:=⟨Z,λe he=>by
 simp[mk]at he;subst he
 exact⟨λx a=>by simp[MemAct.ofEvent,MemAct.touch?]at a;subst a;exact⟨⟨_,Z,Z⟩,dw⟩,dw,dw,dw⟩⟩
abbrev z1(F:V->Prop)(Wg:V)(S:dP->da->Prop)(g:dP)(w:da):=dR cQ N (lr F e2.tWg Wg) (hS Wg) S g w
theorem va{g}(n:V)(k:z1 F Wg eP (e7 n g) w)(h:j1 cQ N g (e7 n g):=by exact o3):z1 F Wg eP g w:=dR.pure BN.trans Cy h k
theorem Wi{g cO}(x y)(n:V)(f:py F e2.tWg Wg cO w)(h:∀w,py F e2.tWg Wg cO w->eP (G {c with mode:=.returning} cs) w)(Q:iD g:=by exact kP)(o:(e6 g).op=.call {callee:=.value (.func 28),args:=#[],argTypes:=#[]}:=by kernel_rfl)(p:j1 cQ N (put g (.tuple #[])) (FQ g):=by exact o3)
  (eG:iD (FQ g):=by exact kP)(a:(e6 (FQ g)).op=.convert 74 78 x:=by kernel_rfl)(b:(eA (FQ g)).eval x=.pointer (U ⟨Wg,0,cL⟩):=by kernel_rfl)(fb:iD (z0 Wg g):=by exact kP)(d:(e6 (z0 Wg g)).op=.call {callee:=.value (.func 29),args:=#[y],argTypes:=#[78]}:=by kernel_rfl)
  (e:((#[y]:d' fw).map (eA (z0 Wg g)).eval)[0]?=U (.pointer (U ⟨Wg,0,cL⟩)):=by kernel_rfl)(q:j1 cQ N (put (z0 Wg g) (.tuple #[])) (e7 n (put (z0 Wg g) (.tuple #[]))):=by exact o3)(i:e7 n (put (z0 Wg g) (.tuple #[]))=G {c with mode:=.returning} cs:=by kernel_rfl):BF cQ Wg (lr F e2.tWg Wg) (z1 F Wg eP) g w:=by
 refine⟨Q.run,_,?_,dR.pure BN.trans Cy p (.step eG.run (λw=>(z0 Wg g,w,#[])) (λc2 h₁=>?_) λc2 h₁=>.stop λs j=>⟨fb.run,_,?_,dR.pure BN.trans Cy q (dE.e (.stop λl m=>h l (om (om (om f h₁) j) m)) i)⟩)⟩
 .conv=>lhs;rw[Q.eq]
  exact Wj .enable dw Q.op Q.wanted Q.ne o kq.f_enable (x_enable_n e2) (x_enable_b e2) (x_enable_x e2) (x_enable_f e2)
 .have⟨x,r⟩:=air (om f h₁);exact⟨We eG a b kq.underlying_tWgP kq.underlying_tUP kq.room_tWg r,Cy c2⟩
 .conv=>lhs;rw[fb.eq]
  exact Wk .acquire dw fb.op fb.wanted fb.ne d kq.f_acquire (x_acquire_n e2) (x_acquire_b e2) (x_acquire_x e2) (x_acquire_f e2) e
theorem aiu{cO}(a:py F e2.tWg Wg cO w)(b:∀w,py F e2.tWg Wg cO w->eP (G {c with mode:=.returning} cs) w):M1 cQ e2.tWg Wg (lr F e2.tWg Wg) (z1 F Wg eP) (hL Wg c cs v) w:=by
 have Q:iD (hL Wg c cs v):=kP;refine⟨Q.run,λhw=>⟨put (hL Wg c cs v) (.int .u64 0),?_,?_⟩⟩
 .conv=>lhs;rw[Q.eq]
  exact Wl (x:=.tmp 5) (v:=0) Q.op Q.wanted Q.ne (show(e6 (hL Wg c cs v)).op=.call {callee:=.value (.func 58),args:=#[.tmp 5],argTypes:=#[107]} by kernel_rfl) kq.f_loadU64 (x_loadU64_n e2) (x_loadU64_b e2) (x_loadU64_x e2) .u64 (x_loadU64_f e2) cV hw.cellSt
 .exact va 11 (.stop λc2 h₁=>Wi (.tmp 79) (.tmp 80) 10 (om a h₁) b)
theorem aiv{cO}(e:F Wg)(f:py F e2.tWg Wg cO w)(g:∀w,py F e2.tWg Wg cO w->eP (G {c with mode:=.returning} cs) w):xI cQ e2.tWg Wg (lr F e2.tWg Wg) (z1 F Wg eP) (dY Wg c cs v) w:=by
 have Q:iD (dY Wg c cs v):=kP;have a:(e6 (dY Wg c cs v)).op=.call {callee:=.value (.func 35),args:=#[.tmp 70,.tmp 71],argTypes:=#[82,4]}:=cV;have d:((#[.tmp 70,.tmp 71]:d' fw).map (eA (dY Wg c cs v)).eval)[0]?=U (.pointer (U ⟨Wg,1,cL⟩)):=cV;refine⟨Q.run,cV,λ⟨st,hw⟩=>?_,λee=>⟨put (dY Wg c cs v) (.tuple #[]),?_,?_⟩⟩
 .have:=stepG_semacquire_wait (P:=cQ) (main:=N) (cs:=(dY Wg c cs v).callers) (kk:=(dY Wg c cs v).frame.todo.tail) (rest:=lv (dY Wg c cs v)) (b:=(dY Wg c cs v).frame) Q.op Q.wanted a kq.f_semacquire (x_semacquire_n e2) (x_semacquire_b e2) (x_semacquire_x e2) (x_semacquire_f e2) d hw.cellSm;rwa[<-Q.eq]at this
 .conv=>lhs;rw[Q.eq]
  exact stepG_semacquire (n:=1) Q.op Q.wanted Q.ne a kq.f_semacquire (x_semacquire_n e2) (x_semacquire_b e2) (x_semacquire_x e2) (x_semacquire_f e2) d ee.cellSm cZ (ee.thaw 1)
 .exact va 16 (.stop λc2 h₁=>aiu (om (om f (UO e ee 0)) h₁) g)
theorem aiw{cO}(h:F Wg)(b:py F e2.tWg Wg cO w)(i:∀w,py F e2.tWg Wg cO w->eP (G {c with mode:=.returning} cs) w):dR cQ N (lr F e2.tWg Wg) (hS Wg) (xI cQ e2.tWg Wg (lr F e2.tWg Wg) (z1 F Wg eP)) (put (el Wg c cs v) (.bool N)) w:=by
 refine va 19 (dE.e (g':=eG Wg c cs v) ?_);have d:iD (eG Wg c cs v):=kP;refine .step d.run (λw=>(fb Wg c cs v,w,#[])) (λc2 h₁=>?_) (λc2 h₁=>?_)
 .have⟨x,j⟩:=ais (om b h₁);exact⟨We d (x:=.tmp 55) cV cV kq.underlying_tPU32 kq.underlying_tUP kq.room_tU32 j,Cy c2⟩
 .have l:=om b h₁;have a:iD (fb Wg c cs v):=kP;refine .step a.run (λw=>(put (fb Wg c cs v) (.tuple #[]),w,#[mk (.write (smA Wg))])) (λf g=>⟨?_,ait f⟩) (λf g=>?_)
  .conv=>lhs;rw[a.eq]
   exact Wk .write dw a.op a.wanted a.ne (show(e6 (fb Wg c cs v)).op=.call {callee:=.value (.func 33),args:=#[.tmp 56],argTypes:=#[78]} by kernel_rfl) kq.f_raceWrite (x_raceWrite_n e2) (x_raceWrite_b e2) (x_raceWrite_x e2) (x_raceWrite_f e2) cV
  .exact va 23 (.stop λn m=>aiv h (om (om l g) m) i)
def Jk(F:V->Prop)(Wg:V)(c:g6)(cs:I g6)(cO:da)(g:dP)(w:da):Prop:=∃v,g=Jj Wg c cs v/\py F e2.tWg Wg cO w
theorem aix{cO}(d:F Wg)(i:∀w,py F e2.tWg Wg cO w->eP (G {c with mode:=.returning} cs) w)(g w)(h:Jk F Wg c cs cO g w):
  dR cQ N (lr F e2.tWg Wg) (hS Wg) (sx cQ e2.tWg Wg (lr F e2.tWg Wg) (z1 F Wg eP) (Jk F Wg c cs cO)) g w:=by
 obtain⟨v,rfl,a⟩:=h;refine va 16 (dE.e (g':=eB Wg c cs v) (.stop λc2 h₁=>have a:=om a h₁;have Q:iD (eB Wg c cs v):=kP;have j:(e6 (eB Wg c cs v)).op=.call {callee:=.value (.func 58),args:=#[.tmp 5],argTypes:=#[107]}:=cV;have l:(eA (eB Wg c cs v)).eval (.tmp 5)=.pointer (U ⟨Wg,0,cL⟩):=cV;⟨Q.run,λhw=>⟨put (eB Wg c cs v) (.int .u64 4294967296),?_,?_⟩,λhw=>⟨put (eB Wg c cs v) (.int .u64 0),?_,?_⟩⟩))
 .conv=>lhs;rw[Q.eq]
  exact Wl (v:=4294967296) Q.op Q.wanted Q.ne j kq.f_loadU64 (x_loadU64_n e2) (x_loadU64_b e2) (x_loadU64_x e2) .u64 (x_loadU64_f e2) l hw.cellSt
 .refine va 48 (dE.e (g':=el Wg c cs v) (.stop λr b=>have a:=om a b;have c5:iD (el Wg c cs v):=kP;have m:(e6 (el Wg c cs v)).op=.call {callee:=.value (.func 59),args:=#[.tmp 9,.tmp 10,.tmp 11],argTypes:=#[107,59,59]}:=cV;have o:(eA (el Wg c cs v)).eval (.tmp 9)=.pointer (U ⟨Wg,0,cL⟩):=cV;have p:(eA (el Wg c cs v)).eval (.tmp 10)=.int .u64 4294967296:=cV;have q:(eA (el Wg c cs v)).eval (.tmp 11)=.int .u64 4294967297:=cV;⟨c5.run,λhw=>⟨put (el Wg c cs v) (.bool N),?_,?_⟩,λhw=>⟨put (el Wg c cs v) (.bool L),?_,?_⟩⟩))
  .conv=>lhs;rw[c5.eq]
   exact stepG_cas_hit (v:=4294967296) (n:=4294967297) c5.op c5.wanted c5.ne m kq.f_casU64 (x_casU64_n e2) (x_casU64_b e2) (x_casU64_x e2) .u64 (x_casU64_f e2) o p q hw.cellSt (hw.thaw 0)
  .exact aiw d (om a (UN d hw (KK+1))) i
  .conv=>lhs;rw[c5.eq]
   exact stepG_cas_miss (v:=0) (old:=4294967296) (n:=4294967297) c5.op c5.wanted c5.ne m kq.f_casU64 (x_casU64_n e2) (x_casU64_b e2) (x_casU64_x e2) .u64 (x_casU64_f e2) o p q hw.cellSt (hw.thaw 0) cZ
  .exact va 9 (dE.h (Jj Wg c cs) λf=>.stop λt s=>⟨f,Z,om a s⟩)
 .conv=>lhs;rw[Q.eq]
  exact Wl (v:=0) Q.op Q.wanted Q.ne j kq.f_loadU64 (x_loadU64_n e2) (x_loadU64_b e2) (x_loadU64_x e2) .u64 (x_loadU64_f e2) l hw.cellSt
 .exact va 31 (.stop λr b=>Wi (.tmp 21) (.tmp 22) 20 (om a b) i)
theorem aiy{OA}(a:py F e2.tWg Wg OA w):dR cQ N (lr F e2.tWg Wg) (hS Wg) (H6 cQ Wg (lr F e2.tWg Wg) (Jk F Wg c cs OA)) (Cx Wg c cs) w:=by
 refine va 3 (.stop λc2 h₁=>have Q:iD (e7 3 (Cx Wg c cs)):=kP;⟨Q.run,put (e7 3 (Cx Wg c cs)) (.tuple #[]),?_,va 3 (dE.h (Jj Wg c cs) λf=>.stop λd b=>⟨f,Z,om (om a h₁) b⟩)⟩)
 .conv=>lhs;rw[Q.eq]
  exact Wj .disable dw Q.op Q.wanted Q.ne (show(e6 (e7 3 (Cx Wg c cs))).op=.call {callee:=.value (.func 26),args:=#[],argTypes:=#[]} by kernel_rfl) kq.f_disable (x_disable_n e2) (x_disable_b e2) (x_disable_x e2) (x_disable_f e2)
end
end
end Dk
open Go.RowKit
section
variable {cX:jy} {own:V->Prop} {cO:da} {dL:eI} {fK:gD} {dc:V}
variable {P:en} {T:fM} (cT:jL P T)
def Xo(cX:jy)(own:V->Prop)(cO:da)(dL:eI)(fK:gD)(dc:V)(db:nc->ft->Prop):Exit->e8->da->Prop
 | .normal,a,w=>∃st,db .normal st/\gH cX own cO dL fK dc st a w
 | .exit i,a,w=>∃st,db (.exit i) st/\gH cX own cO dL fK dc st a w
 | .ret,a,w=>∃st,db .ret st/\gH cX own cO dL fK dc st a w
 |_,_,_=>dA
def F3(dc:V):I gL->di
 | []=>N
 |o::r=>match o.dst with
  |some d=>bif xV d dc then F3 dc r else L
  |none=>F3 dc r
def kt(dc:V):Code->di
 | .region _ ops _=>F3 dc ops.toList
 | .seq a b=>bif kt dc a then kt dc b else L
 | .cond _ a b=>bif kt dc a then kt dc b else L
 | .block _ c=>kt dc c
 | .loop c=>kt dc c
 | .rangeFunc _ _ a b=>bif kt dc a then kt dc b else L
 | .scope c=>kt dc c
 |_=>N
theorem JE{dc}:∀ {l},F3 dc l=N->∀o∈l,ya dc o
 | [],_,o,a=>by cases a
 |x::r,h,o,a=>by
  simp[F3]at h
  cases b:x.dst with
  |none=>
   simp[b]at h
   cases a with
   |head=>intro d cP;simp_all
   |tail _ a=>exact JE h o a
  |some d=>
   simp only[b]at h
   cases hb:xV d dc with
   |false=>simp_all
   |true=>
    simp[hb,fF]at h
    cases a with
    |head=>intro c cP;simp_all
    |tail _ a=>exact JE h o a
include cT in
theorem ajS{fn}(p:gQ cX own dL)(z:∀c,cO.heap.size<=c->own c)(W:P.follows .mixedOrders=N):∀c db st a w,kt dc c=N->k8 T P c st db->gH cX own cO dL fK dc st a w->jX P cX.main cX.F fn c (Xo cX own cO dL fK dc db) a w:=by
 intro c
 induction c with
 |skip=>exact λdb st a w _ h d=>agr ⟨st,h,d⟩
 |region id ops B=>
  intro db st a w cP h d;have C:=λo X=>JE cP o (by simpa using X);rw[ahf]at h;simp[NO]at h
  cases B with
  |true=>have⟨dd,O⟩:=st;exact Xn cT p z (λst a w k r=>⟨st,k,r⟩) C W id h d
  |false=>apply agA;have:=OZ (fn:=fn) cT p z (db:=Xo cX own cO dL fK dc db) (λst a w k r=>⟨st,k,r⟩) C ops.toList 0 st a w Z h d;rw[List.range_eq_range'];omega
 |seq x y t v=>
  intro db st a w cP h d;simp only[kt]at cP
  cases Q:kt dc x with
  |false=>simp_all
  |true=>
   simp[Q,fF]at cP;rw[ahg]at h;refine agv (EU (λe d8 w' g=>?_) (t _ st a w Q h d))
   cases e with
   |normal=>have⟨s,k1,eK⟩:=g;exact v db s d8 w' cP k1 eK
   |exit i=>exact g
   |ret=>exact g
   |goto l=>exact g.elim
   |panic dh=>exact g.elim
   |outgrown=>exact g.elim
 |cond o x y t v=>
  intro db st a w cP h d;simp only[kt]at cP
  cases Q:kt dc x with
  |false=>simp_all
  |true=>
   simp[Q,fF]at cP;have⟨dd,O⟩:=st;rw[ahh]at h;simp[B6]at h
   have m:∃M D,dZ M D (i7 dd o) (a.eval o):=by have⟨M,D,dI,K,cM,J,R,V,de,aa,ab⟩:=d;exact⟨M,D,z6 de o⟩
   have⟨M,D,m⟩:=m;split at h
   .rename_i A;exact UB ((vc m).1 A) (t db _ a w Q h d)
   .rename_i A;exact UC ((vc m).2 A) (v db _ a w cP h d)
   .rename_i b A;rcases wD h with⟨rfl,k⟩|⟨rfl,k⟩
    .exact UB (og (A▸m)) (t db _ a w Q k d)
    .exact UC (og (A▸m)) (v db _ a w cP k d)
   simp_all
 |block id x F=>
  intro db st a w cP h d;rw[ahi]at h;refine agw (EU (λe d8 w' g=>?_) (F _ st a w cP h d))
  cases e with
  |normal=>exact g
  |exit i=>
   have⟨s,k1,eK⟩:=g;replace k1:bif d3 i id then db .normal s else db (.exit i) s:=k1;simp[Exit.inBlock]
   cases hb:d3 i id with
   |true=>have:=gE hb;subst this;rw[hb]at k1;rw[if_pos Z];exact⟨s,k1,eK⟩
   |false=>rw[hb]at k1;rw[cS (λe=>HO)];exact⟨s,k1,eK⟩
  |ret=>exact g
  |goto l=>exact g.elim
  |panic dh=>exact g.elim
  |outgrown=>exact g.elim
 |loop x F=>
  intro db st a w cP h d;rw[ahk]at h;have h:=h.out;have⟨ac,S,cU,I,⟨j,G,H⟩,u⟩:=h;apply agx (λn a w=>∃j,cU j/\I j=n/\gH cX own cO dL fK dc (S j) a w) (I j) ⟨j,G,Z,d.CD H⟩;rintro n a w ⟨j,G,rfl,E⟩;refine EU (λe d8 w' g=>?_) (F _ (S j) a w cP (u j G) E)
  cases e with
  |normal=>have⟨s,⟨Y,dI,K,cM⟩,eK⟩:=g;exact⟨_,K,Y,dI,Z,eK.CD cM⟩
  |exit i=>exact g
  |ret=>exact g
  |goto l=>exact g.elim
  |panic dh=>exact g.elim
  |outgrown=>exact g.elim
 |rangeFunc f ad x y _ _=>exact λdb st a w _ h=>h.elim
 |exit id=>exact λdb st a w _ h d=>agu ⟨st,h,d⟩
 |scope x F=>intro db st a w cP h d;rw[ahj]at h;refine agy (λl a w q=>q.elim) (EU (λe d8 w' g=>?_) (F db st a w cP h d));omega
 |label l=>exact λdb st a w _ h d=>ags ⟨st,h,d⟩
 |goto l=>exact λdb st a w _ h=>h.elim
 |ret=>exact λdb st a w _ h d=>agt ⟨st,h,d⟩
 |refuse y=>exact λdb st a w _ h=>h.elim
end
section
variable {P:en} {T:fM} (cT:jL P T)
def kI(tmps:d' dr):xX->Sem dr
 | .tmp t=>pure (tmps.getD t undef)
 | .cell a t=>do loadVar t (<-asAddr (tmps.getD a undef))
theorem ajU(fn:Func)(tmps:d' dr)(w:da){vs:I dr}(h:(fn.results.toList.mapM (kI tmps)).run P w=.ok vs w):
  (results fn tmps).run P w=.ok (if h:vs.toArray.size=1 then vs.toArray[0] else .tuple vs.toArray) w:=by
 have e:results fn tmps=(do let vs <-fn.results.mapM (kI tmps);pure (if h:vs.size=1 then vs[0] else .tuple vs)):=by
  unfold results
  congr 1
 rw[e];simp[NT,hc,V1,h,hj,hU]
theorem yi{F:V->Prop}{fn:Func}{tmps:d' dr}{w:da}{vs:I dr}(h:∀c2,e0 F w c2->(fn.results.toList.mapM (kI tmps)).run P c2=.ok vs c2/\ ∀es,∀e∈(fn.results.toList.mapM (kI tmps)).events P c2 es,e∈es\/jc F e):
  uL P F fn tmps (if h:vs.toArray.size=1 then vs.toArray[0] else .tuple vs.toArray) w:=λc2 a=>by
 refine⟨ajU fn tmps c2 (h c2 a).1,λe b=>?_⟩
 have c:results fn tmps=(do let vs <-fn.results.mapM (kI tmps);pure (if h:vs.size=1 then vs[0] else .tuple vs)):=by
  unfold results
  congr 1
 rw[c]at b;simp[NT,jz,V1,(h c2 a).1,Sem.events_map]at b;refine((h c2 a).2 #[] e ?_).elim (λq=>by simp at q) id;simp_all
include cT in
theorem ajV{t x O K}(h:wu T t x O K):
  ∃fj,K fj/\ ∀own M D w v,fp M w->er own M D O w->dZ M D x v->∃r,(∀c2,(∀a,(own a.block\/ ∃o u,M a.block o=U u)->c2.cell? a=w.cell? a)->(sG t v).run P c2=.ok r c2) /\dZ M D fj r:=by
 unfold wu at h
 have c_:(T t).k.known=N:=by
  cases p:(T t).k.known with|true=>rfl|false=>simp_all
 simp[c_,fF]at h;have Q:=x1 cT c_;unfold E_ at h;split at h
 .rename_i b i j;split at h
  .rename_i c cN hb;have⟨z,c5⟩:=k_ h;subst z;have⟨fj,k,dv,cP⟩:=Ch c5 Q;refine⟨fj,k,λown M D w v dt c9 cY=>?_⟩
   cases cY with
   |ptr _ _ _ cM f=>
    have⟨q,cs,eV,s,A,y,B,C,_⟩:=c9.at_ b _ cM hb f;have⟨g,p,n⟩:=cP M D (λi=>cs[i]?) (λi x m=>C.den i x m);refine⟨_,λc2 hw=>?_,n⟩;simp
    exact Cj cT c_ c2 _ _ g λi cK=>by rw[hw _ (.inl q),sJ s];simp_all
   |i6 _ _ _ _ f=>rw[(c9.fE b).2 f]at hb;cases hb
  .rename_i l cR cN hb;have⟨e,he,h⟩:=Fw h;have⟨fj,k,dv,cP⟩:=Ci h Q;refine⟨fj,k,λown M D w v dt c9 cY=>?_⟩
   cases cY with
   |ptr _ _ _ cM f=>
    have⟨q,cs,eV,s,A,y,B,H,E,_⟩:=c9.at_ b _ cM hb f;have⟨g,p,n⟩:=cP M D (λj=>cs[i*cR+j]?) (λj x m=>E.den i j e x he m);refine⟨_,λc2 hw=>?_,n⟩;simp[sG,lU,hc,hU,hj];subst y
    exact Cj cT c_ c2 _ _ g λi cK=>by rw[hw _ (.inl q),sJ s];grind
   |i6 _ _ _ _ f=>rw[(c9.fE b).2 f]at hb;cases hb
  simp_all
 .rename_i e j;have⟨fj,k,dv,cP⟩:=Ci h Q;refine⟨fj,k,λown M D w v dt c9 cY=>?_⟩
  cases cY with
  |d _ _ cY=>
   cases cY with
   |ix _ _ b off val d6 F=>
    have⟨g,p,n⟩:=cP M D (λi=>w.cell? ⟨b,off+i,cL⟩) (λi x m=>⟨val i,dt _ _ _ (d6 i x m),F i x m⟩);have O:=p4 cT c_;have G:j<e.length:=R;refine⟨_,λc2 hw=>?_,n⟩;simp[sG,lU,hc,hU,hj]
    exact Cj cT c_ c2 _ _ g λi cK=>by rw[hw _ (.inr ⟨_,_,d6 j _ (fq G)⟩)];grind
 simp_all
include cT in
theorem Pc{cX own M D O w dd tmps}(dt:fp M w)(c9:er own M D O w)(f:∀t,dZ M D (dd t) (tmps.getD t undef))(gj:gQ cX own M)(r)(dj:conv O (sF T dd O r)≠cL):
 ∃v,(∀c2,e0 cX.F w c2->(kI tmps r).run P c2=.ok v c2/\ ∀es,∀e∈(kI tmps r).events P c2 es,e∈es\/jc cX.F e)/\dZ M D (sF T dd O r) v:=by
 cases r with
 |tmp t=>exact⟨_,λc2 _=>⟨Z,λes e he=>.inl he⟩,f t⟩
 |cell a t=>
  simp[sF]at dj⊢;split at dj
  .rename_i b i j y;split at dj
   .rename_i c cN hb
    cases c_:((T t).k.known&&d3 i 0) with
    |false=>simp[c_,conv]at dj
    |true=>
     simp[c_,fF]at dj⊢;simp only[lV]at c_;have cK:=gE c_.2;subst cK
     have dv:wu T t (.ptr b 0 j) O (λfj=>fj=(bif (T t).k.agg then(bif hn (j+(T t).size) c.length then .agg ((c.drop j).take (T t).size) else .dead) else(match c[j]? with|some x=>x|none=>.dead))):=by
      simp[wu,c_.1,fF,E_,hb];apply fz (by trivial);unfold xQ
      cases g:(T t).k.agg with
      |true=>
       simp only[g,fF]at dj⊢
       cases h:hn (j+(T t).size) c.length with
       |false=>simp[h,conv]at dj
       |true=>
        simp[h,fF]at dj⊢
        have:∀(l:I dp) (K:I dp->Prop),conv.cells O l≠cL->K l->qJ l K:=by
         intro l
         induction l with
         |nil=>exact λK _ m=>m
         |cons x r E=>
          intro K Q m;simp[conv.cells]at Q
          have c5:conv.one O x≠cL:=by intro e;simp[e]at Q
          have G:conv.cells O r≠cL:=by intro e;simp[e]at Q
          simp[qJ]
          have:∀d:dp->Prop,d x->na x d:=by
           intro d z
           cases x<;>first|exact z|exact dN Z c5
          simp_all
        refine this _ _ ?_ Z;intro e;simp[conv,e]at dj
      |false=>
       simp[g,jw]at dj⊢;simp[xP]
       cases n:c[j]? with
       |none=>simp[n,conv]at dj
       |some x=>
        simp[n]at dj⊢
        cases x<;>first|rfl|exact dN Z dj
     have⟨fj,A,B⟩:=ajV cT dv;have cY:=f a;rw[y]at cY;have⟨r,dQ,cP⟩:=B own M D w _ dt c9 cY;refine⟨r,λc2 h₁=>?_,A▸cP⟩;have dQ:=dQ c2 λa dt=>N' h₁ (dt.elim (gj.own _) λ⟨o,u,q⟩=>gj.mem _ o u q);have p:=WQ cT dv own M D c2 _ (tE gj h₁ dt) (Ce gj h₁ c9) cY;generalize C:tmps.getD a undef=u at cY dQ p
     cases cY with
     |ptr _ _ _ cM s=>
      simp only[kI,C];refine⟨by assumption,λes e he=>?_⟩;rw[Sem.events_acc]at he;rcases Array.mem_append.1 he with he|he
      .grind
      .exact .inr ((p e (by assumption)).hK gj)
     |i6 _ _ _ _ s=>rw[(c9.fE b).2 s]at hb;cases hb
   .exact dN Z dj
  .exact dN Z dj
include cT in
theorem Xp {cX} {own} {M} {D} {O} {w} {dd} {tmps} (dt:fp M w) (c9:er own M D O w) (g:∀ t,dZ M D (dd t) (tmps.getD t undef)) (gj:gQ cX own M):
  ∀ {kh} {dx},nE T dd O kh=U dx->∃ (vs:I dr) (dD:I dp) (dW:I V),(∀ c2,e0 cX.F w c2->(kh.mapM (kI tmps)).run P c2=.ok vs c2/\ ∀ es,∀ e∈(kh.mapM (kI tmps)).events P c2 es,e∈es\/jc cX.F e) /\vs.length=dx.length/\dD.length=dx.length/\
   ∀ (i:V) (x) (d) (v),dD[i]?=U x->dx[i]?=U d->vs[i]?=U v->dZ M D x v/\conv O x=U d/\ ∀ b∈g8 O x,b∈dW
 | [],dx,h=>by
  simp only [nE,fC] at h;subst h;exact ⟨[],[],[],fun c2 _=>⟨Z,fun es e he=>.inl he⟩,Z,Z,fun i x d v h=>by simp at h⟩
 |r::q,dx,h=>by
  simp only [nE] at h
  cases dj:conv O (sF T dd O r) with
  |none=>simp [dj] at h
  |some d=>
   cases a:nE T dd O q with
   |none=>simp [dj,a] at h
   |some p=>
    simp only [dj,a,fC] at h;subst h;obtain ⟨v,cY,j⟩:=Pc cT dt c9 g gj r (by rw [dj];simp);obtain ⟨vs,dD,dW,c,k,l,cP⟩:=Xp dt c9 g gj a;refine ⟨v::vs,sF T dd O r::dD,g8 O (sF T dd O r)++dW,?_,by simp [k],by simp [l],fun i x m fN Q c5 f=>?_⟩
    ·intro c2 h₁;refine ⟨by simp [B7,(cY c2 h₁).1,(c c2 h₁).1],fun es e he=>?_⟩;rw [B7,jz,(cY c2 h₁).1,kT,jz,(c c2 h₁).1,kT] at he;exact ((c c2 h₁).2 _ e he).elim ((cY c2 h₁).2 es e) .inr
    ·cases i with
     |zero=>
      simp only [u9,fC] at Q c5 f;subst Q c5 f;exact ⟨j,dj,fun b hb=>ot _ hb⟩
     |succ i=>
      obtain ⟨dI,n,o⟩:=cP i x m fN (by simpa using Q) (by simpa using c5) (by simpa using f);exact ⟨dI,n,fun b hb=>pz _ (o b hb)⟩
def ov(fn:Func)(n:V):di:=
 match fn.body with
 |some c=>kt fn.ntmps c&&hn n fn.ntmps&&!(fn.name== "runtime.NumGoroutine")
 |none=>L
theorem yj{fn n}(h:ov fn n=N):∃c,fn.body=U c/\kt fn.ntmps c=N/\n<=fn.ntmps/\ (fn.name== "runtime.NumGoroutine")=L:=by
 unfold ov at h;split at h
 .simp_all
 .cases h
theorem Xq{M D}:∀(dx) (n) (vs:d' dr),(∀i d v,dx[i]?=U d->vs[n+i]?=U v->e4 M d v)->vs.size=n+dx.length->∀t,dZ M D (k9.go n dx t) (vs.getD t undef)
 | [],n,vs,h,a,t=>.dead _
 |d::r,n,vs,h,a,t=>by
  simp only[k9.go]
  by_cases e:t=n
  .subst e;rw[gP]
   have l:t<vs.size:=by rw[a];simp
   have:vs[t]?=U vs[t]:=dw
   have g:vs.getD t undef=vs[t]:=by simp[mJ,l]
   rw[g];exact FH (h 0 d _ dw R)
  .rw[gq _ _ e];exact Xq r (n+1) vs (λi b v Q c=>h (i+1) b v (by simp_all) (by grind)) (by grind) t
theorem JF(vs n t):(vs++kM n undef).getD t undef=vs.getD t undef:=by rw[uM,uM];grind
theorem F4{cX dx w M vs n}(a:fp M w)(s:lS M dx vs)(c0:vs.size<=n):
  gH cX (λc=>w.heap.size<=c) w M (λ_=>cL) n ⟨k9 dx,λ_=>cL⟩ {tmps:=vs++kM (n-vs.size) undef,defers:=[]} w:=by
 refine⟨M,λ_=>cL,.refl M,a,.refl _ _,.refl _ _,⟨λ_=>⟨λ_=>Z,λ_=>Z⟩,λb h=>hh,λb B cM h=>hh,λb e cM ek h=>hh⟩,λ_ _ _=>Z,λt=>?_,hy,Z⟩;rw[JF];exact Xq dx 0 vs (λi d v Q c5=>s.2 i d v Q sn) (by simpa using s.1) t
include cT in
theorem yk(m:P.follows .mixedOrders=N){f fn c cX own w M D dd O b}{db:ft->Prop}{dO:dr->da->Prop}(cP:kt fn.ntmps c=N)(d:gQ cX own M)(o:∀c,w.heap.size<=c->own c)
  (h:k8 T P c ⟨dd,O⟩ λe st=>match e with
  | .exit _=>dA|_=>db st)(r:gH cX own w M D fn.ntmps ⟨dd,O⟩ b w)(k:∀st a w',db st->gH cX own w M D fn.ntmps st a w'->a.defers=[]/\ ∃v,uL P cX.F fn a.tmps v w'/\dO v w'):
  jX P cX.main cX.F f c (Nd P cX.F fn dO) b w:=
 EU (λe a w' q=>by
  cases e<;>first|exact q.elim|have⟨st,k1,eK⟩:=q;first|exact k st a w' k1 eK|exact k1.elim) (ajS cT d o m c _ _ _ w cP h r)
theorem F5{cX w w'}(h:j0 (pr cX λc=>w.heap.size<=c) w w'):ob cX w.heap.size w w':=⟨h.os,h.tape,h.output,h.size,λc a F=>h.block c λq=>q.elim (λq=>by omega) F⟩
theorem Pd{M:eI}{dx:I c3}{vs:I dr}(dv:vs.length=dx.length)(cP:∀(i:V) (d:c3) (v:dr),dx[i]?=U d->vs[i]?=U v->e4 M d v):
  e4 M (ps dx) (if h:vs.toArray.size=1 then vs.toArray[0] else .tuple vs.toArray):=by
 by_cases Q:vs.length=1
 .rw[FC pm];obtain⟨v,rfl⟩:=Pe.1 Q;obtain⟨d,rfl⟩:=Pe.1 (dv.symm.trans Q);exact cP 0 d v Z Z
 .rw[dif_neg pm]
  have:ps dx=.dS dx:=by
   unfold ps;split
   .simp_all
   .rfl
  rw[this];exact .dS dx _ v5 λi d v Q c5=>cP i d v Q sn
include cT in
theorem ajW(E:P.follows .mixedOrders=N){f fn dx d}(k:P.funcs[f]?=U fn)(B:ov fn dx.length=N)(h:NP T P fn dx d):d0 P f dx d:=by
 have⟨c,hb,t,c0,n⟩:=yj B;refine⟨⟨fn,k,Ey,n⟩,λcX w M vs j A s=>xK k n hb ?_⟩;simp only[NP,hb]at h;refine yk cT E t j (λ_ h=>h) h (F4 A s (by rwa[s.1])) λst a w' r F=>?_;have⟨m,D,Q,g,p,I,du,dY,J,W,R⟩:=F
 cases e:nE T st.dd st.O fn.results.toList with|none=>simp_all|some dc=>simp[e,jB,fC]at r;subst r;have⟨X,dD,dW,S,u,cM,x⟩:=Xp cT g du J (j.new Q p) e;have⟨q,s2,fh,H,z,el,y⟩:=wF (ho:=st.O) dW m st.O g du (.refl _);exact⟨R,_,yi S,_,q,Z,F5 I,Q.trans s2,fh,λb o v cY=>(p.trans H) b o v cY,Pd u λi d v dh K=>have G:dD[i]?=U (dD[i]'(by grind)):=dw;have⟨fD,uG,V⟩:=x i _ d v G dh K;FG z afQ (x4 (λb l cR cN hb C=>y b l cR cN (.inl hb) C) el _ V) (fD.mono s2)⟩
include cT in
theorem ajX(d6:P.follows .mixedOrders=N){f fn dx l cR}(ee:P.funcs[f]?=U fn)(dj:ov fn dx.length=N)(h:NQ T P fn dx l cR):kg P f dx l cR:=by
 have⟨c,hb,m,c0,j⟩:=yj dj;refine⟨⟨fn,ee,Ey,j⟩,λcX w M vs gj dt k=>xK ee j hb ?_⟩;simp[NQ,hb]at h;refine yk cT d6 m gj (λ_ h=>h) h (F4 dt k (by rwa[k.1])) λst a w' n dQ=>?_;have⟨p,D,Q,c5,q,r,du,dY,s,I,u⟩:=dQ;have⟨t,x,y⟩:=n
 have z:∀c2,e0 cX.F w' c2->(fn.results.toList.mapM (kI a.tmps)).run P c2=.ok [a.tmps.getD t undef] c2/\ ∀es,∀e∈(fn.results.toList.mapM (kI a.tmps)).events P c2 es,e∈es\/jc cX.F e:=λc2 _=>by
  rw[x];exact⟨MK,λes e he=>.inl MA⟩
 refine⟨u,_,yi z,a.tmps.getD t undef,p,Z,F5 r,Q,c5,λb o v cY=>q b o v cY,?_⟩;have cY:=s t;rcases y with⟨b,i,g⟩|⟨i,g⟩
 .rw[i]at cY;generalize a.tmps.getD t undef=v at cY
  cases cY with|own _ cM cap d J K=>have⟨A,cs,eV,B,O,R,C,S,E,G⟩:=du.at_ b _ cM g d;exact .inr ⟨cM.blk,cap,cs,eV,A,by rw[C],by omega,by simp_all,B,E,G.2 Z⟩|ib _ H d=>have⟨V,W,X⟩:=du.iX b d;simp_all|ju _ _ d=>rw[(du.fE b).2 d]at g;cases g
 .rw[i]at cY;generalize a.tmps.getD t undef=v at cY
  cases cY with|nil H=>simp_all
omit cT in
theorem JG{O}:∀ {c cs seen},su O seen c cs->conv.cells O c≠cL
 | [],[],_,_=>by simp[conv.cells]
 |x::c,.d d::s,seen,h=>by
  simp[su]at h;have:=JG h.2
  have Q:conv.one O x≠cL:=by cases x<;>simp[conv.nB]at h<;>simp[conv.one]
  simp[conv.cells]
  cases a:conv.one O x with|none=>simp_all|some y=>simp_all
 |x::c,.row l cR::s,seen,h=>by
  simp[su]at h
  have e:conv.cells O c≠cL:=by
   rcases h with⟨b,_,_,_,h⟩|⟨_,_,h⟩
   .exact JG h
   .exact JG h
  have Q:conv.one O x≠cL:=by
   rcases h with⟨b,rfl,h,_⟩|⟨rfl,_,_⟩
   .simp[conv.one,h]
   .simp[conv.one]
  simp[conv.cells]
  cases a:conv.one O x with|none=>simp_all|some y=>simp_all
 | [],_::_,_,h=>HQ|_::_,[],_,h=>HQ
omit cT in
theorem F6{O:V->dB d4}:∀ {c:I dp} {cs:I iM} {seen:I V},su O seen c cs->c.length=cs.length/\
  (∀(i:V) (s:iM),cs[i]?=U s->∃x,c[i]?=U x/\match s with
   | .d d=>conv.nB x=U d| .row l cR=>(∃b,x=.own b/\O b=U (.row l cR L) /\b∉seen) \/ (x=.nil/\l=[])) /\
  ∀(i j:V) (b l e:_) (cR z:V),cs[i]?=U (.row l cR)->cs[j]?=U (.row e z)->c[i]?=U (.own b)->c[j]?=U (.own b)->i=j
 | [],[],_,_=>⟨Z,λi s h=>qB,λi j b l e cR z h=>qB⟩
 |x::c,.d d::s,seen,h=>by
  simp[su]at h;have⟨dI,k,m⟩:=F6 h.2;refine⟨by simp[dI],λi s' a=>?_,λi j b l e cR z Q f t p=>?_⟩
  .cases i with|zero=>simp at a;subst a;simp_all|succ i=>grind
  grind
 |x::c,.row e_ r::s,seen,h=>by
  simp[su]at h;rcases h with⟨e1,rfl,u,g,h⟩|⟨rfl,rfl,h⟩
  .have⟨dI,k,m⟩:=F6 h
   have q:e1∉seen:=λn=>by rw[rK.2 n]at g;cases g
   have o:∀(j:V) (e:_) (z:V),s[j]?=U (.row e z)->c[j]?=U (.own e1)->dA:=λj e z f p=>by
    grind
   refine⟨by simp[dI],λi s' a=>?_,λi j b l e cR z Q f t p=>?_⟩
   .cases i with|zero=>simp at a;subst a;grind|succ i=>grind
   grind
  .have⟨dI,k,m⟩:=F6 h;refine⟨by simp[dI],λi s' a=>?_,λi j b l e cR z Q f t p=>?_⟩
   .cases i with|zero=>simp at a;subst a;simp_all|succ i=>grind
   grind
 | [],_::_,_,h=>HQ|_::_,[],_,h=>HQ
omit cT in
theorem ajY{M D x d v}(h:dZ M D x v)(O:conv.nB x=U d):e4 M d v:=by
 cases h<;>simp[conv.nB,fC,reduceCtorEq]at O<;>subst O
 case d h=>exact h
 case eN=>exact .bool N
 case fd=>exact .bool L
 case nil a=>exact .emp a 0
def yl(cs:I iM)(c:I dp)(D:gD)(i:V):dB k6:=match cs[i]? with
 |some (.row _ _)=>match c[i]? with
  |some (.own b)=>match D b with
   |some (U cM)=>U cM
   |_=>cL
  |_=>cL
 |_=>cL
theorem F7{cs c D i cM}(h:yl cs c D i=U cM):∃l cR b,cs[i]?=U (.row l cR)/\c[i]?=U (.own b)/\D b=U (U cM):=by unfold yl at h;grind
theorem Xr{w w':da}{M D}{O j:V->dB d4}{cs:I iM}{c:I dp}{i:V}{s x u}(c9:er (λc=>w.heap.size<=c) M D j w')(c':cs[i]?=U s)(f:c[i]?=U x)(cP:dZ M D x u)
  (d6:match (generalizing:=false) s with
   | .d d=>conv.nB x=U d
   | .row l cR=>(∃b,x=.own b/\O b=U (.row l cR L) /\b∉([]:I V)) \/ (x=.nil/\l=[]))(c_:∀b l cR,x=.own b->O b=U (.row l cR L)->j b=U (.row l cR L)):
  match (generalizing:=false) s with
  | .d x=>e4 M x u
  | .row l cR=>ND w w' M l cR (yl cs c D i) u:=by
 cases s with
 |d d=>exact ajY cP d6
 |row l cR=>
  rcases d6 with⟨b,rfl,e,_⟩|⟨rfl,rfl⟩
  .have e:=c_ b l cR Z e
   cases cP with
   |own _ cM cap a v y=>simp only[yl,c',f,a];have⟨o,p,eV,q,k,m,g,z,r,t⟩:=c9.at_ b _ cM e a;exact⟨o,cap,p,eV,by rw[g],g.symm,m.symm,k.symm,by rwa[g],by rwa[m,k],q,r,t.2 Z⟩
   |ib _ h a=>
    simp only[yl,c',f,a];have⟨A,B,n⟩:=c9.iX b a;rw[e]at n;cases n
    exact⟨Z,h,Z⟩
   |ju _ _ a=>rw[(c9.fE b).2 a]at e;cases e
  .simp only[yl,c',f]
   cases cP with
   |nil h=>exact⟨Z,h,Z⟩
include cT in
theorem ajZ(d6:P.follows .mixedOrders=N){f fn dx cs}(ee:P.funcs[f]?=U fn)(dj:ov fn dx.length=N)(h:NR T P fn dx cs):Fa P f dx cs:=by
 have⟨c,hb,u,c0,g⟩:=yj dj;refine⟨⟨fn,ee,by rw[hb];rfl,g⟩,λcX w M vs gj dt k=>xK ee g hb ?_⟩;simp only[NR,hb]at h;refine yk cT d6 u gj (λ_ h=>h) h (F4 dt k (by rwa[k.1])) λst a w' z dQ=>?_;have⟨A,D,Q,c5,m,B,du,dY,C,af,E⟩:=dQ;have⟨r,c,G,n,p⟩:=z
 have⟨v,cY,q⟩:=Pc cT c5 du C (gj.new Q m) r (by
  rw[n];simp[conv]
  cases H:conv.cells st.O c with|none=>exact dN H (JG p)|some y=>simp)
 have I:∀c2,e0 cX.F w' c2->(fn.results.toList.mapM (kI a.tmps)).run P c2=.ok [v] c2/\ ∀es,∀e∈(fn.results.toList.mapM (kI a.tmps)).events P c2 es,e∈es\/jc cX.F e:=λc2 h₁=>by
  rw[G];exact⟨by simp_all,λes e he=>(cY c2 h₁).2 es e (by simp_all)⟩
 rw[n]at q
 cases q with
 |agg _ us dv cP=>
  have⟨ag,J,K⟩:=F6 p;refine⟨E,_,yi I,us,A,yl cs c D,Z,F5 B,Q,c5,λb o v cY=>m b o v cY,R,λi s c'=>?_,λi j cM ek S V he=>?_⟩
  .have⟨x,d,W⟩:=J i s c';have t:us[i]?=U (us[i]'(by rw[dv];exact(f_.1 d).1)):=dw
   exact⟨_,t,Xr du c' d (cP i x _ d t) W λ_ _ _ _ h=>h⟩
  .have⟨l,cR,b,dI,X,Y⟩:=F7 S;have⟨aa,ab,d7,ac,ad,ae⟩:=F7 V;have:=du.inj b d7 cM ek Y ae he;subst this;exact K i j b l aa cR ab dI ac X ad
end
def et:I (V×V)->V->dB V
 | [],_=>cL
 |(a,b)::r,n=>bif d3 n a then U b else et r n
def qX(s:I (V×V)):dp->dp
 | .own n=>match et s n with
  |some b=>.own b
  |none=>.dead
 | .ptr n i j=>match et s n with
  |some b=>.ptr b i j
  |none=>.dead
 | .win n dz m c=>match et s n with
  |some b=>.win b dz m c
  |none=>.dead
 | .d x=>.d x
 | .eN=>.eN
 | .fd=>.fd
 | .nil=>.nil
 | .agg _=>.dead
 | .dS _=>.dead
 | .fn _ _=>.dead
 | .dead=>.dead
def wN(s:I (V×V)):I dp->I dp
 | []=>[]
 |x::r=>qX s x::wN s r
def Aa(s:I (V×V)):dp->dp
 | .agg c=>.agg (wN s c)
 | .own n=>qX s (.own n)
 | .ptr n i j=>qX s (.ptr n i j)
 | .win n dz m c=>qX s (.win n dz m c)
 | .d x=>.d x
 | .eN=>.eN
 | .fd=>.fd
 | .nil=>.nil
 | .dS _=>.dead
 | .fn _ _=>.dead
 | .dead=>.dead
def ow(s:I (V×V)):I dp->I dp
 | []=>[]
 |x::r=>Aa s x::ow s r
def nJ(s:I (V×V)):d4->d4
 | .row l cR cN=>.row l cR cN
 | .box c cN=>.box (wN s c) cN
def ku(s:I (V×V)):I (V×d4)->I (V×d4)
 | []=>[]
 |(n,B)::r=>match et s n with
  |some b=>(b,nJ s B)::ku s r
  |none=>ku s r
def CL:dp->di
 | .agg _=>L
 | .dS _=>L
 | .fn _ _=>L
 |_=>N
def Ab:I dp->di
 | []=>N
 |x::r=>bif CL x then Ab r else L
def JH:dp->di
 | .agg c=>Ab c
 |x=>CL x
def vi:I dp->di
 | []=>N
 |x::r=>bif JH x then vi r else L
def CM:d4->di
 | .row _ _ _=>N
 | .box c _=>Ab c
def wO:I (V×d4)->di
 | []=>N
 |(n,B)::r=>bif CM B&&(hn 1000000 n&&hn n 1000004) then wO r else L
def tO:I (V×d4)->I (V×d4)->di
 | [],[]=>N
 |(n,_)::r,(m,_)::q=>bif d3 n m then tO r q else L
 |_,_=>L
def tP(args:I dp):V->dp:=go 0 args
 where
 go (n:V):I dp->V->dp
  | []=>λ_=>.dead
  |x::r=>eS (go (n+1) r) n x
def qY(T:fM)(dd:V->dp)(O:V->dB d4):I xX->I V
 | []=>[]
 |r::q=>g8 O (sF T dd O r)++qY T dd O q
def F8:I V->di
 | []=>N
 |b::r=>bif hn 1000000 b&&hn b 1000004 then L else F8 r
structure Xs(T:fM)(dd:V->dp)(O:V->dB d4)(kh:I xX)(post:I (V×d4))(d:c3):Prop where
 res:(nE T dd O kh).map ps=U d
 hK:F8 (qY T dd O kh)=N
 post:od O post
def Pf(T:fM)(P:en)(fn:Func)(args:I dp)(pre post:I (V×d4))(d:c3):Prop:=
 match fn.body with
 |some c=>k8 T P c ⟨tP args,fk.fH pre⟩ λe st=>match e with
  | .exit _=>dA
  |_=>Xs T st.dd st.O fn.results.toList post d
 |none=>dA
structure F9(s:I (V×V))(pre:I (V×d4)):Prop where
 inj:∀n mI b,et s n=U b->et s mI=U b->n=mI
 fE:∀n,et s n=cL↔fk.fH pre n=cL
def fI(P:en)(f:im)(args:I dp)(pre post:I (V×d4))(d:c3):Prop:=
 nC P f/\ ∀(s:I (V×V)) (O:V->dB d4),F9 s pre->(∀n B b,fk.fH pre n=U B->et s n=U b->O b=U (nJ s B))->
  rB P f (ow s args) O ⟨lR d,ku s post,et s 1000004⟩
theorem JI(s):∀(c) (i:V),(wN s c)[i]?=(c[i]?).map (qX s)
 | [],i=>by simp[wN]|x::r,0=>by simp[wN]|x::r,i+1=>by simpa[wN]using JI s r i
theorem Ac(s):∀c,(wN s c).length=c.length
 | []=>rfl|x::r=>by simp[wN,Ac s r]
theorem Pg(s):∀(c) (i:V),(ow s c)[i]?=(c[i]?).map (Aa s)
 | [],i=>by simp[ow]|x::r,0=>by simp[ow]|x::r,i+1=>by simpa[ow]using Pg s r i
theorem Ph(s):∀c,(ow s c).length=c.length
 | []=>rfl|x::r=>by simp[ow,Ph s r]
theorem Pi:∀ {c},Ab c=N->∀x∈c,CL x=N
 | [],_,x,eE=>uH
 |y::r,h,x,eE=>by
  simp only[Ab]at h
  cases a:CL y with
  |false=>simp_all
  |true=>
   simp[a,fF]at h
   cases eE with
   |head=>exact a
   |tail _ eE=>exact Pi h x eE
theorem Pj:∀ {c},vi c=N->∀x∈c,JH x=N
 | [],_,x,eE=>uH
 |y::r,h,x,eE=>by
  simp only[vi]at h
  cases a:JH y with
  |false=>simp_all
  |true=>
   simp[a,fF]at h
   cases eE with
   |head=>exact a
   |tail _ eE=>exact Pj h x eE
section
variable {M:eI} {D fK:gD} {s:I (V×V)}
theorem wP(cW:∀n,fK n=match et s n with|some b=>D b|none=>cL){x:dp}{v:dr}(O:CL x=N)(h:dZ M D (qX s x) v):dZ M fK x v:=by
 cases x with
 |own n=>
  have c0:=cW n;simp[qX]at h
  cases g:et s n with
  |none=>rw[g]at c0;exact .ju _ _ c0
  |some b=>
   rw[g]at c0 h;simp only at c0 h
   cases h with
   |own _ cM cap e Q c5=>exact .own n cM cap (c0.trans e) Q c5
   |ib _ a e=>exact .ib n a (c0.trans e)
   |ju _ _ e=>exact .ju n _ (c0.trans e)
 |ptr n i j=>
  have c0:=cW n;simp[qX]at h
  cases g:et s n with
  |none=>rw[g]at c0;exact .i6 _ _ _ _ c0
  |some b=>
   rw[g]at c0 h;simp only at c0 h
   cases h with
   |ptr _ _ _ cM e=>exact .ptr n i j cM (c0.trans e)
   |i6 _ _ _ _ e=>exact .i6 n i j _ (c0.trans e)
 |win n dz m c=>
  have c0:=cW n;simp[qX]at h
  cases g:et s n with
  |none=>rw[g]at c0;exact .jv _ _ _ _ _ c0
  |some b=>
   rw[g]at c0 h;simp only at c0 h
   cases h with
   |win _ _ _ _ cM k base e l o p q=>exact .win n dz m c cM k base (c0.trans e) l o p q
   |jv _ _ _ _ _ e=>exact .jv n dz m c _ (c0.trans e)
 |d x=>cases h with|d _ _ h=>exact .d _ _ h
 |eN=>cases h;exact .eN
 |fd=>cases h;exact .fd
 |nil=>cases h with|nil a=>exact .nil a
 |dead=>exact .dead _
 |agg c=>cases O
 |dS c=>cases O
 |fn f c=>cases O
theorem Xt(cW:∀n,fK n=match et s n with|some b=>D b|none=>cL){x:dp}{v:dr}(O:JH x=N)(h:dZ M D (Aa s x) v):dZ M fK x v:=by
 cases x with
 |agg c=>
  simp[Aa]at h
  cases h with|agg _ vs dv cP=>refine .agg c vs (by rw[dv,Ac]) λi x v Q c5=>wP cW (Pi O x (jY Q)) (cP i _ v ?_ c5);rw[JI,Q];rfl
 |own n=>exact wP cW Z h|ptr n i j=>exact wP cW Z h|win n dz m c=>exact wP cW Z h|d x=>exact wP cW (x:=.d x) Z h|eN=>exact wP cW (x:=.eN) Z h|fd=>exact wP cW (x:=.fd) Z h|nil=>exact wP cW (x:=.nil) Z h|dead=>exact .dead _|dS c=>cases O|fn f c=>cases O
theorem F_(cW:∀n b,et s n=U b->D b=fK n){x v}(h:dZ M fK x v):dZ M D (qX s x) v:=by
 cases x with
 |own n=>
  simp[qX]
  cases g:et s n with
  |none=>exact .dead _
  |some b=>
   have c0:=cW n b g
   cases h with
   |own _ cM cap e Q c5=>exact .own b cM cap (c0.trans e) Q c5
   |ib _ a e=>exact .ib b a (c0.trans e)
   |ju _ _ e=>exact .ju b _ (c0.trans e)
 |ptr n i j=>
  simp[qX]
  cases g:et s n with
  |none=>exact .dead _
  |some b=>
   have c0:=cW n b g
   cases h with
   |ptr _ _ _ cM e=>exact .ptr b i j cM (c0.trans e)
   |i6 _ _ _ _ e=>exact .i6 b i j _ (c0.trans e)
 |win n dz m c=>
  simp[qX]
  cases g:et s n with
  |none=>exact .dead _
  |some b=>
   have c0:=cW n b g
   cases h with
   |win _ _ _ _ cM k base e l o p q=>exact .win b dz m c cM k base (c0.trans e) l o p q
   |jv _ _ _ _ _ e=>exact .jv b dz m c _ (c0.trans e)
 |d x=>cases h with|d _ _ h=>exact .d _ _ h
 |eN=>cases h;exact .eN
 |fd=>cases h;exact .fd
 |nil=>cases h with|nil a=>exact .nil a
 |dead=>exact .dead _
 |agg c=>exact .dead _
 |dS c=>exact .dead _
 |fn f c=>exact .dead _
theorem aj0(cW:∀n,fK n=match et s n with|some b=>D b|none=>cL){w:da}{B:d4}{cM:k6}(O:CM B=N)(h:jJ M D w (nJ s B) cM):jJ M fK w B cM:=by
 have⟨cs,eV,g,i,a⟩:=h;refine⟨cs,eV,g,i,?_⟩
 cases B with|row l cR cN=>exact a|box c cN=>have⟨d,fh,k,e⟩:=a;rw[Ac]at d fh e;exact⟨d,fh,⟨by omega,λj x f=>have⟨v,m,o⟩:=k.den j (qX s x) (by rw[JI,f];rfl);⟨v,m,wP cW (Pi O x (jY f)) o⟩⟩,e⟩
theorem aj1(cW:∀n b,et s n=U b->D b=fK n){w B cM}(h:jJ M fK w B cM):jJ M D w (nJ s B) cM:=by
 have⟨cs,eV,e,f,d⟩:=h;refine⟨cs,eV,e,f,?_⟩
 cases B with
 |row l cR cN=>exact d
 |box c cN=>
  have⟨m,fh,g,o⟩:=d;refine⟨by rwa[Ac],by rwa[Ac],⟨by rw[Ac];omega,λj x a=>?_⟩,by rwa[Ac]⟩;rw[JI]at a
  cases dj:c[j]? with
  |none=>simp_all
  |some y=>rw[dj]at a;simp at a;subst a;have⟨v,i,k⟩:=g.den j y dj;exact⟨v,i,F_ cW k⟩
end
theorem JJ{M D}:∀(dD) (n) (vs:d' dr),(∀i x v,dD[i]?=U x->vs[n+i]?=U v->dZ M D x v)->vs.size=n+dD.length->∀t,dZ M D (tP.go n dD t) (vs.getD t undef)
 | [],n,vs,h,a,t=>.dead _
 |d::r,n,vs,h,a,t=>by
  simp only[tP.go]
  by_cases e:t=n
  .subst e;rw[gP]
   have l:t<vs.size:=by rw[a];simp
   have:vs[t]?=U vs[t]:=dw
   have g:vs.getD t undef=vs[t]:=by simp[mJ,l]
   rw[g];exact h 0 d _ dw R
  .rw[gq _ _ e];exact JJ r (n+1) vs (λi b v Q c=>h (i+1) b v (by simp_all) (by grind)) (by grind) t
theorem Pk{O}:∀ {l},od O l->∀n B,fk.fH l n=U B->O n=U B
 | [],_,n,B,h=>hh
 |(t,v)::r,c,n,B,h=>by
  simp[fk.fH]at h
  cases b:d3 n t with|true=>simp[b,fF,fC]at h;subst h;rw[gE b];exact c.1|false=>simp[b,jw]at h;exact Pk c.2 n B h
theorem Pl:∀ {a b},tO a b=N->∀n,fk.fH a n=cL↔fk.fH b n=cL
 | [],[],_,n=>Iff.rfl
 | [],_::_,h,_=>by simp[tO]at h
 |_::_,[],h,_=>by simp[tO]at h
 |(m,B)::r,(d,gG)::q,h,n=>by
  simp only[tO]at h
  cases c:d3 m d with
  |false=>simp_all
  |true=>
   simp[c,fF]at h;have:=gE c;subst this;simp[fk.fH]
   cases d3 n m with
   |true=>simp
   |false=>exact Pl h n
theorem JK:∀ {l},wO l=N->∀n B,fk.fH l n=U B->CM B=N/\1000000<=n/\n<1000005
 | [],_,n,B,h=>hh
 |(t,v)::r,O,n,B,h=>by
  simp only[wO]at O
  cases c:(CM v&&(hn 1000000 t&&hn t 1000004)) with
  |false=>simp_all
  |true=>
   simp[c,fF]at O;simp only[lV]at c;simp[fk.fH]at h
   cases b:d3 n t with
   |true=>simp[b,fF,fC]at h;subst h;rw[gE b];exact⟨c.1,tt c.2.1,by have:=tt c.2.2;omega⟩
   |false=>simp[b,jw]at h;exact JK O n B h
theorem Xu{s}(i:∀n w b,et s n=U b->et s w=U b->n=w):∀ {l n b B},l.Pairwise (λp q=>p.1≠q.1)->et s n=U b->fk.fH l n=U B->iZ (ku s l) b=U (nJ s B)
 | [],_,_,_,_,_,h=>hh
 |(t,v)::r,n,b,B,O,c0,h=>by
  rw[vg]at O;simp[fk.fH]at h
  have o:∀ {l:I (V×d4)} {b:V},(∀p∈l,∀a,et s p.1=U a->a≠b)->iZ (ku s l) b=cL:=by
   intro l
   induction l with
   |nil=>intro b _;rfl
   |cons p q d=>
    intro b u;have⟨m,C⟩:=p;simp[ku]
    cases k:et s m with
    |none=>grind
    |some a=>
     simp[iZ];rw[d λp O=>u p (lX _ O)];have g:=u (m,C) (mK ..) a k
     have:d3 b a=L:=by
      cases c:d3 b a with
      |false=>rfl
      |true=>exact dN (gE c).symm g
     simp[this]
  cases c:d3 n t with
  |true=>simp[c,fF,fC]at h;subst h;have:=gE c;subst this;simp only[ku,c0,iZ];rw[o λp j a f e=>O.1 p j (i n p.1 b c0 (by rw[f,e]))];simp
  |false=>
   simp[c,jw]at h;have d:=Xu i O.2 c0 h;simp[ku]
   cases k:et s t with
   |none=>exact d
   |some a=>simp[iZ];rw[d]
theorem Pm{s b}(c:∀n,et s n≠U b):∀ {l},iZ (ku s l) b=cL
 | []=>rfl
 |(t,v)::r=>by
  simp[ku]
  cases g:et s t with
  |none=>exact Pm c
  |some a=>
   simp[iZ];rw[Pm c]
   have:d3 b a=L:=by
    cases h:d3 b a with
    |false=>rfl
    |true=>simp_all
   simp[this]
def tQ:I (V×d4)->di
 | []=>N
 |(n,_)::r=>bif r.all λp=>!d3 n p.1 then tQ r else L
theorem JL:∀ {l},tQ l=N->l.Pairwise (λp q=>p.1≠q.1)
 | [],_=>.nil
 |(n,B)::r,h=>by
  simp only[tQ]at h
  cases c:(r.all λp=>!d3 n p.1) with|false=>simp_all|true=>simp[c,fF]at h;rw[vg];refine⟨λp O e=>?_,JL h⟩;have:=(of.1 c) p O;simp_all
theorem Xv:∀ {l},F8 l=N->∀b∈l,¬(1000000<=b/\b<1000005)
 | [],_,b,h=>hh
 |x::r,h,b,hb=>by
  simp only[F8]at h
  cases dj:(hn 1000000 x&&hn x 1000004) with
  |true=>simp_all
  |false=>
   simp[dj,jw]at h
   cases hb with
   |head=>
    rintro⟨Q,c5⟩;rw[rD Q,rD (aj2.1 c5)]at dj
    cases dj
   |tail _ hb=>exact Xv h b hb
def qZ(s:I (V×V))(D:gD):gD:=λn=>match et s n with|some b=>D b|none=>cL
def ox(own:V->Prop)(s:I (V×V))(D:gD):V->Prop:=λc=>own c/\ ∀b cM,¬(∃n,et s n=U b)->D b=U (U cM)->cM.blk≠c
theorem Xw{own M D O w s p}(d:∀n,et s n=cL↔fk.fH p n=cL)(cK:∀n c b,et s n=U b->et s c=U b->n=c)
  (r:∀n B b,fk.fH p n=U B->et s n=U b->O b=U (nJ s B))(l:∀n B,fk.fH p n=U B->CM B=N)(c9:er own M D O w):
  er (ox own s D) M (qZ s D) (fk.fH p) w:=by
 have e:∀n b,et s n=U b->qZ s D n=D b:=λn b e=>by rw[qZ,e]
 have z:∀n,et s n=cL->qZ s D n=cL:=λn e=>by rw[qZ,e]
 have a:∀n b,et s n=U b->∃B,fk.fH p n=U B/\O b=U (nJ s B):=λn b e=>by
  cases x:fk.fH p n with|none=>rw[(d n).2 x]at e;cases e|some B=>exact⟨B,Z,r n B b x e⟩
 refine⟨λn=>?_,λn cY=>?_,λn B cM m y=>?_,λn c cM ek Q k t=>?_⟩<;>cases g:et s n
 .simp[z n g,(d n).1 g]
 .have⟨B,A,f⟩:=a n _ g;have:=c9.fE;grind
 .grind
 .rw[e n _ g]at cY;have⟨cR,cN,h⟩:=c9.iX _ cY;have⟨B,A,f⟩:=a n _ g;rw[h]at f
  cases B<;>simp[nJ]at f;grind
 .grind
 .rw[e n _ g]at y;have⟨u,v⟩:=c9.at_ _ (nJ s B) cM (r n B _ m g) y;refine⟨⟨u,λo ek q i e=>?_⟩,aj0 (λn=>Z) (l n B m) v⟩;have:=c9.inj o _ ek cM i y e;grind
 .grind
 .cases j:et s c
  .grind
  .rw[e n _ g]at Q;rw[e c _ j]at k;have:=c9.inj _ _ cM ek Q k t;grind
theorem Xx{cX own M i D ei O H w w' s p}{S:V->Prop}(c9:er own M D O w)(F:gS M i)(c0:jx (ox own s D) M i)(A:∀c,own c->¬cX.F c)(P:j0 (pr cX (ox own s D)) w w')
  (C:∀b,(∃n,et s n=U b)↔S b)(J:∀b,¬S b->H b=kj p (O b)/\ei b=D b)(y:∀b,pZ p b->ei b=D b)
  (c8:∀b,S b->(H b=cL↔ei b=cL)/\(ei b=U cL->∃cR cN,H b=U (.row [] cR cN))/\∀B cM,H b=U B->ei b=U (U cM)->ox own s D cM.blk/\jJ i ei w' B cM)
  (dh:∀b g cM ek,S b->S g->ei b=U (U cM)->ei g=U (U ek)->cM.blk=ek.blk->b=g):er own i ei H w'/\j0 (pr cX own) w w'/\jx own M i:=by
 have k:∀b B cM,H b=U B->ei b=U (U cM)->own cM.blk/\jJ i ei w' B cM/\(S b↔ox own s D cM.blk):=by
  intro b B cM d I
  by_cases a:S b
  .have⟨k1,eK⟩:=(c8 b a).2.2 B cM d I;exact⟨k1.1,eK,by simp[a,k1]⟩
  .rw[(J b a).1]at d;rw[(J b a).2]at I;have l:¬ox own s D cM.blk:=λh=>h.2 b cM (by rwa[C]) I Z
   cases x:O b with
   |none=>rw[x]at d;unfold kj at d;grind
   |some t=>
    have⟨z,K⟩:=c9.at_ b t cM x I
    have Q:=K.k' F (P.block _ λh=>h.elim l (A _ z)) λr o=>by
     cases cY:i cM.blk o with
     |none=>rfl
     |some u=>
      rcases c0 _ _ _ cY with h|h
      .rw[c9.closed I t x r o]at h;cases h
      grind
    refine⟨z,?_,by simp[a,l]⟩;rw[x]at d;unfold kj at d;split at d<;>simp at d<;>subst d
    .have:=funext λb=>y b trivial;rwa[this]
    .exact Q.kill y
 refine⟨⟨λb=>?_,λb cY=>?_,λb B cM d I=>⟨(k b B cM d I).1,(k b B cM d I).2.1⟩,λb g cM ek I f j=>?_⟩,⟨P.os,P.tape,P.output,P.size,λc E=>P.block c λh=>E (h.elim (λq=>.inl q.1) .inr)⟩,λb o v cY=>Eo (c0 b o v cY) λh=>h.1⟩
 .by_cases a:S b
  .exact(c8 b a).1
  .rw[(J b a).1,(J b a).2,<-c9.fE b];unfold kj;split<;>simp
 .by_cases a:S b
  .exact(c8 b a).2.1 cY
  .rw[(J b a).2]at cY;have⟨cR,cN,e⟩:=c9.iX b cY;rw[(J b a).1,e];refine⟨cR,cN,?_⟩;unfold kj;split<;>rfl
 .have get:∀b cM,ei b=U (U cM)->∃B,H b=U B:=λb cM I=>by
   cases x:H b with
   |some B=>exact⟨B,Z⟩
   |none=>
    by_cases a:S b
    .rw[(c8 b a).1.1 x]at I;cases I
    .rw[(J b a).2]at I;rw[(J b a).1]at x;have:=c9.fE b;unfold kj at x;cases p<;>simp_all
  have⟨B,d⟩:=get b cM I;have⟨gG,m⟩:=get g ek f;have q:=(k b B cM d I).2.2;have G:=(k g gG ek m f).2.2;rw[j,<-G]at q
  by_cases a:S b
  .exact dh b g cM ek a (q.1 a) I f j
  .rw[(J b a).2]at I;rw[(J g λh=>a (q.2 h)).2]at f;exact c9.inj b g cM ek I f j
theorem Xy{own M D O w s p}(c:F9 s p)(r:∀n B b,fk.fH p n=U B->et s n=U b->O b=U (nJ s B))(a:wO p=N)(c9:er own M D O w):
 er (ox own s D) M (qZ s D) (fk.fH p) w:=Xw c.fE c.inj r (λn B h=>(JK a n B h).1) c9
open Classical in
theorem Xz{cX own M f D a O l w w' s pre post}(c':F9 s pre)(J:wO pre=N)(c9:er own M D O w)
  (K:tO pre post=N)(q:tQ post=N)(r:gS M f)(t:jx (ox own s D) M f)(gj:∀c,own c->¬cX.F c)(u:j0 (pr cX (ox own s D)) w w')(g:er (ox own s D) f a l w')
  (v:∀n b,et s n=U b->∃B,fk.fH post n=U B/\l n=U B)(dY:∀n b,et s n=U b->n≠1000004->a n=qZ s D n)(fj):
  ∃ei,er own f ei (gp.O ⟨fj,ku s post,et s 1000004⟩ O) w'/\ (∀b,pZ (et s 1000004) b->ei b=D b) /\ (∀n b,et s n=U b->ei b=a n) /\j0 (pr cX own) w w'/\jx own M f:=by
 let S:V->Prop:=λb=>∃n,et s n=U b
 let ei:gD:=λb=>if hb:S b then a (JM hb) else D b
 have d:∀n b,et s n=U b->ei b=a n:=λn b e=>by
  have hb:S b:=⟨n,e⟩;show(if hb:S b then a (JM hb) else D b)=_;rw[FC hb,c'.inj _ n b (XA hb) e]
 have c0:∀b,¬S b->ei b=D b:=λb hb=>dif_neg hb
 have c_:∀b,pZ (et s 1000004) b->ei b=D b:=λb hb=>by
  by_cases h:S b
  .have⟨n,e⟩:=h
   have x:n≠1000004:=λy=>by
    subst y;rw[e]at hb;exact tx hb Z
   rw[d n b e,dY n b e x,qZ,e]
  .exact c0 b h
 have gJ:∀n b B,et s n=U b->fk.fH post n=U B->gp.O ⟨fj,ku s post,et s 1000004⟩ O b=U (nJ s B):=λn b B e k=>by
  rw[vd];simp[Xu c'.inj (JL q) e k]
 have⟨z,A,C⟩:=Xx (H:=gp.O ⟨fj,ku s post,et s 1000004⟩ O) (ei:=ei) c9 r t gj u (λb=>.rfl) (λb hb=>⟨by
  rw[vd];simp[Pm λn e=>hb ⟨n,e⟩],c0 b hb⟩) c_ (by
  rintro b ⟨n,e⟩;have⟨m,E,i⟩:=v n b e;rw[gJ n b m e E,d n b e];refine⟨⟨nofun,λh=>by rw[(g.fE n).2 h]at i;cases i⟩,λcY=>?_,λB cM k j=>?_⟩
  .have⟨cR,cN,o⟩:=g.iX n cY;rw[i]at o;cases o;exact⟨cR,cN,Z⟩
  .cases k;have⟨k1,eK⟩:=g.at_ n m cM i j;exact⟨k1,aj1 (λn b e=>d n b e) eK⟩) (by
  rintro b d7 cM ek ⟨n,e⟩ ⟨mI,G⟩ j p I;rw[d n b e]at j;rw[d mI d7 G]at p;have:=g.inj n mI cM ek j p I;grind)
 exact⟨ei,z,c_,d,A,C⟩
theorem XB{cX o M D s w n args vs h}(b:fp M w)(r:er o M (qZ s D) h w)(O:vi args=N)(c0:args.length<=n)(a:zJ M D (ow s args) vs):
  gH cX o w M (qZ s D) n ⟨tP args,h⟩ {tmps:=vs++kM (n-vs.size) undef,defers:=[]} w:=by
 have l:=a.1;rw[Ph]at l;refine⟨M,qZ s D,.refl M,b,.refl _ _,.refl _ _,r,λ_ _ _=>Z,λt=>?_,by simp;omega,Z⟩;rw[JF];refine JJ args 0 vs (λi x v Q c=>Xt (λn=>Z) (Pj O x (jY Q)) (a.2 i _ v ?_ (by simp_all))) R t;rw[Pg,Q];rfl
section
variable {P:en} {T:fM} (cT:jL P T)
include cT
theorem JN {cX} {own} {M} {D} {O} {w} {dd} {tmps} (dt:fp M w) (c9:er own M D O w) (g:∀ t,dZ M D (dd t) (tmps.getD t undef)) (gj:gQ cX own M):
  ∀ {kh} {dx},nE T dd O kh=U dx->∃ (vs:I dr) (dD:I dp),(∀ c2,e0 cX.F w c2->(kh.mapM (kI tmps)).run P c2=.ok vs c2/\ ∀ es,∀ e∈(kh.mapM (kI tmps)).events P c2 es,e∈es\/jc cX.F e) /\vs.length=dx.length/\dD.length=dx.length/\
   ∀ (i:V) (x) (d) (v),dD[i]?=U x->dx[i]?=U d->vs[i]?=U v->dZ M D x v/\conv O x=U d/\ ∀ b∈g8 O x,b∈qY T dd O kh
 | [],dx,h=>by
  simp only [nE,fC] at h;subst h;exact ⟨[],[],fun c2 _=>⟨Z,fun es e he=>.inl he⟩,Z,Z,fun i x d v h=>by simp at h⟩
 |r::q,dx,h=>by
  simp only [nE] at h
  cases dj:conv O (sF T dd O r) with
  |none=>simp [dj] at h
  |some d=>
   cases a:nE T dd O q with
   |none=>simp [dj,a] at h
   |some p=>
    simp only [dj,a,fC] at h;subst h;obtain ⟨v,cY,j⟩:=Pc cT dt c9 g gj r (by rw [dj];simp);obtain ⟨vs,dD,c,k,l,cP⟩:=JN dt c9 g gj a;refine ⟨v::vs,sF T dd O r::dD,?_,by simp [k],by simp [l],fun i x m fN Q c5 f=>?_⟩
    ·intro c2 h₁;refine ⟨by simp [B7,(cY c2 h₁).1,(c c2 h₁).1],fun es e he=>?_⟩;rw [B7,jz,(cY c2 h₁).1,kT,jz,(c c2 h₁).1,kT] at he;exact ((c c2 h₁).2 _ e he).elim ((cY c2 h₁).2 es e) .inr
    ·cases i with
     |zero=>
      simp only [u9,fC] at Q c5 f;subst Q c5 f;exact ⟨j,dj,fun b hb=>ot _ hb⟩
     |succ i=>
      obtain ⟨dI,n,o⟩:=cP i x m fN (by simpa using Q) (by simpa using c5) (by simpa using f);exact ⟨dI,n,fun b hb=>pz _ (o b hb)⟩
omit cT in
theorem JO{O n}:∀ {dW},n∉dW->iZ (gh O dW) n=cL
 | [],_=>rfl
 |b::r,h=>by
  have c:n≠b:=λe=>h uD;have a:=λe=>h (lX _ e);simp[gh];split
  .simp[iZ];rw[JO a]
   have:d3 n b=L:=by
    cases q:d3 n b with|false=>rfl|true=>simp_all
   simp[this]
  .exact JO a
theorem aj3(K:P.follows .mixedOrders=N){f fn args r p d}(X:P.funcs[f]?=U fn)(H:ov fn args.length=N)
  (A:(vi args&&(wO r&&(tO r p&&tQ p)))=N)(h:Pf T P fn args r p d):fI P f args r p d:=by
 simp at A;have⟨R,j,G,dc⟩:=A;have⟨c,m,t,c0,u⟩:=yj H;have y:nC P f:=⟨fn,X,by rw[m];rfl,u⟩;refine⟨y,λs O cU C=>⟨y,λcX own M D w vs W z dt c9 S=>xK X u m ?_⟩⟩;simp[Pf,m]at h;have k:gQ cX (ox own s D) M:=W.low λc h=>h.1;refine yk cT K t k (λc H=>⟨z c H,λb cM _ V e=>by have:=c9.lt V;omega⟩) h (XB dt (Xy cU C j c9) R c0 S) λst a w' F db=>?_;have⟨g,q,o⟩:=F;have⟨aa,au,Q,de,I,ab,du,dY,ac,av,ad⟩:=db
 cases E:nE T st.dd st.O fn.results.toList with
 |none=>simp_all
 |some kh=>
  simp[E,jB,fC]at g;subst g;have⟨us,dD,ae,af,ag,ah⟩:=JN cT de du ac (k.new Q I) E;have⟨ai,s2,fh,aj,J,el,ak⟩:=wF (ho:=st.O) (qY T st.dd st.O fn.results.toList) aa st.O de du (.refl _)
  have dh:∀n b,et s n=U b->(1000000<=n/\n<1000005)/\ ∃B,fk.fH p n=U B:=λn b e=>by
   cases x:fk.fH r n with
   |none=>rw[(cU.fE n).2 x]at e;cases e
   |some B=>
    refine⟨(JK j n B x).2,?_⟩
    cases al:fk.fH p n with
    |none=>rw[(Pl G n).2 al]at x;cases x
    |some B=>exact⟨B,Z⟩
  have⟨ei,am,an,_,ao,ap⟩:=Xz cU j c9 G dc (Q.trans s2) (I.trans aj) W.own ab J (λn b e=>by
   have⟨db,B,x⟩:=dh n b e
   refine⟨B,x,?_⟩;rw[Ju,JO λK=>Xv q n K db];exact Pk o n B x) (λn b e aw=>dY n (dh n b e).1.1 (by have:=dh n b e;omega)) (lR (ps kh))
  refine⟨ad,_,yi ae,_,ai,ei,Z,ao,Q.trans s2,fh,ap,am,an,FH (Pd af λi d v Y aq=>?_)⟩
  have x:dD[i]?=U (dD[i]'(by rw[ag];exact(f_.1 Y).1)):=dw
  have⟨fD,ax,ar⟩:=ah i _ d v x Y aq;exact FG J (by rwa[Ex el]) (x4 (λb l cR cN m he=>ak b l cR cN (.inl m) he) el _ ar) (fD.mono s2)
end
def wQ:I (V×V)->I (V×d4)->di
 | [],[]=>N
 |(n,_)::r,(m,_)::q=>bif d3 n m then wQ r q else L
 |_,_=>L
def Ad:I (V×V)->di
 | []=>N
 |(_,b)::r=>bif r.all λp=>!d3 b p.2 then Ad r else L
theorem XC:∀ {s n b},et s n=U b->(n,b)∈s
 | [],_,_,h=>hh
 |(a,c)::r,n,b,h=>by
  simp[et]at h
  cases d:d3 n a with|true=>simp_all|false=>simp[d,jw]at h;exact lX _ (XC h)
theorem JP{s d}(h:(wQ s d&&Ad s)=N):F9 s d:=by
 simp at h;obtain⟨k,cY⟩:=h;constructor
 .clear k
  induction s with
  |nil=>intro n f b h;cases h
  |cons p r u=>
   obtain⟨a,c⟩:=p;simp only[Ad]at cY
   cases j:(r.all λp=>!d3 c p.2) with
   |false=>simp_all
   |true=>
    simp at cY
    have o:∀ {m b:V},et r m=U b->b≠c:=fun {m b} l e=>by
     have:=(of.1 j) _ (XC l);simp_all
    intro n f b Q g;simp[et]at Q g
    cases v:d3 n a with
    |true=>
     simp[v,fF,fC]at Q
     cases w:d3 f a with
     |true=>simp_all
     |false=>grind
    |false=>grind
 .clear cY
  induction s generalizing d with
  |nil=>cases d with
   |nil=>intro n;simp[et,fk.fH]
   |cons _ _=>simp[wQ]at k
  |cons p r u=>
   cases d with
   |nil=>have⟨a,c⟩:=p;simp[wQ]at k
   |cons q t=>
    obtain⟨a,c⟩:=p;obtain⟨m,B⟩:=q;simp only[wQ]at k
    cases i:d3 a m with
    |false=>simp_all
    |true=>simp at k;have:=gE i;subst this;intro n;simp[et,fk.fH];grind
theorem Ae{s O}:∀ {e},od O (ku s e)->∀n B b,fk.fH e n=U B->et s n=U b->O b=U (nJ s B)
 | [],_,n,B,b,h,_=>hh
 |(m,C)::r,c,n,B,b,h,g=>by
  simp[fk.fH]at h;simp[ku]at c
  cases a:d3 n m with
  |true=>simp[a,fF,fC]at h;subst h;rw[<-gE a,g]at c;exact c.1
  |false=>
   simp[a,jw]at h
   cases q:et s m with
   |none=>rw[q]at c;exact Ae c n B b h g
   |some d=>rw[q]at c;exact Ae c.2 n B b h g
theorem JQ{P f args dD r p d O dst dx dW K}(H:fI P f args r p d)(s)
  (a:(wQ s r&&Ad s)=N)(h:od O (ku s r))(x:ow s args=dD)(k:K ⟨lR d,ku s p,et s 1000004⟩):rC P f N dD O dst dx dW K:=
 Iq (x▸H.2 s O (JP a) (Ae h)) k
theorem gk{P f args dD r p d O K}(H:fI P f args r p d)(s)
  (a:(wQ s r&&Ad s)=N)(h:od O (ku s r))(x:ow s args=dD)(k:K ⟨lR d,ku s p,et s 1000004⟩):zK P f dD O K:=
 NF (x▸H.2 s O (JP a) (Ae h)) k
theorem ge{T dd O r o d a}(h:(nE T dd O r).map ps=U a)(e:a=d)(f:F8 (qY T dd O r)=N)(p:od O o):Xs T dd O r o d:=⟨by rw[h,e],f,p⟩
section
variable {P:en} {T:fM} (cT:jL P T)
theorem YB(T dd O):∀q,IF T dd O q=qY T dd O q
 | []=>rfl|r::q=>by rw[IF,qY,YB T dd O q]
theorem YC{b}:∀ {l},b∈l->kp b l=N
 | [],h=>hh
 |x::r,h=>by
  simp only[kp]
  cases h with
  |head=>simp
  |tail _ h=>
   cases d3 b x with
   |true=>rfl
   |false=>exact YC h
theorem YD{F}:∀ {l},uX l F=N->∀b∈l,b∉F
 | [],_,b,hb=>by cases hb
 |x::r,h,b,hb=>by
  simp only[uX]at h
  cases a:kp x F with
  |true=>simp_all
  |false=>
   rw[a]at h
   cases hb with
   |head=>exact λd6=>by rw[YC d6]at a;cases a
   |tail _ hb=>exact YD h b hb
theorem YE{b}:∀ {c},dp.own b∈c->b∈IE c
 | [],h=>hh
 |x::r,h=>by
  cases h with
  |head=>exact .head _
  |tail _ h=>
   have:=YE h
   cases x<;>first|exact this|exact .tail _ this
theorem alc{ho b}(dW O)(h:b∉dW):gu O (gh ho dW) b=O b:=FJ dW O h
include cT in
theorem ald(d6:P.follows .mixedOrders=N){f fn dx X cs}(ee:P.funcs[f]?=U fn)(dj:ov fn dx.length=N)(h:NS T P fn dx cs X):Fb P f dx cs X:=by
 have⟨c,H,K,c0,ac⟩:=yj dj;refine⟨⟨fn,ee,by rw[H];rfl,ac⟩,λcX w M vs gj dt dh=>xK ee ac H ?_⟩;simp only[NS,H]at h;refine yk cT d6 K gj (λ_ h=>h) h (F4 dt dh (by rwa[dh.1])) λst a w' S dQ=>?_;have⟨ai,D,Q,c5,ad,aj,du,dY,ae,aP,ak⟩:=dQ;have⟨t,r,q,b,c,al,am,n,an,k,cU⟩:=S;rw[YB]at cU;have⟨m,dD,J,ao,ap,aq⟩:=JN cT c5 du ae (gj.new Q ad) k;have⟨ar,s2,fh,au,G,el,av⟩:=wF (ho:=st.O) (qY T st.dd st.O (r::q)) ai st.O c5 du (.refl _);have C:=ae t;rw[am]at C;generalize db:a.tmps.getD t undef=q4 at C
 have A:∀E l cR,dp.own E∈c->st.O E=U (.row l cR L)->gu st.O (gh st.O (qY T st.dd st.O (r::q))) E=U (.row l cR L):=λE l cR d6 aQ=>by
  rwa[alc _ _ (YD cU E (YE d6))]
 have aw:gu st.O (gh st.O (qY T st.dd st.O (r::q))) b=U (.box c L):=by
  rcases el b with e|⟨l,cR,cN,F,aR⟩
  .rwa[e]
  .rw[n]at F;cases F
 have⟨cM,I,ax⟩:∃cM,D b=U (U cM) /\q4=.pointer (U ⟨cM.blk,0*cM.cR+0,cL⟩):=by
  cases C with|ptr _ _ _ cM I=>exact⟨cM,I,Z⟩|i6 _ _ _ _ I=>rw[(du.fE b).2 I]at n;cases n
 have⟨fv,Y,eV,p9,ay,aS,az,Gj,aA⟩:=G.at_ b _ cM aw I;have⟨af,ag,aB⟩:=F6 an
 have aC:∀c2,e0 cX.F w' c2->(fn.results.toList.mapM (kI a.tmps)).run P c2=.ok (q4::m) c2/\ ∀es,∀e∈(fn.results.toList.mapM (kI a.tmps)).events P c2 es,e∈es\/jc cX.F e:=λc2 g=>by
  rw[al,B7];refine⟨?_,λes e z=>(J c2 g).2 es e ?_⟩
  .simp only[hc,kI,hU,hj,db,(J c2 g).1]
  .simpa only[jz,px,kI,hU,kT,db,(J c2 g).1]using z
 have dc:=ao
 have aT:0<X.length:=by
  cases X with
  |nil=>
   simp[nE]at k;split at k
   .split at k<;>cases k
   .cases k
  |cons=>simp
 have de:(if h:(IJ (U ⟨cM.blk,0*cM.cR+0,cL⟩)::m).toArray.size=1 then(IJ (U ⟨cM.blk,0*cM.cR+0,cL⟩)::m).toArray[0] else .tuple (IJ (U ⟨cM.blk,0*cM.cR+0,cL⟩)::m).toArray)=Value.tuple (#[.pointer (U ⟨cM.blk,0,cL⟩)]++m.toArray):=by rw[dif_neg (by simp only[Gk,nF];omega)];simp
 refine⟨ak,_,yi (ax▸aC),cM.blk,Y,m.toArray,eV,ar,yl cs c D,by rw[de],fv,p9,aA.2 Z,F5 aj,Q.trans s2,fh,λb o v cY=>(ad.trans au) b o v cY,?_,⟨by simp[dc],λi d v ah aD=>?_⟩,λi s c'=>?_,λi j R aE y aF z=>?_,λi R y z=>?_⟩
 .rw[ay,az];first|exact af|exact af.symm
 .have p:dD[i]?=U (dD[i]'(by rw[ap];exact(f_.1 ah).1)):=dw
  have⟨fD,aU,aG⟩:=aq i _ d v p ah (by simpa using aD);exact FG G (by rwa[Ex el]) (x4 (λb l cR cN H z=>av b l cR cN (.inl H) z) el _ aG) (fD.mono s2)
 .have⟨x,p,B⟩:=ag i s c';have⟨u,aH,aI⟩:=Gj.den i x p;exact⟨u,aH,Xr G c' p aI B λb l cR e=>A b l cR (e▸jY p)⟩
 .have⟨l,cR,W,dI,V,aa⟩:=F7 y;have⟨aJ,aK,aL,aM,aN,aO⟩:=F7 aF;have:=G.inj W aL R aE aa aO z;subst this;exact aB i j W l aJ cR aK dI aM V aN
 .have⟨l,cR,W,dI,V,aa⟩:=F7 y;have:=G.inj W b R cM aa I z;subst this;have⟨x,p,B⟩:=ag i _ dI;rw[V]at p
  cases p
  rcases B with⟨E,ab,F,_⟩|⟨ab,_⟩
  .cases ab
   rw[n]at F;cases F
  .cases ab
end
def Gl:d4->di
 | .row _ _ _=>N
 | .box _ _=>L
def Ah:I (V×d4)->di
 | []=>N
 |(_,B)::r=>bif Gl B then Ah r else L
theorem PE:∀ {l},Ah l=N->∀n B,fk.fH l n=U B->Gl B=N
 | [],_,n,B,h=>hh
 |(t,v)::r,O,n,B,h=>by
  simp only[Ah]at O
  cases c:Gl v with
  |false=>simp_all
  |true=>
   simp[c,fF]at O;simp[fk.fH]at h
   cases b:d3 n t with
   |true=>simp_all
   |false=>simp[b,jw]at h;exact PE O n B h
def ys(b:V):di:=bif hn 1000000 b&&hn b 1000003 then L else N
theorem ale{b}(h:ys b=N):¬(1000000<=b/\b<1000004):=by
 rintro⟨Q,a⟩;unfold ys at h;rw[rD Q,rD (aj2.1 a)]at h
 cases h
inductive J9(O:V->dB d4)(l:I (I c3))(cR:V):dp->Prop
 |win (b n:V) (c:dB V) (r:I (I c3)) (h:O b=U (.row r cR L)) (c0:n<=r.length) (dv:r.take n=l) (hb:ys b=N):J9 O l cR (.win b 0 n c)
 |own (b:V) (h:O b=U (.row l cR L)) (hb:ys b=N):J9 O l cR (.own b)
 |nil (h:l=[]):J9 O l cR .nil
structure CX(dd:V->dp)(O:V->dB d4)(kh:I xX)(l:I (I c3))(cR:V)(post:I (V×d4)):Prop where
 res:∃t,kh=[.tmp t] /\J9 O l cR (dd t)
 post:od O post
def PF(T:fM)(P:en)(fn:Func)(l:I (I c3))(cR:V)(rest:I dp)(pre post:I (V×d4))(a:I (I c3)):Prop:=
 match fn.body with
 |some c=>(∀cap,l.length<=cap->k8 T P c ⟨tP (.win 1000004 0 l.length (U cap)::rest),fk.fH ((1000004,.row (l++eQ (cap-l.length) (eQ cR .mA)) cR L)::pre)⟩ λe st=>match e with
   | .exit _=>dA
   |_=>CX st.dd st.O fn.results.toList a cR post) /\
  (l=[]->k8 T P c ⟨tP (.nil::rest),fk.fH ((1000004,.row [] cR L)::pre)⟩ λe st=>match e with
   | .exit _=>dA
   |_=>CX st.dd st.O fn.results.toList a cR post)
 |none=>dA
def vl(P:en)(f:im)(l:I (I c3))(cR:V)(rest:I dp)(pre post:I (V×d4))(a:I (I c3)):Prop:=
 nC P f/\ ∀(s:I (V×V)) (O:V->dB d4) (e1:V),F9 ((1000004,e1)::s) ((1000004,.row l cR L)::pre)->(∀n B b,fk.fH ((1000004,.row l cR L)::pre) n=U B->et ((1000004,e1)::s) n=U b->O b=U (nJ ((1000004,e1)::s) B))->
  rB P f (.own e1::ow ((1000004,e1)::s) rest) O ⟨.own e1,ku ((1000004,e1)::s) ((1000004,.row a cR L)::post),U e1⟩
theorem PG{M D ei w B cM}(a:Gl B=N)(h:jJ M D w B cM):jJ M ei w B cM:=by
 have⟨cs,eV,b,d,e⟩:=h;refine⟨cs,eV,b,d,?_⟩
 cases B with|row l cR cN=>exact e|box c cN=>cases a
theorem er.alf{own M D O w}(h:er own M D O w)(r:∀b B,O b=U B->Gl B=N){n l cR}(q:O n=U (.row l cR L)){cM}(J:D n=U (U cM)){cap}(cX:l.length<=cap)(F:cap*cR<=cM.size):
 er own M (eS D n (U (U ⟨cM.blk,cM.cR,cM.size,cap⟩))) (eS O n (U (.row (l++eQ (cap-l.length) (eQ cR .mA)) cR L))) w:=by
 have g:∀b,b≠n->eS D n (U (U ⟨cM.blk,cM.cR,cM.size,cap⟩)) b=D b:=λb q=>gq _ _ q
 have k:∀b ek,eS D n (U (U ⟨cM.blk,cM.cR,cM.size,cap⟩)) b=U (U ek)->∃p,D b=U (U p)/\p.blk=ek.blk:=by
  intro b ek e
  by_cases q:b=n
  .subst q;rw[gP]at e;grind
  .simp_all
 refine⟨λb=>?_,λb cY=>?_,λb B ek o f=>?_,λb x K P Q A c=>?_⟩
 .by_cases a:b=n
  .subst a;simp[gP]
  .rw[g b a,gq _ _ a];exact h.fE b
 .by_cases a:b=n
  .subst a;rw[gP]at cY;cases cY
  .rw[g b a]at cY;rw[gq _ _ a];exact h.iX b cY
 .by_cases a:b=n
  .subst a;rw[gP]at f o
   cases f;cases o
   have⟨E,cs,eV,G,u,v,W,X,I,S⟩:=h.at_ b _ cM q J;have t:(l++eQ (cap-l.length) (eQ cR c3.mA)).length=cap:=hy;refine⟨E,cs,eV,G,u,v,t,by simp_all,⟨λi e c=>?_,λi j e d c m=>?_⟩,sq,λ_=>S.2 Z⟩
   .by_cases cK:i<l.length
    .rw[wH cK]at c;exact I.len i e c
    grind
   .by_cases cK:i<l.length
    .rw[wH cK]at c;exact I.den i j e d c m
    .have s:=(f_.1 c).1;rw[t]at s;rw[x7 R,tI]at c;split at c
     .cases c
      have C:=(f_.1 m).1;rw[tI]at m;split at m
      .cases m
       have pn:i*cR+j<cs.size:=by rw[u];exact sR (zY s R) F
       exact⟨cs[i*cR+j],uE,.mA _⟩
      .cases m
     .cases c
  .rw[g b a]at f;rw[gq _ _ a]at o;have⟨u,v⟩:=h.at_ b B ek o f;exact⟨u,PG (r b B o) v⟩
 .have⟨T,y,H⟩:=k b K Q;have⟨V,z,dh⟩:=k x P A;exact h.inj b x T V y z R
section
variable {P:en} {T:fM} (cT:jL P T)
include cT
open Classical in
theorem alg(d6:P.follows .mixedOrders=N){f fn l C cR rest y o}(ee:P.funcs[f]?=U fn)(dj:ov fn (rest.length+1)=N)
 (aD:(vi rest&&(!ev.parts 1000004 rest&&(wO ((1000004,.row l cR L)::y)&&(tO y o&&(tQ ((1000004,.row C cR L)::o)&&(Ah y&&Ah o))))))=N)(h:PF T P fn l cR rest y o C):vl P f l cR rest y o C:=by
 simp at aD;have⟨aR,aS,am,aT,aU,aV,aW⟩:=aD;have aX:=λx K=>Np (by simpa using aS) x K 1000004 (Ik _);have⟨c,hb,aY,c0,aE⟩:=yj dj;have aF:nC P f:=⟨fn,ee,Ey,aE⟩;refine⟨aF,λgK O e1 c' aG=>⟨aF,λcX own M D w vs gj aZ dt c9 an=>xK ee aE hb ?_⟩⟩;simp[PF,hb]at h;have⟨c8,a0⟩:=h
 have aH:vs.size=rest.length+1:=by rw[an.1];simp[Ph]
 have bs:vs.size<=fn.ntmps:=by rwa[aH]
 have aI:et ((1000004,e1)::gK) 1000004=U e1:=Z;have aJ:tO ((1000004,.row l cR L)::y) ((1000004,.row C cR L)::o)=N:=aT;have aK:=Xy c' aG am c9;have a1:gQ cX (ox own ((1000004,e1)::gK) D) M:=gj.low λc h=>h.1;have a2:∀c,w.heap.size<=c->ox own ((1000004,e1)::gK) D c:=λc dj=>⟨aZ c dj,λb cM _ jV e=>afU⟩;have ae:=aG 1000004 (.row l cR L) e1 Z aI;have a3:=PE (l:=(1000004,.row l cR L)::y) aV
 have ao:∃af,vs[0]?=U af/\dZ M D (.own e1) af:=by have pn:=R;exact⟨vs[0],uE,an.2 0 (.own e1) _ Z uE⟩
 have⟨af,ao,a4⟩:=ao
 have a5:∀(g:gD),(∀n,n≠1000004->g n=qZ ((1000004,e1)::gK) D n)->∀(i:V) (x:dp) (v:dr),rest[i]?=U x->vs[i+1]?=U v->dZ M g x v:=by
  intro g Q i x v K cY
  have u:=Xt (s:=(1000004,e1)::gK) (λn=>Z) (Pj aR x (jY K)) (an.2 (i+1) _ v (by
   show(ow ((1000004,e1)::gK) rest)[i]?=U (Aa ((1000004,e1)::gK) x)
   rw[Pg,K];rfl) cY)
  exact u.BR (S:=λb=>b≠1000004) (λb hb=>Q b hb) λb hb=>by
   have:=nA hb;subst this;exact aX x (jY K)
 suffices H:∃(g:gD) (ag:V->dB d4) (dc:dp),er (ox own ((1000004,e1)::gK) D) M g ag w/\dZ M g dc af/\ (∀n,n≠1000004->g n=qZ ((1000004,e1)::gK) D n)/\
  k8 T P c ⟨tP (dc::rest),ag⟩ λe st=>match e with
   | .exit _=>dA
   |_=>CX st.dd st.O fn.results.toList C cR o by
  have⟨g,ag,dc,k1,eK,aL,a6⟩:=H
  have a7:gH cX (ox own ((1000004,e1)::gK) D) w M g fn.ntmps ⟨tP (dc::rest),ag⟩ {tmps:=vs++kM (fn.ntmps-vs.size) undef,defers:=[]} w:=by
   refine⟨M,g,.refl M,dt,.refl _ _,.refl _ _,k1,λ_ _ _=>Z,λt=>?_,hy,Z⟩;rw[JF];refine JJ (dc::rest) 0 vs (λi x v Q c5=>?_) (by rw[aH];simp) t
   cases i with
   |zero=>
    simp at Q;subst Q;rw[mM,ao]at c5;cases c5
    exact eK
   |succ i=>exact a5 g aL i x v pm sn
  refine yk cT d6 aY a1 a2 a6 a7 λst a w' a8 dQ=>?_;have⟨⟨t,a9,hw⟩,a_⟩:=a8;have⟨ap,dh,Q,c5,a',p,du,dY,ba,bt,bb⟩:=dQ
  have aM:∀c2,e0 cX.F w' c2->(fn.results.toList.mapM (kI a.tmps)).run P c2=.ok [a.tmps.getD t undef] c2/\ ∀es,∀e∈(fn.results.toList.mapM (kI a.tmps)).events P c2 es,e∈es\/jc cX.F e:=λc2 _=>by
   rw[a9];exact⟨MK,λes e he=>.inl MA⟩
  have cY:=ba t;generalize a.tmps.getD t undef=v at cY aM
  have bc:∃X:dB k6,(∀I,X=U I->(ox own ((1000004,e1)::gK) D I.blk/\ (∀aq,jJ ap aq w' (.row C cR L) I)/\ (∃b J,ys b=N/\dh b=U (U J)/\J.blk=I.blk)/\
   ∃cap,v=.slice (U ⟨I.blk,0,cL⟩) I.len cap/\I.len<=cap/\cap*I.cR<=I.size))/\ (X=cL->C=[]/\ ∃a,v=.slice a 0 0):=by
   generalize st.dd t=x at cY hw
   cases hw with
   |nil he=>
    cases cY with
    |nil dc=>exact⟨cL,(λI e=>ss),λ_=>⟨he,dc,Z⟩⟩
   |own b hb ar=>
    cases cY with
    |own _ cM cap jV aN au=>
     have⟨E,G⟩:=du.at_ b _ cM hb jV;refine⟨U cM,λI e=>?_,λe=>ss⟩
     cases e
     exact⟨E,λaq=>PG Z G,⟨b,cM,ar,jV,Z⟩,cap,Z,aN,au⟩
    |ib _ dc jV=>
     have⟨av,aw,ad⟩:=du.iX b jV;rw[hb]at ad;cases ad
     exact⟨cL,(λI e=>ss),λ_=>⟨Z,dc,Z⟩⟩
    |ju _ _ jV=>rw[(du.fE b).2 jV]at hb;cases hb
   |win b n bu r hb bv dv ar=>
    cases cY with
    |jv _ _ _ _ _ jV=>rw[(du.fE b).2 jV]at hb;cases hb
    |win _ _ _ _ cM k base jV bd bw be bf=>
     have⟨tV,cs,eV,E,G,bg,bx,bh,aO,bi⟩:=du.at_ b _ cM hb jV
     have bj:base=0:=by
      rcases bf with e|e
      .simpa using e
      .omega
     subst bj
     have bk:C.length=n:=by rw[<-dv];simp;omega
     refine⟨U ⟨cM.blk,cM.cR,cM.size,n⟩,λI e=>?_,λe=>ss⟩
     cases e
     refine⟨tV,λaq=>⟨cs,eV,E,G,bg,bk,?_,⟨λi e he=>?_,λi j e d he dU=>?_⟩,sq,bi.2⟩,⟨b,cM,ar,jV,Z⟩,k,Z,bd,by simpa using be⟩
     .exact fG (mh _ R) bh
     .apply aO.len i e;rw[<-dv,u_]at he;split at he
      .exact he
      .cases he
     .refine aO.den i j e d ?_ dU;rw[<-dv,u_]at he;split at he
      .exact he
      .cases he
  have⟨X,ah,aP⟩:=bc
  let ai:gD:=λn=>match et ((1000004,e1)::gK) n with
   |none=>cL
   |some _=>if n=1000004 then U X else dh n
  let de:V->dB d4:=λn=>match et ((1000004,e1)::gK) n with
   |none=>cL
   |some _=>fk.fH ((1000004,.row C cR L)::o) n
  have W:∀n,et ((1000004,e1)::gK) n=cL->ai n=cL/\de n=cL:=λn e=>by
   constructor
   .show(match et ((1000004,e1)::gK) n with|none=>cL|some _=>if n=1000004 then U X else dh n)=cL;rw[e]
   .show(match et ((1000004,e1)::gK) n with|none=>cL|some _=>fk.fH ((1000004,.row C cR L)::o) n)=cL;rw[e]
  have A:ai 1000004=U X/\de 1000004=U (.row C cR L):=g_
  have u:∀n b,et ((1000004,e1)::gK) n=U b->n≠1000004->ai n=dh n/\de n=fk.fH ((1000004,.row C cR L)::o) n:=λn b e db=>by
   constructor
   .show(match et ((1000004,e1)::gK) n with|none=>cL|some _=>if n=1000004 then U X else dh n)=_;rw[e];simp[db]
   .show(match et ((1000004,e1)::gK) n with|none=>cL|some _=>fk.fH ((1000004,.row C cR L)::o) n)=_;rw[e]
  have F:∀n b,et ((1000004,e1)::gK) n=U b->1000000<=n/\n<1000005:=λn b e=>by
   cases K:fk.fH ((1000004,.row l cR L)::y) n with
   |none=>rw[(c'.fE n).2 K]at e;cases e
   |some B=>exact(JK am n B K).2
  have aj:∀n b,et ((1000004,e1)::gK) n=U b->∃B,fk.fH ((1000004,.row C cR L)::o) n=U B/\de n=U B:=λn b e=>by
   by_cases p:n=1000004
   .subst p;exact⟨_,Z,Z⟩
   .cases K:fk.fH ((1000004,.row C cR L)::o) n with
    |none=>rw[(c'.fE n).2 ((Pl aJ n).2 K)]at e;cases e
    |some B=>exact⟨B,Z,by rw[(u n b e p).2,K]⟩
  have ax:∀n b B,et ((1000004,e1)::gK) n=U b->n≠1000004->fk.fH ((1000004,.row C cR L)::o) n=U B->st.O n=U B:=λn b B e p K=>by
   apply Pk a_ n B;simp[fk.fH]at K
   have:d3 n 1000004=L:=by
    cases ay:d3 n 1000004 with
    |false=>rfl
    |true=>exact dN (gE ay) p
   rwa[this]at K
  have aQ:∀n b Y cM J,et ((1000004,e1)::gK) n=U b->n≠1000004->ys Y=N->dh Y=U (U J)->dh n=U (U cM)->J.blk≠cM.blk:=by intro n b Y cM J e p ee bl jV he;have:=du.inj Y n J cM bl jV he;subst this;have:=F Y b e;exact ale ee ⟨this.1,R⟩
  have bm:er (ox own ((1000004,e1)::gK) D) ap ai de w':=by
   refine⟨λn=>?_,λn cU=>?_,λn B cM ak jV=>?_,λn mI cM ek ab aa he=>?_⟩
   .cases z:et ((1000004,e1)::gK) n with
    |none=>have⟨E,G⟩:=W n z;rw[E,G];simp
    |some b=>
     have⟨B,E,G⟩:=aj n b z;rw[G]
     by_cases p:n=1000004
     .subst p;rw[A.1];simp
     .rw[(u n b z p).1];constructor
      .intro e;cases e
      .intro e;have:=ax n b B z p E;rw[(du.fE n).2 e]at this;cases this
   .cases z:et ((1000004,e1)::gK) n with
    |none=>rw[(W n z).1]at cU;cases cU
    |some b=>
     by_cases p:n=1000004
     .subst p;rw[A.1,fC]at cU;have⟨q,_⟩:=aP cU;exact⟨cR,L,by rw[A.2,q]⟩
     .have⟨B,E,G⟩:=aj n b z;rw[(u n b z p).1]at cU;have⟨av,aw,q⟩:=du.iX n cU;rw[ax n b B z p E]at q;exact⟨av,aw,by rw[G,q]⟩
   .cases z:et ((1000004,e1)::gK) n with
    |none=>rw[(W n z).1]at jV;cases jV
    |some b=>
     by_cases p:n=1000004
     .subst p;rw[A.1,fC]at jV;rw[A.2,fC]at ak;subst ak;have⟨E,G,_⟩:=ah cM jV;exact⟨E,G _⟩
     .have⟨gG,E,G⟩:=aj n b z;rw[G,fC]at ak;subst ak;rw[(u n b z p).1]at jV;have⟨k1,eK⟩:=du.at_ n gG cM (ax n b gG z p E) jV;exact⟨k1,PG (PE (l:=(1000004,.row C cR L)::o) aW n gG E) eK⟩
   .cases z:et ((1000004,e1)::gK) n with
    |none=>rw[(W n z).1]at ab;cases ab
    |some b=>
     cases al:et ((1000004,e1)::gK) mI with
     |none=>rw[(W mI al).1]at aa;cases aa
     |some d7=>
      by_cases p:n=1000004
      .by_cases ac:mI=1000004
       .rw[p,ac]
       .subst p;rw[A.1,fC]at ab;rw[(u mI d7 al ac).1]at aa;have⟨_,_,⟨Y,J,az,aA,aB⟩,_⟩:=ah cM ab;exact dN (aB.trans he) (aQ mI d7 Y ek J al ac az aA aa)
      .rw[(u n b z p).1]at ab
       by_cases ac:mI=1000004
       .subst ac;rw[A.1,fC]at aa;have⟨_,_,⟨Y,J,az,aA,aB⟩,_⟩:=ah ek aa;exact dN (aB.trans he.symm) (aQ n b Y cM J z p az aA ab)
       .rw[(u mI d7 al ac).1]at aa;exact du.inj n mI cM ek ab aa he
  have⟨ei,fV,gY,bn,bo,bp⟩:=Xz c' am c9 aJ aU Q a' gj.own p bm aj (λn b e db=>by
   rw[(u n b e db).1,dY n (F n b e).1 (by have:=(F n b e).2;omega)]
   exact aL n db) (.own e1)
  refine⟨bb,_,yi aM,v,ap,ei,Z,bo,Q,c5,bp,fV,gY,?_⟩;have aC:=bn 1000004 e1 aI;rw[A.1]at aC
  cases X with
  |none=>obtain⟨_,dc,rfl⟩:=aP Z;exact .ib e1 dc aC
  |some I=>obtain⟨_,_,_,cap,rfl,hi,bq⟩:=ah I Z;exact .own e1 I cap aC hi bq
 have br:qZ ((1000004,e1)::gK) D 1000004=D e1:=rfl
 cases a4 with
 |ju _ _ jV=>rw[(c9.fE e1).2 jV]at ae;cases ae
 |ib _ dc jV=>
  have⟨av,aw,ad⟩:=c9.iX e1 jV;rw[ae]at ad;cases ad
  exact⟨_,_,.nil,aK,.nil dc,λn _=>Z,a0 Z⟩
 |own _ cM cap jV aN au=>
  have⟨_,cs,eV,_,_,E,G,_⟩:=c9.at_ e1 _ cM ae jV;have hw:=aK.alf a3 (n:=1000004) (l:=l) (cR:=cR) Z (br.trans jV) (cap:=cap) R (by rwa[E]);refine⟨_,_,.win 1000004 0 l.length (U cap),hw,?_,λn db=>gq _ _ db,?_⟩
  .rw[<-G];exact .win 1000004 0 _ _ ⟨cM.blk,cM.cR,cM.size,cap⟩ cap 0 (gP _ _ _) R (λm h=>by cases h;rfl) (by simpa using au) (.inl dw)
  .have:=c8 cap R
   have e:eS (fk.fH ((1000004,.row l cR L)::y)) 1000004 (U (.row (l++eQ (cap-l.length) (eQ cR .mA)) cR L))=fk.fH ((1000004,.row (l++eQ (cap-l.length) (eQ cR .mA)) cR L)::y):=by
    funext n
    by_cases p:n=1000004
    .subst p;rw[gP];rfl
    .rw[gq _ _ p]
     have:d3 n 1000004=L:=by
      cases ay:d3 n 1000004 with
      |false=>rfl
      |true=>exact dN (gE ay) p
     simp[fk.fH,this,jw]
   rwa[e]
end
theorem wU{P f rest dD r p l a cR e1 O dst dx dW K}(H:vl P f l cR rest r p a)(s)
  (b:(wQ ((1000004,e1)::s) ((1000004,.row l cR L)::r)&&Ad ((1000004,e1)::s))=N)(h:od O (ku ((1000004,e1)::s) ((1000004,.row l cR L)::r)))(x:.own e1::ow ((1000004,e1)::s) rest=dD)
  (k:K ⟨.own e1,ku ((1000004,e1)::s) ((1000004,.row a cR L)::p),U e1⟩):rC P f N dD O dst dx dW K:=
 Iq (x▸H.2 s O e1 (JP b) (Ae h)) k
theorem Ai{dd O s l cR p}{t b n:V}{c r}(Q:s=[.tmp t])(h:dd t=.win b 0 n c)(a:O b=U (.row r cR L))(d:n<=r.length)(du:r.take n=l)(dY:ys b=N)(e:od O p):CX dd O s l cR p:=
 ⟨⟨t,Q,h▸.win b n c r a d du dY⟩,e⟩
theorem alh{dd O r l cR p}{t b:V}(Q:r=[.tmp t])(h:dd t=.own b)(a:O b=U (.row l cR L))(dY:ys b=N)(c:od O p):CX dd O r l cR p:=
 ⟨⟨t,Q,h▸.own b a dY⟩,c⟩
theorem ali{dd O r l cR p}{t:V}(Q:r=[.tmp t])(h:dd t=.nil)(a:l=[])(b:od O p):CX dd O r l cR p:=
 ⟨⟨t,Q,h▸.nil a⟩,b⟩
def PH(T:fM)(P:en)(fn:Func)(args:I dp)(l:I (I c3))(cR:V):Prop:=
 match fn.body with
 |some c=>k8 T P c ⟨tP args,λ_=>cL⟩ λe st=>match e with
  | .exit _=>dA
  |_=>∃t,fn.results.toList=[.tmp t] /\ ((∃b r n a,st.dd t=.win b 0 n a/\st.O b=U (.row r cR L) /\n<=r.length/\r.take n=l) \/ (st.dd t=.nil/\l=[]))
 |none=>dA
def J_:dp->di
 | .d _=>N
 | .nil=>N
 |_=>L
def Gm:I dp->di
 | []=>N
 |x::r=>bif J_ x then Gm r else L
theorem YF:∀ {l},Gm l=N->∀x∈l,J_ x=N
 | [],_,x,h=>hh
 |y::r,h,x,a=>by
  simp only[Gm]at h
  cases b:J_ y with
  |false=>simp_all
  |true=>
   rw[b]at h
   cases a with
   |head=>exact b
   |tail _ a=>exact YF h x a
theorem alj{M D ei x v}(ee:J_ x=N)(h:dZ M D x v):dZ M ei x v:=by
 cases x with
 |d x=>cases h with|d _ _ h=>exact .d _ _ h
 |nil=>cases h with|nil a=>exact .nil a
 |eN=>cases ee
 |fd=>cases ee
 |agg c=>cases ee
 |dS c=>cases ee
 |own b=>cases ee
 |ptr b i j=>cases ee
 |win b dz n c=>cases ee
 |fn f c=>cases ee
 |dead=>cases ee
section
variable {P:en} {T:fM} (cT:jL P T)
include cT in
theorem alk(d6:P.follows .mixedOrders=N){f fn args l cR}(ee:P.funcs[f]?=U fn)(dj:ov fn args.length=N)(X:Gm args=N)(h:PH T P fn args l cR)
  (O t):rB P f args O ⟨.own t,[(t,.row l cR L)],U t⟩:=by
 have⟨c,hb,K,c0,V⟩:=yj dj;refine⟨⟨fn,ee,Ey,V⟩,λcX own M D w vs gj E dt c9 C=>xK ee V hb ?_⟩;simp only[PH,hb]at h
 have aq:vs.size<=fn.ntmps:=by rwa[C.1]
 have W:=gj.low E
 have A:gH cX (λc=>w.heap.size<=c) w M (λ_=>cL) fn.ntmps ⟨tP args,λ_=>cL⟩ {tmps:=vs++kM (fn.ntmps-vs.size) undef,defers:=[]} w:=by refine⟨M,λ_=>cL,.refl M,dt,.refl _ _,.refl _ _,⟨λ_=>⟨λ_=>Z,λ_=>Z⟩,λb h=>hh,λb B cM h=>hh,λb d7 cM ek h=>hh⟩,λ_ _ _=>Z,λt=>?_,hy,Z⟩;rw[JF];exact JJ args 0 vs (λi x v Q c5=>alj (YF X x (jY Q)) (C.2 i x v Q sn)) (by rw[C.1];simp) t
 refine yk cT d6 K W (λ_ h=>h) h A λst a w' db I=>?_;have⟨s,ar,Q,c5,ac,ad,du,dY,ae,au,af⟩:=I;have⟨q,ag,ah⟩:=db
 have S:∀c2,e0 cX.F w' c2->(fn.results.toList.mapM (kI a.tmps)).run P c2=.ok [a.tmps.getD q undef] c2/\ ∀es,∀e∈(fn.results.toList.mapM (kI a.tmps)).events P c2 es,e∈es\/jc cX.F e:=λc2 _=>by
  rw[ag];exact⟨MK,λes e he=>.inl MA⟩
 have g:=F5 ad;have y:=λb o v cY=>ac b o v cY;have z:=c9.behind gj.own g Q y;have H:(⟨.own t,[(t,.row l cR L)],U t⟩:gp).O O=eS (hT (U t) O) t (U (.row l cR L)):=Z;refine⟨af,_,yi S,a.tmps.getD q undef,s,?_⟩;have cY:=ae q
 have m:l=[]->(∃F,a.tmps.getD q undef=.slice F 0 0)->∃ei:gD,Ending.returned (if h:([a.tmps.getD q undef].toArray.size)=1 then [a.tmps.getD q undef].toArray[0] else .tuple [a.tmps.getD q undef].toArray)=.returned (a.tmps.getD q undef) /\j0 (pr cX own) w w'/\gS M s/\fp s w'/\jx own M s/\
   er own s ei ((⟨.own t,[(t,.row l cR L)],U t⟩:gp).O O) w'/\ (∀b,pZ (U t) b->ei b=D b) /\dZ s ei (.own t) (a.tmps.getD q undef):=by
  rintro rfl ⟨F,ai⟩;refine⟨eS D t (U cL),Z,x5 g E,Q,c5,zU y E,?_,λb hb=>gq _ _ λe=>tx hb e,by rw[ai];exact .ib t F (gP _ _ _)⟩;rw[H];exact z.Ck t cR L
 rcases ah with⟨b,r,n,av,J,G,aj,de⟩|⟨J,G⟩
 .rw[J]at cY;generalize Y:a.tmps.getD q undef=v at cY m⊢
  cases cY with
  |jv _ _ _ _ _ R=>rw[(du.fE b).2 R]at G;cases G
  |win _ _ _ _ cM k base R aw ax ak al=>
   have⟨fD,cs,eV,am,aa,an,ay,ao,ab,ap⟩:=du.at_ b _ cM G R
   have dc:l.length=n:=by rw[<-de,o5];omega
   have u:base=0:=by rcases al with e|⟨_,e⟩<;>omega
   subst u
   let p:k6:=⟨cM.blk,cR,cs.size,l.length⟩
   have cU:lT s cs l cR:=⟨λi e he=>ab.len i e (by rw[<-de]at he;rw[u_]at he;split at he<;>first|exact he|cases he),λi j e d he cP=>ab.den i j e d (by rw[<-de]at he;rw[u_]at he;split at he<;>first|exact he|cases he) cP⟩;refine⟨eS D t (U (U p)),Z,x5 g E,Q,c5,zU y E,?_,λb hb=>gq _ _ λe=>tx hb e,?_⟩
   .rw[H];refine z.new t (.row l cR L) p (.refl _) (E _ fD) ⟨cs,eV,am,Z,Z,Z,?_,cU,sq,λ_=>ap.2 Z⟩ λd7 ek az dh=>⟨?_,Z,z.closed dh⟩
    .show l.length*cR<=cs.size;rw[dc,aa];exact fG (mh _ aj) ao
    .have:=c9.lt dh;show ek.blk≠cM.blk;omega
   .have:=dZ.own (M:=s) (D:=eS D t (U (U p))) t p k (gP _ _ _) (by show l.length<=k;omega) (by show k*cR<=cs.size;rw[aa,an];rwa[mM]at ak);rwa[show p.len=n from dc]at this
 .rw[J]at cY;generalize Y:a.tmps.getD q undef=v at cY m⊢
  cases cY with
  |nil F=>have⟨ei,I⟩:=m G ⟨F,Z⟩;exact⟨ei,I⟩
end
def ga:I (V×V):=[(1000000,1000000),(3000001,3000001),(3000002,3000002),(3000003,3000003),(3000004,3000004),(3000005,3000005),(3000006,3000006),(3000007,3000007)]
def jh(n:V):di:=d3 n 1000000||(hn 3000001 n&&hn n 3000007)
def Af(s:I (V×V)):dp->dp
 | .own n=>match et s n with
  |some b=>.own b
  |none=>.nil
 | .ptr n i j=>match et s n with
  |some b=>.ptr b i j
  |none=>.dead
 | .win n dz m c=>match et s n with
  |some b=>.win b dz m c
  |none=>.dead
 |x=>x
def ym(s:I (V×V)):I dp->I dp
 | []=>[]
 |x::r=>Af s x::ym s r
def F'(s:I (V×V)):d4->d4
 | .row l cR cN=>.row l cR cN
 | .box c cN=>.box (ym s c) cN
def yn(s:I (V×V)):dp->di
 | .own n=>jh n
 | .ptr n _ _=>(et s n).isSome
 | .win n _ _ _=>(et s n).isSome
 | .agg _=>L
 | .dS _=>L
 | .fn _ _=>L
 |_=>N
def CN(s:I (V×V)):I dp->di
 | []=>N
 |x::r=>bif yn s x then CN s r else L
def Ga(s:I (V×V)):d4->di
 | .row _ _ _=>N
 | .box c _=>CN s c
def yo(s:I (V×V)):I (V×d4)->di
 | []=>N
 |(n,B)::r=>bif Ga s B&&jh n then yo s r else L
def JR(n:V):V:=bif d3 n 3000000 then 1000000 else n
def q0(n:V):I (V×d4)->di
 | []=>d3 n 3000008
 |(m,_)::r=>bif d3 m (JR n) then q0 (n+1) r else L
def JS(O:V->dB d4)(s:I (V×V)):I (V×d4)->Prop
 | []=>True
 |(n,B)::r=>(match et s n with
  |some t=>O t=U (F' s B)
  |none=>∃cR,B=.row [] cR L) /\JS O s r
def JT:I (V×V)->di
 | []=>N
 |(n,t)::r=>bif r.all λp=>!d3 t p.2&&!d3 n p.1 then JT r else L
def JU(s:I (V×V)):di:=JT s&&(match et s 1000000 with
 |some t=>d3 t 1000000
 |none=>L)
def Gb(s:I (V×V)):I V->di
 | []=>N
 |b::r=>bif s.all λp=>!d3 b p.2 then Gb s r else L
structure XD(T:fM)(dd:V->dp)(O:V->dB d4)(kh:I xX)(s:I (V×V))(post:I (V×d4))(d:c3):Prop where
 res:(nE T dd O kh).map ps=U d
 hK:Gb s (qY T dd O kh)=N
 post:JS O s post
def Pn(T:fM)(P:en)(fn:Func)(args:I dp)(pre post:I (V×d4))(d:c3):Prop:=
 match fn.body with
 |some c=>k8 T P c ⟨tP args,fk.fH pre⟩ λe st=>match e with
  | .exit _=>dA
  |_=>∃s,(yo s post&&(JU s&&s.all λp=>jh p.1))=N/\XD T st.dd st.O fn.results.toList s post d
 |none=>dA
def rL(P:en)(f:im)(args:I dp)(pre post:I (V×d4))(d:c3):Prop:=
 nC P f/\ ∀(O:V->dB d4),(∀n B,fk.fH pre n=U B->O n=U (nJ ga B))->rB P f (ow ga args) O ⟨lR d,post,U 3000000⟩
theorem CO{n}:jh n=N↔n=1000000\/ (3000001<=n/\n<=3000007):=by unfold jh;simp_all
theorem JV{n}:et ga n=if jh n then U n else cL:=by
 by_cases h:jh n=N
 .rw[if_pos h];rcases CO.1 h with rfl|⟨Q,c⟩
  .rfl
  .obtain⟨k,rfl⟩:∃k,n=3000001+k:=⟨n-3000001,R⟩;exact(show ∀k,k<7->et ga (3000001+k)=U (3000001+k) by decide+kernel) k R
 .rw[cS h];have a:¬(n=1000000\/ (3000001<=n/\n<=3000007)):=λa=>h (CO.2 a)
  have e:∀m,(m=1000000\/ (3000001<=m/\m<=3000007))->d3 n m=L:=λm Q=>by
   cases b:d3 n m with|false=>rfl|true=>have:=gE b;omega
  simp[ga,et,e]
theorem JW{n b}(h:et ga n=U b):b=n/\jh n=N:=by rw[JV]at h;grind
theorem aj4{n}(h:ha 3000000 n=L)(Q:n≠1000000):jh n=L:=by
 have e:ha 3000000 n=d3 (n/8) 375000:=cV;rw[e]at h
 cases f:jh n with|false=>rfl|true=>have a:=CO.1 f;have:n/8=375000:=R;simp_all
theorem XE(s):∀(c) (i:V),(ym s c)[i]?=(c[i]?).map (Af s)
 | [],i=>by simp[ym]|x::r,0=>by simp[ym]|x::r,i+1=>by simpa[ym]using XE s r i
theorem XF(s):∀c,(ym s c).length=c.length
 | []=>rfl|x::r=>by simp[ym,XF s r]
theorem XG{s}:∀ {c},CN s c=N->∀x∈c,yn s x=N
 | [],_,x,eE=>uH
 |y::r,h,x,eE=>by
  simp only[CN]at h
  cases a:yn s y with
  |false=>simp_all
  |true=>
   simp[a,fF]at h
   cases eE with
   |head=>exact a
   |tail _ eE=>exact XG h x eE
theorem Po{s}:∀ {l},yo s l=N->∀n B,fk.fH l n=U B->Ga s B=N/\jh n=N
 | [],_,n,B,h=>hh
 |(t,v)::r,O,n,B,h=>by
  simp only[yo]at O
  cases c:(Ga s v&&jh t) with
  |false=>simp_all
  |true=>
   simp[c,fF]at O;simp at c;simp[fk.fH]at h
   cases b:d3 n t with
   |true=>simp_all
   |false=>simp[b,jw]at h;exact Po O n B h
theorem XH{O:V->dB d4}{s:I (V×V)}:∀ {l:I (V×d4)},JS O s l->∀n B,fk.fH l n=U B->match et s n with
  |some t=>O t=U (F' s B)|none=>∃cR,B=.row [] cR L
 | [],_,n,B,h=>hh
 |(t,v)::r,c,n,B,h=>by
  simp[fk.fH]at h
  cases b:d3 n t with|true=>simp[b,fF,fC]at h;subst h;rw[gE b];exact c.1|false=>simp[b,jw]at h;exact XH c.2 n B h
theorem Pp{s}:∀ {n t},et s n=U t->(n,t)∈s:=by
 induction s with
 |nil=>intro n t h;cases h
 |cons p r i=>
  have⟨a,b⟩:=p;intro n t h;simp[et]at h
  cases c:d3 n a with|true=>simp_all|false=>simp_all
theorem XI:∀ {s},JT s=N->∀n c t,et s n=U t->et s c=U t->n=c
 | [],_,n,c,t,h,_=>hh
 |(a,b)::r,h,n,c,t,Q,e=>by
  simp only[JT]at h
  cases g:(r.all λp=>!d3 b p.2&&!d3 a p.1) with
  |false=>simp_all
  |true=>
   simp[g,fF]at h
   have o:∀m,et r m=U b->dA:=λm i=>by
    have:=(of.1 g) _ (Pp i);simp at this
   simp[et]at Q e
   cases f:d3 n a with
   |true=>
    simp[f,fF,fC]at Q;subst Q
    cases d:d3 c a with
    |true=>simp_all
    |false=>simp_all
   |false=>
    simp[f,jw]at Q
    cases d:d3 c a with
    |true=>simp_all
    |false=>simp[d,jw]at e;exact XI h n c t Q e
theorem XJ{s}:∀ {l},Gb s l=N->∀n t,et s n=U t->t∉l
 | [],_,n,t,_,h=>hh
 |b::r,h,n,t,c0,d6=>by
  simp only[Gb]at h
  cases dj:(s.all λp=>!d3 b p.2) with
  |false=>simp_all
  |true=>
   simp[dj,fF]at h
   cases d6 with
   |head=>have:=(of.1 dj) _ (Pp c0);simp at this
   |tail _ d6=>exact XJ h n t c0 d6
section
variable {M:eI} {D ei:gD} {s:I (V×V)}
theorem aj5(cW:∀n,jh n=N->ei n=match et s n with|some t=>D t|none=>U cL)(c':∀n t,et s n=U t->jh n=N){x:dp}{v:dr}(O:yn s x=N)(h:dZ M D (Af s x) v):dZ M ei x v:=by
 cases x with
 |own n=>
  have c0:=cW n O;simp[Af]at h
  cases g:et s n with
  |none=>
   rw[g]at c0 h
   cases h with
   |nil a=>exact .ib n a c0
  |some b=>
   rw[g]at c0 h;simp only at c0 h
   cases h with
   |own _ cM cap e Q c5=>exact .own n cM cap (c0.trans e) Q c5
   |ib _ a e=>exact .ib n a (c0.trans e)
   |ju _ _ e=>exact .ju n _ (c0.trans e)
 |ptr n i j=>
  simp[Af]at h
  cases g:et s n with
  |none=>simp only[yn,g]at O;cases O
  |some b=>
   have c0:=cW n (c' n b g);rw[g]at c0 h;simp only at c0 h
   cases h with
   |ptr _ _ _ cM e=>exact .ptr n i j cM (c0.trans e)
   |i6 _ _ _ _ e=>exact .i6 n i j _ (c0.trans e)
 |win n dz m c=>
  simp[Af]at h
  cases g:et s n with
  |none=>simp only[yn,g]at O;cases O
  |some b=>
   have c0:=cW n (c' n b g);rw[g]at c0 h;simp only at c0 h
   cases h with
   |win _ _ _ _ cM k base e l o p q=>exact .win n dz m c cM k base (c0.trans e) l o p q
   |jv _ _ _ _ _ e=>exact .jv n dz m c _ (c0.trans e)
 |d x=>cases h with|d _ _ h=>exact .d _ _ h
 |eN=>cases h;exact .eN
 |fd=>cases h;exact .fd
 |nil=>cases h with|nil a=>exact .nil a
 |dead=>exact .dead _
 |agg c=>cases O
 |dS c=>cases O
 |fn f c=>cases O
theorem aj6(cW:∀n,jh n=N->ei n=match et s n with|some t=>D t|none=>U cL)(c':∀n t,et s n=U t->jh n=N){w:da}{B:d4}{cM:k6}(O:Ga s B=N)(h:jJ M D w (F' s B) cM):jJ M ei w B cM:=by
 have⟨cs,eV,f,g,a⟩:=h;refine⟨cs,eV,f,g,?_⟩
 cases B with|row l cR cN=>exact a|box c cN=>have⟨b,fh,i,d⟩:=a;rw[XF]at b fh d;exact⟨b,fh,⟨by omega,λj x e=>have⟨v,k,m⟩:=i.den j (Af s x) (by rw[XE,e];rfl);⟨v,k,aj5 cW c' (XG O x (jY e)) m⟩⟩,d⟩
end
theorem Gc:∀ {l},q0 3000000 l=N->∀n,fk.fH l n=cL↔jh n=L:=by
 have y:∀(l:I (V×d4)) (k:V),3000001<=k->k<=3000008->q0 k l=N->∀n,fk.fH l n=cL↔¬(k<=n/\n<=3000007):=by
  intro l
  induction l with
  |nil=>intro k Q o h n;have:=gE h;simp[fk.fH,true_iff];omega
  |cons p r i=>
   have⟨m,B⟩:=p;intro k Q o h n
   have g:∀k,3000001<=k->JR k=k:=λk h=>by
    unfold JR
    cases b:d3 k 3000000 with
    |true=>simp_all
    |false=>rfl
   simp only[q0,g k Q]at h
   cases b:d3 m k with
   |false=>simp_all
   |true=>
    simp[b,fF]at h;have e:=gE b;subst e
    have d:m+1<=3000008:=by
     rcases jr m 3000008 with c|c
     .omega
     .exfalso;have e:m=3000008:=R;subst e;clear i b o
      have:∀(r:I (V×d4)) (j:V),3000008<j->q0 j r=N->dA:=by
       intro r
       induction r with
       |nil=>intro j q h;have:=gE h;omega
       |cons p r i=>intro j q h;simp[q0,g j R]at h;grind
      simp_all
    simp[fk.fH]
    cases a:d3 n m with
    |true=>simp_all
    |false=>simp;rw[i (m+1) R d h n];grind
 intro l h n
 cases l with
 |nil=>simp[q0]at h
 |cons p r=>
  have⟨m,B⟩:=p;simp only[q0]at h;have t:JR 3000000=1000000:=Z;rw[t]at h
  cases b:d3 m 1000000 with
  |false=>simp_all
  |true=>
   simp[b,fF]at h;have e:=gE b;subst e;simp[fk.fH]
   cases a:d3 n 1000000 with
   |true=>
    have e:=gE a;subst e;simp only[fF];constructor
    .simp_all
    .exact λh=>dN h cZ
   |false=>
    simp;rw[y r 3000001 cZ cZ h n]
    have s:n≠1000000:=λe=>by simp_all
    cases f:jh n with
    |true=>have:=CO.1 f;simp;omega
    |false=>
     simp only[iff_true];intro c;rw[CO.2 (.inr c)]at f
     cases f
theorem aj7{s x}(h:yn s x=N):CL x=N:=by cases x<;>first|rfl|cases h
theorem XK{s}:∀ {c},CN s c=N->Ab c=N
 | [],_=>rfl
 |x::r,h=>by
  simp only[CN]at h
  cases a:yn s x with|false=>simp_all|true=>simp[a,fF]at h;simp[Ab,aj7 a,fF];exact XK h
theorem aj8{s B}(h:Ga s B=N):CM B=N:=by
 cases B with|row l cR cN=>rfl|box c cN=>exact XK h
theorem XL:∀ {l n},fk.fH l n=cL->iZ l n=cL
 | [],_,_=>rfl
 |(t,v)::r,n,h=>by
  simp[fk.fH]at h
  cases b:d3 n t with|true=>simp_all|false=>simp[b,jw]at h;simp[iZ];rw[XL h];simp[b]
theorem Pq:∀ {l n B},l.Pairwise (λp q=>p.1≠q.1)->fk.fH l n=U B->iZ l n=U B
 | [],_,_,_,h=>hh
 |(t,v)::r,n,B,O,h=>by
  rw[vg]at O;simp[fk.fH]at h;simp[iZ]
  cases b:d3 n t with
  |true=>
   simp[b,fF,fC]at h;subst h;have e:=gE b;subst e
   have:iZ r n=cL:=by
    cases x:iZ r n with|none=>rfl|some gG=>exact dN Z (O.1 (n,gG) (O2 x))
   simp_all
  |false=>simp[b,jw]at h;rw[Pq O.2 h]
section
variable {P:en} {T:fM} (cT:jL P T)
include cT
theorem aj9(d6:P.follows .mixedOrders=N){f fn args y p d}(ee:P.funcs[f]?=U fn)(dj:ov fn args.length=N)
 (W:(vi args&&(yo ga y&&(q0 3000000 y&&(q0 3000000 p&&tQ p))))=N)(h:Pn T P fn args y p d):rL P f args y p d:=by
 simp at W;have⟨af,ag,ah,V,ai⟩:=W;have⟨c,g,dc,c0,S⟩:=yj dj;have aa:nC P f:=⟨fn,ee,by rw[g];rfl,S⟩;refine⟨aa,λO X=>⟨aa,λcX own M D w vs gj de dt c9 aj=>xK ee S g ?_⟩⟩;simp only[Pn,g]at h;have K:gQ cX (ox own ga D) M:=gj.low λc h=>h.1;have ak:∀b,(∃n,et ga n=U b)↔jh b=N:=λb=>⟨λ⟨n,e⟩=>by have:=JW e;simp_all,λh=>⟨b,by rw[JV,if_pos h]⟩⟩
 refine yk cT d6 dc K (λc dj=>⟨de c dj,λb cM _ I e=>by have:=c9.lt I;omega⟩) h (XB dt (Xw (λn=>by
  rw[JV,Gc ah n]
  simp_all) (λn mI b u m=>(JW u).1.symm.trans (JW m).1) (λn B b dh e=>(JW e).1▸X n B dh) (λn B dh=>aj8 (Po ag n B dh).1) c9) af c0 aj) λst a w' Y dQ=>?_
 have⟨q,ab,r,db,C⟩:=Y;simp only[lV]at ab;have⟨al,x,am⟩:=ab;rw[JU,lV]at x;have⟨x,cU⟩:=x
 have cU:et q 1000000=U 1000000:=by
  cases u:et q 1000000 with
  |none=>simp_all
  |some t=>simp_all
 have an:∀n t,et q n=U t->jh n=N:=λn t e=>(of.1 am) _ (Pp e);have⟨ao,ac,Q,c5,ad,ap,du,dY,aq,aI,ar⟩:=dQ
 cases E:nE T st.dd st.O fn.results.toList with
 |none=>simp[E]at r
 |some kh=>
  simp[E,jB,fC]at r;subst r;have⟨us,dD,au,av,aw,ax⟩:=JN cT c5 du aq (K.new Q ad) E;have⟨ay,s2,fh,az,G,el,aA⟩:=wF (ho:=st.O) (qY T st.dd st.O fn.results.toList) ao st.O c5 du (.refl _)
  let ei:gD:=λb=>if jh b then(match et q b with|some t=>ac t|none=>U cL) else D b
  have s:∀n,jh n=N->ei n=match et q n with|some t=>ac t|none=>U cL:=λn h=>if_pos h
  have A:∀b,¬jh b=N->ei b=D b:=λb g=>cS g
  have o:∀b,pZ (U 3000000) b->ei b=D b:=λb g=>by
   by_cases Q:b=1000000
   .subst Q;rw[s _ Z,cU];exact dY _ R R
   .exact A b λh=>by rw[aj4 g Q]at h;cases h
  have⟨aB,aC,aD⟩:=Xx (H:=gp.O ⟨lR (ps kh),p,U 3000000⟩ O) (ei:=ei) c9 (Q.trans s2) (ad.trans az) gj.own ap ak (λb g=>⟨by
   have z:=(Gc V b).2 (by simpa using g);rw[vd];simp[XL z],A b g⟩) o (by
   intro b g
   cases z:fk.fH p b with
   |none=>rw[(Gc V b).1 z]at g;cases g
   |some F=>
    have j:=XH C b F z
    have:gp.O ⟨lR (ps kh),p,U 3000000⟩ O b=U F:=by rw[vd];simp[Pq (JL ai) z]
    rw[this,s b g]
    cases u:et q b with
    |none=>rw[u]at j;obtain⟨cR,rfl⟩:=j;exact⟨by simp,λ_=>⟨cR,L,Z⟩,nofun⟩
    |some t=>
     rw[u]at j;simp only at j⊢;replace j:gu st.O (gh st.O (qY T st.dd st.O fn.results.toList)) t=U (F' q F):=by rwa[Ju,JO (XJ db b t u)]
     refine⟨⟨nofun,λh=>by rw[(G.fE t).2 h]at j;cases j⟩,λcY=>?_,λB cM dh I=>?_⟩
     .have⟨cR,cN,J⟩:=G.iX t cY;rw[j]at J
      cases F<;>simp[F']at J;obtain⟨rfl,rfl,rfl⟩:=J;exact⟨_,_,Z⟩
     .cases dh;have⟨k1,eK⟩:=G.at_ t _ cM j I;exact⟨k1,aj6 s an (Po al b F z).1 eK⟩) (by
   intro b d7 cM ek g aE I k aF;rw[s b g]at I;rw[s d7 aE]at k
   cases u:et q b with
   |none=>rw[u]at I;cases I
   |some t=>
    cases m:et q d7 with
    |none=>rw[m]at k;cases k
    |some aG=>rw[u]at I;rw[m]at k;have:=G.inj t aG cM ek I k aF;subst this;exact XI x b d7 t u m)
  refine⟨ar,_,yi au,_,ay,ei,Z,aC,Q.trans s2,fh,aD,aB,o,FH (Pd av λi d v ae j=>?_)⟩
  have z:dD[i]?=U (dD[i]'(by rw[aw];exact(f_.1 ae).1)):=dw
  have⟨fD,aJ,aH⟩:=ax i _ d v z ae j;exact FG G (by rwa[Ex el]) (x4 (λb l cR cN g he=>aA b l cR cN (.inl g) he) el _ aH) (fD.mono s2)
end
def aqZ{P}(w es S DD e)(o:P.underlying S=U (.slice e))(s)(z:∀w,(Go.sizeOf e).run P w=.ok s w)
  (a b c p d q)(n:a.block≠b.block)(y C A k)
  (j:w.shape? a.block=U (y,A))(m:w.shape? b.block=U (C,k))(B:k≠0)
  (f:w.frozen? a=L)(g:w.frozen? {block:=a.block,off:=A}=L):
  (aq0 #[S,S] #[DD] #[.slice (U a) c p,.slice (U b) d q]).events P w es=es:=by
 have i:(a.block !=b.block)=N:=by simpa using n
 have h:(a.block==b.block)=L:=by simpa using n
 suffices H:∀t,Sem.events P (α:=dr) (do
  let .slice l <-underlying S|stuck t
  let s <-sizeOf l
  match (U a:dB g3),(U b:dB g3) with
  |some a,U b=>
   if c=0\/d=0\/s=0 then pure (Ko L)
   else if a.block !=b.block&&(<-frozen a)&&(<-frozen b) then unsupported .addressObserved
   else do
    if a.block !=b.block then do
     noView a;noView b
     if <-mayBeOne a b then return Ko ((<-choose (.extern "sameAddr.stringBytes" 2))==1)
    pure (Ko (a.block==b.block&&a.off<b.off+d*s&&b.off<a.off+c*s))
  |_,_=>pure (Ko L)) w es=es from H _
 intro _
 have r:∀(w:da) (x:g3),(frozen x).run P w=.ok (w.frozen? x) w:=λw x=>by rfl
 have u:∀(w:da) (x:V),(shape x).run P w=.ok (w.shape? x) w:=λw x=>by rfl
 have dI:∀(w:da) (es:d' hJ) (x:g3),(frozen x).events P w es=es:=λ_ _ _=>Z;have v:∀(w:da) (es:d' hJ) (x:V),(shape x).events P w es=es:=λ_ _ _=>Z
 by_cases cW:c=0\/d=0\/s=0
 .simp[fx o,z,cW,ed.sizeOf e P]
 .cases k with|zero=>omega|succ k=>simp[fx o,z,cW,i,h,noView,viewAt,mayBeOne,stringish,r,u,dI,v,j,m,f,g,ed.sizeOf e P]
def aq1{P T}(cT:jL P T){f fn t e DD}(ee:P.funcs[f]?=U fn)(o:(fn.name== "runtime.NumGoroutine")=L)(p:fn.body.isNone=N)(c0:Extern.findNext fn=cL)
  (he:Extern.find fn=U (aq0 #[t,t] #[DD]))(c_:(T t).k=.slice e){O a b dz n c q r w4 s I J}
  (dt:O a=U (.row q w4 I))(hb:O b=U (.row r s J))(K:a≠b)(V:q≠[])(dv:0<r.length)(c':0<s):NE P f [.own a,.win b dz n c] O L:=by
 have⟨u,R⟩:=kR cT c_;refine⟨⟨fn,ee,by cases W:fn.body<;>simp_all⟩,λown M D w vs c8 c9 i=>?_⟩;have S:=i.1
 obtain⟨j,l,rfl⟩:∃j l,vs=#[j,l]:=by
  match vs,S with
  |⟨[x,y]⟩,_=>simp_all
 have cW:=i.2 0 _ j Z Z;have Q:=i.2 1 _ l Z Z;have v:=λw=>iE cT w R
 cases Q with
 |jv _ _ _ _ _ g=>rw[(c9.fE b).2 g]at hb;cases hb
 |win _ _ _ _ h k base z X Y aa ab=>
  have⟨_,m,Tb,A,c1,ac,ad,ae,_⟩:=c9.at_ b _ h hb z
  cases cW with
  |ju _ _ g=>rw[(c9.fE a).2 g]at dt;cases dt
  |ib _ af g=>have⟨ag,ah,ai⟩:=c9.iX a g;simp_all
  |own _ d cap B aj ak=>
   have⟨_,C,E,MH,_⟩:=c9.at_ a _ d dt B;have F:=λe=>K (c9.inj a b d h B z e)
   have G:m.size≠0:=by have:=Nat.mul_pos dv c';omega
   refine⟨?_,λdq H=>?_⟩
   .rw[JY ee o p c0 he,Lib.run_overlaps_apart w t DD e u (T e).size v ⟨d.blk,0,cL⟩ ⟨h.blk,base,cL⟩ d.len cap n k F E Tb C.size m.size (by simp[Gf,MH]) (by simp[Gf,A]) G HN HN];rfl
   .rw[JZ ee o p c0 he,aqZ w _ t DD e u (T e).size v ⟨d.blk,0,cL⟩ ⟨h.blk,base,cL⟩ d.len cap n k F E Tb C.size m.size (by simp[Gf,MH]) (by simp[Gf,A]) G HN HN]at H
    have:dq=⟨.mark (.extern f),L,N⟩:=by simpa using H
    subst this;trivial
