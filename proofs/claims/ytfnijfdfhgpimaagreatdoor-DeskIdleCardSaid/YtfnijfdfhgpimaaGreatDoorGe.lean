/- What is proved here: what functions of the program compute, and what follows; no condition beyond each theorem's own. -/
import Derived.Conc.EventLaws
import Derived.Laws.Strings
import Derived.Lib.MakeNoZero
import Derived.Lib.Repeat
import Derived.Test.YtfnijfdfhgpimaaGreatDoorGd
set_option linter.all false
noncomputable section
set_option maxHeartbeats 0
open Array renaming replicate->kM
open Bool renaming false->L,not_eq_true->Ni,true->N
open ByteArray renaming data_extract->Y5,empty->fB,mk->L5
open Decidable renaming decide->gy
open Go renaming Act->e8,Addr->g3,Frame->g6,Goroutine->dP,Program->en,TypeId->eF,Value->dr,World->da,convert->x',invoke->iq,maxLen->sK,resolve->ip
open Go.Addr renaming add->o0
open Go.Builtin renaming min_->WM
open Go.CallKind renaming early->zP
open Go.Conc renaming anyCH_done->N5,served->xM
open Go.ConcN renaming AtR0->M4,Has->au5
open Go.ConcX.Gen renaming body_add->ayg
open Go.Deferred renaming ofValue->sH
open Go.Extern.BytealgMakeNoZero renaming digits->ax2,makeNoZero->Zi
open Go.Frame renaming eval->Wb,round->an3
open Go.GStep renaming after->tq
open Go.Instr renaming beginRound->GE,endLoop->Qh,endRound->Qg,enterLoop->Qj,getLoop->Qf,indexAt->qQ,loadAt->sG,slice->xZ,sliceAt->nf,sliceBound->B8,sliceBounds->p2,storeAt->z5,sureAddr->lU,takeDeferred->Qi,yield->ZG
open Go.IntKind renaming wrap->la
open Go.Item renaming code->an0
open Go.Lib renaming indexByte->kU,repeatL->P_
open Go.MemAct renaming ofEvent->mD,touch?->lo
open Go.Proofs.Tryz renaming f12->A5,f171->Ay,f25->Zn,f289->Ql,f68->Za,func121->ani,func134->YZ,func171->aoj,func179->alK,func25->anC,func260->aqw,func68->amI,prog->cQ
open Go.Sem renaming run->Ie
open Go.Value renaming cells->J5,slice->Vh
open Go.World renaming cell?->ke,frozen?->On
open Go.stepG renaming exec->FP
open List renaming any_filter->ap7,any_map->ap4,countP_append->aaD,countP_cons->QK,countP_map->abh,dropWhile_cons->apM,filter_map->ap5,head?_eq_some_iff->anX,length->pt,map_congr_left->apJ,map_id->apL,map_map->K5,mem_or_eq_of_mem_set->apS,range->iz,replicate->eQ,takeWhile_cons->Rc
open List.Pairwise renaming imp->ax6,nil->abi
open List.Sublist renaming append->apZ,countP_le->ax8,refl->ax7
open Nat renaming beq->d3,div_add_mod->V_,mod_le->apQ,mul_add_mod->Jc,mul_one->Jq,strongRecOn->to
open Option renaming map->Wc,none->cL,some->U
open UInt8 renaming ofNat->uU
open _root_ renaming Array->d',Bool->di,ByteArray->dG,Int->J,List->I,Nat->V,Option->dB,UInt8->gM,absurd->dN,rfl->Z,trivial->dM
namespace Go.Lk
def hu:=@ByteArray.size_append
def P8:=@run_sliceAt_string
def xf:=@List.any_eq_true
def Dx:=@List.filter_sublist
def K0:=@List.mem_filterMap
def r8:=@List.mem_map_of_mem
def Ao:=@List.take_left'
def CZ:=@Nat.div_div_eq_div_mul
namespace Dk
section
open Go.Conc Go.Lib Go.Proofs
set_option maxRecDepth 100000
structure jE(cX:jy)(cO:da)(dL:eI)(w:da)(M:eI):Prop where
 sub:gS dL M
 mP:fp M w
 hK:gQ cX (λc=>w.heap.size<=c) M
 fc:ob cX cO.heap.size cO w
 cN:uS cO dL M
def jE.init{cX w M}(a:gQ cX (λc=>w.heap.size<=c) M)(d:fp M w):jE cX w M w M:=⟨.refl M,d,a,⟨Z,Z,Z,fi _,λ_ _ _=>Z⟩,λb o v h=>.inl h⟩
def jE.rel{cX cO w c2 dL M}(h:jE cX cO dL w M)(r:e0 cX.F w c2):jE cX cO dL c2 M:=
 ⟨h.sub,tE h.hK r h.mP,h.hK.low λc a=>by rwa[r.size]at a,
  ⟨r.os.trans h.fc.os,r.tape.trans h.fc.tape,r.output.trans h.fc.output,by rw[r.size];exact h.fc.size,λk b q=>(r.block k q).trans (h.fc.block k b q)⟩,h.cN⟩
def jE.own{cX cO w c2 dL M}(h:jE cX cO dL w M)(g:oS cX.F w c2)(f:∀k,k<w.heap.size->c2.heap[k]?≠w.heap[k]?->cO.heap.size<=k/\ ∀o,M k o=cL):jE cX cO dL c2 M:=by
 refine⟨h.sub,λb o v cY=>?_,h.hK.low λc a=>fG g.size a,⟨g.os.trans h.fc.os,g.tape.trans h.fc.tape,g.output.trans h.fc.output,fG h.fc.size g.size,λk q d=>?_⟩,h.cN⟩
 .have a:=h.mP b o v cY
  have l:b<w.heap.size:=by
   unfold ke at a
   cases i:w.heap[b]? with|none=>simp_all|some _=>grind
  by_cases e:c2.heap[b]?=w.heap[b]?
  .unfold ke at a⊢;simp_all
  simp_all
 .have l:=sR q h.fc.size
  by_cases e:c2.heap[k]?=w.heap[k]?
  .exact e.trans (h.fc.block k q d)
  grind
def jE.Am{P cX cO w dL M}(h:jE cX cO dL w M){f dx d}(c8:d0 P f dx d){vs}(cP:lS M dx vs):
  g7 P cX.main cX.F f vs w λv w'=>∃i,jE cX cO dL w' i/\ (gS M i/\ob cX w.heap.size w w'/\uS w M i) /\e4 i d v:=by
 refine g7.mono (c8.2 cX w M vs h.hK h.mP cP) λv w' n=>?_;have⟨fN,i,e,g,s,a,f,l⟩:=n
 cases e
 refine⟨i,⟨h.sub.trans s,a,(h.hK.new s λb o v cY=>f b o v cY).low λc m=>fG g.size m,⟨g.os.trans h.fc.os,g.tape.trans h.fc.tape,g.output.trans h.fc.output,fG h.fc.size g.size,λk q j=>(g.block k (sR q h.fc.size) j).trans (h.fc.block k q j)⟩,λb o v cY=>?_⟩,⟨s,g,f⟩,l⟩;rcases f b o v cY with Q|Q
 .exact h.cN b o v Q
 .exact .inr (fG h.fc.size Q)
def jE.out{cX cO w dL M}(h:jE cX cO dL w M){d v}(cP:e4 M d v):∃(fN:dr) (a:eI),Ending.returned v=.returned fN/\ob cX cO.heap.size cO w/\gS dL a/\fp a w/\uS cO dL a/\e4 a d fN:=
 ⟨v,M,rfl,h.fc,h.sub,h.mP,h.cN,cP⟩
def YL{M d vs}(h:lS M [d] vs):∃v,vs=#[v] /\e4 M d v:=by
 have⟨Q,a⟩:=h
 match vs,Q with
 |⟨[x]⟩,_=>exact⟨x,Z,a 0 _ x Z Z⟩
def An{M d v}(h:e4 M d v):lS M [d] #[v]:=⟨Z,λi a fN Q b=>by
 grind⟩
def Kd:∀i,(oA.data.getD i 0).toNat<=8:=λi=>by
 by_cases h:i<256
 .exact(by decide+kernel:∀i,i<256->(oA.data.getD i 0).toNat<=8) i h
 .have:oA.data.getD i 0=0:=by
   have s:oA.data.size=256:=cV;rw[uM,Array.getElem?_eq_none R];rfl
  simp_all
def YM(d):gb d<=32:=by unfold gb;have Q:=Kd (d/65536/256);have h:=Kd (d/65536);have eG:=Kd (d/256);have fb:=Kd d;grind
def alG{x}(h:x<=32):qa x<=9:=by unfold qa;omega
def Gr(d:V):V:=qa (gb d)+if 10^qa (gb d) <=d then 1 else 0
def YN:∀k,k<=9->NC[k]?=U (((10^k:V):J)):=EB
def alH(w):(sizeOf 59).run cQ w=.ok 1 w:=cV
def alI{a:e8}{o x y}{n:V}(b:o.op=.indexAddr 355 x y)(c:a.eval x=.pointer (U ⟨3,0,cL⟩))(d:a.eval y=.int .i64 n)(h:n<20)(w):
  (execOp a.eval o).run cQ w=.ok (.value (.pointer (U ⟨3,n,cL⟩))) w/\ (execOp a.eval o).events cQ w #[]=#[]:=by
 have z:=R
 have e:(⟨3,0,cL⟩:g3).add (n*1)=⟨3,n,cL⟩:=by simp[o0];exact λh=>h.symm
 have r:(qQ 355 (.pointer (U ⟨3,0,cL⟩)) n).run cQ w=.ok (.pointer (U ⟨3,n,cL⟩)) w:=by simp[qQ,asIntOf,fx cV,lU,alH,z,h];simpa using e
 have f:=II 355 (.pointer (U ⟨3,0,cL⟩)) n cQ w #[];constructor
 .simp[execOp,b,c,d,hc,r,hj,hU]
 .simp[execOp,b,c,d,jz,r,f,kT,px]
def jE.call{cX cO w dL M f dx d vs dy g}(K:jE cX cO dL w M)(H:d0 cQ f dx d)(c3:lS M dx vs)(k:∀a w' v,jE cX cO dL w' a->gS M a/\ob cX w.heap.size w w'/\uS w M a->e4 a d v->dE cX.main cX.F dy (put g v) w')
 (o:(e6 g).op=.call {callee:=.value (.func f),args:=u' g,argTypes:=FO g}:=by kernel_rfl)(y:(u' g).map (eA g).eval=vs:=by kernel_rfl)(h:iD g:=by exact kP):dE cX.main cX.F dy g w:=dR.IN h o y (K.Am H c3) λv w' ⟨a,B,x,q⟩=>k a w' v B x q
def alJ(d:V)(h:d<4294967296):d0 cQ 179 [.int .u64 d] (Gr d):=by
 refine⟨⟨Tryz.f179,alK,cV,cV⟩,λcX w M vs s u cP=>qV alK λcs dy z=>?_⟩;obtain⟨c,rfl,Q⟩:=YL cP
 cases Q
 refine dE.p 7 ?_;refine (jE.init s u).call (PL d h) (An (.int _ _)) λG w v K _ q=>?_
 cases q
 refine K.call (alv (gb d) (by have:=YM d;omega)) (An (.int _ _)) λH w v b _ q=>?_
 cases q
 have a:=alG (YM d);refine dE.p 7 ?_;refine dE.wS 0 _ (λj _=>alI (x:=.global 3) (y:=.tmp 9) (n:=qa (gb d)) cV cV cV R j) λw r=>?_;have b:=b.rel r
 refine dE.eB 1 _ (b.hK.mem _ _ _ (b.hK.xT _ _ (YN _ a))) (λ_ r=>have K:=b.rel r;K.mP _ _ _ (K.hK.xT _ _ (YN _ a))) λw r=>?_;have b:=b.rel r
 refine b.call (alu (decide (((10^qa (gb d):V):J) <=d))) (An (.bool _)) λdh w v m _ q=>?_
 cases q
 have e:la .i64 ((qa (gb d):V)+(if gy (((10^qa (gb d):V):J) <= (d:J))=N then 1 else 0):J)=((Gr d:V):J):=by
  unfold Gr;rw[rM]
  by_cases q:10^qa (gb d) <=d
  .grind
  .grind
 exact dE.p 4 (z.z (v:=.int .i64 (la .i64 ((qa (gb d):V)+(if gy (((10^qa (gb d):V):J) <= (d:J))=N then 1 else 0)))) (m.out (by rw[e];exact .int _ _)))
end
open Go.Proofs Go.RowKit
def lA:∀j,j<8->∀y,y<256->2^j<=y->y<2^(j+1)->(oA.data.getD y 0).toNat=j+1:=EB
def alV{u}(cW:512<=u)(Q:u<1024):gb u=10:=by rw[gb,cS R,if_pos R,lA 1 cZ (u/256) R R R]
def alW{u}(cW:1024<=u)(Q:u<2048):gb u=11:=by rw[gb,cS R,if_pos R,lA 2 cZ (u/256) R R R]
def alX{u}(cW:2048<=u)(Q:u<4096):gb u=12:=by rw[gb,cS R,if_pos R,lA 3 cZ (u/256) R R R]
def alY{u}(cW:4096<=u)(Q:u<8192):gb u=13:=by rw[gb,cS R,if_pos R,lA 4 cZ (u/256) R R R]
def alZ{u}(cW:8192<=u)(Q:u<16384):gb u=14:=by rw[gb,cS R,if_pos R,lA 5 cZ (u/256) R R R]
def al0{u}(cW:16384<=u)(Q:u<32768):gb u=15:=by rw[gb,cS R,if_pos R,lA 6 cZ (u/256) R R R]
def al1{u}(cW:32768<=u)(Q:u<65536):gb u=16:=by rw[gb,cS R,if_pos R,lA 7 cZ (u/256) R R R]
def al2{u}(cW:65536<=u)(Q:u<131072):gb u=17:=by rw[gb,if_pos R,cS R,lA 0 cZ (u/65536) R R R]
def al3{u}(cW:131072<=u)(Q:u<262144):gb u=18:=by rw[gb,if_pos R,cS R,lA 1 cZ (u/65536) R R R]
def al4{u}(cW:262144<=u)(Q:u<524288):gb u=19:=by rw[gb,if_pos R,cS R,lA 2 cZ (u/65536) R R R]
def al5{u}(cW:524288<=u)(Q:u<1048576):gb u=20:=by rw[gb,if_pos R,cS R,lA 3 cZ (u/65536) R R R]
def al6{u}(cW:1048576<=u)(Q:u<2097152):gb u=21:=by rw[gb,if_pos R,cS R,lA 4 cZ (u/65536) R R R]
def al7{u}(cW:2097152<=u)(Q:u<4194304):gb u=22:=by rw[gb,if_pos R,cS R,lA 5 cZ (u/65536) R R R]
def al8{u}(cW:4194304<=u)(Q:u<8388608):gb u=23:=by rw[gb,if_pos R,cS R,lA 6 cZ (u/65536) R R R]
def al9{u}(cW:8388608<=u)(Q:u<16777216):gb u=24:=by rw[gb,if_pos R,cS R,lA 7 cZ (u/65536) R R R]
def ama{u}(cW:16777216<=u)(Q:u<33554432):gb u=25:=by rw[gb,if_pos R,if_pos R,lA 0 cZ (u/65536/256) R R R]
def amb{u}(cW:33554432<=u)(Q:u<67108864):gb u=26:=by rw[gb,if_pos R,if_pos R,lA 1 cZ (u/65536/256) R R R]
def amc{u}(cW:67108864<=u)(Q:u<134217728):gb u=27:=by rw[gb,if_pos R,if_pos R,lA 2 cZ (u/65536/256) R R R]
def amd{u}(cW:134217728<=u)(Q:u<268435456):gb u=28:=by rw[gb,if_pos R,if_pos R,lA 3 cZ (u/65536/256) R R R]
def ame{u}(cW:268435456<=u)(Q:u<536870912):gb u=29:=by rw[gb,if_pos R,if_pos R,lA 4 cZ (u/65536/256) R R R]
def amf{u}(cW:536870912<=u)(Q:u<1000000000):gb u=30:=by rw[gb,if_pos R,if_pos R,lA 5 cZ (u/65536/256) R R R]
def amg{u}(cW:100<=u)(Q:u<1000000000):∃eO,3<=eO/\eO<=9/\Gr u=eO/\10^(eO-1) <=u/\u<10^eO:=by
 have k:∀cM t,gb u=cM->qa cM=t->Gr u=t+if 10^t<=u then 1 else 0:=λcM t b a=>by subst b;subst a;rfl
 rcases jr u 128 with h|h
 .have e:=k 7 2 (by rw[gb,cS R,cS R,lA 6 cZ u R R R]) Z;rw[if_pos R]at e;exact⟨3,cZ,cZ,e,R,R⟩
 rcases jr u 256 with h|h
 .have e:=k 8 2 (by rw[gb,cS R,cS R,lA 7 cZ u R R R]) Z;rw[if_pos R]at e;exact⟨3,cZ,cZ,e,R,R⟩
 rcases jr u 512 with h|h
 .have e:=k 9 2 (by rw[gb,cS R,if_pos R,lA 0 cZ (u/256) R R R]) Z;rw[if_pos R]at e;exact⟨3,cZ,cZ,e,R,R⟩
 rcases jr u 1024 with h|h
 .have e:=k 10 3 (alV R h) Z
  by_cases O:1000<=u
  .rw[if_pos R]at e;exact⟨4,cZ,cZ,e,R,R⟩
  .rw[cS R]at e;exact⟨3,cZ,cZ,e,R,R⟩
 rcases jr u 2048 with h|h
 .have e:=k 11 3 (alW R h) Z;rw[if_pos R]at e;exact⟨4,cZ,cZ,e,R,R⟩
 rcases jr u 4096 with h|h
 .have e:=k 12 3 (alX R h) Z;rw[if_pos R]at e;exact⟨4,cZ,cZ,e,R,R⟩
 rcases jr u 8192 with h|h
 .have e:=k 13 3 (alY R h) Z;rw[if_pos R]at e;exact⟨4,cZ,cZ,e,R,R⟩
 rcases jr u 16384 with h|h
 .have e:=k 14 4 (alZ R h) Z
  by_cases O:10000<=u
  .rw[if_pos R]at e;exact⟨5,cZ,cZ,e,R,R⟩
  .rw[cS R]at e;exact⟨4,cZ,cZ,e,R,R⟩
 rcases jr u 32768 with h|h
 .have e:=k 15 4 (al0 R h) Z;rw[if_pos R]at e;exact⟨5,cZ,cZ,e,R,R⟩
 rcases jr u 65536 with h|h
 .have e:=k 16 4 (al1 R h) Z;rw[if_pos R]at e;exact⟨5,cZ,cZ,e,R,R⟩
 rcases jr u 131072 with h|h
 .have e:=k 17 5 (al2 R h) Z
  by_cases O:100000<=u
  .rw[if_pos R]at e;exact⟨6,cZ,cZ,e,R,R⟩
  .rw[cS R]at e;exact⟨5,cZ,cZ,e,R,R⟩
 rcases jr u 262144 with h|h
 .have e:=k 18 5 (al3 R h) Z;rw[if_pos R]at e;exact⟨6,cZ,cZ,e,R,R⟩
 rcases jr u 524288 with h|h
 .have e:=k 19 5 (al4 R h) Z;rw[if_pos R]at e;exact⟨6,cZ,cZ,e,R,R⟩
 rcases jr u 1048576 with h|h
 .have e:=k 20 6 (al5 R h) Z
  by_cases O:1000000<=u
  .rw[if_pos R]at e;exact⟨7,cZ,cZ,e,R,R⟩
  .rw[cS R]at e;exact⟨6,cZ,cZ,e,R,R⟩
 rcases jr u 2097152 with h|h
 .have e:=k 21 6 (al6 R h) Z;rw[if_pos R]at e;exact⟨7,cZ,cZ,e,R,R⟩
 rcases jr u 4194304 with h|h
 .have e:=k 22 6 (al7 R h) Z;rw[if_pos R]at e;exact⟨7,cZ,cZ,e,R,R⟩
 rcases jr u 8388608 with h|h
 .have e:=k 23 6 (al8 R h) Z;rw[if_pos R]at e;exact⟨7,cZ,cZ,e,R,R⟩
 rcases jr u 16777216 with h|h
 .have e:=k 24 7 (al9 R h) Z
  by_cases O:10000000<=u
  .rw[if_pos R]at e;exact⟨8,cZ,cZ,e,R,R⟩
  .rw[cS R]at e;exact⟨7,cZ,cZ,e,R,R⟩
 rcases jr u 33554432 with h|h
 .have e:=k 25 7 (ama R h) Z;rw[if_pos R]at e;exact⟨8,cZ,cZ,e,R,R⟩
 rcases jr u 67108864 with h|h
 .have e:=k 26 7 (amb R h) Z;rw[if_pos R]at e;exact⟨8,cZ,cZ,e,R,R⟩
 rcases jr u 134217728 with h|h
 .have e:=k 27 8 (amc R h) Z
  by_cases O:100000000<=u
  .rw[if_pos R]at e;exact⟨9,cZ,cZ,e,R,R⟩
  .rw[cS R]at e;exact⟨8,cZ,cZ,e,R,R⟩
 rcases jr u 268435456 with h|h
 .have e:=k 28 8 (amd R h) Z;rw[if_pos R]at e;exact⟨9,cZ,cZ,e,R,R⟩
 rcases jr u 536870912 with h|h
 .have e:=k 29 8 (ame R h) Z;rw[if_pos R]at e;exact⟨9,cZ,cZ,e,R,R⟩
 have e:=k 30 9 (amf R R) Z;rw[cS R]at e;exact⟨9,cZ,cZ,e,R,R⟩
def qb:V->V->I gM
 |0,_=>[]
 |k+1,u=>qb k (u/10)++[eT u]
def YV:∀k f u,k+1<=f->(k=0\/10^k<=u)->u<10^(k+1)->lb f u=qb (k+1) u
 |0,f+1,u,_,_,h=>by
  rw[lb,if_pos xz];rfl
 |k+1,f+1,u,a,cW,h=>by
  have cW:=cW.resolve_left R;have b:10^(k+1)=10*10^k:=T1;have e:10^(k+1+1)=10*10^(k+1):=T1;have O:1<=10^k:=Nat.one_le_iff_ne_zero.2 (Nat.pos_iff_ne_zero.1 (Nat.pow_pos cZ));rw[lb,cS R,YV k f (u/10) R (.inr R) R];rfl
def amh{eO u}(eG:1<=eO)(a:eO<=9)(cW:eO=1\/10^(eO-1) <=u)(Q:u<10^eO):oB u=qb eO u:=by obtain⟨k,rfl⟩:∃k,eO=k+1:=⟨eO-1,R⟩;exact YV k 20 u R (cW.imp R id) Q
def PR:∀k u,(qb k u).length=k
 |0,_=>rfl|k+1,u=>by simp[qb,PR k]
def nM(eO u:V):I (I c3):=[.int .u8 0]::((qb eO u).map fe++ld (23-eO))
def ami(u):nM 3 u=[.int .u8 0]::[fe (eT (u/100)),fe (eT (u/10)),fe (eT u)]++ld 20:=by simp[nM,qb,CZ,vh,j4,o8,kS,q1]
def amj(u):nM 4 u=[.int .u8 0]::[fe (eT (u/1000)),fe (eT (u/100)),fe (eT (u/10)),fe (eT u)]++ld 19:=by simp[nM,qb,CZ,vh,j4,o8,kS,q1]
def amk(u):nM 5 u=[.int .u8 0]::[fe (eT (u/10000)),fe (eT (u/1000)),fe (eT (u/100)),fe (eT (u/10)),fe (eT u)]++ld 18:=by simp[nM,qb,CZ,vh,j4,o8,kS,q1]
def aml(u):nM 6 u=[.int .u8 0]::[fe (eT (u/100000)),fe (eT (u/10000)),fe (eT (u/1000)),fe (eT (u/100)),fe (eT (u/10)),fe (eT u)]++ld 17:=by simp[nM,qb,CZ,vh,j4,o8,kS,q1]
def amm(u):nM 7 u=[.int .u8 0]::[fe (eT (u/1000000)),fe (eT (u/100000)),fe (eT (u/10000)),fe (eT (u/1000)),fe (eT (u/100)),fe (eT (u/10)),fe (eT u)]++ld 16:=by simp[nM,qb,CZ,vh,j4,o8,kS,q1]
def amn(u):nM 8 u=[.int .u8 0]::[fe (eT (u/10000000)),fe (eT (u/1000000)),fe (eT (u/100000)),fe (eT (u/10000)),fe (eT (u/1000)),fe (eT (u/100)),fe (eT (u/10)),fe (eT u)]++ld 15:=by simp[nM,qb,CZ,vh,j4,o8,kS,q1]
def amo(u):nM 9 u=[.int .u8 0]::[fe (eT (u/100000000)),fe (eT (u/10000000)),fe (eT (u/1000000)),fe (eT (u/100000)),fe (eT (u/10000)),fe (eT (u/1000)),fe (eT (u/100)),fe (eT (u/10)),fe (eT u)]++ld 14:=by simp[nM,qb,CZ,vh,j4,o8,kS,q1]
def amp{eO u:V}(eG:3<=eO)(a:eO<=9)(cW:10^(eO-1) <=u)(Q:u<10^eO):fI cQ 180 [.win 1000000 1 eO (U 23),.d (.int .u64 u)] [(1000000,.row (ld 24) 1 L)] [(1000000,.row (nM eO u) 1 L)] (.dS []):=by
 have c:eO=3\/eO=4\/eO=5\/eO=6\/eO=7\/eO=8\/eO=9:=R;rcases c with rfl|rfl|rfl|rfl|rfl|rfl|rfl
 .rw[ami];exact Gs
 .rw[amj];exact Gs
 .rw[amk];exact Gs
 .rw[aml];exact alR u zf pm
 .rw[amm];exact alS u zf pm
 .rw[amn];exact alT u zf pm
 .rw[amo];exact alU u zf pm
section
open Go.Conc Go.Lib
set_option maxRecDepth 100000
def wV:d' dr:=kM 24 (.int .u8 0)
section
def amq:cQ.underlying 279=U (.array 24 5):=cV
def YW:cQ.underlying 5=U (.int .u8):=cV
def amr(w):(sizeOf 5).run cQ w=.ok 1 w:=cV
def YX{a:e8}{o x y A eO h}(d:o.op=.slice 279 x (U (.const (.int .i64 1))) (U y) cL)(e:a.eval x=.pointer (U ⟨A,0,cL⟩))(f:a.eval y=.int .i64 h)(c9:h=((1+eO:V):J))(c0:eO<=9)(w):
  (execOp a.eval o).run cQ w=.ok (.value (.slice (U ⟨A,1,cL⟩) eO 23)) w/\ (execOp a.eval o).events cQ w #[]=#[]:=by
 subst c9;have b:=IT (P:=cQ) (Oe:=L) (len:=24) (cap:=24) (dz:=U 1) (cK:=U ((1+eO:V):J)) (k1:=.i64) (eK:=.i64) w cZ hy hy (fi _)
 have r:(nf 279 (.pointer (U ⟨A,0,cL⟩)) (U (.int .i64 1)) (U ((1+eO:V):J)) cL).run cQ w=.ok (.slice (U ⟨A,1,cL⟩) eO 23) w:=by have l:((U (1:J)).getD 0).toNat=1:=Z;have k:((U (((1+eO:V):J))).getD 24).toNat=1+eO:=hy;simp only[jB]at b;simp only[nf,fx amq,hc,hj,lU,hU,b,amr,l];have g:(1:V)+eO-1=eO:=R;have i:(Option.getD (U (((1+eO:V):J))) (((24:V):J))).toNat=1+eO:=hy;rw[i,g];simp[o0]
 have j:=IH 279 (.pointer (U ⟨A,0,cL⟩)) (U (.int .i64 1)) (U ((1+eO:V):J)) cL cQ w #[];have c:a.eval (.const (.int .i64 1))=.int .i64 1:=Z;constructor
 .simp only[execOp,d,e,f,c,jB,vb,hc,r,hj,hU]
 .simp only[execOp,d,e,f,c,jB,vb,jz,r,j,kT,px]
def YY{a:e8}{o x eb c l vs dW own M w}(b:o.op=.convert 26 9 x)(d:a.eval x=.slice eb l.length c)(s:tJ cQ own M w (.slice eb l.length c) l 1 vs)(f:wx l=U dW):
  (execOp a.eval o).run cQ w=.ok (.value (.string (qN dW))) w/\ ∀e∈(execOp a.eval o).events cQ w #[],h7 own M e:=by
 have r:=(run_convert_bytes_string (P:=cQ) w 26 9 5 eb l.length c oj YW tM).trans (WF s f);constructor
 .simp[execOp,b,d,hc,r,hj,hU]
 .intro e h;simp[execOp,b,d,jz,r,kT,px]at h;exact WH s e (by simpa[x',fx tM,fx oj,fx YW]using h)
end
def PS:∀l:I gM,wx (l.map fe)=U (l.map λc=>(c.toNat:J))
 | []=>rfl
 |c::l=>by
  have i:=PS l;simp[fe,wx,kf,i]
def PT(l:I gM)(s:dG):(l.map λc=>(c.toNat:J)).foldl (λr n=>r.push (uU n.toNat)) s=⟨s.data++l.toArray⟩:=by
 induction l generalizing s with
 |nil=>simp|cons c l i=>simp_all
def ams(l:I gM):qN (l.map λc=>(c.toNat:J))=⟨l.toArray⟩:=by unfold qN;rw[PT];simp_all
def amt(M):lT M wV (ld 24) 1:=by
 refine⟨λi e a=>?_,λi j e d a cP=>?_⟩
 .have:=jY a;have c:=Gt this;grind
 .have cK:i<24:=by have:=(f_.1 a).1;simpa[ld]using this
  have:=jY a;have c:=Gt this;subst c
  have f:j=0:=by
   cases j with|zero=>rfl|succ j=>simp at cP
  subst f;have b:=af0;subst b;exact⟨.int .u8 0,by rw[wV,Jq,Cu,Array.getElem?_replicate,if_pos cK],.int _ _⟩
def amu{M a b vs}(h:lS M [.int .i64 a,.int .i64 b] vs):vs=#[.int .i64 a,.int .i64 b]:=by
 obtain⟨d,v,rfl,Q,c⟩:=JX h
 cases Q;cases c;rfl
def amv{m}(W:m+100<1000000000):d0 cQ 134 [((m+100:V):J),.int .i64 10] (.str (f2 (m+100))):=by
 have⟨eO,eG,g,aw,de,ag⟩:=amg (u:=m+100) R W;refine⟨⟨Tryz.f134,YZ,cV,cV⟩,λcX w M vs gj dt cP=>?_⟩;obtain rfl:=amu cP;refine qV YZ λcs dy E=>?_;have dh:=jE.init gj dt;refine dE.p 25 ?_;refine dE.nj 18 (.cells wV 279) eZ dh.hK.own λfv Q=>?_;have dh:=dh.rel Q;have aO:=Q.size;have ah:=λk c_=>dh.hK.own k c_;have ai:jE cX w M (fv.alloc (.cells wV 279)) M:=dh.own (CS ah _) λk aa I=>dN (yq _ _ aa) I;have⟨A,c8⟩:∃A,fv.heap.size=A:=⟨_,Z⟩;have j:(fv.alloc (.cells wV 279)).heap[A]?=U (.cells wV 279 (0,0)):=c8▸Gg fv _
 have aP:∀o,M A o=cL:=λo=>by
  cases cY:M A o with
  |none=>rfl
  |some v=>have E:=dh.mP A o v cY;unfold ke at E;simp_all
 have aj:=ah A R
 have ak:A<(fv.alloc (.cells wV 279)).heap.size:=by rw[J2];omega
 rw[c8];generalize (fv.alloc (.cells wV 279))=p9 at ai j ak
 have al:la .u64 ((m+100:V):J)=((m+100:V):J):=by rw[YP];omega
 refine ai.call (vs:=#[.int .u64 (la .u64 ((m+100:V):J))]) (alJ (m+100) R) (by rw[al];exact An (.int _ _)) λF aQ v ab q cY=>?_;have⟨aR,ax,ay⟩:=q
 cases cY
 rw[aw];have t:=(ax.block A ak aj).trans j
 have cU:∀o,F A o=cL:=λo=>by
  cases cY:F A o with
  |none=>rfl
  |some v=>
   rcases ay A o v cY with h|h
   .simp_all
   .omega
 refine dE.p 6 ?_;have am:la .i64 (1+(eO:J))=((1+eO:V):J):=Tw;refine dE.wS 1 _ (λw _=>YX (x:=.tmp 5) (y:=.tmp 29) (A:=A) (eO:=eO) (h:=la .i64 (1+(eO:J))) cV cV cV am g w) λan fb=>?_
 let D:gD:=λb=>if b=1000000 then U (U ⟨A,1,24,24⟩) else cL
 let O:V->dB d4:=λb=>if b=1000000 then U (.row (ld 24) 1 L) else cL
 have rF:=ab.rel fb;have z:=(fb.block A aj).trans t;have az:w.heap.size<=A:=R
 have aA:er (λc=>w.heap.size<=c) F D O an:=by
  refine⟨λb=>?_,λb hb=>?_,λb B cM ac f=>?_,λb d7 cM ek f s he=>?_⟩
  .grind
  .simp only[D]at hb;split at hb<;>simp at hb
  .simp only[D]at f;simp only[O]at ac;split at f
   .rename_i e;rw[if_pos e]at ac
    cases f;cases ac
    refine⟨az,wV,279,z,Z,Z,Z,fi 24,amt F,sq,λ_=>cU⟩
   .cases f
  .simp only[D]at f s;split at f
   .split at s
    .rename_i a d;rw[a,d]
    .cases s
   .cases f
 have H:=amp eG g de ag
 have aB:=H.2 [(1000000,1000000)] O ⟨λn mI b a d=>by
   have ao:∀n b,et [(1000000,1000000)] n=U b->n=1000000:=λn b e=>by
    simp[et]at e
    cases q:d3 n 1000000 with
    |true=>exact gE q
    |false=>rw[q]at e;cases e
   rw[ao n b a,ao mI b d],λn=>by
   simp[et,fk.fH]
   cases d3 n 1000000<;>simp⟩ (λn B b a d=>by
   simp[fk.fH]at a;simp[et]at d
   cases q:d3 n 1000000 with
   |false=>rw[q]at a;cases a
   |true=>
    rw[q]at a d;simp at a d;subst a;subst d
    rfl)
 have r:=gj.new ab.sub λb o v cY=>ab.cN b o v cY
 have aC:dZ F D (.win 1000000 1 eO (U 23)) (.slice (U ⟨A,1,cL⟩) eO 23):=
  .win 1000000 1 eO (U 23) ⟨A,1,24,24⟩ 23 1 Z R (λm W=>by cases W;rfl) (fi 24) (.inl Z)
 have C:=aB.2 cX (λc=>w.heap.size<=c) F D an #[.slice (U ⟨A,1,cL⟩) eO 23,.int .u64 ((m+100:V):J)] r (λc E=>fG rF.fc.size E) rF.mP aA ⟨Z,λi x v a d=>by
  match i with
  |0=>cases a;cases d;exact aC
  |1=>cases a;cases d;exact .d _ _ (.int _ _)
  |i+2=>simp at d⟩
 refine dE.k (vs:=#[.slice (U ⟨A,1,cL⟩) eO 23,.int .u64 (la .u64 ((m+100:V):J))]) (by rwa[al]) λv aD q=>?_;have⟨fN,ad,ap,aE,G,ae,aF,af,aG,aH,aI⟩:=q
 cases aE
 have aJ:v=.tuple #[]:=by
  have:=aI
  cases this with
  |dS _ vs dv _=>have:=Array.eq_empty_of_size_eq_zero dv;rw[this]
 subst aJ
 have aK:jE cX w M aD ad:=by
  refine⟨rF.sub.trans ae,aF,(r.new ae af).low λc E=>fG rF.fc.size (fG G.size E),⟨G.os.trans rF.fc.os,G.tape.trans rF.fc.tape,G.output.trans rF.fc.output,fG rF.fc.size G.size,λk aa I=>?_⟩,λb o v cY=>?_⟩
  .exact(G.block k λh=>h.elim (λh=>R) I).trans (rF.fc.block k aa I)
  .rcases af b o v cY with h|h
   .exact rF.cN b o v h
   .exact .inr h
 have aL:=aH 1000000 dM
 have X:dZ ad ap (.win 1000000 1 eO (U 23)) (.slice (U ⟨A,1,cL⟩) eO 23):=
  .win 1000000 1 eO (U 23) ⟨A,1,24,24⟩ 23 1 (aL.trans Z) R (λm W=>by cases W;rfl) (fi 24) (.inl Z)
 refine dE.p 13 ?_;refine dE.wS 0 _ (λw _=>YX (x:=.tmp 5) (y:=.tmp 41) (A:=A) (eO:=eO) (h:=la .i64 (1+(eO:J))) cV cV cV am g w) λGj dY=>?_;have db:=r.new ae af
 have S:((nM eO (m+100)).drop 1).take eO=(qb eO (m+100)).map fe:=by exact Ao (by rw[ec,PR])
 have aM:(nM eO (m+100)).length=24:=by simp[nM,PR,ld];omega
 have⟨l,dv,Y⟩:=Oq (P:=cQ) (cR:=1) (v:=.win 1000000 1 eO (U 23)) (O:=gp.O ⟨lR (.dS []),ku [(1000000,1000000)] [(1000000,.row (nM eO (m+100)) 1 L)],et [(1000000,1000000)] 1000004⟩ O) (K:=λl=>l=(qb eO (m+100)).map fe) (by
  refine fz ⟨by rw[aM];omega,?_⟩ S;rw[S]
  simp[gZ,BX,fe,pY.one])
 subst dv;refine dR.zZ sM λaq hL=>?_;have dc:=dY.trans hL;have ar:=aK.rel dc;have aN:=Ce db dc aG;have⟨eb,au,aS,T,av,_⟩:=Y (λc=>w.heap.size<=c) ad ap aq _ ar.mP aN X
 refine⟨_,aq,(YY (x:=.tmp 42) cV (show _=Vh eb _ au by rw[<-T];kernel_rfl) (T▸av) (PS _)).1,⟨.refl _ _,λe he=>((YY (x:=.tmp 42) cV (show _=Vh eb _ au by rw[<-T];kernel_rfl) (T▸av) (PS _)).2 e (mem_listed he)).hK db⟩,?_⟩;rw[ams,<-amh R g (.inr de) ag];exact dE.p 3 (E.z (ar.out (.str _)))
end
def amC(n:V)(h:n<1000000000):d0 cQ 134 [n,.int .i64 10] (.str (f2 n)):=by
 rcases jr n 100 with Q|Q
 .have h:=Q;refine d5 YZ 2 Z cV (dk ?_);refine df (alF n h) (c7 ?_);rfl
 .obtain⟨m,rfl⟩:∃m,n=m+100:=⟨n-100,R⟩;exact amv h
def amD(n:V)(h:n<1000000000):d0 cQ 103 [n] (.str (f2 n)):=by refine d5 Tryz.func103 1 Z cV (cO ?_);refine df (amC n h) (c7 ?_);rfl
def Y'(n:V)(h:n<1000000000):d0 cQ 71 [n] (.str (f2 n)):=by refine d5 Tryz.func71 1 Z cV (cO ?_);refine df (amD n h) (c7 ?_);rfl
def Kh:∀k n,(lb k n).length<=k
 |0,_=>fi 0
 |k+1,n=>by
  unfold lb;split
  .simp
  .have:=Kh k (n/10);simp;omega
def mR(n):(f2 n).size<=20:=by have:=Kh 20 n;assumption
def ji(n:V):dG:=⟨#[101,114,114,111,114,32]⟩++f2 n
def Ki(n:V)(h:n<1000000000):d0 cQ 51 [n] (.str (ji n)):=by refine d5 Tryz.func51 1 Z cV (cO ?_);refine df (Y' n h) (c7 ?_);refine fz (by have:=mR n;show 6+(f2 n).size<=9223372036854775807;omega) (cO ?_);rfl
section
open Go.Conc Go.Lib
set_option maxRecDepth 100000
theorem jE.Gv{cX cO w w' dL M S}(h:jE cX cO dL w M)(f:h9 cX.F S w w')(i:∀k,k<w.heap.size->S k->cO.heap.size<=k/\ ∀o,M k o=cL):jE cX cO dL w' M:=by
 refine⟨h.sub,λb o v cY=>?_,h.hK.low λc a=>fG f.size a,⟨f.os.trans h.fc.os,f.tape.trans h.fc.tape,f.output.trans h.fc.output,fG h.fc.size f.size,λk d g=>?_⟩,h.cN⟩
 .have a:=h.mP b o v cY
  have l:b<w.heap.size:=by
   unfold ke at a
   cases j:w.heap[b]? with|none=>simp_all|some _=>grind
  have e:=f.block b l (h.hK.mem b o v cY) λq=>by simp_all
  unfold ke at a⊢;simp_all
 .have l:=sR d h.fc.size;exact(f.block k l g λq=>by grind).trans (h.fc.block k d g)
theorem jE.off{cX cO w dL M}(h:jE cX cO dL w M){k}(a:w.heap.size<=k)(o):M k o=cL:=by
 cases cY:M k o with|none=>rfl|some v=>have c:=h.mP k o v cY;unfold ke at c;simp_all
structure kW(cX:jy)(cO:da)(dL:eI)(B:V)(cN:di)(l:I gM)(w:da)(M:eI):Prop where
 kw:jE cX cO dL w M
 gj:gQ cX (λc=>cO.heap.size<=c) dL
 e1:cO.heap.size<=B
 nN:∀o,M B o=cL
 ex:∃p r,(p=.pointer cL\/p=eZ B) /\ig cN B p r l w/\ (∀k,r=U k->cO.heap.size<=k/\ ∀o,M k o=cL) /\ (r≠cL->l≠[])
section
variable {cX:jy} {cO w w':da} {dL M:eI} {B:V} {cN:di} {l:I gM} {s:dG}
theorem kW.jF(h:kW cX cO dL B cN l w M){k}(a:cO.heap.size<=k):¬cX.F k:=h.gj.own k a
theorem kW.rel(h:kW cX cO dL B cN l w M)(r:e0 cX.F w w'):kW cX cO dL B cN l w' M:=by have⟨p,e,O,b,a,d⟩:=h.ex;exact⟨h.kw.rel r,h.gj,h.e1,h.nN,p,e,O,b.k' (r.block _ (h.jF h.e1)) λk c=>r.block _ (h.jF (a k c).1),a,d⟩
theorem kW.Gw(h:kW cX cO dL B cN l w M)(c:l.length+s.size<=1000000000000):g7 cQ cX.main cX.F 21 #[eZ B,.string s] w λq w'=>q=.tuple #[s.size,.nilIface] /\kW cX cO dL B cN (l++s.data.toList) w' M:=by
 have⟨p,x,O,j,v,t⟩:=h.ex;refine g7.mono (Pw (h.jF h.e1) (λk a=>h.jF (v k a).1) (λk a=>h.jF (fG h.kw.fc.size a)) O j c) λq w' u=>?_;have⟨e,io,d,r,z,m⟩:=u
 have g:∀k,io=U k->cO.heap.size<=k/\ ∀o,M k o=cL:=λk a=>by
  rcases r with e|⟨fo,y,i⟩
  .simp_all
  .rw[y]at a;cases a
   exact⟨fG h.kw.fc.size i,h.kw.off i⟩
 refine⟨e,h.kw.Gv m λk _ S=>?_,h.gj,h.e1,h.nN,_,io,.inr Z,d,g,λc0 b=>?_⟩
 .rcases S with rfl|S
  .exact⟨h.e1,h.nN⟩
  simp_all
 .have f:=(zT.1 b).1;have TE:=(zT.1 b).2;have n:=nA λe=>t e f;exact c0 (z n TD)
theorem kW.PX(h:kW cX cO dL B L l w M){c}(b:l.length+1<=1000000000000):g7 cQ cX.main cX.F 23 #[eZ B,.int .u8 c.toNat] w λq w'=>q=.nilIface/\kW cX cO dL B L (l++[c]) w' M:=by
 have⟨p,t,O,i,n,s⟩:=h.ex;refine g7.mono (Yn (h.jF h.e1) (λk a=>h.jF (n k a).1) (λk a=>h.jF (fG h.kw.fc.size a)) O i b) λq w' m=>?_;have⟨e,io,d,r,j⟩:=m
 have f:∀k,io=U k->cO.heap.size<=k/\ ∀o,M k o=cL:=λk a=>by
  rcases r with e|⟨fo,u,g⟩
  .simp_all
  .rw[u]at a;cases a
   exact⟨fG h.kw.fc.size g,h.kw.off g⟩
 refine⟨e,h.kw.Gv j λk _ S=>?_,h.gj,h.e1,h.nN,_,io,.inr Z,d,f,λ_=>dw⟩;rcases S with rfl|S
 .exact⟨h.e1,h.nN⟩
 simp_all
theorem kW.str(m:cQ.follows .mixedOrders=N)(h:kW cX cO dL B cN l w M)(a:l.length<=1000000000000):g7 cQ cX.main cX.F 24 #[eZ B] w λq w'=>q=.string ⟨l.toArray⟩ /\kW cX cO dL B N l w' M:=by have⟨p,j,O,d,r,c⟩:=h.ex;exact g7.mono (Yv m (h.jF h.e1) (λk g=>h.jF (r k g).1) d.f c a) λq w' i=>have⟨e,b,f⟩:=i;⟨e,h.kw.Gv f λk _ S=>r k S,h.gj,h.e1,h.nN,p,j,O,b,r,c⟩
theorem kW.Am(h:kW cX cO dL B cN l w M){f dx d}(c8:d0 cQ f dx d){vs}(cP:lS M dx vs):
  g7 cQ cX.main cX.F f vs w λv w'=>∃a,kW cX cO dL B cN l w' a/\gS M a/\e4 a d v:=by
 have⟨p,j,O,e,r,i⟩:=h.ex;refine g7.mono (h.kw.Am c8 cP) λv w' q=>?_;have⟨a,fo,⟨s,b,f⟩,g⟩:=q
 have off:∀k,k<w.heap.size->(∀o,M k o=cL)->∀o,a k o=cL:=λk c m o=>by
  cases cY:a k o with
  |none=>rfl
  |some v=>
   rcases f k o v cY with Q|Q
   .simp_all
   .omega
 exact⟨a,⟨fo,h.gj,h.e1,off B e.lt.1 h.nN,p,j,O,e.k' (b.block _ e.lt.1 (h.jF h.e1)) λk c=>b.block _ (e.lt.2 k c) (h.jF (r k c).1),λk c=>⟨(r k c).1,off k (e.lt.2 k c) (r k c).2⟩,i⟩,s,g⟩
end
end
section
open Go.Conc Go.Lib
set_option maxRecDepth 100000
section
variable (v:dB g3) (n c:V) (cs:I g6) (B:V) (f:V->dr) (i:J)
noncomputable def PY:dP:=
 let g:=e7 10 (put (e7 3 (f' (e7 6 (G ((base 68).at {tmps:=#[.slice v n c]++kM (Za.ntmps-1) undef,defers:=[]} [.code (Za.body.getD .skip)]) cs)) (eZ B))) (.tuple #[.int .i64 2,.nilIface]))
 {g with frame:={g.frame with tmps:=([.slice v n c,f 1,f 2,eZ B,f 4,f 5,f 6,.slice v n c,n,i]++(iz 9).map λi=>f (i+10)).toArray}}
end
def nO:I V->I gM
 | []=>[]
 |n::l=>32::oB n++nO l
def gv(l:I V):dG:=⟨([111,107]++nO l).toArray⟩
theorem amE(a b):nO (a++b)=nO a++nO b:=by
 induction a with
 |nil=>rfl|cons x a i=>simp[nO,i]
theorem PZ(l):(nO l).length<=21*l.length:=by
 induction l with
 |nil=>exact fi 0|cons x l i=>have:(oB x).length<=20:=Kh 20 x;simp[nO,nF,kv];omega
theorem amF(w):(sizeOf 3).run cQ w=.ok 1 w:=cV
theorem amG{a:e8}{o x y}{b off n c i:V}(d:o.op=.indexAddr 96 x y)(e:a.eval x=.slice (U ⟨b,off,cL⟩) n c)(f:a.eval y=.int .i64 i)(h:i<n)(w):
  (execOp a.eval o).run cQ w=.ok (.value (.pointer (U ⟨b,off+i,cL⟩))) w/\ (execOp a.eval o).events cQ w #[]=#[]:=by
 have r:(qQ 96 (.slice (U ⟨b,off,cL⟩) n c) i).run cQ w=.ok (.pointer (U ⟨b,off+i,cL⟩)) w:=by have z:=R;simp[qQ,asIntOf,fx cV,amF,z,h,mL]
 have g:=II 96 (.slice (U ⟨b,off,cL⟩) n c) i cQ w #[];constructor
 .simp[execOp,d,e,f,hc,r,hj,hU]
 .simp[execOp,d,e,f,jz,r,g,kT,px]
theorem amH{M}{l:I V}{u}(h:e4 M (.dm (l.map f1)) u):∃eb c,u=.slice eb l.length c/\ ∀(i k:V),l[i]?=U k->∃b off,eb=U ⟨b,off,cL⟩ /\M b (off+i)=U (.int .i64 k):=by
 have⟨d,cP⟩:∃d,c3.dm (l.map f1)=d:=⟨_,Z⟩;rw[cP]at h
 cases h with
 |emp a c=>simp_all
 |dm g b off cap cR val dv c' d6 e=>
  cases cP
  refine⟨U ⟨b,off,cL⟩,cap,by simp_all,λi k c_=>⟨b,off,Z,?_⟩⟩
  have he:(l.map f1)[i]?=U (f1 k):=by rw[ir,c_];rfl
  have f:cR=1:=(c' i _ he).symm;subst f;have Q:=d6 i 0 _ _ he Z;have c5:=e i 0 _ _ he Z;generalize val i 0=q at Q c5
  cases c5
  simp_all
 |_=>cases cP
theorem Ap(d6:cQ.follows .mixedOrders=N)(l)(a:∀n∈l,n<1000000000)(dv:l.length<=1000000):d0 cQ 68 [.dm (l.map f1)] (.str (gv l)):=by
 refine⟨⟨Za,amI,cV,cV⟩,λcX w M vs O Y cP=>?_⟩;obtain⟨u,rfl,g⟩:=YL cP;obtain⟨v,c,rfl,t⟩:=amH g;have⟨n,c0⟩:∃n,l.length=n:=⟨_,Z⟩;rw[c0];refine qV amI λcs dy z=>dE.p 6 ?_;have K:=jE.init O Y;refine dE.nj 3 (.cells #[.pointer cL,.slice cL 0 0] 52) eZ K.hK.own λfv Q=>?_;have K:=K.rel Q;have ah:=Q.size;have D:=λk m=>K.hK.own k m;have⟨B,dc⟩:∃B,fv.heap.size=B:=⟨_,Z⟩
 have cM:kW cX w M B L [] (fv.alloc (.cells #[.pointer cL,.slice cL 0 0] 52)) M:=by refine⟨K.own (CS D _) λk I aa=>dN (yq _ _ I) aa,O,R,λo=>K.off R o,.pointer cL,cL,.inl Z,⟨.slice cL 0 0,dc▸Gg fv _,World.ownsRow_nil _ _ _ _,Z⟩,(λk m=>by cases m),λh=>dN Z h⟩
 rw[dc];generalize (fv.alloc (.cells #[.pointer cL,.slice cL 0 0] 52))=p9 at cM;refine dE.k (cM.Gw (s:=⟨#[111,107]⟩) cZ) λq ab d=>?_;obtain⟨rfl,db⟩:=d
 have loop:∀(k i:V) (f:V->dr) (w':da) (r:eI),k+i=n->gS M r->kW cX w M B L ([111,107]++nO (l.take i)) w' r->dE cX.main cX.F dy (PY v n c cs B f i) w':=by
  intro k
  induction k with
  |zero=>
   intro i f w' r m E T;refine dE.p 5 (dE.c 10 ((i:J)<n) (λh=>by omega) λh=>dE.p 4 ?_);have C:l.take i=l:=vm R;rw[C]at T;have A:=PZ l;refine dE.k (T.str d6 (by simp;omega)) λq dh d=>?_;obtain⟨rfl,cU⟩:=d;exact dE.p 3 (z.z (cU.kw.out (.str _)))
  |succ k ac=>
   intro i f w' r m E T;have cK:i<n:=R;have⟨x,G⟩:∃x,l[i]?=U x:=⟨l[i],fq R⟩;obtain⟨b,off,rfl,X⟩:=t i x G;have H:=a x (jY G);refine dE.p 5 (dE.c 10 ((i:J)<n) (λ_=>dE.p 6 ?_) λh=>by omega)
   refine dE.wS 0 (.pointer (U ⟨b,off+i,cL⟩)) (λdh _=>amG (x:=.tmp 7) (y:=.tmp 9) (b:=b) (off:=off) (n:=n) (c:=c) (i:=i) cV cV cV cK dh) λdh fb=>?_;have T:=T.rel fb;have j:=E _ _ _ X;refine dE.eB 4 _ (T.kw.hK.mem _ _ _ j) (λ_ e=>(T.rel e).kw.mP _ _ _ j) λai du=>?_;have T:=T.rel du;have A:(nO (l.take i)).length<=21*n:=fG (PZ _) (by rw[o5];omega)
   refine dE.k (T.PX (c:=32) (by simp;omega)) λq Gj d=>?_;obtain⟨rfl,S⟩:=d;refine dE.p 3 (dE.k (S.Am (Y' x H) (An (.int _ _))) λq aj d=>?_);have⟨P,ad,ae,d⟩:=d
   cases d
   have cP:(f2 x).data.toList=oB x:=by simp[f2]
   have ak:=mR x;refine dE.k (ad.Gw (s:=f2 x) (by simp;omega)) λq af d=>?_;obtain⟨rfl,de⟩:=d;refine dE.p 7 (dE.h (λf=>PY (U ⟨b,off,cL⟩) n c cs B f (la .i64 ((i:J)+1))) λf=>?_);rw[show la .i64 ((i:J)+1)=((i+1:V):J) by rw[rM];omega];apply ac (i+1) f af P R (E.trans ae)
   have ag:l.take (i+1)=l.take i++[x]:=by rw[List.take_add_one,G];rfl
   rw[ag,amE]
   have W:[111,107]++(nO (l.take i)++nO [x])=[111,107]++nO (l.take i)++[32]++(f2 x).data.toList:=by rw[cP];simp[nO]
   rwa[W]
 exact dE.p 10 (dE.h (λf=>PY v n c cs B f 0) λf=>loop n 0 f ab M R (.refl M) db)
end
section
open Go.Conc Go.Lib
set_option maxRecDepth 100000
section
variable {main:di} {F:V->Prop} {cN:di} {B:V} {p:dr} {r:dB V} {l:I gM} {w:da}
theorem ig.sl(h:ig cN B p r l w):∃a c,w.heap[B]?=U (.cells #[p,.slice a l.length c] 52 (0,0)):=by
 have⟨v,Q,b,eG⟩:=h;rcases b.f.2 with⟨rfl,cW⟩|⟨g,cap,u,f,rfl,_⟩
 .simp_all
 simp_all
theorem ang(d:¬F B)(h:ig cN B p r l w):g7 cQ main F 57 #[eZ B] w λq w'=>q=.int .i64 l.length/\e0 F w w':=by
 have⟨a,c,Q⟩:=h.sl;exact qV Tryz.func57 λcs dy e=>dE.p 9 (dE.eB 4 1 d (λ_ b=>ni ((b.block B d).trans Q) Z) λfv i=>e.z ⟨Z,i⟩)
end
end
section
open Go.Conc Go.Lib
set_option maxRecDepth 100000
section
variable {P:en} {main:di} {cU:da->da->Prop} {c3:da->da->d' Event->Prop} {dy:dP->da->Prop} {g:dP} {w w':da} {v:dr} {l:V}
def nQ(w:da)(l:V)(o:Obj):da:={w with heap:=w.heap.setIfInBounds l o}
def vr(l:V)(es:d' Event):Prop:=∀e∈es,e.loc=.obj l/\e.sync=L
theorem C7{fn es}(h:vr l es):vr l (seen P fn es):=λe a=>h e (mem_seen a)
theorem Kz{r}(h:w.heap[l]?=U (.loop r)):(Qf l).run P w=.ok r w/\ ∀es,(Qf l).events P w es=es.push ⟨.obj l,L,L⟩:=by
 have a:(getObj l).run P w=.ok (.loop r) w:=by simp[getObj,Ie,h]
 have e:∀es,(getObj l).events P w es=es.push ⟨.obj l,L,L⟩:=λes=>TN;exact⟨by simp[Qf,a],λes=>by simp[Qf,a,e]⟩
theorem KA{o old}(h:w.heap[l]?=U old)(a:∀c t f,old≠.cells c t f)(b:o.isChan=L):(setObj l o).run P w=.ok () (nQ w l o) /\ ∀es,(setObj l o).events P w es=es.push ⟨.obj l,N,L⟩:=by
 constructor
 .cases old<;>first|exact dN Z (a _ _ _)|simp[setObj,Ie,h,nQ]
 .intro es;cases old<;>first|exact dN Z (a _ _ _)|simp[setObj,Sem.events,Sem.runT,h,b,-Sem.runT_eq]
theorem anW{cN cs r}(m:cN.mode=.run)(a:(cN.kind==zP)=L)(t:cN.todo.head?=U .beginRound)(c:cN.roundOf=U l)(h:w.heap[l]?=U (.loop r))(s:r.state=.ready):
  ∃es,stepG P main (G cN cs) w=.go (G {cN with todo:=cN.todo.tail} cs) (nQ w l (.loop {r with state:=.busy})) es/\vr l es:=by
 have⟨d,j⟩:=Kz (P:=P) h;have⟨s1,s2⟩:=KA (P:=P) (o:=.loop {r with state:=.busy}) h (by intros;simp) Z
 have b:(GE l).run P w=.ok () (nQ w l (.loop {r with state:=.busy})):=by unfold GE;simp[d,s1,s]
 have he:(GE l).events P w #[]=#[⟨.obj l,L,L⟩,⟨.obj l,N,L⟩]:=by unfold GE;simp[d,j,s1,s2,s]
 refine⟨seen P cN.fn #[⟨.obj l,L,L⟩,⟨.obj l,N,L⟩],?_,C7 λe he=>Er⟩;have⟨fn,tmps,todo,defers,mode,i,n⟩:=cN;simp only at m a t c;subst m c;obtain⟨k,rfl⟩:=anX.1 t
 have f:(GE l>>=λ_=>pure Next.skip).run P w=.ok .skip (nQ w l (.loop {r with state:=.busy})):=by simp[b]
 have g:(GE l>>=λ_=>pure Next.skip).events P w #[]=#[⟨.obj l,L,L⟩,⟨.obj l,N,L⟩]:=by simp[b,he]
 simp[G,stepG,FP,stepG.apply,b,he,a,tq,Frame.finish]
theorem ZE{r}(j)(h:w.heap[l]?=U (.loop r)):(Qg l j).run P w=.ok (.bool j.isNone) (nQ w l (.loop {r with state:=if j.isNone then .ready else .done,pending:=j})) /\ (Qg l j).events P w #[]=#[⟨.obj l,L,L⟩,⟨.obj l,N,L⟩]:=by
 have⟨a,b⟩:=Kz (P:=P) h;have⟨s1,s2⟩:=KA (P:=P) (o:=.loop {r with state:=if j.isNone then .ready else .done,pending:=j}) h (by intros;simp) Z;constructor
 .unfold Qg;simp_all
 .unfold Qg;simp_all
theorem anY{cN c cs r}(m:cN.mode=.run)(k:cN.kind=.normal)(t:cN.todo=[])(a:cN.roundOf=U l)(h:w.heap[l]?=U (.loop r)):
  ∃es,stepG P main (G cN (c::cs)) w=.go (G (c.finish (.bool N)) cs) (nQ w l (.loop {r with state:=.ready,pending:=cL})) es/\vr l es:=by
 have⟨b,d⟩:=ZE (P:=P) cL h;refine⟨seen P cN.fn #[⟨.obj l,L,L⟩,⟨.obj l,N,L⟩],?_,C7 λe he=>Er⟩;have⟨fn,tmps,todo,defers,mode,i,o⟩:=cN;simp only at m k t a;subst m t a k;simp[G,stepG,FP,b,d,tq,doReturn]
theorem anZ{cN c cs r}(m:cN.mode=.run)(a:cN.kind=.normal)(t:cN.todo.head?=U (.code .ret))(b:cN.roundOf=U l)(h:w.heap[l]?=U (.loop r)):
  ∃es,stepG P main (G cN (c::cs)) w=.go (G (c.finish (.bool L)) cs) (nQ w l (.loop {r with state:=.done,pending:=U .ret})) es/\vr l es:=by
 have⟨d,f⟩:=ZE (P:=P) (U .ret) h;refine⟨seen P cN.fn #[⟨.obj l,L,L⟩,⟨.obj l,N,L⟩],?_,C7 λe he=>Er⟩;have⟨fn,tmps,todo,defers,mode,i,o⟩:=cN;simp only at m a t b;subst m b a;obtain⟨k,rfl⟩:=anX.1 t;simp[G,stepG,FP,d,f,tq,doReturn]
theorem ZF{cN cs r k}(m:cN.mode=.run)(t:cN.todo=.endRangeFunc l::k)(h:w.heap[l]?=U (.loop r))(b:r.state=.ready\/r.state=.done):
  ∃es,stepG P main (G cN cs) w=.go (G {cN with todo:=(r.pending.map an0).toList++k} cs) (nQ w l (.loop {r with state:=.exhausted})) es/\vr l es:=by
 have⟨c,d⟩:=Kz (P:=P) h;have⟨s1,s2⟩:=KA (P:=P) (o:=.loop {r with state:=.exhausted}) h (by intros;simp) Z
 have g:(Qh l).run P w=.ok r.pending (nQ w l (.loop {r with state:=.exhausted})):=by unfold Qh;rcases b with b|b<;>simp_all<;>rfl
 have a:(Qh l).events P w #[]=#[⟨.obj l,L,L⟩,⟨.obj l,N,L⟩]:=by unfold Qh;rcases b with b|b<;>simp_all<;>rfl
 refine⟨seen P cN.fn #[⟨.obj l,L,L⟩,⟨.obj l,N,L⟩],?_,C7 λe he=>Er⟩;have⟨fn,tmps,todo,defers,mode,i,f⟩:=cN;simp only at m t;subst m t;simp[G,stepG,FP,g,a,tq]
theorem an1{cN cs dx args b}(m:cN.mode=.returning)(cP:cN.defers={target:=.collected b,args:=args}::dx)(h:w.heap[b]?=U (.deferred (U []))):
  ∃es,stepG P main (G cN cs) w=.go (G {cN with defers:=dx} cs) (nQ w b (.deferred cL)) es/\vr b es:=by
 have r:(getObj b).run P w=.ok (.deferred (U [])) w:=by simp[getObj,Ie,h]
 have c:∀es,(getObj b).events P w es=es.push ⟨.obj b,L,L⟩:=λes=>TN;have⟨s1,s2⟩:=KA (P:=P) (o:=.deferred cL) h (by intros;simp) Z
 have f:(Qi b).run P w=.ok [] (nQ w b (.deferred cL)):=by unfold Qi;simp[r,s1]
 have a:(Qi b).events P w #[]=#[⟨.obj b,L,L⟩,⟨.obj b,N,L⟩]:=by unfold Qi;simp[r,c,s1,s2]
 refine⟨seen P cN.fn #[⟨.obj b,L,L⟩,⟨.obj b,N,L⟩],?_,C7 λe he=>Er⟩;have⟨fn,tmps,todo,defers,mode,k,d⟩:=cN;simp only at m cP;subst m cP;simp[G,stepG,unwind,f,a,tq]
theorem an2{a:e8}{o f x y ats r u v}(c:o.op=.call {callee:=.value f,args:=#[x,y],argTypes:=ats})(b:a.eval f=.func (.yield l) #[] #[])(d:a.eval x=u)(g:a.eval y=v)(h:w.heap[l]?=U (.loop r)){t t2}(O:r.params=#[t,t2]):
  (execOp a.eval o).run P w=.ok (.round l r.fn ((r.tmps.setIfInBounds t u).setIfInBounds t2 v) r.assign r.body) w/\vr l ((execOp a.eval o).events P w #[]):=by
 have⟨i,k⟩:=Kz (P:=P) h
 have e:execOp a.eval o=ZG l #[u,v]:=by simp[execOp,c,ip,b,d,g,sH,iq]
 rw[e];constructor
 .unfold ZG;simp[i,O]
 .unfold ZG;intro e j;simp_all
theorem iD.round(h:iD g){f tmps assign body}(r:(execOp (eA g).eval (e6 g)).run P w=.ok (.round l f tmps assign body) w'):
  stepG P main g w=.go (G (an3 l f tmps assign body .normal) (g.frame.at (eA g) (.inRegion (jg g) (lu g::lv g)::g.frame.todo.tail)::g.callers)) w' (listed P g.frame.fn (eA g) (e6 g) w):=by
 conv=>lhs;rw[h.eq]
 rw[stepG_oper h.op h.wanted];simp[stepG.apply,r,G,Frame.at,h.kind,tq,listed]
end
section
variable {P:en} {main:di} {w:da}
theorem an4{cN cs k f params assign body h c0 c cap}(m:cN.mode=.run)(d:(cN.kind==zP)=L)(r:cN.roundOf=cL)
  (e:cN.todo=.code (.rangeFunc f params assign body)::k)(l:cN.eval f=.func (.func h) #[] #[cap])(Q:P.funcs[h]?=U c0)(c5:(c0.name== "runtime.NumGoroutine")=L)(eG:c0.body=U c):
  stepG P main (G cN cs) w=.go (G (Frame.enter P h #[.func (.yield (w.heap.size+1)) #[] #[],cap] .normal) ({cN with todo:=.inRangeFunc (w.heap.size+1)::k,defers:={target:=.collected w.heap.size,args:=#[]}::cN.defers}::cs))
   ((w.alloc (.deferred (U []))).alloc (.loop {state:=.ready,pending:=cL,fn:=cN.fn,tmps:=cN.tmps,params,assign,body,defers:=w.heap.size})) #[]:=by
 have j:∀c2,(callFunc h #[.func (.yield (w.heap.size+1)) #[] #[],cap]).run P c2=.ok (.enter h #[.func (.yield (w.heap.size+1)) #[] #[],cap]) c2/\ (callFunc h #[.func (.yield (w.heap.size+1)) #[] #[],cap]).events P c2 #[]=#[]:=λc2=>by
  have o:c0.body.isSome=N:=by rw[eG];rfl
  have n:=sn;simp[callFunc,Q,n,eG]
 have⟨fn,tmps,todo,defers,mode,i,q⟩:=cN;simp only at m d r e;subst m r e;have z:(w.alloc (.deferred (U []))).heap.size=w.heap.size+1:=dw
 have p:(Qj fn tmps params assign body cL).run P w=.ok (w.heap.size+1,[{target:=.collected w.heap.size,args:=#[]}]) ((w.alloc (.deferred (U []))).alloc (.loop {state:=.ready,pending:=cL,fn:=fn,tmps:=tmps,params,assign,body,defers:=w.heap.size})):=by unfold Qj;simp
 have g:(Qj fn tmps params assign body cL).events P w #[]=#[]:=by unfold Qj;simp
 have b:∀t dx,Wb ⟨fn,tmps,t,dx,.run,i,cL⟩ f=.func (.func h) #[] #[cap]:=λt dx=>by assumption
 have a:∀t dx v,Wb ⟨fn,tmps,t,dx,.run,i,cL⟩ (.const v)=v:=λ_ _ _=>Z;simp[a,G,stepG,FP,p,g,tq,seen,stepG.apply,ip,b,sH,iq,j,d]
end
end
section
open Go.Conc Go.Lib
set_option maxRecDepth 100000
structure gw(cX:jy)(cO:da)(dL:eI)(w:da)(M:eI)(cM:I (V×Obj)):Prop where
 K:jE cX cO dL w M
 jF:∀c,cO.heap.size<=c->¬cX.F c
 H:∀p∈cM,cO.heap.size<=p.1/\w.heap[p.1]?=U p.2/\ ∀o,M p.1 o=cL
section
variable {cX:jy} {cO w w':da} {dL M:eI} {cM ek:I (V×Obj)}
theorem gw.init(h:gQ cX (λc=>w.heap.size<=c) M)(a:fp M w):gw cX w M w M []:=⟨jE.init h a,h.own,λp O=>by cases O⟩
theorem gw.rel(h:gw cX cO dL w M cM)(r:e0 cX.F w w'):gw cX cO dL w' M cM:=⟨h.K.rel r,h.jF,λp O=>⟨(h.H p O).1,(r.block _ (h.jF _ (h.H p O).1)).trans (h.H p O).2.1,(h.H p O).2.2⟩⟩
theorem gw.lt(h:gw cX cO dL w M cM){p}(O:p∈cM):p.1<w.heap.size:=(kL.1 (h.H p O).2.1).1
theorem gw.m_(h:gw cX cO dL w M cM)(o):oS cX.F w (w.alloc o):=CS (λk a=>h.jF k (fG h.K.fc.size a)) o
theorem gw.alloc(h:gw cX cO dL w M cM)(o):gw cX cO dL (w.alloc o) M ((w.heap.size,o)::cM):=
 ⟨h.K.own (h.m_ o) λk q a=>dN (yq _ _ q) a,h.jF,λp O=>by
  rcases nG.1 O with rfl|O
  .exact⟨h.K.fc.size,Gg w o,λks=>h.K.off (fi _) ks⟩
  .exact⟨(h.H p O).1,(yq _ _ (h.lt O)).trans (h.H p O).2.1,(h.H p O).2.2⟩⟩
theorem gw.set{b off a T}(h:gw cX cO dL w M ((b,.cells a T (0,0))::cM))(f:∀p∈cM,p.1≠b)(v):gw cX cO dL (w.setCell ⟨b,off,cL⟩ v) M ((b,.cells (a.setIfInBounds off v) T (0,0))::cM):=by
 have⟨Q,d,eG⟩:=h.H _ (.head _);refine⟨h.K.own (Ge (h.jF _ Q) v) λk i q=>?_,h.jF,λp O=>?_⟩
 .have e:=nA λe=>q (tR e v);simp_all
 .rcases nG.1 O with rfl|O
  .exact⟨Q,vk d v,eG⟩
  .have⟨dI,g,c⟩:=h.H p (.tail _ O);exact⟨dI,(tR (f p O) v).trans g,c⟩
theorem gw.sub(h:gw cX cO dL w M cM)(a:∀p∈ek,p∈cM):gw cX cO dL w M ek:=⟨h.K,h.jF,λp O=>h.H p (a p O)⟩
theorem gw.Am(h:gw cX cO dL w M cM){f dx d}(c8:d0 cQ f dx d){vs}(cP:lS M dx vs):
  g7 cQ cX.main cX.F f vs w λv w'=>∃a,gw cX cO dL w' a cM/\w.heap.size<=w'.heap.size/\e4 a d v:=by
 refine g7.mono (h.K.Am c8 cP) λv w' g=>have⟨a,fo,⟨s,b,f⟩,c⟩:=g;⟨a,⟨fo,h.jF,λp O=>have⟨Q,e,eG⟩:=h.H p O;⟨Q,(b.block _ (h.lt O) (h.jF _ Q)).trans e,λo=>?_⟩⟩,b.size,c⟩
 cases cY:a p.1 o with
 |none=>rfl
 |some v=>
  rcases f _ o v cY with q|q
  .simp_all
  simp_all
end
section
variable {P:en} {w:da}
theorem an5{a:e8}{o t x y b off u z r T}(f:o.op=.store t x y)(i:a.eval x=.pointer (U ⟨b,off,cL⟩))(j:a.eval y=.agg #[u,z])(g:(sizeOf t).run P w=.ok 2 w)
  (cW:u.oneCell'=N)(Q:z.oneCell'=N)(v:u.cells=#[u])(q:z.cells=#[z])(c:w.heap[b]?=U (.cells r T (0,0)))(l:off+1<r.size):
  (execOp a.eval o).run P w=.ok .skip ((w.setCell ⟨b,off,cL⟩ u).setCell ⟨b,off+1,cL⟩ z) /\ ∀e∈(execOp a.eval o).events P w #[],e=⟨.cell ⟨b,off,cL⟩,N,L⟩ \/e=⟨.cell ⟨b,off+1,cL⟩,N,L⟩:=by
 have e3:w.cell? ⟨b,off,cL⟩=U (r[off]' R):=by simp[ke,c,show off<r.size by omega]
 have n:w.frozen? ⟨b,off,cL⟩=L:=by simp[On,c]
 have h:=vk (o:=off) c u
 have hi:(w.setCell ⟨b,off,cL⟩ u).cell? ⟨b,off+1,cL⟩=U (r[off+1]'l):=by simp[ke,h,l]
 have p:(w.setCell ⟨b,off,cL⟩ u).frozen? ⟨b,off+1,cL⟩=L:=by simp[On,h]
 have r0:(store ⟨b,off,cL⟩ u).run P w=.ok () (w.setCell ⟨b,off,cL⟩ u):=by rw[I7 P w _ u _ cW,e3];simp[n]
 have k:(store ⟨b,off+1,cL⟩ z).run P (w.setCell ⟨b,off,cL⟩ u)=.ok () ((w.setCell ⟨b,off,cL⟩ u).setCell ⟨b,off+1,cL⟩ z):=by rw[I7 P _ _ z _ Q,hi];simp[p]
 have m:∀es,(store ⟨b,off,cL⟩ u).events P w es=es.push ⟨.cell ⟨b,off,cL⟩,N,L⟩:=λes=>by
  rw[I8 P w es _ u _ cW,e3];grind
 have A:∀es,(store ⟨b,off+1,cL⟩ z).events P (w.setCell ⟨b,off,cL⟩ u) es=es.push ⟨.cell ⟨b,off+1,cL⟩,N,L⟩:=λes=>by
  rw[I8 P _ es _ z _ Q,hi];grind
 have s:(sizeOf t).events P w #[]=#[]:=by
  have s:∀es,(typeInfo t).events P w es=es:=λes=>by
   simp[typeInfo]
   cases P.info? t<;>simp
  simp[sizeOf]
 constructor
 .simp[execOp,f,i,j,z5,lU,storeVar,g,J5,storeCells,o0,r0,k]
 .intro e d;simpa[execOp,f,i,j,z5,lU,storeVar,g,J5,storeCells,o0,r0,k,m,A,s]using d
end
section
variable {cX:jy} {cO w:da} {dL M:eI} {cM:I (V×Obj)} {b:V} {o ks:Obj}
theorem ZH{k}(h:k≠b)(ks):(nQ w b ks).heap[k]?=w.heap[k]?:=by simp[nQ,Array.getElem?_setIfInBounds,Ne.symm h]
theorem an6(ks):(nQ w b ks).heap.size=w.heap.size:=by simp[nQ]
theorem ZI{F}(h:¬F b)(ks):oS F w (nQ w b ks):=⟨Z,Z,Z,tD (an6 ks).symm,λk a=>ZH (λe=>h eM) ks⟩
end
end
section
open Go.Conc Go.Lib
set_option maxRecDepth 100000
structure hH(cX:jy)(cO:da)(dL:eI)(w:da)(M:eI)(cM:I (V×Obj)):Prop extends gw cX cO dL w M cM where
 P:(cM.map (·.1)).Pairwise (·>·)
section
variable {P:en} {w:da}
theorem an7{a:e8}{o t x b off l m}(c:o.op=.load t x)(f:a.eval x=.pointer (U ⟨b,off,cL⟩))(g:(isAgg t).run P w=.ok N w)(d:(sizeOf t).run P w=.ok 2 w)
  (e3:w.cell? ⟨b,off,cL⟩=U l)(hi:w.cell? ⟨b,off+1,cL⟩=U m):(execOp a.eval o).run P w=.ok (.value (.agg #[l,m])) w/\ ∀e∈(execOp a.eval o).events P w #[],∃j,e=⟨.cell ⟨b,j,cL⟩,L,L⟩:=by
 have s:∀es,(sizeOf t).events P w es=es:=λes=>by
  simp_all
 have h:=λes=>ed.isAgg t P w es
 have i:∀es,(load ⟨b,off,cL⟩).events P w es=es.push ⟨.cell ⟨b,off,cL⟩,L,L⟩:=λes=>by rw[Jd,e3];rfl
 have n:∀es,(load ⟨b,off+1,cL⟩).events P w es=es.push ⟨.cell ⟨b,off+1,cL⟩,L,L⟩:=λes=>by rw[Jd,hi];rfl
 have r0:(load ⟨b,off,cL⟩).run P w=.ok l w:=eM
 have r:(load ⟨b,off+1,cL⟩).run P w=.ok m w:=eM
 constructor
 .simp[execOp,c,f,sG,lU,loadVar,g,d,loadCells,loadCellsFrom,o0,r0,r,e3,hi]
 .intro e k;simp[execOp,c,f,sG,lU,loadVar,g,d,h,s,loadCells,loadCellsFrom,o0,r0,r,i,n,e3,hi]at k;grind
theorem an8{a:e8}{o st k x y}{b off n c i cR:V}(u:P.underlying st=U (.slice k))(j:(sizeOf k).run P w=.ok cR w)(d:o.op=.indexAddr st x y)(e:a.eval x=.slice (U ⟨b,off,cL⟩) n c)(f:a.eval y=.int .i64 i)(h:i<n):
  (execOp a.eval o).run P w=.ok (.value (.pointer (U ⟨b,off+i*cR,cL⟩))) w/\ (execOp a.eval o).events P w #[]=#[]:=by
 have r:(qQ st (.slice (U ⟨b,off,cL⟩) n c) i).run P w=.ok (.pointer (U ⟨b,off+i*cR,cL⟩)) w:=by have z:=R;simp[qQ,asIntOf,fx u,j,z,h,o0]
 have g:=II st (.slice (U ⟨b,off,cL⟩) n c) i P w #[];constructor
 .simp[execOp,d,e,f,hc,r,hj,hU]
 .simp[execOp,d,e,f,jz,r,g,kT,px]
end
theorem an9{F w l}(c:¬F l){es}(h:vr l es):jd F w w es:=⟨.refl _ _,λe a=>by
 have⟨Q,b⟩:=h e a
 unfold jc;simp_all⟩
theorem aoa{F w b}(a:¬F b){es}(h:∀e∈es,∃j,e=⟨.cell ⟨b,j,cL⟩,L,L⟩):jd F w w es:=⟨.refl _ _,λe c=>by
 obtain⟨j,rfl⟩:=h e c
 exact⟨Z,a⟩⟩
theorem c'(w:da):∃B,w.heap.size=B:=⟨_,Z⟩
section
variable {cX:jy} {cO w w':da} {dL M:eI} {cM:I (V×Obj)} {dy:dP->da->Prop} {g:dP} {b n:V} {o:Obj} {a:d' dr} {T:eF} {u v:dr}
theorem hH.init(h:gQ cX (λc=>w.heap.size<=c) M)(a:fp M w):hH cX w M w M []:=⟨.init h a,.nil⟩
theorem hH.rel(h:hH cX cO dL w M cM)(r:e0 cX.F w w'):hH cX cO dL w' M cM:=⟨h.1.rel r,h.P⟩
theorem hH.h6{x}(h:hH cX cO dL w M (x::cM)):hH cX cO dL w M cM:=⟨h.sub λ_ q=>.tail _ q,h.P.tail⟩
theorem hH.sP(A:hH cX cO dL w M cM)(b:w.heap.size=n)(o):hH cX cO dL (w.alloc o) M ((n,o)::cM):=b▸⟨A.1.alloc o,.cons (λq h=>by obtain⟨p,O,rfl⟩:=is.1 h;exact A.lt O) A.P⟩
theorem hH.gt(A:hH cX cO dL w M cM)(i:V)(m:cM[i]?=U (b,o):=by rfl):cO.heap.size<=b/\w.heap[b]?=U o/\ ∀o,M b o=cL:=A.H _ (jY m)
theorem hH.ne(A:hH cX cO dL w M cM)(i:V)(m:cM[i]?=U (b,o):=by rfl):¬cX.F b:=A.jF _ (A.gt i m).1
theorem hH.up(A:hH cX cO dL w M cM){i:V}(m:cM[i]?=U (b,o))(ks)(Q:w'.heap[b]?=U ks)(c5:∀k,k≠b->w'.heap[k]?=w.heap[k]?)(g:oS cX.F w w'):hH cX cO dL w' M (cM.set i (b,ks)):=by
 have⟨d,c,e⟩:=A.gt i m
 have q:(cM.set i (b,ks)).map (·.1)=cM.map (·.1):=by
  rw[rQ];apply Cq ;intro j;rw[ly];split
  .subst_vars;split
   .simp_all
   .simp_all
  .rfl
 have P:=A.P;rw[<-q]at P;refine⟨⟨A.K.own g λk _ q=>?_,A.jF,λp O=>?_⟩,P⟩
 .have x:=nA λx=>q (c5 k x);subst x;exact⟨d,e⟩
 .have⟨j,dU,z⟩:=kr.1 O
  by_cases y:j=i
  .subst y;simp at z;subst z;exact⟨d,Q,e⟩
  .have l:j<cM.length:=by simpa using dU
   have z:cM[j]=p:=by simpa[As,Ne.symm y]using z
   have f:=A.H p (z▸hF l);refine⟨f.1,(c5 _ λx=>y ?_).trans f.2.1,f.2.2⟩
   have dc:=ax6 (λh=>Nat.ne_of_gt h) A.P
   have:=(f_.1 m).1
   exact (List.getElem_inj (h₀:=by simpa) (h₁:=by simpa) dc).1 (by simp_all[f_])
theorem hH.nj(A:hH cX cO dL w M cM)(z:V)(b:w.heap.size=n)(o)(v:V->dr)(k:∀w',hH cX cO dL w' M ((n,o)::cM)->w'.heap.size=n+1->dE cX.main cX.F dy (e7 z (f' g (v n))) w')(h:mi g:=by exact sM)
 (r:∀w,(execOp (eA g).eval (e6 g)).run cQ w=.ok (.value (v w.heap.size)) (w.alloc o):=by intro w;kernel_rfl)(e:∀w,(execOp (eA g).eval (e6 g)).events cQ w #[]=#[]:=by intro w;kernel_rfl)(p:∀n,j1 cQ cX.main (f' g (v n)) (e7 z (f' g (v n))):=by intro n;exact o3):dE cX.main cX.F dy g w:=
 dE.nj z o v (λk a=>A.jF k (fG A.K.fc.size a)) (λ_ q=>have b:=q.size.trans b;by rw[b];exact k _ ((A.rel q).sP b o) (by simp[b])) r e h p
theorem hH.nK(A:hH cX cO dL w M cM)(z i off:V)(k:∀w',hH cX cO dL w' M cM->dE cX.main cX.F dy (e7 z (f' g v)) w')(m:cM[i]?=U (b,.cells a T (0,0)):=by rfl)(d:a[off]?=U v:=by rfl)
 (o:(e6 g).op=.load (o2 g) (pw g):=by kernel_rfl)(j:(eA g).eval (pw g)=.pointer (U ⟨b,off,cL⟩):=by kernel_rfl)(t:∀w,(isAgg (o2 g)).run cQ w=.ok L w:=by intro w;kernel_rfl)(h:mi g:=by exact sM)(p:j1 cQ cX.main (f' g v) (e7 z (f' g v)):=by exact o3):dE cX.main cX.F dy g w:=
 dE.eB z off (A.ne i m) (λ_ r=>ni ((A.rel r).gt i m).2.1 d) (λ_ r=>k _ (A.rel r)) o j t h p
theorem hH.st(A:hH cX cO dL w M cM)(z i off:V)(v)(k:∀w',hH cX cO dL w' M (cM.set i (b,.cells (a.setIfInBounds off v) T (0,0)))->dE cX.main cX.F dy (e7 z (f' g undef)) w')(m:cM[i]?=U (b,.cells a T (0,0)):=by rfl)(d:a[off]?=U u:=by rfl)
 (o:(e6 g).op=.store (o2 g) (pw g) (x9 g):=by kernel_rfl)(j:(eA g).eval (pw g)=.pointer (U ⟨b,off,cL⟩):=by kernel_rfl)(y:(eA g).eval (x9 g)=v:=by kernel_rfl)(t:∀w,(sizeOf (o2 g)).run cQ w=.ok 1 w:=by intro w;kernel_rfl)
 (Q:v.oneCell'=N:=by rfl)(c5:v.cells=#[v]:=by rfl)(h:mi g:=by exact sM)(p:j1 cQ cX.main (f' g undef) (e7 z (f' g undef)):=by exact o3):dE cX.main cX.F dy g w:=
 dE.s1 z off v (A.ne i m) (λ_ r=>((A.rel r).gt i m).2.1) (λ_ r=>have A:=A.rel r;k _ (A.up m _ (vk (A.gt i m).2.1 v) (λ_ h=>tR h v) (Ge (A.ne i m) v))) d Q c5 o j y t h p
theorem hH.call(A:hH cX cO dL w M cM){f dx d vs}(H:d0 cQ f dx d)(c3:lS M dx vs)(k:∀a w' v,hH cX cO dL w' a cM->e4 a d v->dE cX.main cX.F dy (put g v) w')
 (o:(e6 g).op=.call {callee:=.value (.func f),args:=u' g,argTypes:=FO g}:=by kernel_rfl)(y:(u' g).map (eA g).eval=vs:=by kernel_rfl)(h:iD g:=by exact kP):dE cX.main cX.F dy g w:=
 dR.IN h o y (A.Am H c3) λv w' ⟨a,B,_,q⟩=>k a w' v ⟨B,A.P⟩ q
theorem hH.ZJ(A:hH cX cO dL w M cM)(d i off:V){x y}(z:x.oneCell'=N/\x.cells=#[x])(fV:y.oneCell'=N/\y.cells=#[y])(k:∀w',hH cX cO dL w' M (cM.set i (b,.cells ((a.setIfInBounds off x).setIfInBounds (off+1) y) T (0,0)))->dE cX.main cX.F dy (e7 d (f' g undef)) w')(m:cM[i]?=U (b,.cells a T (0,0)):=by rfl)(l:off+1<a.size:=by decide)
 (o:(e6 g).op=.store (o2 g) (pw g) (x9 g):=by kernel_rfl)(j:(eA g).eval (pw g)=.pointer (U ⟨b,off,cL⟩):=by kernel_rfl)(q:(eA g).eval (x9 g)=.agg #[x,y]:=by kernel_rfl)(t:∀w,(sizeOf (o2 g)).run cQ w=.ok 2 w:=by intro w;kernel_rfl)(h:mi g:=by exact sM)(p:j1 cQ cX.main (f' g undef) (e7 d (f' g undef)):=by exact o3):dE cX.main cX.F dy g w:=
 dR.Wd h λfv r=>have A:=A.rel r;have c:=(A.gt i m).2.1;have n:=A.ne i m;have⟨s,f⟩:=an5 o j q (t fv) z.1 fV.1 z.2 fV.2 c l;have dI:=Ge (w:=fv) (o:=off) n x;have u:=Ge (w:=fv.setCell ⟨b,off,cL⟩ x) (o:=off+1) n y
  have G:oS cX.F fv ((fv.setCell ⟨b,off,cL⟩ x).setCell ⟨b,off+1,cL⟩ y):=⟨Z,Z,Z,fG dI.size u.size,λc h=>(u.block c h).trans (dI.block c h)⟩
  ⟨_,s,⟨G,λe h=>by rcases f e (mem_listed h) with rfl|rfl<;>exact⟨Z,n⟩⟩,dR.pure tC.trans oZ p (k _ (A.up m _ (vk (vk c x) y) (λ_ h=>(tR h y).trans (tR h x)) G))⟩
theorem hH.sp(A:hH cX cO dL w M cM)(i:V)(ks){g' cs}(h:∀w,w.heap[b]?=U o->∃es,stepG cQ cX.main (G g.frame cs) w=.go g' (nQ w b ks) es/\vr b es)(k:∀w',hH cX cO dL w' M (cM.set i (b,ks))->dE cX.main cX.F dy g' w')(m:cM[i]?=U (b,o):=by rfl)(e:g=G g.frame cs:=by kernel_rfl):dE cX.main cX.F dy g w:=by
 rw[e];exact dR.nx Z λfv r=>have A:=A.rel r;have c:=A.gt i m;have⟨es,x,q⟩:=h fv c.2.1;⟨_,_,es,x,⟨ZI (A.ne i m) ks,λe m=>have⟨Q,a⟩:=q e m;by unfold jc;rw[Q];exact⟨a,A.jF _ c.1⟩⟩,k _ (A.up m ks (by have:=(kL.1 c.2.1).1;simp[nQ,this]) (λ_ h=>ZH h ks) (ZI (A.ne i m) ks))⟩
theorem dE.el{main F off}(n:¬F b)(c:∀c2,e0 F w c2->c2.cell? ⟨b,off,cL⟩=U u/\c2.cell? ⟨b,off+1,cL⟩=U v)(k:∀c2,e0 F w c2->dE main F dy (f' g (.agg #[u,v])) c2)(o:(e6 g).op=.load (o2 g) (pw g):=by kernel_rfl)(j:(eA g).eval (pw g)=.pointer (U ⟨b,off,cL⟩):=by kernel_rfl)
 (s:∀w,(isAgg (o2 g)).run cQ w=.ok N w:=by intro w;kernel_rfl)(t:∀w,(sizeOf (o2 g)).run cQ w=.ok 2 w:=by intro w;kernel_rfl)(h:mi g:=by exact sM):dE main F dy g w:=
 dR.zZ h λc2 r=>have⟨p,q⟩:=c c2 r;have⟨x,y⟩:=an7 o j (s c2) (t c2) p q;⟨_,c2,x,aoa n λe q=>y e (mem_listed q),k c2 r⟩
theorem dE.ZK{main F off n c i}(a cR:V)(l:i<n)(e:(eA g).eval (pw g)=.slice (U ⟨b,off,cL⟩) n c)(k:∀c2,e0 F w c2->dE main F dy (f' g (.pointer (U ⟨b,off+i*cR,cL⟩))) c2)(f:(eA g).eval (x9 g)=.int .i64 i:=by kernel_rfl)(u:cQ.underlying (o2 g)=U (.slice a):=by kernel_rfl)
 (j:∀w,(sizeOf a).run cQ w=.ok cR w:=by intro w;kernel_rfl)(d:(e6 g).op=.indexAddr (o2 g) (pw g) (x9 g):=by kernel_rfl)(h:mi g:=by exact sM):dE main F dy g w:=
 dR.zZ h λc2 r=>have⟨x,y⟩:=an8 u (j c2) d e f l;⟨_,c2,x,Yf (Ps y),k c2 r⟩
end
end
section
open Go.Conc Go.Lib
set_option maxRecDepth 100000
structure sX where
 w4:dB g3
 C8:V
 ZL:V
 a:dB g3
 len:V
 cap:V
 n:J
 cs:I g6
 B:V
def sX.S(p:sX):dr:=.slice p.w4 p.C8 p.ZL
def sX.C(p:sX):dr:=.slice p.a p.len p.cap
def C9(g:dP):d' Tmp×Code×Code:=match g.frame.todo with
 | .code (.rangeFunc _ p a b)::_=>(p,a,b)
 |_=>(#[],.skip,.skip)
section
variable (p:sX) (f:V->dr) (db aob:V) (i:J) (eb:g3) (x:J) (y:dG)
noncomputable def Qk:dP:=G ((base 171).at {tmps:=#[.agg #[p.S,p.C],.int .i64 p.n]++kM (Ay.ntmps-2) undef,defers:=[]} [.code (Ay.body.getD .skip)]) p.cs
noncomputable def ZM:=f' (e7 4 (f' (f' (f' (f' (e7 2 (Qk p)) (eZ p.B)) (eZ (p.B+1))) (eZ (p.B+2))) (eZ (p.B+3)))) (.agg #[p.S,p.C])
noncomputable def aoc(B:V):d' dr:=((iz 38).map λi=>if d3 i 2 then eZ B else if d3 i 3 then eZ (B+1) else if d3 i 4 then eZ (B+2) else if d3 i 5 then eZ (B+3) else f i).toArray
noncomputable def GF:dP:=let g:=e7 15 (f' (ZM p) (.bool L));{g with frame:={g.frame with tmps:=aoc f p.B}}
noncomputable def ZN:=e7 2 (f' (f' (e7 1 (GF p f)) undef) undef)
noncomputable def rR:=e7 11 (f' (e7 3 (f' (e7 6 (tB (e7 4 (f' (e7 1 (f' (e7 2 (tB (e7 1 (f' (e7 2 (f' (ZM p) (.bool N))) p.n)) 13 (.bool L))) p.n)) p.S)) 21 (.bool L))) p.C)) (eZ db))
noncomputable def GG:g6:=let g:=rR p db;{g.frame with todo:=.inRangeFunc (db+2)::g.frame.todo.tail,defers:=[{target:=.collected (db+1),args:=#[]}]}
noncomputable def ZO:dP:=G ((base 289).at {tmps:=#[.func (.yield (db+2)) #[] #[],eZ db]++kM (Ql.ntmps-2) undef,defers:=[]} [.code (Ql.body.getD .skip)]) (GG p db::p.cs)
noncomputable def sE:d' dr:=((iz 19).map λj=>if d3 j 0 then .func (.yield (db+2)) #[] #[] else if d3 j 1 then eZ db else if d3 j 3 then .int .i64 i else f j).toArray
noncomputable def KB:dP:=let g:=e7 8 (f' (e7 2 (ZO p db)) p.C);{g with frame:={g.frame with tmps:=sE f db i}}
noncomputable def tZ:=f' (f' (e7 1 (f' (e7 8 (tB (e7 4 (KB p f db i)) 8 (.bool N))) p.C)) (.pointer (U eb))) (.agg #[x,.string y])
noncomputable def yB:Loop:={state:=.ready,pending:=cL,fn:=(rR p db).frame.fn,tmps:=(rR p db).frame.tmps,params:=(C9 (rR p db)).1,assign:=(C9 (rR p db)).2.1,body:=(C9 (rR p db)).2.2,defers:=db+1}
noncomputable def aod:d' dr:=((yB p db).tmps.setIfInBounds 25 i).setIfInBounds 26 (.agg #[x,.string y])
noncomputable def aoe:dP:=let g:=tZ p f db i eb x y
 G (an3 (db+2) (yB p db).fn (aod p db i x y) (yB p db).assign (yB p db).body .normal) (g.frame.at (eA g) (.inRegion (jg g) (lu g::lv g)::g.frame.todo.tail)::g.callers)
noncomputable def KC(o4:I Item):dP:=let q:=GG p db;G {q with todo:=o4++q.todo.tail} p.cs
end
end
section
open Go.Conc
open Go.ConcN (sumTo upd RelBy WgLive AsideCell RW)
open Go.ConcR (KK wgBlock WgAt stA smA rd wr mk DC0 Payload)
set_option maxRecDepth 100000
noncomputable def P6(Wg l1 l2 lC:V):dP:=born cQ {target:=.fn (.func 18) #[.pointer (U ⟨Wg,0,cL⟩),.pointer (U ⟨l1,0,cL⟩),.pointer (U ⟨l2,0,cL⟩),.pointer (U ⟨lC,0,cL⟩)],args:=#[]}
instance ax5:Payload:=⟨9⟩
def Zj(l1 l2 lC:V)(b:V):Prop:=b=l1\/b=l2\/b=lC
structure vo where
 Wg:V
 l1:V
 l2:V
 lC:V
 d9:V
 eo:V
 gK:dG
def vo.F(q:vo):=Zj q.l1 q.l2 q.lC
abbrev tX(c4:V->Prop)(q:vo)(dy:dP->da->Prop)(g:dP)(w:da):=dR cQ L (oT q.F) (tr c4 q.Wg q.F) dy g w
section
variable {c4:V->Prop} {q:vo} {dy:dP->da->Prop} {s:dG} {g:dP} {w:da}
theorem Kp:∀w,(tr c4 q.Wg q.F) w w #[]:=λw=>⟨⟨w.drawn,Z⟩,dw⟩
theorem ann:Terms (oT q.F) (tr c4 q.Wg q.F):=⟨pp.trans,Kp⟩
theorem ano:LetsDraw (tr c4 q.Wg q.F):=λw=>⟨⟨_,Z⟩,dw⟩
theorem rP(n:V)(k:tX c4 q dy (e7 n g) w)(h:j1 cQ L g (e7 n g):=by exact o3):tX c4 q dy g w:=dR.pure pp.trans Kp h k
theorem anp{b}(c:q.F b)(w es)(h:∀e∈es,e=⟨.cell ⟨b,0,cL⟩,L,L⟩):(tr c4 q.Wg q.F) w w es:=
 ⟨⟨w.drawn,rfl⟩,λe d=>by
  obtain rfl:=h e d;refine⟨λx a=>?_,dw,dw,dw⟩;simp[mD,lo]at a;subst a
  exact .inr (.inl ⟨⟨_,Z,c⟩,Z,Z⟩)⟩
structure wY(q:vo)(w:da):Prop where
 l:w.cell? ⟨q.l1,0,cL⟩=U (.chan (U q.d9))
 s:w.cell? ⟨q.l2,0,cL⟩=U (.string q.gK)
 p:w.cell? ⟨q.lC,0,cL⟩=U (.chan (U q.eo))
theorem Kq{w w':da}{b}(h:w'.heap[b]?=w.heap[b]?)(o):w'.cell? ⟨b,o,cL⟩=w.cell? ⟨b,o,cL⟩:=by unfold ke;grind
theorem wY.wZ{w w'}(h:wY q w)(r:oT q.F w w'):wY q w':=
 ⟨(Kq (r _ (.inl Z)) 0).trans h.l,(Kq (r _ (.inr (.inl Z))) 0).trans h.s,(Kq (r _ (.inr (.inr Z))) 0).trans h.p⟩
theorem anq(w):(isAgg 53).run cQ w=.ok L w:=cV
theorem Kr{b v}(hw:wY q w)(c:q.F b)(e:∀w,wY q w->w.cell? ⟨b,0,cL⟩=U v)(k:∀w,wY q w->tX c4 q dy (put g v) w)(o:(e6 g).op=.load (o2 g) (pw g):=by kernel_rfl)(j:(eA g).eval (pw g)=.pointer (U ⟨b,0,cL⟩):=by kernel_rfl)(t:∀w,(isAgg (o2 g)).run cQ w=.ok L w:=by intro w;kernel_rfl)(h:iD g:=by exact kP):tX c4 q dy g w:=
 dR.load h o j t (λ_ a=>e _ (hw.wZ a)) (λ_ _ _ e=>anp c _ _ e) λ_ a=>k _ (hw.wZ a)
end
section
variable (q:vo) (s:dG) (f:V->dr) (p r:dG) (b:di)
noncomputable def vp:=put (put (put (e7 3 (put (e7 7 (P6 q.Wg q.l1 q.l2 q.lC)) (.chan (U q.d9)))) (.string q.gK)) (.chan (U q.d9))) (.chan (U q.eo))
noncomputable def cP:dP:=
 let g:=e7 3 (vp q)
 {g with frame:={g.frame with tmps:=(.string s::.chan (U q.d9)::.chan (U q.eo)::(iz 22).map λi=>f (i+3)).toArray}}
noncomputable def P7:=tB (e7 6 (cP q s f)) 10 (.bool N)
noncomputable def q5(i:J):=put (e7 29 (P7 q s f)) i
noncomputable def w0:=put (e7 17 (P7 q s f)) (.tuple #[.string p,.string r,.bool b])
noncomputable def eU(n:V):=e7 9 (q5 q s f n)
noncomputable def s1:=xM (ds (e7 32 (w0 q s f p r b))) (BM (.agg #[]))
end
section
variable {q:vo} {s:dG} {f:V->dr} {n:V}
theorem C3:cQ.underlying 9=U .string:=cV
theorem Zk{a:e8}{o x y}{n:V}(b:o.op=.slice 9 x cL (U y) cL)(d:a.eval x=.string s)(e:a.eval y=.int .i64 n)(c0:n<=s.size)(w):
  (execOp a.eval o).run cQ w=.ok (.value (.string (s.extract 0 n))) w/\ (execOp a.eval o).events cQ w #[]=#[]:=by
 have c:=run_slice_string_h (P:=cQ) w 9 s C3 .i64 (n:J) R R;constructor
 .simp[execOp,b,d,jB,vb,e,hc,P8 (h:=C3),c,hj,hU,gz]
 .simp[execOp,b,d,jB,vb,e,jz,IH _ _ _ _ _ _ _,P8 (h:=C3),c,kT,px]
theorem anr{a:e8}{o x y l}{n:V}(b:o.op=.slice 9 x (U y) cL cL)(d:a.eval x=.string s)(e:a.eval y=.int .i64 l)(f:l=n)(c0:n<=s.size)(w):
  (execOp a.eval o).run cQ w=.ok (.value (.string (s.extract n s.size))) w/\ (execOp a.eval o).events cQ w #[]=#[]:=by
 subst f;have c:=run_slice_string_l (P:=cQ) w 9 s C3 .i64 (n:J) R R;constructor
 .simp[execOp,b,d,jB,vb,e,hc,P8 (h:=C3),c,hj,hU,gz]
 .simp[execOp,b,d,jB,vb,e,jz,IH _ _ _ _ _ _ _,P8 (h:=C3),c,kT,px]
theorem cut(c0:n+1<=s.size)(a:s.size<=9223372036854775807):∃A,u4 cQ (j2 (eU q s f n)) 12 (kM 12 L) (eA (eU q s f n)) A/\j1 cQ L (G ((eU q s f n).frame.at A (eU q s f n).frame.todo.tail) (eU q s f n).callers) (e7 2 (G ((eU q s f n).frame.at A (eU q s f n).frame.todo.tail) (eU q s f n).callers)) /\e7 2 (G ((eU q s f n).frame.at A (eU q s f n).frame.todo.tail) (eU q s f n).callers)=w0 q s f (s.extract 0 n) (s.extract (n+1) s.size) N:=by
 exact⟨_,sL 0 (.string s) (sL 1 (.int .i64 n) (sL 2 (.string (s.extract 0 n)) (cY:=λw=>Zk (x:=.tmp 13) (y:=.tmp 14) cV cV cV R w) (sL 3 (.string s) (sL 4 (.int .i64 n) (sL 5 (.string ⟨#[10]⟩) (sL 6 (.int .i64 1) (sL 7 (.int .i64 (la .i64 (n+1))) (sL 8 (.string (s.extract (n+1) s.size)) (cY:=λw=>anr (x:=.tmp 16) (y:=.tmp 20) (l:=la .i64 (n+1)) cV cV cV (by rw[rM];omega) c0 w) (sL 9 (.string (s.extract 0 n)) (sL 10 (.string (s.extract (n+1) s.size)) (sL 11 (.bool N) (.done 0 _ _ cV)))))))))))),o3,cV⟩
end
end
section
open Go.Conc Go.Lib
set_option maxRecDepth 100000
section
variable {F:V->Prop}
theorem anh(n:V)(c0:n<=281474976710656)(w):∀e∈(callFunc 121 #[n]).events cQ w #[],jc F e:=by
 rw[JZ ani cV cV cV (e:=Zi #[3] #[26]) cV]
 have d:Zi #[3] #[26] #[n]=
   (do
    let .slice l <-underlying 26|stuck _
    if(n:J)<0||(n:J)>2^48 then runtimePanic (.error _)
    let cap <-choose (.appendCap (n:J).toNat 0 l)
    askRoom cap
    let bytes <-choose (.extern _ 0)
    let a <-newRow l (ax2 cap bytes #[])
    pure (.slice (U a) (n:J).toNat cap)):=rfl
 rw[d];have Q:¬(n:J)<0:=R;have f:¬(281474976710656:J)<(n:J):=R;intro e g;simp[fx (show cQ.underlying 26=U (.slice 5) by kernel_rfl),Q,f,newRow]at g
 have k:∀b w',e∈(askRoom b).events cQ w' #[⟨.mark (.extern 121),L,N⟩]->jc F e:=λb w' h=>by
  rcases Cv b w' _ e h with h|⟨m,rfl,c⟩
  .simp at h;subst h;trivial
  .unfold Conc.Neutral at c;subst c;trivial
 grind
end
end
section
open Go.Conc Go.Lib
set_option maxRecDepth 100000
section
variable {main:di} {F:V->Prop} {c:V} {B:V} {w:da} {p:dr}
theorem anj{n:V}(c0:n<=281474976710656)(w):∃r,n<=r.size/\ (n<=sK->r.size<=sK) /\ ∀ {a:e8} {o x} {i:J} {ats},o.op=.call {callee:=.value (.func 121),args:=#[x],argTypes:=ats}->a.eval x=.int .i64 i->i=n->
  (execOp a.eval o).run cQ w=.ok (.value (.slice (U ⟨w.heap.size,0,cL⟩) n r.size)) (w.drew.drew.alloc (.cells r 5)) /\ ∀e∈(execOp a.eval o).events cQ w #[],jc F e:=by
 have⟨cs,Q,f,eG⟩:=Lib.run_makeNoZero (P:=cQ) w #[3] 26 5 cV n c0;refine⟨cs,f,eG,λ {a o x i ats} b c cK=>?_⟩;subst cK
 have e:execOp a.eval o=callFunc 121 #[n]:=by have h:a.eval (.func 121)=.func (.func 121) #[] #[]:=Z;simp[execOp,b,ip,c,h,sH,iq]
 rw[e];exact⟨by rw[JY ani cV cV cV (e:=Zi #[3] #[26]) cV,Q];rfl,anh n c0 w⟩
theorem ank{a:e8}{o x y k c cap}(b:o.op=.slice 26 x cL (U y) cL)(d:a.eval x=.slice (U ⟨k,0,cL⟩) c cap)(e:a.eval y=.int .i64 0)(w):
  (execOp a.eval o).run cQ w=.ok (.value (.slice (U ⟨k,0,cL⟩) 0 cap)) w/\ (execOp a.eval o).events cQ w #[]=#[]:=by
 have u:cQ.underlying 26=U (.slice 5):=cV;have f:(sizeOf 5).run cQ w=.ok 1 w:=cV;have z:(sizeOf 5).events cQ w #[]=#[]:=cV;have cW:(0:J) <=0/\ (0:J) <= (cap:J):=⟨kX 0,R⟩
 have i:(if cap=0 then(U ⟨k,0,cL⟩:dB g3) else(U ⟨k,0,cL⟩:dB g3).map (·.add (0*1)))=U ⟨k,0,cL⟩:=by split<;>rfl
 have r:(nf 26 (.slice (U ⟨k,0,cL⟩) c cap) cL (U (.int .i64 0)) cL).run cQ w=.ok (.slice (U ⟨k,0,cL⟩) 0 cap) w:=by simp[nf,xZ,p2,B8,asIntOf,fx u,f,o0]
 have g:(nf 26 (.slice (U ⟨k,0,cL⟩) c cap) cL (U (.int .i64 0)) cL).events cQ w #[]=#[]:=by simp[nf,xZ,p2,B8,asIntOf,fx u,f,z]
 constructor
 .simp[execOp,b,d,e,Wc,hc,r,hj,hU]
 .simp[execOp,b,d,e,Wc,jz,r,g,kT,px]
theorem anl(d6:cQ.follows .mixedOrders=N)(a:¬F B)(b:∀k,w.heap.size<=k->¬F k)(W:c<=1000)(h:w.heap[B]?=U (.cells #[p,.slice cL 0 0] 52 (0,0))):
  g7 cQ main F 89 #[eZ B,c] w λq w'=>q=.tuple #[] /\ ∃k,w.heap.size<=k/\ig L B p (U k) [] w'/\h9 F (λj=>j=B) w w':=by
 let S:da->Prop:=λx=>x.heap[B]?=U (.cells #[p,.slice cL 0 0] 52 (0,0)) /\h9 F (λ_=>False) w x
 have cU:∀x y,S x->e0 F x y->S y:=λx y h r=>⟨(r.block _ a).trans h.1,h.2.trans (.sS r)⟩
 refine qV Tryz.func89 λcs dy dj=>dE.p 1 (dE.d 16 S d6 λfv hw=>?_);have f:=And.intro cU (cU _ _ ⟨h,.refl w⟩ hw);have e:=λw (hw:S w)=>ni (o:=1) hw.1 Z
 refine g0.t 0 (eZ B) f ?_;refine g0.t 1 (eZ B) f ?_;refine g0.t 2 (.pointer (U ⟨B,1,cL⟩)) f ?_;refine g0.nK 3 _ f e a ?_;refine g0.t 4 (.int .i64 0) f ?_;refine g0.t 5 (.int .i64 0) f ?_;refine g0.t 6 c f ?_;refine g0.t 7 c f ?_ (eL (Value.int .i64) (show la .i64 ((0:J)+c)=c from Tw))
 refine g0.t 9 (eZ B) f ?_;refine g0.t 10 (eZ B) f ?_;refine g0.t 11 (.pointer (U ⟨B,1,cL⟩)) f ?_;refine g0.nK 12 _ f e a ?_;refine g0.t 13 (.int .i64 0) f ?_
 refine g0.o 8 λg db=>?_;have t:=cU _ _ f.2 db;have dh:=t.2.size;have⟨k,C⟩:∃k,g.heap.size=k:=⟨_,Z⟩
 have⟨d,M,O,z⟩:=anj (F:=F) (n:=c) R g;replace O:=O (by unfold sK;omega);have dc:∀k,g.heap.size<=k->¬F k:=λfo h=>b fo R;have s:∀j,j<g.heap.size->(g.drew.drew.alloc (.cells d 5)).heap[j]?=g.heap[j]?:=λj u=>yq g.drew.drew (.cells d 5) u;have A:=(kL.1 t.1).1;have H:oS F g (g.drew.drew.alloc (.cells d 5)):=⟨Z,Z,Z,(CS (F:=F) (w:=g.drew.drew) dc _).size,λj u=>s j (Nat.lt_of_not_le λe=>dc j e u)⟩
 have m:S (g.drew.drew.alloc (.cells d 5)):=⟨(s B A).trans t.1,t.2.trans ⟨Z,Z,Z,H.size,λj u _ _=>s j u⟩⟩
 have E:(g.drew.drew.alloc (.cells d 5)).heap[k]?=U (.cells d 5 (0,0)):=C▸Gg g.drew.drew _;refine⟨_,_,z (x:=.tmp 12) (ats:=#[3]) cV cV Z,H,m,?_⟩;clear z;rw[C];generalize g.drew.drew.alloc (.cells d 5)=x at m E⊢;have⟨cap,q⟩:∃cap,d.size=cap:=⟨_,Z⟩;rw[q]at M O⊢;rw[C]at dh
 refine g0.t 14 (.slice (U ⟨k,0,cL⟩) 0 cap) ⟨cU,m⟩ ?_ (cY:=λw _=>And.imp id Gh (ank (x:=.tmp 13) (y:=.tmp 18) (k:=k) (c:=c) (cap:=cap) cV cV cV w))
 refine g0.t 15 (.slice (U ⟨k,0,cL⟩) 0 cap) ⟨cU,m⟩ (N5 cV ⟨Z,λy r=>dE.p 6 ?_⟩ 0);have c_:=b k dh;have dv:=(kL.1 h).1
 refine dE.eB 7 1 a (λ_ q=>ni (cU _ _ m (r.trans q)).1 Z) λc2 h₁=>?_;have r:=r.trans h₁;refine dE.s1 2 1 (.slice (U ⟨k,0,cL⟩) 0 cap) a (λ_ q=>(cU _ _ m (r.trans q)).1) λD i=>?_;have r:=r.trans i;have l:=(r.block _ c_).trans E;have v:k≠B:=R;refine dj.z ⟨Z,k,dh,⟨_,vk (cU _ _ m r).1 _,?_,Z⟩,?_⟩
 .exact⟨Z,.inr ⟨k,cap,d,Z,eY _,(tR v _).trans l,eY _,O,by simp[q],by simp[byteCells]⟩⟩
 .exact((m.2.mono λk _ h=>h.elim).trans (.sS r)).trans (.J0 _)
end
end
section
open Go.Conc Go.Lib
set_option maxRecDepth 100000
section
variable {main:di} {F:V->Prop} {c:V} {B:V} {w:da} {p:dr}
theorem anm(t:cQ.follows .mixedOrders=N)(d:¬F B)(g:∀k,w.heap.size<=k->¬F k)(Q:1<=c)(v:c<=1000)(O:p=.pointer cL\/p=eZ B)(h:w.heap[B]?=U (.cells #[p,.slice cL 0 0] 52 (0,0))):
  g7 cQ main F 56 #[eZ B,c] w λq w'=>q=.tuple #[] /\ ∃k,w.heap.size<=k/\ig L B (eZ B) (U k) [] w'/\h9 F (λj=>j=B) w w':=by
 let S:da->Prop:=λx=>x.heap[B]?=U (.cells #[eZ B,.slice cL 0 0] 52 (0,0)) /\h9 F (λj=>j=B) w x
 have cU:∀x y,S x->e0 F x y->S y:=λx y e u=>⟨(u.block _ d).trans e.1,e.2.trans (.sS u)⟩
 refine qV Tryz.func56 λcs dy s=>dE.p 3 (dE.k (Pu O d h) λq fv r=>?_);obtain⟨rfl,i,m⟩:=r;refine dE.p 7 (dE.c 7 ((c:J)<0) (λh=>by omega) λ_=>dE.p 3 (dE.d 13 S t λc2 b=>?_));have f:=And.intro cU (cU _ _ ⟨i,m⟩ b);have e:=λw (hw:S w)=>ni (o:=1) hw.1 Z
 refine g0.t 0 (eZ B) f ?_;refine g0.t 1 (eZ B) f ?_;refine g0.t 2 (.pointer (U ⟨B,1,cL⟩)) f ?_;refine g0.nK 3 _ f e d ?_;refine g0.t 4 (.int .i64 0) f ?_;refine g0.t 5 (eZ B) f ?_;refine g0.t 6 (eZ B) f ?_;refine g0.t 7 (.pointer (U ⟨B,1,cL⟩)) f ?_;refine g0.nK 8 _ f e d ?_;refine g0.t 9 (.int .i64 0) f ?_;refine g0.t 10 (.int .i64 0) f ?_;refine g0.t 11 c f ?_
 refine g0.t 12 (.bool N) f (N5 cV ⟨Z,λx r=>dE.p 4 ?_⟩ 0) (eL Value.bool (decide_eq_true (show (0:J)<c by omega)));have⟨l,a⟩:=cU _ _ f.2 r;refine dE.k (anl t d (λk o=>g k (fG a.size o)) v l) λq C r=>?_;obtain⟨rfl,k,k1,eK,n⟩:=r;exact dE.p 2 (s.z ⟨Z,k,fG a.size k1,eK,a.trans n⟩)
end
end
section
open Go.Conc Go.Conc.Lib
open Go.ConcN (sumTo upd RelBy WgLive AsideCell RW)
open Go.ConcR (KK wgBlock WgAt stA smA rd wr mk DC0 Payload)
open Go.ConcR.Gen
set_option maxRecDepth 100000
section
variable {P:en} {main:di} {cN:g6} {cs:I g6} {ats:d' eF} {dn:eF} {DY:d' di} {d9 s r:V} {w:da}
theorem adR(l:w.heap[d9]?=U (.chan 0 #[] L s r L)):∃es,callDeferred P cN cs cL {target:=.builtin .close ats dn DY,args:=#[.chan (U d9)]} w=.go {frame:=cN,callers:=cs,status:=.running,dying:=cL} (w.setChan d9 0 #[] N s r L) es/\
  ∀e∈es,e=⟨.obj d9,L,N⟩ \/e=⟨.obj d9,N,N⟩:=by
 have a:=run_close_open (P:=P) ats dn l;have b:=events_close_open (P:=P) (es:=#[]) ats dn l;have cK:iq (.builtin .close ats dn DY) #[.chan (U d9)]=(do pure (.value (<-Builtin.close_ ats dn #[.chan (U d9)]))):=rfl
 have cU:(iq (.builtin .close ats dn DY) #[.chan (U d9)]).run P w=.ok (.value (.tuple #[])) (w.setChan d9 0 #[] N s r L):=by rw[cK];simp[hc,a,hj,hU];rfl
 have E:(iq (.builtin .close ats dn DY) #[.chan (U d9)]).events P w #[]=#[⟨.obj d9,L,N⟩,⟨.obj d9,N,N⟩]:=by rw[cK];simp[a,b]
 refine⟨seen P cN.fn #[⟨.obj d9,L,N⟩,⟨.obj d9,N,N⟩],?_,λe h=>?_⟩
 .unfold callDeferred;simp[cU,E,tq]
 .have:=mem_seen h;simp_all
end
section
variable (q:vo) (s:dG) (f:V->dr)
noncomputable def vO:=e7 6 (tB (e7 6 (cP q s f)) 10 (.bool L))
noncomputable def SJ:g6:={(vO q s f).frame with defers:=(vO q s f).frame.defers.tail}
noncomputable def adS:g6:={(vO q s f).frame with defers:=[]}
noncomputable def hi:dP:={frame:=SJ q s f,callers:=(vO q s f).callers,status:=.running,dying:=cL}
noncomputable def adT:dP:=G (adS q s f) (vO q s f).callers
theorem auV(w):stepG cQ L (vO q s f) w=callDeferred cQ (SJ q s f) (vO q s f).callers cL {target:=.builtin .close #[53] 0 #[L],args:=#[.chan (U q.d9)]} w:=cV
theorem auW:∃m,QuitsD cQ m 0 (adT q s f):=by exact QuitsD.pure (n:=0) (g':=e7 2 (adT q s f)) (oe 2) ⟨cV,Z⟩
end
section
variable {P:en} {main:di} {cU:da->da->Prop} {c3:da->da->d' Event->Prop} {dy:dP->da->Prop}
theorem adU(a:∀w,cU w w)(S:∀g w,dy g w->∃g' x,stepG P main g w=.go g' w #[x]){m g dI w}(h:Goes P main cU c3 dy m g w)(e:stepG P main g w=.go dI w #[]):∃b,Goes P main cU c3 dy b dI w:=by
 have n:¬dy g w:=λh=>by
  grind
 cases m with
 |zero=>exact dN (h w (a w)) n
 |succ m=>
  rcases h with h|⟨_,h⟩
  .simp_all
  .have:=h w (a w);rw[e]at this;exact⟨m,this.2⟩
theorem adV(a:∀w,cU w w){m g dI w es}(h:Goes P main cU c3 dy m g w)(e:stepG P main g w=.go dI w es):dy g w\/ (c3 w w es/\ ∃b,Goes P main cU c3 dy b dI w):=by
 cases m with
 |zero=>exact .inl (h w (a w))
 |succ m=>
  rcases h with h|⟨_,h⟩
  .simp_all
  .have:=h w (a w);rw[e]at this;exact .inr ⟨this.1,m,this.2⟩
theorem adW(c:∀w,cU w w)(S:∀g w,dy g w->∃g' x,stepG P main g w=.go g' w #[x]){m g dI w}(h:Goes P main cU c3 dy m g w)(e:j1 P main g dI):∃a,Goes P main cU c3 dy a dI w:=by
 induction e generalizing m with
 |nil g=>grind|cons g g' s c9 k i=>have⟨a,b⟩:=adU c S h (c9 w);exact i b
end
section
variable {c4 F:V->Prop} {Wg:V} (c:g6) (cs:I g6)
noncomputable def SK(Wg:V)(c:g6)(cs:I g6):dP:=G ((baseD e2.done).at ⟨#[.pointer (U ⟨Wg,0,cL⟩),undef,undef,undef],[]⟩ [.code (ConcR.Gen.body_done e2)]) (c::cs)
noncomputable def fD(Wg:V)(c:g6)(cs:I g6):dP:=zO cQ L 14 (SK Wg c cs)
noncomputable def uG(Wg:V)(c:g6)(cs:I g6):dP:=put (fD Wg c cs) (.pointer (U ⟨Wg,0,cL⟩))
noncomputable def adX(Wg:V)(c:g6)(cs:I g6):dP:=put (uG Wg c cs) (.tuple #[])
noncomputable def Hk(Wg:V)(c:g6)(cs:I g6):dP:=zO cQ L 3 (adX Wg c cs)
theorem adY:iD (fD Wg c cs):=kP
theorem adZ:(e6 (fD Wg c cs)).op=.convert 74 78 (.tmp 11):=cV
theorem ad0:(eA (fD Wg c cs)).eval (.tmp 11)=.pointer (U ⟨Wg,0,cL⟩):=cV
theorem auX:iD (uG Wg c cs):=kP
theorem auY:(e6 (uG Wg c cs)).op=.call {callee:=.value (.func 36),args:=#[.tmp 12],argTypes:=#[78]}:=cV
theorem auZ:((#[.tmp 12]:d' Operand).map (eA (uG Wg c cs)).eval)[0]?=U (.pointer (U ⟨Wg,0,cL⟩)):=cV
theorem au0:iD (Hk Wg c cs):=kP
theorem au1:(e6 (Hk Wg c cs)).op=.call {callee:=.value (.func 26),args:=#[],argTypes:=#[]}:=cV
theorem ad1{main:di}{w v}(h:w.cell? ⟨Wg,0,cL⟩=U v):stepG cQ L (fD Wg c cs) w=.go (uG Wg c cs) w #[]:=by
 have a:=run_convert_to_unsafe (P:=cQ) kq.underlying_tWgP kq.underlying_tUP kq.room_tWg h;have b:=λes=>events_convert_to_unsafe (P:=cQ) kq.underlying_tWgP kq.underlying_tUP kq.room_tWg h es
 have r:(execOp (eA (fD Wg c cs)).eval (e6 (fD Wg c cs))).run cQ w=.ok (.value (.pointer (U ⟨Wg,0,cL⟩))) w:=by simp[execOp,adZ,ad0,hc];rw[show(x' 74 78 (.pointer (U ⟨Wg,0,cL⟩))).run cQ w=_ from a];rfl
 have e:(execOp (eA (fD Wg c cs)).eval (e6 (fD Wg c cs))).events cQ w #[]=#[]:=by simp only[execOp,adZ,ad0,jz];rw[show(x' 74 78 (.pointer (U ⟨Wg,0,cL⟩))).run cQ w=_ from a,show(x' 74 78 (.pointer (U ⟨Wg,0,cL⟩))).events cQ w #[]=_ from b #[]];rfl
 have:=(adY (Wg:=Wg) c cs).value (main:=L) r;rwa[listed_nil e]at this
theorem au2(w):stepG cQ L (uG Wg c cs) w=.go (adX Wg c cs) w #[mk (.releaseMerge (stA Wg))]:=by
 have h:=auX (Wg:=Wg) c cs
 conv=>lhs;rw[h.eq]
 exact stepG_markAt .releaseMerge dw h.op h.wanted h.ne (auY c cs) kq.f_relMerge (x_relMerge_n e2) (x_relMerge_b e2) (x_relMerge_x e2) (x_relMerge_f e2) (auZ c cs)
theorem au3(w):∃g',stepG cQ L (Hk Wg c cs) w=.go g' w #[mk .disable]:=by
 have h:=au0 (Wg:=Wg) c cs;refine⟨put (Hk Wg c cs) (.tuple #[]),?_⟩
 conv=>lhs;rw[h.eq]
 exact stepG_mark0 .disable dw h.op h.wanted h.ne (au1 c cs) kq.f_disable (x_disable_n e2) (x_disable_b e2) (x_disable_x e2) (x_disable_f e2)
theorem au4{val C w ad2}(m:c.mode=.returning)(o:QuitsD cQ ad2 0 (G c cs))(dv:WgLive e2.tWg Wg w)(c':au5 C 0 val w):
  dR cQ L (RW e2.tWg Wg C 1 0 0) (H7 c4 Wg F C) (M4 cQ e2.tWg Wg C 1 0 1 val) (SK Wg c cs) w:=by
 have i:∀w,H7 c4 Wg F C w w #[]:=λw=>⟨⟨Z,Z,Z,Z,λ_ _=>Z,id,λ_ _=>Z⟩,dw⟩
 have d:∀g w,M4 cQ e2.tWg Wg C 1 0 1 val g w->∃g' x,stepG cQ L g w=.go g' w #[x]:=λg w h=>by
  have⟨_,_,g',e,_⟩:=h;simp_all
 have a:∀w,RW e2.tWg Wg C 1 0 0 w w:=lQ.refl;apply dR.pure lQ.trans i (g':=fD Wg c cs) (oe 14);have j:∀c2,RW e2.tWg Wg C 1 0 0 w c2->WgLive e2.tWg Wg c2/\au5 C 0 val c2:=λc2 h₁=>⟨h₁.live dv,h₁.cell.trans c'⟩;refine .step (adY c cs).run (λw=>(uG Wg c cs,w,#[])) (λc2 h₁=>?_) (λc2 h₁=>.stop λb p=>?_)
 .have⟨st,kd,x⟩:=(j c2 h₁).1;exact⟨ad1 (main:=L) c cs x.cellSt,i c2⟩
 .have⟨q,r⟩:=j b (lQ.trans _ _ _ h₁ p);have⟨st,kd,x⟩:=q;have t:=ConcN.Gen.doneN kq (Own:=λ_ _=>False) (Rd:=λ_ _=>False) (Low:=0) (n:=1) (k:=1) m o b ⟨⟨st,kd,x⟩,r⟩;have⟨q5,dI⟩:=adW a d t (dI:=fD Wg c cs) (oe 14);have⟨w0,f⟩:=adU a d dI (ad1 (main:=L) c cs x.cellSt);rcases adV a f (au2 c cs b) with f|⟨_,y,u⟩
  .exact f
  .exfalso;have⟨z,v⟩:=adW a d u (dI:=Hk Wg c cs) (oe 3);have⟨g',l⟩:=au3 (Wg:=Wg) c cs b;rcases adV a v l with h|⟨h,_⟩
   .have⟨_,_,g',e,_⟩:=h;rw[l]at e;have:=eL (λs=>match s with|GStep.go _ _ es=>es|_=>#[]) e;simp[mk]at this
   .exact(h.2 (mk .disable) dw).2.1 Z
end
end
section
open Go.Conc Go.Conc.Lib
open Go.ConcN (sumTo upd RelBy WgLive AsideCell RW)
open Go.ConcR (KK wgBlock WgAt stA smA rd wr mk DC0 Payload)
open Go.ConcR.Gen
set_option maxRecDepth 100000
def iV:I gM->I (I gM)
 | []=>[]
 |b::l=>if b=10 then []::iV l else match iV l with
  | []=>[[b]]
  |x::dD=>(b::x)::dD
theorem ad3:∀ {l},l≠[]->kU l 10=-1->iV l=[l]
 | [],h,_=>dN Z h
 |b::l,_,h=>by
  unfold kU at h
  by_cases hb:(b==10)=N
  .simp_all
  .rw[cS hb]at h;have a:=zi
   have Q:kU l 10=-1:=by
    by_cases c:(kU l 10==-1)=N
    .simp_all
    .rw[cS c]at h;have:=Kf l 10;omega
   unfold iV;rw[cS a]
   cases l with|nil=>rfl|cons x dD=>rw[ad3 (l:=x::dD) dw Q]
theorem ad4:∀ {l} {n:V},kU l 10=n->n+1<=l.length/\iV l=l.take n::iV (l.drop (n+1))
 | [],n,h=>by simp[kU]at h
 |b::l,n,h=>by
  unfold kU at h
  by_cases hb:(b==10)=N
  .rw[if_pos hb]at h;have:n=0:=R;subst this;have a:=zi;simp[iV,a]
  .rw[cS hb]at h;have a:=zi
   by_cases c:(kU l 10==-1)=N
   .simp_all
   .rw[cS c]at h;obtain⟨m,rfl⟩:∃m,n=m+1:=⟨n-1,by grind⟩;have⟨eG,fb⟩:=ad4 (l:=l) (n:=m) R;refine⟨hy,?_⟩
    conv=>lhs;unfold iV
    simp_all
section
variable {c4:V->Prop} {q:vo}
theorem au6(s:dG)(a b):(s.extract a b).data.toList=(s.data.toList.drop a).take (b-a):=eM
def tf(ls:I (I gM)):I dr:=ls.map λl=>.string ⟨l.toArray⟩
noncomputable abbrev y1(c4:V->Prop)(q:vo):I dr->dP->da->Prop:=
 BP cQ e2.tWg q.Wg q.l2 q.d9 q.eo c4 q.F (.string q.gK) (.string ⟨#[]⟩) (.agg #[])
theorem au7(S:c4 q.d9){s f w}(hw:wY q w)(W:q.Wg≠q.d9)(B:q.l2≠q.d9):y1 c4 q [] (vO q s f) w:=by
 refine⟨cV,cV,λn r l g=>have⟨es,Q,b⟩:=adR (P:=cQ) (cN:=SJ q s f) (cs:=(vO q s f).callers) (ats:=#[53]) (dn:=0) (DY:=#[L]) l;⟨hi q s f,es,Z,(auV q s f w).trans Q,λe c=>?_,?_⟩⟩
 .rcases b e c with rfl|rfl
  .refine⟨λx a=>?_,dw,dw,dw⟩;simp[mD,lo]at a;subst a;exact .inr (.inr ⟨⟨_,Z,S⟩,Z⟩)
  .exact⟨λx a=>by simp[mD,lo]at a,dw,dw,dw⟩
 .have⟨st,d,g⟩:=g;have⟨m,j⟩:=auW q s f;apply dR.pure lQ.trans (λw=>⟨⟨Z,Z,Z,Z,λ_ _=>Z,id,λ_ _=>Z⟩,dw⟩) (g':=SK q.Wg (adS q s f) (vO q s f).callers) (oe 1);exact au4 (ad2:=m) _ _ cV j ⟨st,d,g.of_block (ry W)⟩ ((Kq (ry B) 0).trans hw.s)
theorem ad5{s p r f b vs w}(i:∀g w',oT q.F w w'->tX c4 q (y1 c4 q vs) (cP q r g) w'):tX c4 q (y1 c4 q (.string p::vs)) (w0 q s f p r b) w:=
 rP 32 (.stop λc2 a=>⟨cV,#[],cV,dw,λd c=>dE.e (g':=s1 q s f p r b) (rP 14 (dE.h (cP q r) λf=>i _ _ (pp.trans _ _ _ a c)))⟩)
theorem au8{s f w}(i:s.size<=9223372036854775807)(b:s.data.toList≠[])
  (g:∀r a w',oT q.F w w'->r.size<s.size->tX c4 q (y1 c4 q (tf (iV r.data.toList))) (cP q r a) w'):tX c4 q (y1 c4 q (tf (iV s.data.toList))) (q5 q s f (kU s.data.toList 10)) w:=by
 have zm:s.data.toList.length=s.size:=lz
 by_cases j:0<=kU s.data.toList 10
 rotate_left
 .have cK:kU s.data.toList 10=-1:=by have:=Kf s.data.toList 10;omega
  rw[cK,ad3 b cK]
  have e:tf [s.data.toList]=[.string s]:=by simp[tf]
  rw[e];refine rP 18 (dE.e (g':=w0 q s f s ⟨#[]⟩ L) (ad5 λa w' iN=>g ⟨#[]⟩ a w' iN ?_));rw[<-zm];exact Cz.2 b
 .have⟨n,c0⟩:=Int.eq_ofNat_of_zero_le j;have⟨Q,c5⟩:=ad4 c0;rw[zm]at Q;rw[c0,c5];have⟨A,c,e,d⟩:=cut (q:=q) (f:=f) Q i;refine rP 9 (dE.e (g':=eU q s f n) (dR.draw (n:=12) ann pp ano cV cV cV cV cV c λw' k=>dR.pure pp.trans Kp e (dE.e (h:=d) ?_)))
  have e:tf (s.data.toList.take n::iV (s.data.toList.drop (n+1)))=.string (s.extract 0 n)::tf (iV (s.extract (n+1) s.size).data.toList):=by
   have l:(⟨(s.data.toList.take n).toArray⟩:dG)=s.extract 0 n:=ByteArray.ext (z4.1 (by simp_all))
   have m:(s.extract (n+1) s.size).data.toList=s.data.toList.drop (n+1):=by rw[au6,vm T8]
   rw[m,<-l];rfl
  rw[e];refine ad5 λa o iN=>g _ a o (pp.trans _ _ _ k iN) ?_;simp;omega
theorem ad6{s:dG}:(s.toList==(L5 #[]).toList)=N↔s.data.toList=[]:=by rw[zS,zS];simp
theorem au9{s:dG}(h:((L5 #[10]).toList==s.toList)=N):s.data.toList=[10]:=by rw[zS,zS]at h;simp_all
theorem ava(S:c4 q.d9)(W:q.Wg≠q.d9)(B:q.l2≠q.d9):∀n s f w,s.size<=n->s.size<=9223372036854775807->wY q w->tX c4 q (y1 c4 q (tf (iV s.data.toList))) (cP q s f) w:=by
 intro n
 induction n using to with
 |_ n u=>
  intro s f w c0 d hw;refine rP 6 (dE.b 10 (!(s.toList==(L5 #[]).toList)) (λe=>rP 53 ?_) λe=>?_)
  rotate_left
  .rw[ad6.1 (by simpa using e)];exact rP 6 (.stop λc2 b=>au7 S (hw.wZ b) W B)
  .have g:s.data.toList≠[]:=λh=>by rw[ad6.2 h]at e;cases e
   have z:s.data.toList.length=s.size:=lz
   have m:∀w',oT q.F w w'->tX c4 q (y1 c4 q (tf (iV s.data.toList))) (q5 q s f (kU s.data.toList 10)) w':=λw' k=>au8 d g λr j i c t=>u r.size R r j i (fi _) R (hw.wZ (pp.trans _ _ _ k c))
   refine dE.b 16 ((L5 #[10]).toList==s.toList) (λl=>rP 7 ?_) λl=>rP 22 (dE.x Kp (Ya s 10) (Yb s 10) λc2 b=>rP 8 (dE.e (m c2 b)))
   have cW:=m w (pp.refl w);rw[show kU s.data.toList 10=0 by rw[au9 l];rfl]at cW;exact dE.e cW
theorem avb{w}(S:c4 q.d9)(W:q.Wg≠q.d9)(B:q.l2≠q.d9)(h:q.gK.size<=9223372036854775807)(hw:wY q w):tX c4 q (y1 c4 q (tf (iV q.gK.data.toList))) (P6 q.Wg q.l1 q.l2 q.lC) w:=
 rP 7 (Kr hw (.inl Z) (λ_ h=>h.l) λw hw=>rP 3 (Kr hw (.inr (.inl Z)) (λ_ h=>h.s) λw hw=>Kr hw (.inl Z) (λ_ h=>h.l) λw hw=>Kr hw (.inr (.inr Z)) (λ_ h=>h.p) λw hw=>rP 3 (dE.h (cP q q.gK) λf=>ava S W B q.gK.size q.gK _ w (fi _) h hw)))
end
end
section
open Go.Conc Go.Lib
set_option maxRecDepth 100000
structure A4 where
 s:dG
 cs:I g6
 lC:V
 ig:V
 DZ:dr
 D1:dr
 B:V
 d9:V
 l1:V
 eo:V
 l2:V
 Wg:V
noncomputable def L6(s:dG)(cs:I g6):dP:=G ((base 12).at {tmps:=#[.string s]++kM (A5.ntmps-1) undef,defers:=[]} [.code (A5.body.getD .skip)]) cs
noncomputable def avc(g:dP):dP:=match stepG cQ N g default with| .spawn a _ _ _=>a|_=>g
section
variable (q:A4) (f:V->dr) (o:dG)
noncomputable def A6:=e7 4 (f' (e7 7 (f' (e7 3 (f' (f' (f' (e7 3 (f' (f' (f' (e7 3 (f' (e7 3 (f' (e7 5 (put (e7 5 (f' (e7 5 (f' (e7 2 (L6 q.s q.cs)) (eZ q.lC))) (eZ q.ig))) (.tuple #[.agg #[q.DZ,q.D1],.int .i64 0]))) undef)) (eZ q.B))) (.chan (U q.d9))) (eZ q.l1)) undef)) (.chan (U q.eo))) (eZ q.l2)) undef)) (eZ q.Wg))) (.chan (U q.eo)))
noncomputable def SL:dP:=G ((base 17).at ⟨#[.pointer (U ⟨q.Wg,0,cL⟩),.int .i64 1]++kM 115 undef,[]⟩ [.code (ayg e2)]) ((A6 q).frame.at (eA (A6 q)) (.inRegion (jg (A6 q)) (lu (A6 q)::lv (A6 q))::(A6 q).frame.todo.tail)::q.cs)
noncomputable def SM:=e7 4 (put (A6 q) (.tuple #[]))
noncomputable def ad7:=avc (SM q)
noncomputable def D2:dP:=
 let g:=e7 5 (put (e7 4 (ad7 q)) (.chan (U q.d9)))
 {g with frame:={g.frame with tmps:=([.string q.s,eZ q.lC,f 2,eZ q.ig,eZ q.B,eZ q.l1,eZ q.l2,eZ q.Wg]++(iz 15).map (λi=>f (i+8))++.chan (U q.d9)::(iz 9).map λi=>f (i+24)).toArray}}
noncomputable def F_:=e7 7 (xM (ds (D2 q f)) (.tuple #[.string ⟨#[]⟩,.bool L]))
noncomputable def A7:=e7 3 (put (F_ q f) (.string o))
noncomputable def SN:g6:={(A7 q f o).frame with defers:=(A7 q f o).frame.defers.tail}
noncomputable def xp:g6:={(A7 q f o).frame with defers:=[]}
noncomputable def avd:dP:={frame:=SN q f o,callers:=(A7 q f o).callers,status:=.running,dying:=cL}
end
theorem ave{q w}:stepG cQ N (SM q) w=.spawn (ad7 q) (P6 q.Wg q.l1 q.lC q.l2) w #[]:=cV
theorem ad8{q f}(w):stepG cQ N (D2 q f) w=.comm (ds (D2 q f)) #[rcase q.d9 (.string ⟨#[]⟩)] N (.recv N) w #[]:=cV
end
end Dk
end Go.Lk
namespace Go.Lk
open Go
def rep(s:dG)(c:V):dG:=⟨(P_ s.data.toList c).toArray⟩
end Go.Lk
namespace Go.Lk.Dk
open Go Go.Conc Go.Proofs Go.Lib
set_option maxRecDepth 100000
noncomputable def ans(c:J)(f:V->dr):d' dr:=((iz 125).map λi=>if d3 i 0 then .string ⟨#[0]⟩ else if d3 i 7 then .int .i64 c else if d3 i 8 then .int .i64 c else f i).toArray
def Zl(k:V):Code->Code:=Nat.rec (motive:=λ_=>Code->Code) (λc=>c) (λ_ a c=>match c with| .seq _ b=>a b|c=>c) k
def ant:Code->d' Oper
 | .seq (.region _ ops _) _=>ops
 |_=>#[]
noncomputable def Zm(c:J)(cs:I g6)(f:V->dr):dP:=G ((base 25).at {tmps:=ans c f,defers:=[]} [.inRegion (ant (Zl 10 (Zn.body.getD .skip))) [0],.code (Zl 11 (Zn.body.getD .skip))]) cs
noncomputable def anu(c B:V)(f:V->dr):d' dr:=((iz 125).map λi=>if d3 i 0 then .string ⟨#[0]⟩ else if d3 i 7 then .int .i64 c else if d3 i 8 then .int .i64 c else if d3 i 9 then eZ B else f i).toArray
noncomputable def Qa(c:V)(cs:I g6)(B:V)(f:V->dr):dP:=let g:=e7 6 (put (e7 4 (put (e7 4 (f' (Zm c cs f) (eZ B))) (.tuple #[]))) (.tuple #[.int .i64 1,.nilIface]));{g with frame:={g.frame with tmps:=anu c B f}}
def anv{a:e8}{o x y z i j k}(b:o.op=.call {callee:=.builtin .min,args:=#[x,y,z],argTypes:=#[3,3,3]})(c:a.eval x=.int .i64 i)(d:a.eval y=.int .i64 j)(f:a.eval z=.int .i64 k)(w):
  (execOp a.eval o).run cQ w=.ok (.value (.int .i64 (min (min i j) k))) w/\ (execOp a.eval o).events cQ w #[]=#[]:=by
 have e:execOp a.eval o=.pure (.value (.int .i64 (if k<(if j<i then j else i) then k else(if j<i then j else i)))):=by simp[execOp,b,ip,iq,c,d,f,builtin,WM,Builtin.min2];rfl
 have g:(if k<(if j<i then j else i) then k else(if j<i then j else i))=min (min i j) k:=R;simp_all
def kW.len{cX cO w dL M B cN l}(h:kW cX cO dL B cN l w M):g7 cQ cX.main cX.F 57 #[eZ B] w λq w'=>q=.int .i64 l.length/\kW cX cO dL B cN l w' M:=by have⟨p,d,O,b,r,c⟩:=h.ex;exact g7.mono (ang (h.jF h.e1) b) λq w' a=>⟨a.1,h.rel a.2⟩
def anw(c):P_ [0] c=eQ c 0:=by
 induction c with
 |zero=>rfl|succ n i=>rw[P_,i];rfl
def anx(c):rep ⟨#[0]⟩ c=⟨(eQ c 0).toArray⟩:=by rw[rep];exact eL (λl=>(⟨List.toArray l⟩:dG)) (anw c)
def anz{main F w}{c:V}(h:c<=32):g7 cQ main F 54 #[.int .u64 1,.int .u64 c] w λq w'=>q=.tuple #[.int .u64 0,.int .u64 c] /\e0 F w w':=by
 iterate 33(rcases Nat.eq_or_lt_of_le h with rfl|h;exact qV Tryz.func54 λcs dy s=>dE.p 115 (s.z ⟨Z,.refl F w⟩);try replace h:=Nat.le_of_lt_succ h)
 cases h
def kW.grow {cX} {w fv} {M} {B k} (K:jE cX w M fv M) (v:gQ cX (fun c=>w.heap.size<=c) M) (dh:B=fv.heap.size) {i} (a:i=fv.alloc (.cells #[.pointer cL,.slice cL 0 0] 52)) {f}
  (m:i.heap.size<=k) (x:ig L B (eZ B) (U k) [] f) (l:h9 cX.F (fun j=>j=B) i f) (s) (C:s.data.toList≠[]) (u:s.size<=1000):
  g7 cQ cX.main cX.F 21 #[eZ B,.string s] f fun q w'=>q=.tuple #[s.size,.nilIface] /\kW cX w M B L s.data.toList w' M:=by
 have h:=fun k m=>K.hK.own k m
 have E:fv.heap.size<=f.heap.size:=by have:=l.size;subst a;have:=J2 fv (.cells #[.pointer cL,.slice cL 0 0] 52);omega
 have z:=K.fc.size
 have n:=a▸K.own (CS h _) fun k F G=>dN (yq _ _ F) G
 have t:=n.Gv l fun k _ S=>by subst S;exact ⟨R,fun o=>K.off R o⟩
 have d:fv.heap.size<=k:=by subst a;have:=J2 fv (.cells #[.pointer cL,.slice cL 0 0] 52);omega
 refine g7.mono (Pw (h B R) (fun j b=>by simp_all) (fun j b=>h j R) (.inr Z) x hN) fun q w' A=>?_
 have⟨e,io,y,r,cM,g⟩:=A;refine ⟨e,t.Gv g fun j _ S=>?_,v,R,fun o=>K.off R o,_,io,.inr Z,by simp_all,fun j b=>?_,fun _=>C⟩
 .rcases S with rfl|S
  .exact ⟨R,fun o=>K.off R o⟩
  .cases S;exact ⟨R,fun o=>K.off d o⟩
 .rcases r with e|⟨fo,p,H⟩
  .rw [e] at b;cases b;exact ⟨R,fun o=>K.off d o⟩
  .rw [p] at b;cases b;exact ⟨R,fun o=>K.off R o⟩
def anB(d6:cQ.follows .mixedOrders=N)(c:V)(e:c<=32):d0 cQ 25 [.str ⟨#[0]⟩,c] (.str ⟨(eQ c 0).toArray⟩):=by
 refine⟨⟨Zn,anC,cV,cV⟩,λcX w M vs gj dt cP=>?_⟩;obtain⟨u,v,rfl,A,cY⟩:=JX cP
 cases A;cases cY
 refine qV anC λcs dy i=>?_;have b:=jE.init gj dt
 match c,e with
 |0,_=>exact dE.p 21 (i.z (b.out (.str _)))|1,_=>exact dE.p 28 (i.z (b.out (.str _)))
 |n+2,e=>
  refine dE.p 39 (dE.k (vs:=#[.int .u64 1,.int .u64 (la .u64 ((n+2:V):J))]) (by rw[show la .u64 ((n+2:V):J)=((n+2:V):J) by rw[IntKind.wrap_u64];omega];exact anz e) λq Y a=>?_);obtain⟨rfl,C⟩:=a;have b:=b.rel C
  refine dE.p 16 (dE.c 34 ((9223372036854775807:J)<((n+2:V):J)) (λh=>by omega) λ_=>dE.p 67 (dE.c 96 ((8192:J)<la .i64 ((n+2:V):J)) (λh=>by rw[rM]at h;omega) λ_=>dE.p 4 (dE.h (Zm (la .i64 ((n+2:V):J)) cs) λJC=>?_)))
  rw[show la .i64 ((n+2:V):J)=((n+2:V):J) by rw[rM];omega];have⟨c,dj⟩:∃c,n+2=c:=⟨_,Z⟩;rw[dj]at e⊢;refine dE.nj 4 (.cells #[.pointer cL,.slice cL 0 0] 52) eZ b.hK.own λfv Q=>?_;have b:=b.rel Q;have o:=λk c_=>b.hK.own k c_;have⟨B,j⟩:∃B,fv.heap.size=B:=⟨_,Z⟩;have⟨p9,g⟩:∃p9,fv.alloc (.cells #[.pointer cL,.slice cL 0 0] 52)=p9:=⟨_,Z⟩
  have D:p9.heap[B]?=U (.cells #[.pointer cL,.slice cL 0 0] 52 (0,0)):=by rw[<-g,<-j];exact Gg fv _
  have l:fv.heap.size<=p9.heap.size:=by rw[<-g];simp
  rw[j,g];refine dE.k (anm (c:=c) d6 (o B R) (λk c_=>o k R) R R (.inl Z) D) λq aa a=>?_;obtain⟨rfl,k,k1,eK,vp⟩:=a;refine dE.p 4 (dE.k (kW.grow b gj j.symm g.symm k1 eK vp ⟨#[0]⟩ cZ cZ) λq E a=>?_);obtain⟨rfl,G⟩:=a
  have loop:∀(d cM:V) (cN:di) (f:V->dr) (w':da),1<=cM->cM+d=c->kW cX w M B cN (eQ cM 0) w' M->dE cX.main cX.F dy (Qa c cs B f) w':=by
   intro d
   induction d using to with
   |_ d H=>
   intro cM cN f w' Q ab T;have m:(eQ cM (0:gM)).length=cM:=p8;refine dE.p 1 (dE.k T.len λq ac a=>?_);obtain⟨rfl,T⟩:=a;rw[m];refine dE.p 3 (dE.c 113 ((cM:J)<c) (λI=>dE.p 6 (dE.k T.len λq Gj a=>?_)) λI=>dE.p 4 (dE.k (T.str d6 R) λq O a=>?_))
   .obtain⟨rfl,T⟩:=a;rw[m];refine dE.p 1 (dE.k T.len λq ad a=>?_);obtain⟨rfl,T⟩:=a;rw[m];obtain⟨K,r⟩:∃K:V,min (min (la .i64 ((c:J)-(cM:J))) (cM:J)) (c:J)=(K:J):=⟨min (c-cM) cM,by rw[rM];omega⟩
    have ae:K<=cM/\cM+K<=c/\1<=K:=by rw[rM]at r;omega
    refine dE.p 1 ?_;refine dE.wS 3 K (λw _=>by rw[<-r];exact anv (x:=.tmp 116) (y:=.tmp 117) (z:=.tmp 118) cV cV cV cV w) λaf P=>?_;have T:=T.rel P;refine dE.k (T.str d6 R) λq O a=>?_;obtain⟨rfl,T⟩:=a;have⟨s,c'⟩:∃s:dG,⟨(eQ cM (0:gM)).toArray⟩=s:=⟨_,Z⟩
    have ag:s.size=cM:=by rw[<-c'];show(eQ cM (0:gM)).toArray.size=cM;simp
    rw[c'];refine dE.p 1 ?_;refine dE.wS 0 (.string (s.extract 0 K)) (λw _=>Zk (x:=.tmp 120) (y:=.tmp 121) cV cV cV R w) λah S=>?_;have T:=T.rel S;have⟨s2,l⟩:∃s2,s.extract 0 K=s2:=⟨_,Z⟩
    have t:s2.data.toList=eQ K 0:=by rw[<-l,<-c'];simp;omega
    have ai:s2.size=K:=by have:s2.data.toList.length=s2.size:=lz;rw[t]at this;simpa using this.symm
    rw[l];refine dE.k (T.Gw (s:=s2) R) λq W a=>?_;obtain⟨rfl,T⟩:=a;rw[t]at T;exact dE.p 5 (dE.h (Qa c cs B) λf=>H (d-K) R (cM+K) N f W R R (by rwa[<-List.replicate_append_replicate]))
   .obtain⟨rfl,T⟩:=a;have X:cM=c:=R
    rw[X]at T⊢;exact dE.p 3 (i.z (by rw[dj];exact T.kw.out (.str _)))
  exact dE.p 6 (dE.h (Qa c cs B) λf=>loop (c-1) 1 L f E (fi 1) R G)
end Go.Lk.Dk
namespace Go.Lk
open Go Go.Proofs
def Ks(s)(c:V)(h:c<=32)(a:s.data=#[0]):d0 cQ 25 [.str s,c] (.str (rep s c)):=by
 have⟨d⟩:=s
 cases a
 rw[Dk.anx];exact Dk.anB nL c h
end Go.Lk
namespace Go.Lk
open Go.Proofs Go.RowKit
def PT(dW:I J):∀s:dG,(dW.foldl (λr n=>r.push (uU n.toNat)) s).data.toList=s.data.toList++dW.map λn=>uU n.toNat:=by
 induction dW with
 |nil=>grind|cons n r i=>simp_all
def anH(dW):(qN dW).data.toList=dW.map λn=>uU n.toNat:=by rw[qN,PT];rfl
def Zq(s:dG):s.size=s.data.toList.length:=(lz).symm
def Zr(dW):(qN dW).size=dW.length:=by rw[Zq,anH,ec]
def Zs(n):(jj n).size=4:=Zr _
def Av:dG:=⟨#[0]⟩
def lg(n:V):dG:=rep Av n
def Zt(n):(lg n).data.toList=eQ n 0:=by show(P_ [0] n)=_;have:=Lib.repeatL_replicate 0 1 n;simp_all
def w2(n):(lg n).size=n:=by rw[Zq,Zt,p8]
def sV(x:e'):dG:=jj x.1.toNat++jj x.2.1.toNat++jj x.2.2.size
def pC(x:e'):dG:=x.2.2++lg (16-x.2.2.size)
def mm(x:e'):dG:=sV x++jj (wX (sV x++pC x)).toNat++pC x
def Zu(x):(sV x).size=12:=by rfl
def Zv{x}(h:x.2.2.size<=16):(pC x).size=16:=by simp[pC,hu,w2];omega
def Aw{x}(h:x.2.2.size<=16):(mm x).size=32:=by simp[mm,hu,Zu,Zv h,Zs]
def C5(x):d0 cQ 249 [.agg (eC x)] (if gB x=N then .dS [.str (mm x),.int .i64 0] else .dS [.str fB,.int .i64 1]):=by
 refine d5 Tryz.func249 1 Z cV (c7 ?_);refine df (GA x) (c7 ?_)
 refine kl (λQ=>?_) λQ=>?_
 .rw[cS eM];rfl
 have cU:gB x=N:=by simpa using Q
 have cY:=lf.1 cU;rw[if_pos cU];refine dF ?_;have⟨a,g⟩:∃a:V,x.1=a:=⟨x.1.toNat,by omega⟩;have⟨b,i⟩:∃b:V,x.2.1=b:=⟨x.2.1.toNat,by omega⟩;rw[g,i];refine df (Kl a R) (c7 ?_);refine df (Kl b R) (c7 ?_);have z:=Zs;refine fz eM (c7 ?_);refine df (Kl x.2.2.size R) (c7 ?_);refine fz eM (c7 ?_);rw[show(16:J)-(x.2.2.size:J)=((16-x.2.2.size:V):J) by omega];refine df (Ks Av (16-x.2.2.size) R cZ) (c7 ?_);refine fz (by rw[show(rep Av (16-x.2.2.size)).size=_ from w2 _];omega) (c7 ?_)
 have f:jj a++jj b++jj x.2.2.size=sV x:=by rw[sV,g,i];rfl
 have t:x.2.2++rep Av (16-x.2.2.size)=pC x:=Z;rw[f,t];refine gT anb (c7 ?_);have j:=Zu x;have k:=Zv cY.2.2.2.2;refine fz R (c7 ?_);refine df (anf (sV x++pC x) eM) (c7 ?_);have⟨c,h⟩:∃c,(wX (sV x++pC x)).toNat=c:=⟨_,Z⟩
 have d:c<4294967296:=by rw[<-h];exact(wX (sV x++pC x)).isLt
 rw[h];refine df (Kl c d) (c7 ?_);refine fz eM (c7 ?_);refine fz eM (c7 ?_)
 have e:sV x++jj c++pC x=mm x:=by rw[mm,h]
 rw[e];exact dg Z Z
def d_:e':=(0,0,fB)
def tY(s:dG):e':=(((ml s 0:V):J),((ml s 4:V):J),s.extract 16 (16+ml s 8))
def l3(s:dG):e'×J:=
 if s.size≠32 then(d_,2) else if s=lg 32 then(d_,3) else if 16<ml s 8 then(d_,9) else
 if gB (tY s)=N/\mm (tY s)=s then(tY s,0) else(d_,9)
def anI(s):d0 cQ 189 [.str s] (.dS [.agg (eC (l3 s).1),(l3 s).2]):=by
 refine d5 Tryz.func189 1 Z cV (c7 ?_)
 refine kV (λQ=>?_) λQ=>?_
 .have e:l3 s=(d_,2):=if_pos R;rw[e];rfl
 have c:s.size=32:=R
 have b:l3 s=if s=lg 32 then(d_,3) else if 16<ml s 8 then(d_,9) else if gB (tY s)=N/\mm (tY s)=s then(tY s,0) else(d_,9):=cS R;rw[b];refine dF ?_;refine df (Ks Av 32 cZ cZ) (c7 ?_)
 refine iG (λa=>?_) λa=>?_
 .rw[if_pos (show s=lg 32 from a)];exact dg Z Z
 rw[cS (show ¬s=lg 32 from a)];refine dF ?_;refine df (Ak s 8 R R) (c7 ?_)
 refine iG (λf=>?_) λf=>?_
 .rw[if_pos R];exact dg Z Z
 rw[cS R];refine dF ?_;refine df (Ak s 0 R R) (c7 ?_);refine df (Ak s 4 R R) (c7 ?_);have⟨n,c0⟩:∃n,ml s 8=n:=⟨_,Z⟩;rw[c0]at f;rw[c0];refine dF ?_;rw[show(16:J)+(n:J)=((16+n:V):J) by omega];refine tv (l:=16) R R (c7 ?_)
 have g:tY s=(((ml s 0:V):J),((ml s 4:V):J),s.extract 16 (16+n)):=by rw[tY,c0]
 rw[g];have h:=C5 (((ml s 0:V):J),((ml s 4:V):J),s.extract 16 (16+n))
 by_cases cU:gB (((ml s 0:V):J),((ml s 4:V):J),s.extract 16 (16+n))=N
 .rw[if_pos cU]at h;refine df h (c7 ?_)
  refine sU (λd=>?_) λd=>?_
  .rw[cS (λq=>d q.2)];exact dg Z Z
  .rw[if_pos ⟨cU,d⟩];exact dg Z Z
 .rw[cS cU]at h;refine df h (c7 ?_);rw[cS (λq=>cU q.1)];exact dg Z Z
def ew(s:dG):I gM:=s.data.toList
def Kw{s t}(h:ew s=ew t):s=t:=by
 cases s;cases t
 simp[ew]at h;simp_all
def Kx(s t):ew (s++t)=ew s++ew t:=by rfl
def Zw(s):(ew s).length=s.size:=lz
def Qd(s a b):ew (s.extract a b)=((ew s).drop a).take (b-a):=by simp[ew,Y5,Array.toList_extract,List.extract]
def anK(n):ew (jj n)=[uU (n%256),uU (n/256%256),uU (n/65536%256),uU (n/16777216%256)]:=by rfl
def Zx(s j):s.data.getD j 0=(ew s)[j]?.getD 0:=by rw[uM,ew,FK]
def Ky{s A B n i}(h:ew s=A++(ew (jj n)++B))(cK:A.length=i)(c0:n<4294967296):ml s i=n:=by
 have get:∀j,j<4->(s.data.getD (i+j) 0)=(ew (jj n))[j]?.getD 0:=λj a=>by
  rw[Zx,h,x7 R,show i+j-A.length=j by omega,wH (by assumption)]
 have g:=get 0 cZ;rw[Cu]at g;rw[ml,g,get 1 cZ,get 2 cZ,get 3 cZ,anK];simp;omega
def anL{x}(h:gB x=N):tY (mm x)=x:=by
 have cY:=lf.1 h
 have e:∀a b c d:dG,∀t:dG,ew (a++b++c++d++t)=ew a++(ew b++(ew c++(ew d++ew t))):=λa b c d t=>by simp[Kx,j4]
 have f:ew (mm x)=ew (jj x.1.toNat)++(ew (jj x.2.1.toNat)++(ew (jj x.2.2.size)++(ew (jj (wX (sV x++pC x)).toNat)++ew (pC x)))):=e _ _ _ _ _
 have l:∀n,(ew (jj n)).length=4:=λn=>by rfl
 have g:ml (mm x) 0=x.1.toNat:=Ky (A:=[]) (by rw[f];rfl) Z R;have i:=Ky (A:=ew (jj x.1.toNat)) f (l _) R;have j:=Ky (A:=ew (jj x.1.toNat)++ew (jj x.2.1.toNat)) (by rw[f,j4]) (by rw[kv,l,l]) R;rw[tY,g,i,j];refine Prod.ext ?_ (Prod.ext ?_ ?_)
 .omega
 .grind
 .apply Kw;rw[Qd,f,show 16+x.2.2.size-16=x.2.2.size by omega];rw[show ew (jj x.1.toNat)++(ew (jj x.2.1.toNat)++(ew (jj x.2.2.size)++(ew (jj (wX (sV x++pC x)).toNat)++ew (pC x))))=(ew (jj x.1.toNat)++ew (jj x.2.1.toNat)++ew (jj x.2.2.size)++ew (jj (wX (sV x++pC x)).toNat))++ew (pC x) by rfl];rw[List.drop_append_of_le_length eM,CY eM,vh,pC,Kx,<-Zw,List.take_left]
def anM{x}(h:gB x=N):l3 (mm x)=(x,0):=by
 have cY:=lf.1 h;have g:=anL h
 have k:ml (mm x) 8=x.2.2.size:=by
  have:=eL (λy:e'=>y.2.2.size) g
  have l:∀n,(ew (jj n)).length=4:=λn=>by rfl
  have e:∀a b c d:dG,∀t:dG,ew (a++b++c++d++t)=ew a++(ew b++(ew c++(ew d++ew t))):=λa b c d t=>by simp[Kx,j4]
  exact Ky (A:=ew (jj x.1.toNat)++ew (jj x.2.1.toNat)) f0 f0 R
 have i:¬mm x=lg 32:=λq=>by
  have f:ml (mm x) 0=x.1.toNat:=by have:=eL (λy:e'=>y.1) g;simp[tY]at this;omega
  rw[q,ml]at f
  have z:∀j,(lg 32).data.getD j 0=0:=λj=>by
   rw[Zx,show ew (lg 32)=_ from Zt 32,tI];split<;>rfl
  rw[z,z,z,z]at f;omega
 rw[l3,cS (by rw[Aw cY.2.2.2.2];decide),cS i,cS R,g,if_pos ⟨h,Z⟩]
def Zy:l3 (lg 32)=(d_,3):=by rfl
abbrev Wt:=J×dG
def hW(s:dG):I c3:=[.str s]
def fs(w:Wt):I c3:=[w.1,.str w.2]
structure gA where
 sec:I dG
 fy:I Wt
def gA.cells(d:gA):I c3:=[.dm (d.sec.map hW),.dm (d.fy.map fs)]
def iO(d:gA):c3:=.agg [.dm (d.sec.map hW),.dm (d.fy.map fs)]
def sW(n:V)(w:Wt):di:=gy (0<=w.1)&&(decide (w.1<n)&&decide (w.2.size=16))
def yz{n w}:sW n w=N↔0<=w.1/\w.1<n/\w.2.size=16:=by simp[sW]
structure pD(d:gA):Prop where
 s1:1<=d.sec.length
 s2:d.sec.length<=64
 hi:d.fy.length<=200
 s:∀i,(h:i<d.sec.length)->d.sec[i].size=16
 c:∀i,(h:i<d.fy.length)->sW d.sec.length d.fy[i]=N
open Classical in
def C6(d:gA):di:=gy (pD d)
def Ax{d}:C6 d=N↔pD d:=by simp[C6]
def yA{d}:C6 d=L↔¬pD d:=by simp[C6]
def Zz:∀(l:I dG),gZ 1 (l.map hW)=N
 | []=>rfl|_::r=>Zz r
def ZA:∀(l:I Wt),gZ 2 (l.map fs)=N
 | []=>rfl|_::r=>ZA r
def ZB(d w):d0 cQ 240 [iO d,.agg (fs w)] (.bool (sW d.sec.length w)):=by
 refine d5 Tryz.func240 2 Z cV (cO ?_)
 have d6:(d.sec.map hW).length=d.sec.length:=ec ..
 refine dF ?_
 refine dT (λQ=>?_) λQ=>?_
 rotate_left
 .refine dF ?_;exact dg Z (eL c3.bool (by symm;rw[<-Ni,yz];omega))
 refine dF ?_
 refine dT (λc5=>?_) λc5=>?_
 rotate_left
 .refine dF ?_;exact dg Z (eL c3.bool (by symm;rw[<-Ni,yz];omega))
 refine dF (dg Z (eL c3.bool ?_))
 by_cases a:(w.2.size:J)=16
 .rw[decide_eq_true a];symm;rw[yz];omega
 .rw[decide_eq_false a];symm;rw[<-Ni,yz];omega
def GC(d):d0 cQ 176 [iO d] (.bool (C6 d)):=by
 refine d5 Tryz.func176 1 Z cV (cO ?_)
 have m:(d.sec.map hW).length=d.sec.length:=ec ..
 have c:(d.fy.map fs).length=d.fy.length:=ec ..
 refine dF ?_
 refine iG (λQ=>?_) λQ=>?_
 .exact dg Z (eL c3.bool (yA.2 λh=>by have:=h.s1;omega).symm)
 refine dF ?_
 refine iG (λb=>?_) λb=>?_
 .exact dg Z (eL c3.bool (yA.2 λh=>by have:=h.s2;omega).symm)
 refine dF ?_
 refine pA (λl=>?_) λl=>?_
 .exact dg Z (eL c3.bool (yA.2 λh=>HS).symm)
 refine eW (D:=V) (λk=>[(1,.ptr 1 0 0),(24,.d (.dm (d.sec.map hW))),(25,.d (d.sec.map hW).length),(26,.d k)]) (λ_=>[(1,.box [.d (.dm (d.sec.map hW)),.d (.dm (d.fy.map fs))] L)])
  (λk=>k<=d.sec.length/\ ∀i,i<k->(h:i<d.sec.length)->d.sec[i].size=16) (λk=>d.sec.length-k) 0 ⟨R,R⟩ (dX (dH ff ez dV)) ?_
 rintro k ⟨f,cU⟩
 conv=>whnf
 refine mj (λdu=>?_) λdu=>?_
 .have eR:k<d.sec.length:=R
  refine ea R (cO ?_);refine d2 (x:=hW d.sec[k]) iJ (c7 ?_)
  refine kV (λdY=>?_) λdY=>?_
  .exact dg Z (eL c3.bool (yA.2 λh=>by have:=h.s k eR;omega).symm)
  refine dF ?_
  exact⟨k+1,⟨R,λi cK h=>by
   grind⟩,R,(dX (dH ff ez dV))⟩
 .refine eW (D:=V) (λk=>[(1,.ptr 1 0 0),(35,.d (.dm (d.fy.map fs))),(36,.d (d.fy.map fs).length),(37,.d k)]) (λ_=>[(1,.box [.d (.dm (d.sec.map hW)),.d (.dm (d.fy.map fs))] L)])
   (λk=>k<=d.fy.length/\ ∀i,i<k->(h:i<d.fy.length)->sW d.sec.length d.fy[i]=N) (λk=>d.fy.length-k) 0 ⟨R,R⟩ (dX (dH ff ez dV)) ?_
  rintro j ⟨e,S⟩
  conv=>whnf
  refine mj (λn=>?_) λn=>?_
  .have a:j<d.fy.length:=R
   refine ea R (cO ?_);refine d2 (x:=fs d.fy[j]) (by simp[a]) (c7 ?_);refine df (ZB d d.fy[j]) (c7 ?_)
   refine kl (λg=>?_) λg=>?_
   .exact dg Z (eL c3.bool (yA.2 λh=>by rw[h.c j a]at g;simp_all).symm)
   refine dF ?_
   exact⟨j+1,⟨R,λi cK h=>by
    grind⟩,R,(dX (dH ff ez dV))⟩
  .exact dg Z (eL c3.bool (Ax.2 ⟨R,R,R,λi h=>cU i R h,λi h=>S i R h⟩).symm)
def pE(s:I dG)(l:I Wt):I dG:=l.foldl (λs w=>s.set w.1.toNat w.2) s
def GD:∀l s,(pE s l).length=s.length
 | [],s=>rfl
 |w::r,s=>by
  show(pE (s.set w.1.toNat w.2) r).length=_;rw[GD r,iu]
def anN(s l w):pE s (l++[w])=(pE s l).set w.1.toNat w.2:=by simp[pE]
def pick(n:J)(l:I Wt)(b:dG):dG:=l.foldl (λb w=>if w.1=n then w.2 else b) b
def jk(d:gA)(n:J):dG:=pick n d.fy (d.sec[n.toNat]?.getD fB)
def Qe{n}:∀ {l b},(∀w∈l,w.1≠n)->pick n l b=b
 | [],b,_=>rfl
 |w::r,b,h=>by
  show pick n r (if w.1=n then w.2 else b)=b;rw[cS (h w (mK ..)),Qe λx a=>h x (lX _ a)]
def anO(n l r b):pick n (l++r) b=pick n r (pick n l b):=by simp[pick]
def anP{n l k}(d:k<l.length)(h:l[k].1=n)(cU:∀j,k<j->(c:j<l.length)->l[j].1≠n)(b):pick n l b=l[k].2:=by
 have e:l=l.take k++l[k]::l.drop (k+1):=eM
 have a:=eL (λx=>pick n x b) e;rw[a,anO];show pick n (l.drop (k+1)) (if l[k].1=n then l[k].2 else pick n (l.take k) b)=_;rw[if_pos h,Qe];intro w hw;obtain⟨i,cK,rfl⟩:=kr.1 hw;grind
def ZC(l:I dG)(b:l.length<=1000000):kg cQ 98 [.dm (l.map hW)] (l.map hW) 1:=by
 refine lZ Tryz.func98 1 Z cV (cO (oX (cO ?_)));intro r a
 conv=>whnf
 refine nk (λh=>?_) λh=>?_
 .have:=a h;exact⟨2,Z,.inr ⟨Z,this⟩⟩
 .refine fz (Zz l) (cO ?_);refine fO 1000100 100 Bq cZ cZ cZ (cO ?_);exact⟨2,Z,.inl ⟨5,Z,Z⟩⟩
def ZD(l:I Wt)(b:l.length<=1000000):kg cQ 99 [.dm (l.map fs)] (l.map fs) 2:=by
 refine lZ Tryz.func99 1 Z cV (cO (oX (cO ?_)));intro r a
 conv=>whnf
 refine nk (λh=>?_) λh=>?_
 .have:=a h;exact⟨2,Z,.inr ⟨Z,this⟩⟩
 .refine fz (ZA l) (cO ?_);refine fO 1000100 100 Bq cZ cZ cZ (cO ?_);exact⟨2,Z,.inl ⟨5,Z,Z⟩⟩
def anQ(d l)(cP:d.sec.length<=1000)(b:l.length<=1000)(h:∀i,(cK:i<l.length)->sW d.sec.length l[i]=N):
  d0 cQ 277 [iO d,.dm (l.map fs)] (iO ⟨pE d.sec l,[]⟩):=by
 refine d5 Tryz.func277 2 Z cV (cO ?_)
 have c:(l.map fs).length=l.length:=ec ..
 refine dF ?_;refine gT (ZC d.sec R) (c7 ?_);refine eW (D:=V) (λk=>[(4,.ptr 4 0 0),(5,.own 10),(11,.d (.dm (l.map fs))),(12,.d (l.map fs).length),(13,.d k)]) (λk=>[(4,.box [.nil,.nil] L),(10,.row ((pE d.sec (l.take k)).map hW) 1 L)])
  (λk=>k<=l.length) (λk=>l.length-k) 0 R (dX (dH gO lO dV)) ?_
 intro k a
 conv=>whnf
 refine mj (λdu=>?_) λdu=>?_
 .have eR:k<l.length:=R
  have hw:=yz.1 (h k eR);have n:=GD (l.take k) d.sec
  have m:((pE d.sec (l.take k)).map hW).length=(pE d.sec (l.take k)).length:=ec ..
  refine ea R (cO ?_);refine d2 (x:=fs l[k]) iJ (c7 ?_);refine kn R R (cO ?_);have c0:l[k].1.toNat<(pE d.sec (l.take k)).length:=R;refine d2 (x:=hW ((pE d.sec (l.take k))[l[k].1.toNat])) (by simp[c0]) (c7 ?_);refine⟨k+1,R,R,dX (dH gO ⟨Z,?_,dM⟩ dV)⟩;rw[mb eR,anN,rQ];rfl
 .have e:l.take k=l:=vm R;rw[e];rfl
open Classical in
def w3(d:gA):gA:=if pD d then ⟨pE d.sec d.fy,[]⟩ else d
open Classical in
def q7(d:gA)(w:Wt):gA×J:=if pD d/\sW d.sec.length w=N then(if 200<=d.fy.length then(d,7) else(⟨d.sec,d.fy++[w]⟩,0)) else(d,1)
def anR(d):d0 cQ 223 [iO d] (iO (w3 d)):=by
 refine d5 Tryz.func223 1 Z cV (c7 ?_);refine df (GC d) (c7 ?_)
 refine kl (λQ=>?_) λQ=>?_
 .have c0:=yA.1 pm;rw[w3,cS c0];rfl
 have cU:=Ax.1 pm;rw[w3,if_pos cU];have a:=cU.s2;have fh:=cU.hi;refine dF ?_;refine df (anQ d d.fy R R cU.c) (c7 ?_);exact dg Z Z
def anS(d w):d0 cQ 239 [iO d,.agg (fs w)] (.dS [iO (q7 d w).1,(q7 d w).2]):=by
 refine d5 Tryz.func239 2 Z cV (c7 ?_);refine df (GC d) (c7 ?_)
 refine kl (λQ=>?_) λQ=>?_
 .have c0:=yA.1 pm;rw[q7,cS (λq=>c0 q.1)];exact dg Z Z
 have cU:=Ax.1 pm;have b:=cU.s2;have fh:=cU.hi
 have m:(d.fy.map fs).length=d.fy.length:=ec ..
 refine dF ?_;refine df (ZB d w) (c7 ?_)
 refine kl (λc5=>?_) λc5=>?_
 .rw[q7,cS (λq=>by simp_all)];exact dg Z Z
 have W:=sn;rw[q7,if_pos ⟨cU,W⟩];refine dF ?_
 refine iG (λa=>?_) λa=>?_
 .rw[if_pos R];exact dg Z Z
 rw[cS R];refine dF ?_;refine gT (ZD d.fy R) (c7 ?_);refine fO 1000100 1000 (by show pt _+1<=1000100;omega) cZ cZ cZ (c7 ?_);apply dg Z;rw[iO,jl];rfl
def jN:dG:=lg 16
def vq(k:V):I (I c3):=(iz 35).map λj=>hW (if j<k then jN else fB)
def anT:eQ 35 (hW fB)=vq 0:=by rfl
def anU{i}(cK:i<35):(vq i).set i (hW jN)=vq (i+1):=by
 apply List.ext_getElem
 .simp[vq]
 .intro j Q h;rw[As];simp[vq,List.getElem_map,List.getElem_range];grind
def iH:gA:=⟨eQ 35 jN,[]⟩
def anV:d0 cQ 15 [.int .i64 35] (.dS [iO iH,.int .i64 0]):=by
 refine d5 Tryz.func15 1 Z cV (c7 ?_);refine fO 1000 1000 cZ cZ cZ cZ (c7 ?_);rw[show eQ (35:J).toNat (T 9).zero=vq 0 from anT];refine eW (D:=V) (λk=>[(2,.ptr 2 0 0),(4,.own 14),(16,.d (.int .i64 35)),(17,.d k)]) (λk=>[(2,.box [.nil,.nil] L),(14,.row (vq k) 1 L)])
  (λk=>k<=35) (λk=>35-k) 0 R (dX (dH ⟨Z,Z,cV,Z,dM⟩ lO dV)) ?_
 intro k b
 have f:(vq k).length=35:=by simp[vq]
 conv=>whnf
 refine mj (λdu=>?_) λdu=>?_
 .have a:k<35:=R
  refine dF ?_;refine df (Ks Av 16 cZ cZ) (c7 ?_);refine ea R (cO ?_);refine d2 (x:=hW (if k<k then jN else fB)) (by simp[vq,a]) (c7 ?_);refine⟨k+1,R,R,dX (dH ff ⟨Z,?_,dM⟩ dV)⟩;rw[<-anU a];rfl
 .have e:k=35:=R;subst e;rfl
namespace Dk
section
open Go.Conc Go.Lib Go.Proofs
set_option maxRecDepth 100000
theorem ZP{F tmps w a c s}{k:J}(A:tmps.getD 4 undef=eZ a)(B:tmps.getD 5 undef=eZ c)(fb:w.heap[a]?=U (.cells #[.string s] 9 (0,0)))(du:w.heap[c]?=U (.cells #[k] 47 (0,0)))(n:¬F a)(m:¬F c):
  uL cQ F Ay tmps (.tuple #[.string s,k]) w:=λc2 r=>by
 have h:c2.cell? ⟨a,0,cL⟩=U (.string s):=ni ((r.block _ n).trans fb) Z;have p:c2.cell? ⟨c,0,cL⟩=U k:=ni ((r.block _ m).trans du) Z;have j:(isAgg 9).run cQ c2=.ok L c2:=cV;have g:(isAgg 47).run cQ c2=.ok L c2:=cV;have z:=λt es=>ed.isAgg t cQ c2 es
 have o:(load ⟨a,0,cL⟩).run cQ c2=.ok (.string s) c2:=eM
 have q:(load ⟨c,0,cL⟩).run cQ c2=.ok k c2:=eM
 have u:∀es,(load ⟨a,0,cL⟩).events cQ c2 es=es.push ⟨.cell ⟨a,0,cL⟩,L,L⟩:=λes=>by rw[Jd,h];rfl
 have v:∀es,(load ⟨c,0,cL⟩).events cQ c2 es=es.push ⟨.cell ⟨c,0,cL⟩,L,L⟩:=λes=>by rw[Jd,p];rfl
 have d:Ay.results=#[.cell 4 9,.cell 5 47]:=cV;have O:∀b,eZ b=.pointer (U ⟨b,0,cL⟩):=λb=>Z
 have f:tmps[4]?.getD undef=eZ a:=by simpa using A
 have i:tmps[5]?.getD undef=eZ c:=by simpa using B
 have e:results Ay tmps=(do let x <-loadVar 9 ⟨a,0,cL⟩;let y <-loadVar 47 ⟨c,0,cL⟩;pure (.tuple #[x,y])):=by unfold results;rw[d];simp[f,i,asAddr,eZ]
 rw[e];constructor
 .simp[loadVar,j,g,o,q,h,p]
 .intro e l;simp[loadVar,j,g,z,o,q,u,v,h,p]at l;rcases l with rfl|rfl
  .exact⟨Z,n⟩
  .exact⟨Z,m⟩
def zy(p:sX)(s:dG)(k:J):I (V×Obj):=[(p.B+3,.cells #[k] 47 (0,0)),(p.B+2,.cells #[.string s] 9 (0,0)),(p.B+1,.cells #[p.n] 3 (0,0)),(p.B,.cells #[p.S,p.C] 43 (0,0))]
section
variable {cX:jy} {cO w:da} {dL M:eI} {p:sX} {f:V->dr} {dy:dP->da->Prop}
def KD(cX:jy)(cO:da)(dL M:eI)(p:sX)(dy:dP->da->Prop)(s:dG)(k:J):Prop:=∀d8 todo w',d8.defers=[]->gw cX cO dL w' M []->uL cQ cX.F Ay d8.tmps (.tuple #[.string s,k]) w'->dE cX.main cX.F dy (G {(base 171).at d8 todo with mode:=.returning} p.cs) w'
theorem Qm(A:hH cX cO dL w M (zy p ⟨#[]⟩ 0))(c:KD cX cO dL M p dy ⟨#[]⟩ 1):dE cX.main cX.F dy (GF p f) w:=by
 refine dE.p 1 ?_;refine A.st 0 1 0 (.string ⟨#[]⟩) λw A=>?_;refine A.st 2 0 0 (.int .i64 1) λw A=>?_
 exact dE.e (g':=G {(base 171).at (eA (ZN p f)) (ZN p f).frame.todo with mode:=.returning} p.cs) (c _ _ _ cV (A.sub nofun) (ZP cV cV (A.gt 1).2.1 (A.gt 0).2.1 (A.ne 1) (A.ne 0)))
end
end
section
open Go.Conc Go.Lib Go.Proofs
set_option maxRecDepth 100000
structure Rows(M:eI)(p:sX)(d:gA):Prop where
 ls:p.C8=d.sec.length
 lc:p.len=d.fy.length
 gJ:∀j s,d.sec[j]?=U s->∃b off,p.w4=U ⟨b,off,cL⟩ /\M b (off+j)=U (.string s)
 hC:∀j x,d.fy[j]?=U x->∃b off,p.a=U ⟨b,off,cL⟩ /\M b (off+j*2)=U (.int .i64 x.1) /\M b (off+j*2+1)=U (.string x.2)
def ZQ(p:sX)(db:V):I (V×Obj):=[(db+1,.deferred (U [])),(db,.cells #[p.C] 41 (0,0))]
def ZR(d:gA)(n:J)(s:dG):Prop:=(∃(k:V) (z:J×dG),d.fy[k]?=U z/\z.1=n/\s=z.2/\ ∀(j) (dh:J×dG),k<j->d.fy[j]?=U dh->dh.1≠n) \/ ((∀(j:V) (dh:J×dG),d.fy[j]?=U dh->dh.1≠n) /\ ∃j:V,n=j/\d.sec[j]?=U s)
section
variable {cX:jy} {cO w:da} {dL M:eI} {p:sX} {f:V->dr} {db:V} {eb:g3} {y:dG} {dy:dP->da->Prop} {d:gA} {g:dP}
theorem ZS{s}(A:hH cX cO dL w M (ZQ p db++zy p s 0))(c:KD cX cO dL M p dy s 0)(e:g=G g.frame p.cs:=by kernel_rfl)(m:g.frame.mode=.returning:=by kernel_rfl)(cP:g.frame.defers=[{target:=.collected (db+1),args:=#[]}]:=by kernel_rfl)(k1:g.frame.fn=171:=by kernel_rfl)(eK:g.frame.kind=.normal:=by kernel_rfl)(vp:g.frame.roundOf=cL:=by kernel_rfl)
  (t:g.frame.tmps.getD 4 undef=eZ (p.B+2):=by kernel_rfl)(f:g.frame.tmps.getD 5 undef=eZ (p.B+3):=by kernel_rfl):dE cX.main cX.F dy g w:=by
 refine A.sp 0 (.deferred cL) (λw h=>an1 (dx:=[]) (args:=#[]) (cs:=p.cs) m cP h) (λw A=>?_) (e:=e)
 generalize g.frame=cN at *
 have F:({cN with defers:=[]}:g6)={(base 171).at ⟨cN.tmps,[]⟩ cN.todo with mode:=.returning}:=by have⟨g,i,a,b,d,j,l⟩:=cN;simp only at m k1 eK vp;subst m k1 eK vp;rfl
 rw[F];exact c ⟨cN.tmps,[]⟩ _ _ Z (A.sub nofun) (ZP t f (A.gt 3).2.1 (A.gt 2).2.1 (A.ne 3) (A.ne 2))
theorem aof(g:Rows dL p d)(ai:p.len<=1000)(I:∀s,ZR d p.n s->KD cX cO dL M p dy s 0){m:V}(d6:p.n=(m))(ab:m<p.C8){o}(ac:o=yB p db)(cM:o.state=.ready)(D:o.pending=cL)(ad:o.params=#[25,26]):
  ∀k f w,k<=p.len->hH cX cO dL w M ((db+2,.loop o)::(ZQ p db++zy p ⟨#[]⟩ 0))->(∀j z,p.len-k<=j->d.fy[j]?=U z->z.1≠p.n)->dE cX.main cX.F dy (KB p f db ((p.len:J)-1-(k))) w:=by
 intro k
 induction ae:p.len-k using to generalizing k with
 |_ r af=>
 intro f w c_ A S;refine dE.p 4 (dE.c 8 (0<=(p.len:J)-1-(k:J)) (λh=>?_) λh=>dE.p 4 ?_)
 .have⟨j,dU⟩:∃j:V,(p.len:J)-1-(k:J)=(j:J):=⟨p.len-1-k,R⟩;rw[dU]
  have O:j<d.fy.length:=by have:=g.lc;omega
  have⟨b,off,dt,q5,w0⟩:=g.hC j _ (fq O);have⟨z,T⟩:∃z,d.fy[j]=z:=⟨_,Z⟩
  have X:d.fy[j]?=U z:=by rw[fq O,T]
  rw[T]at q5 w0;have⟨x,y⟩:=z;refine dE.p 8 ?_;refine A.nK 1 2 0 λw A=>?_;refine dE.ZK (b:=b) (off:=off) (n:=p.len) (c:=p.cap) (i:=j) 191 2 R (by rw[<-dt];kernel_rfl) λw r=>?_;have A:=A.rel r
  have K:=λi v (h:dL b i=U v)=>A.K.sub _ _ _ h
  refine dE.el (u:=.int .i64 x) (v:=.string y) (A.K.hK.mem _ _ _ (K _ _ q5)) (λw r=>have A:=A.rel r;⟨A.K.mP _ _ _ (K _ _ q5),A.K.mP _ _ _ (K _ _ w0)⟩) λw r=>?_;have A:=A.rel r
  have⟨eb,ag⟩:∃eb:g3,⟨b,off+j*2,cL⟩=eb:=⟨_,Z⟩;rw[ag];refine dE.e (g':=tZ p f db j eb x y) ?_
  have W:iD (tZ p f db j eb x y):=kP;refine dR.nx W.run λE fb=>?_;have A:=A.rel fb;have⟨B,C⟩:=an2 (P:=cQ) (w:=E) (a:=eA (tZ p f db j eb x y)) (o:=e6 (tZ p f db j eb x y)) (l:=db+2) (f:=.tmp 11) (x:=.tmp 12) (y:=.tmp 16) (ats:=#[3,191]) (r:=o) (u:=.int .i64 j) (v:=.agg #[x,.string y]) cV cV cV cV (A.gt 0).2.1 ad;have Y:=iD.round (main:=cX.main) W B;rw[ac]at Y;refine⟨aoe p f db j eb x y,E,_,Y,an9 (A.ne 0) (C7 C),dE.p 1 ?_⟩
  have⟨aob,e⟩:=c' E;refine A.nj 0 e (.cells #[.int .i64 0,.string ⟨#[]⟩] 191) eZ λw A _=>?_;refine A.ZJ 1 0 0 (x:=.int .i64 x) (y:=.string y) ⟨Z,Z⟩ ⟨Z,Z⟩ λw A=>?_
  refine A.sp 1 (.loop {o with state:=.busy}) (λw h=>anW (cs:=(tZ p f db j eb x y).frame::(tZ p f db j eb x y).callers) cV cV cV cV h cM) λw A=>?_
  refine dE.p 4 ?_;refine A.nK 0 0 0 λw A=>?_;refine A.nK 2 6 0 λw A=>?_;refine dE.c 30 (x=p.n) (λq=>dE.p 4 ?_) λq=>dE.p 3 ?_
  .refine A.nK 0 0 1 λw A=>?_;refine A.st 0 5 0 (.string y) λw A=>?_;refine A.st 1 4 0 (.int .i64 0) λw A=>?_
   refine A.sp 1 (.loop {o with state:=.done,pending:=U .ret}) (λw h=>anZ (c:=(tZ p f db j eb x y).frame) (cs:=(tZ p f db j eb x y).callers) (r:={o with state:=.busy}) cV cV cV cV h) λw A=>?_
   refine dE.q (KC p db [.endRangeFunc (db+2)]) 5 ?_
   refine A.sp 1 (.loop {o with state:=.exhausted,pending:=U .ret}) (λw h=>ZF (cs:=p.cs) (k:=(GG p db).todo.tail) (r:={o with state:=.done,pending:=U .ret}) cV cV h (.inr Z)) λw A=>?_
   exact dE.p 1 (ZS A.h6.h6 (I y (.inl ⟨j,(x,y),X,q,Z,λde dh Q H=>S de dh R H⟩)))
  .refine A.sp 1 (.loop {o with state:=.ready,pending:=cL}) (λw h=>anY (c:=(tZ p f db j eb x y).frame) (cs:=(tZ p f db j eb x y).callers) (r:={o with state:=.busy}) cV cV cV cV h) λw A=>dE.p 13 (dE.h (λf=>KB p f db (la .i64 ((j:J)-1))) λf=>?_)
   rw[show({o with state:=.ready,pending:=cL}:Loop)=o by have⟨aj,ak,al,am,an,ao,ap,aq⟩:=o;simp only at cM D;subst cM D;rfl]at A;rw[show la .i64 ((j:J)-1)=(p.len:J)-1-((k+1:V):J) by rw[rM];omega];refine af (p.len-(k+1)) R (k+1) Z _ _ R A.h6 λde dh Q H=>?_
   by_cases e:de=j
   .subst e;rw[X]at H
    cases H
    exact q
   .exact S de dh R H
 .have ae:k=p.len:=R
  have dc:m<d.sec.length:=by have:=g.ls;omega
  have⟨b,off,dt,q5⟩:=g.gJ m _ (fq dc);have⟨y,aa⟩:∃y,d.sec[m]=y:=⟨_,Z⟩;rw[aa]at q5
  refine dE.e (g':=KC p db [.endRangeFunc (db+2)]) ?_;refine A.sp 0 (.loop {o with state:=.exhausted}) (λw h=>ZF (cs:=p.cs) (k:=(GG p db).todo.tail) (r:=o) cV cV h (.inl cM)) λw A=>?_
  have ah:∀o4,o4=[]->G {(KC p db [.endRangeFunc (db+2)]).frame with todo:=o4++(GG p db).todo.tail} p.cs=KC p db []:=λo4 h=>by subst h;kernel_rfl
  rw[ah _ (show(o.pending.map an0).toList=[] by rw[D];rfl)]
  refine dE.p 4 ?_;refine A.nK 0 6 0 λw A=>?_;refine A.nK 0 5 0 λw A=>?_;refine dE.ZK (b:=b) (off:=off) (n:=p.C8) (c:=p.ZL) (i:=m) 9 1 ab (by rw[<-dt];kernel_rfl) (λw r=>?_) (by rw[<-d6];kernel_rfl);have A:=A.rel r
  rw[Jq];refine dR.load (t:=9) (x:=.tmp 36) (eb:=⟨b,off+m,cL⟩) (v:=.string y) kP cV cV (λw=>cV) (λw r=>(A.rel r).K.mP _ _ _ (A.K.sub _ _ _ q5)) (λw es r he=>Yg (A.K.hK.mem _ _ _ (A.K.sub _ _ _ q5)) he w) λw r=>?_;have A:=A.rel r
  generalize (⟨b,off+m,cL⟩:g3)=eb;refine A.st 0 4 0 (.string y) λw A=>?_;refine A.st 2 3 0 (.int .i64 0) λw A=>?_
  exact ZS A.h6 (I y (.inr ⟨λde dh h=>S de dh R h,m,d6,by rw[fq dc,aa]⟩))
end
end
end Dk
end Go.Lk
namespace Go.Lk
open Go
def aog(d:gA)(n:J):Prop:=pD d/\0<=n/\n<d.sec.length
open Classical in
def q8(d:gA)(n:J):dG×J:=if aog d n then(jk d n,0) else(fB,1)
def ZT{M x y vs}(h:vs.size=2)(cP:∀(i:V) (d v),[x,y][i]?=U d->vs[i]?=U v->e4 M d v):∃u v,vs=#[u,v] /\e4 M x u/\e4 M y v:=by
 have⟨l⟩:=vs
 match l,h,cP with
 | [u,v],_,cP=>exact⟨u,v,Z,cP 0 _ _ Z Z,cP 1 _ _ Z Z⟩
end Go.Lk
namespace Go.Lk.Dk
open Go Go.Conc Go.Proofs Go.Lib
set_option maxRecDepth 100000
def ZU{M l u}(h:e4 M (.dm l) u):∃eb c,u=.slice eb l.length c/\ ∀i e,l[i]?=U e->∃b off,eb=U ⟨b,off,cL⟩ /\ ∀j x,e[j]?=U x->∃v,M b (off+i*e.length+j)=U v/\e4 M x v:=by
 have⟨d,cP⟩:∃d,c3.dm l=d:=⟨_,Z⟩;rw[cP]at h
 cases h with
 |emp a c=>simp_all
 |dm f b off cap cR val dv c' d6 g=>
  cases cP
  grind
 |_=>cases cP
def aoh{d}{n:J}{s}(h:pD d)(cW:0<=n)(Q:n<d.sec.length)
  (g:ZR d n s):q8 d n=(s,0):=by
 rw[q8,if_pos ⟨h,cW,Q⟩];apply eL (λz=>(z,(0:J)));rcases g with⟨k,z,Q,c,rfl,eG⟩|⟨Q,j,c,eG⟩
 .obtain⟨f,rfl⟩:=f_.1 Q;exact anP f c (λj e b=>eG j _ e (fq b)) _
 .rw[jk,Qe λz l=>?_]
  .simp_all
  .obtain⟨i,cK,rfl⟩:=kr.1 l;exact Q i _ (fq cK)
def aoi(ar:cQ.follows .mixedOrders=N)(d n):d0 cQ 171 [iO d,.int .i64 n] (.dS [.str (q8 d n).1,.int .i64 (q8 d n).2]):=by
 refine⟨⟨Ay,aoj,cV,cV⟩,λcX w M vs gj dt cP=>?_⟩;obtain⟨u,v,rfl,l,cY⟩:=ZT cP.1 cP.2
 cases cY
 have dc:=l
 obtain⟨us,rfl,t⟩:∃us:d' dr,u=.agg us/\ (us.size=2/\ ∀(i:V) (x:c3) (v:dr),[c3.dm (d.sec.map hW),.dm (d.fy.map Go.Lk.fs)][i]?=U x->us[i]?=U v->e4 M x v):=by
  cases l with
  |agg c us dv au=>grind
 obtain⟨s1,s2,rfl,Q,c5⟩:=ZT t.1 t.2;obtain⟨w4,y,rfl,ab⟩:=ZU Q;obtain⟨a,cap,rfl,ac⟩:=ZU c5
 have ad:(d.sec.map hW).length=d.sec.length:=ec ..
 have ae:(d.fy.map Go.Lk.fs).length=d.fy.length:=ec ..
 rw[ad,ae]at dc⊢;refine Vm (c:=Ay.body.getD .skip) aoj cV cV λcs dy af=>?_;have A:=hH.init gj dt
 obtain⟨q,D,E,F,H,ag,ah,ai,aj,ak⟩:∃q:sX,q.n=n/\q.cs=cs/\q.S=.slice w4 d.sec.length y/\q.C=.slice a d.fy.length cap/\q.C8=d.sec.length/\q.len=d.fy.length/\w.heap.size=q.B/\q.w4=w4/\q.a=a:=⟨⟨w4,d.sec.length,y,a,d.fy.length,cap,n,cs,w.heap.size⟩,Z,Z,Z,Z,Z,Z,Z,Z,Z⟩
 have cU:Rows M q d:=by
  refine⟨ag,ah,λj s c'=>?_,λj x O=>?_⟩
  .have⟨b,off,e,k⟩:=ab j (hW s) (by rw[ir,c'];rfl);have⟨v,k1,eK⟩:=k 0 (.str s) Z
   cases eK
   exact⟨b,off,aj.trans e,by simpa[hW]using k1⟩
  .have⟨b,off,e,k⟩:=ac j (Go.Lk.fs x) (by rw[ir,O];rfl);have⟨v,k1,eK⟩:=k 0 (.int .i64 x.1) Z;have⟨fN,vp,al⟩:=k 1 (.str x.2) Z
   cases eK
   cases al
   exact⟨b,off,ak.trans e,by simpa[Go.Lk.fs]using k1,by simpa[Go.Lk.fs]using vp⟩
 have r:∀(s:dG) (k:J) I,q8 d n=(s,k)->KD cX w M I q dy s k:=λs k I c_ d8 todo w' dI am an=>by
  rw[E];refine af _ _ _ dI ⟨_,an,?_⟩;rw[c_]
  exact am.K.out (.dS _ _ Z λi x v O cY=>by
   match i with
   |0=>simp at O cY;subst O cY;exact .str _
   |1=>simp at O cY;subst O cY;exact .int _ _
   |i+2=>simp at O)
 refine dE.e (g':=Qk q) ?_ (by rw[Qk,D,E,F,H];rfl)
 refine dE.p 2 ?_;refine A.nj 0 ai (.cells #[q.S,q.C] 43) eZ λw A b=>?_;refine A.nj 0 b (.cells #[q.n] 3) eZ λw A b=>?_;refine A.nj 0 b (.cells #[.string ⟨#[]⟩] 9) eZ λw A b=>?_;refine A.nj 4 b (.cells #[.int .i64 0] 47) eZ λw A b=>?_
 refine dE.el (off:=0) (A.ne 3) (λw r=>have c:=((A.rel r).gt 3).2.1;⟨ni c Z,ni c Z⟩) λw io=>?_;have A:=A.rel io;refine A.call (GC d) (An (by rwa[<-F,<-H]at dc)) λao w v A ap=>?_
 cases ap
 cases hb:C6 d with
 |false=>exact dE.p 15 (dE.h (GF q) λf=>Qm A (r _ _ _ (cS λg=>by have:=Ax.2 g.1;rw[hb]at this;cases this)))
 |true=>
 have T:=Ax.1 hb;refine dE.p 2 ?_;refine A.nK 1 2 0 λw A=>?_;refine dE.c 13 (q.n<0) (λcM=>dE.p 11 (dE.h (GF q) λf=>Qm A (r _ _ _ (cS λg=>by have:=g.2.1;omega)))) λcM=>dE.p 2 ?_
 refine A.nK 1 2 0 λw A=>?_;refine A.nK 4 3 0 λw A=>?_;refine dE.c 21 ((q.C8:J) <=q.n) (λdh=>dE.p 2 (dE.h (GF q) λf=>Qm A (r _ _ _ (cS λg=>by have:=g.2.2;omega)))) λdh=>dE.p 6 ?_
 refine A.nK 3 3 1 λw A=>?_;have⟨db,b⟩:=c' w;refine A.nj 0 b (.cells #[q.C] 41) eZ λw A b=>dE.q (rR q db) 11 (dE.e (g':=G (rR q db).frame q.cs) (dR.nx Z λC X=>?_));have A:=A.rel X
 have S:=X.size.trans b
 have aa:=an4 (P:=cQ) (main:=cX.main) (w:=C) (cN:=(rR q db).frame) (cs:=q.cs) (k:=(rR q db).frame.todo.tail) (f:=.tmp 24) (params:=(C9 (rR q db)).1) (assign:=(C9 (rR q db)).2.1) (body:=(C9 (rR q db)).2.2) (h:=289) (c0:=Ql) (c:=Ql.body.getD .skip) (cap:=eZ db) cV cV cV cV cV Tryz.func289 cV cV
 rw[S]at aa
 have B:=A.sP S (.deferred (U []));have y:(C.alloc (.deferred (U []))).heap.size=db+2:=by simp[S]
 have c3:=B.sP y (.loop (yB q db));have W:=A.m_ (.deferred (U []));have Y:=B.m_ (.loop (yB q db))
 refine⟨_,_,_,aa,⟨⟨Z,Z,Z,fG W.size Y.size,λc dj=>(Y.block c dj).trans (W.block c dj)⟩,by simp⟩,?_⟩
 refine dE.e (g':=ZO q db) (dE.p 2 ?_);refine c3.nK 8 2 0 λw A=>?_;have av:=T.hi;have⟨m,d6⟩:∃m:V,q.n=(m:J):=⟨q.n.toNat,R⟩
 refine dE.h (λf=>KB q f db (la .i64 ((q.len:J)-1))) λf=>?_
 rw[show la .i64 ((q.len:J)-1)=(q.len:J)-1-((0:V):J) by rw[rM];omega];refine aof cU R (λs h=>r s 0 ao (aoh T R R (by rwa[D]at h))) d6 R (o:=yB q db) Z cV cV cV 0 _ w (eY _) A λj z dU aq=>?_
 have:=(f_.1 aq).1;omega
end Go.Lk.Dk
namespace Go.Lk
open Go Go.Proofs
def Az(d n):d0 cQ 171 [iO d,.int .i64 n] (.dS [.str (q8 d n).1,.int .i64 (q8 d n).2]):=Dk.aoi nL d n
end Go.Lk
namespace Go.Lk
open Go.Proofs Go.RowKit
abbrev lD:=di×J×dG
def mn(o:lD):I c3:=[.bool o.1,o.2.1,.str o.2.2]
def Qn:∀(l:I lD),gZ 3 (l.map mn)=N
 | []=>rfl|_::r=>Qn r
structure iI(d:gA):Prop where
 vt:pD d
 n:35<=d.sec.length
open Classical in
def GH(d:gA):di:=gy (iI d)
def AA{d}:GH d=N↔iI d:=by simp[GH]
def ZV{d}:GH d=L↔¬iI d:=by simp[GH]
def yC(p:J):di:=gy (1<=p)&&decide (p<=16)
def w5{p}:yC p=N↔1<=p/\p<=16:=by simp[yC]
def Qo(d):d0 cQ 169 [iO d] (.bool (GH d)):=by
 refine d5 Tryz.func169 1 Z cV (cO ?_)
 have m:(d.sec.map hW).length=d.sec.length:=ec ..
 refine dF ?_;refine df (GC d) (c7 ?_)
 refine nk (λQ=>?_) λQ=>?_
 .have cU:=Ax.1 Q;refine dF (dg Z (eL c3.bool ?_))
  by_cases h:(35:J) <= ((d.sec.map hW).length:J)
  .rw[decide_eq_true h];exact(AA.2 ⟨cU,R⟩).symm
  .rw[decide_eq_false h];exact(ZV.2 λq=>by have:=q.n;omega).symm
 .exact dg Z (eL c3.bool (ZV.2 λq=>yA.1 Q q.vt).symm)
def ZW(p):d0 cQ 170 [.int .i64 p] (.bool (yC p)):=by
 refine d5 Tryz.func170 1 Z cV (cO ?_)
 refine pA (λQ=>?_) λQ=>?_
 .exact dg Z (eL c3.bool (by simp[yC,Q]))
 .exact dg Z (eL c3.bool (by simp[yC,Q]))
def yD(p)(h:yC p=N):d0 cQ 172 [p] (.int .i64 (2*p+1)):=by have cY:=w5.1 h;refine d5 Tryz.func172 1 Z cV (c7 ?_);rfl
def aok:dG:={data:=#[0,0,0,0,0,0,0,0,0,0,0,0,0,0,0,0]}
def ZX:aok=jN:=Kw f0
def yE(p:V):dG:=qN [74,(p:J)]++lg 14
def Qp(p):(yE p).size=16:=by rfl
def ZY(p:V)(h:p<=16):d0 cQ 290 [p] (.str (yE p)):=by refine d5 Tryz.func290 1 Z cV (cO ?_);refine md (Zd R R) (c7 ?_);refine pW (l:=2) cZ (c7 ?_);rw[show ByteArray.extract {data:=#[0,0,0,0,0,0,0,0,0,0,0,0,0,0,0,0]} 2 (ByteArray.size {data:=#[0,0,0,0,0,0,0,0,0,0,0,0,0,0,0,0]})=lg 14 from by rfl];exact fz (by rw[Zr,w2];simp_all) (c7 (dg Z Z))
def pF(n:J)(s:dG):lD:=(L,n,s)
def t0:lD:=(N,0,fB)
def Qq(n a b)(cW:0<=n)(Q:n<=1000):kg cQ 237 [.int .i64 n,.str a,.str b] ([pF n a,pF (n+1) b,t0].map mn) 3:=by refine lZ Tryz.func237 3 Z cV (c7 ?_);exact⟨6,Z,.inl ⟨17,Z,Z⟩⟩
def KE(s):kg cQ 238 [.str s] ([pF 0 s,t0].map mn) 3:=by refine lZ Tryz.func238 1 Z cV (c7 ?_);exact⟨2,Z,.inl ⟨7,Z,Z⟩⟩
def vu(p:V)(s:dG):I lD:=[pF 1 (s.extract 0 16),pF 2 (s.extract 16 32),t0]++[pF 0 (yE p),t0]++[pF (2*(p:J)+1) (s.extract 0 16),pF (2*(p:J)+1+1) (s.extract 16 32),t0]++[pF 0 jN,t0]
open Classical in
def lE(d:gA)(p:J)(s:dG):I lD×J:=if iI d/\ (1<=p/\p<=16) /\s.size=32 then(vu p.toNat s,0) else([],1)
def KF(d p s)(e:s.size<=1000000):d0 cQ 285 [iO d,.int .i64 p,.str s] (.dS [.dm ((lE d p s).1.map mn),.int .i64 (lE d p s).2]):=by
 refine d5 Tryz.func285 3 Z cV (c7 ?_);refine df (Qo d) (c7 ?_)
 refine kl (λQ=>?_) λQ=>?_
 .rw[lE,cS (λq=>by rw[AA.2 q.1]at Q;simp_all)];rfl
 have g:=AA.1 (by simpa using Q);refine dF ?_;refine df (ZW p) (c7 ?_)
 refine kl (λa=>?_) λa=>?_
 .rw[lE,cS (λq=>by rw[w5.2 q.2.1]at a;simp_all)];rfl
 have de:=w5.1 (show yC p=N by simp_all);refine dF ?_
 refine kV (λf=>?_) λf=>?_
 .rw[lE,cS (λq=>f R)];exact dg Z Z
 have f:s.size=32:=R;obtain⟨k,rfl⟩:∃k:V,p=(k:J):=⟨p.toNat,R⟩;rw[lE,if_pos ⟨g,de,f⟩,gz,vu];refine dF ?_;refine oV (h:=16) R (c7 ?_);refine pW (l:=16) R (c7 ?_);have⟨x,c⟩:∃x,s.extract 0 16=x:=⟨_,Z⟩;have⟨y,b⟩:∃y,s.extract 16 32=y:=⟨_,Z⟩;rw[c,b];rw[f,b];refine gT (Qq 1 x y R R) (c7 ?_);refine df (ZY k R) (c7 ?_);refine gT (KE (yE k)) (c7 ?_);refine fO 1000 1000 dw cZ cZ cZ (c7 ?_);refine df (yD k (w5.2 de)) (c7 ?_);refine gT (Qq (2*(k:J)+1) x y R R) (c7 ?_);refine fO 1000 1000 dw cZ cZ cZ (c7 ?_);rw[show({data:=#[0,0,0,0,0,0,0,0,0,0,0,0,0,0,0,0]}:dG)=jN from ZX];refine gT (KE jN) (c7 ?_);refine fO 1000 1000 dw cZ cZ cZ (c7 ?_);exact dg Z Z
def o_(d:gA)(o:lD):gA:=if o.1=N then w3 d else(q7 d o.2).1
def vv(d:gA)(l:I lD)(g1:J):gA:=(l.take g1.toNat).foldl o_ d
def ZZ(d l g1)(g:l.length<=1000000):d0 cQ 175 [iO d,.dm (l.map mn),.int .i64 g1] (iO (vv d l g1)):=by
 refine d5 Tryz.func175 3 Z cV (cO ?_)
 have m:(l.map mn).length=l.length:=ec ..
 refine dF ?_;refine eW (D:=V×gA) (λk=>[(2,.d g1),(3,.ptr 3 0 0),(6,.ptr 6 0 0),(11,.d (.dm (l.map mn))),(12,.d (l.map mn).length),(13,.d (.int .i64 k.1))]) (λk=>[(3,.box [.d (.dm (k.2.sec.map hW)),.d (.dm (k.2.fy.map fs))] L),(6,.box [.nil,.nil] L)])
  (λk=>k.1<=l.length/\ ((k.1:J) <=g1\/k.1=0) /\k.2=(l.take k.1).foldl o_ d) (λk=>l.length-k.1) (0,d) ⟨R,.inr Z,Z⟩ (dX (dH mc lO dV)) ?_
 rintro⟨k,e⟩ ⟨b,c,a⟩;simp only at b c a⊢
 have kJ:∀j,g1.toNat=j->(l.take j).foldl o_ d=vv d l g1:=λj h=>by rw[vv,h]
 conv=>whnf
 refine dT (λdu=>?_) λdu=>?_
 .have eR:k<l.length:=by omega
  have n:∀x,o_ e l[k]=x->(l.take (k+1)).foldl o_ d=x:=λx f=>by rwa[mb eR,List.foldl_append,<-a]
  refine ea R (cO ?_);refine d2 (x:=mn l[k]) iJ (c7 ?_)
  refine dT (λdY=>?_) λdY=>?_
  .refine dF ?_
   have:e=vv d l g1:=by
    rcases c with h|h
    .grind
    .grind
   rw[this];exact dg Z Z
  refine dF ?_
  refine yr (λi=>?_) λi=>?_
  .refine df (anR e) (c7 ?_);exact⟨(k+1,w3 e),⟨l_,.inl l_,(n _ (if_pos i)).symm⟩,l_,(dX (dH mc lO dV))⟩
  .refine df (anS e l[k].2) (c7 ?_);have s:o_ e l[k]=(q7 e l[k].2).1:=cS (by simp_all)
   refine iG (λo=>?_) λo=>?_
   .exact⟨(k+1,(q7 e l[k].2).1),⟨l_,.inl l_,(n _ s).symm⟩,l_,(dX (dH mc lO dV))⟩
   .refine dF ?_
    have:(q7 e l[k].2).1=e:=by
     rw[q7]at o⊢;split
     .grind
     .rfl
    exact⟨(k+1,e),⟨l_,.inl l_,(n _ (s.trans this)).symm⟩,l_,(dX (dH mc lO dV))⟩
 .refine dF ?_
  have:e=vv d l g1:=by
   rw[a,vv];rcases c with h|h
   .grind
   .simp_all
  rw[this];exact dg Z Z
def t3(s:dG):V->V->J×di
 |0,_=>(0,L)
 |n+1,k=>if s=yE k then((k:J),N) else t3 s n (k+1)
def w6(s:dG):J×di:=t3 s 16 1
def aol(s):d0 cQ 236 [.str s] (.dS [(w6 s).1,.bool (w6 s).2]):=by
 refine d5 Tryz.func236 1 Z cV (cO ?_);refine eW (D:=V) (λk=>[(0,.d (.str s)),(4,.d k)]) (λ_=>[])
  (λk=>1<=k/\k<=17/\w6 s=t3 s (17-k) k) (λk=>17-k) 1 ⟨by omega,by omega,Z⟩ (dX (dH lO dM dV)) ?_
 rintro k ⟨Q,b,cU⟩;rw[cU]
 conv=>whnf
 refine dT (λdu=>?_) λdu=>?_
 .have e:17-k=(16-k)+1:=R
  rw[e,t3];refine dF ?_;refine df (ZY k R) (c7 ?_)
  refine pA (λdY=>?_) λdY=>?_
  .rw[if_pos dY];rfl
  .rw[cS dY];exact⟨k+1,⟨by omega,by omega,by simp_all⟩,by omega,(dX (dH lO dM dV))⟩
 .refine dF ?_
  have a:k=17:=R
  subst a;rfl
def Z0{n}:∀ {l b},b.size=16->(∀w∈l,w.2.size=16)->(pick n l b).size=16
 | [],b,a,_=>a
 |w::r,b,a,h=>by
  show(pick n r (if w.1=n then w.2 else b)).size=16;refine Z0 ?_ λx c=>h x (lX _ c);grind
def Qr{d}(cU:pD d){n:J}(cW:0<=n)(Q:n<d.sec.length):(jk d n).size=16:=by
 refine Z0 ?_ λw hw=>?_
 .rw[fq R,x3];exact cU.s _ _
 .obtain⟨i,cK,rfl⟩:=kr.1 hw;exact(yz.1 (cU.c i cK)).2.2
def GI{d}(h:pD d){n:J}(cW:0<=n)(Q:n<d.sec.length):q8 d n=(jk d n,0):=if_pos ⟨h,cW,Q⟩
def KH(d:gA):I lD:=if(w6 (jk d 0)).2=N then [pF (2*(w6 (jk d 0)).1+1) (jk d 1),pF (2*(w6 (jk d 0)).1+1+1) (jk d 2),t0] else []
open Classical in
def rS(d:gA):I lD:=if iI d then(if jk d 0=jN then [] else KH d++[pF 0 jN,t0]) else []
def Z1{s}:∀ {n k},(t3 s n k).2=N->(k) <= (t3 s n k).1/\ (t3 s n k).1<((k+n:V):J) /\s=yE (t3 s n k).1.toNat
 |0,k,h=>by simp[t3]at h
 |n+1,k,h=>by
  rw[t3]at h⊢;split
  .grind
  .rename_i e;rw[cS e]at h;have:=Z1 h;grind
def aom(d):kg cQ 174 [iO d] ((rS d).map mn) 3:=by
 refine lZ Tryz.func174 1 Z cV (c7 ?_);refine df (Qo d) (c7 ?_)
 refine kl (λQ=>?_) λQ=>?_
 .rw[rS,cS (λq=>by rw[AA.2 q]at Q;simp_all)];exact⟨2,Z,.inr g_⟩
 have e:=AA.1 pm;have cU:=e.vt;have c0:=e.n;rw[rS,if_pos e];refine dF ?_;refine df (Az d 0) (c7 ?_);rw[GI cU cZ R];rw[show({data:=#[0,0,0,0,0,0,0,0,0,0,0,0,0,0,0,0]}:dG)=jN from ZX]
 refine iG (λa=>?_) λa=>?_
 .rw[if_pos a];exact⟨2,Z,.inr g_⟩
 rw[cS a];refine dF ?_;refine df (aol (jk d 0)) (c7 ?_)
 refine hV (λf=>?_) λf=>?_
 .have⟨b,c,_⟩:=Z1 (show(t3 (jk d 0) 16 1).2=N from f);have b:1<= (w6 (jk d 0)).1:=b;have c:(w6 (jk d 0)).1<17:=c;refine dF ?_;refine df (Az d 1) (c7 ?_);rw[GI cU cZ R];refine dF ?_;refine df (Az d 2) (c7 ?_);rw[GI cU cZ R];have⟨p,O⟩:∃p,(w6 (jk d 0)).1=p:=⟨_,Z⟩;rw[KH,if_pos f,O];rw[O]at b c;refine dF ?_;refine df (yD p (w5.2 ⟨R,R⟩)) (c7 ?_);refine gT (Qq (2*p+1) (jk d 1) (jk d 2) R R) (c7 ?_);refine gT (KE jN) (c7 ?_);refine fO 1000 1000 dw cZ cZ cZ (cO ?_);exact⟨2,Z,.inl ⟨42,Z,Z⟩⟩
 .rw[KH,cS eM];refine dF ?_;refine gT (KE jN) (c7 ?_);refine fO 1000 1000 dw cZ cZ cZ (cO ?_);exact⟨2,Z,.inl ⟨45,Z,Z⟩⟩
def qd(d:gA)(p:J)(s:dG):gA×J:=if(lE d p s).2=0 then(vv d (lE d p s).1 ((lE d p s).1.length:V),0) else(d,(lE d p s).2)
def Qs(d p s):(lE d p s).1.length<=10:=by
 rw[lE];split
 .simp[vu]
 .simp
def aon(d p s)(a:s.size<=1000000):d0 cQ 311 [iO d,.int .i64 p,.str s] (.dS [iO (qd d p s).1,.int .i64 (qd d p s).2]):=by
 refine d5 Tryz.func311 3 Z cV (c7 ?_);refine df (KF d p s a) (c7 ?_);have l:=Qs d p s
 have m:((lE d p s).1.map mn).length=(lE d p s).1.length:=ec ..
 refine kV (λQ=>?_) λQ=>?_
 .rw[qd,cS Q];exact dg Z Z
 .rw[qd,if_pos Q];refine dF ?_;rw[m];exact df (ZZ d (lE d p s).1 ((lE d p s).1.length:V) R) (c7 (dg Z Z))
def aoo(d):(rS d).length<=5:=by
 rw[rS];split
 .split
  .simp
  .rw[KH];grind
 .simp
def KI(d:gA):gA:=vv d (rS d) ((rS d).length:V)
def aop(d):d0 cQ 131 [iO d] (iO (KI d)):=by
 refine d5 Tryz.func131 1 Z cV (c7 ?_);refine gT (aom d) (cO ?_);have l:=aoo d
 have m:((rS d).map mn).length=(rS d).length:=ec ..
 refine dF ?_;rw[m];exact df (ZZ d (rS d) ((rS d).length:V) R) (c7 (dg Z Z))
open Classical in
def qe(d:gA)(p:J):dG×J:=if iI d/\1<=p/\p<=16 then(jk d (2*p+1)++jk d (2*p+1+1),0) else(fB,1)
def Z2(d p):d0 cQ 129 [iO d,.int .i64 p] (.dS [.str (qe d p).1,.int .i64 (qe d p).2]):=by
 refine d5 Tryz.func129 2 Z (by kernel_rfl) (c7 ?_);refine df (Qo d) (c7 ?_)
 refine kl (λQ=>?_) λQ=>?_
 .rw[qe,cS (λq=>by rw[AA.2 q.1]at Q;simp_all)];rfl
 have b:=AA.1 (by simpa using Q);have h:=b.vt;have c0:=b.n;refine dF ?_;refine df (ZW p) (c7 ?_)
 refine kl (λa=>?_) λa=>?_
 .rw[qe,cS (λq=>by rw[w5.2 q.2]at a;simp_all)];rfl
 have de:=w5.1 (show yC p=N by simp_all);rw[qe,if_pos ⟨b,de⟩];refine dF ?_;refine df (yD p (w5.2 de)) (c7 ?_);refine df (Az d (2*p+1)) (c7 ?_);rw[GI h R R];refine dF ?_;refine df (yD p (w5.2 de)) (c7 ?_);refine df (Az d (2*p+1+1)) (c7 ?_);rw[GI h R R];have fV:=Qr h (show 0<=2*p+1 by omega) R;have gY:=Qr h (show 0<=2*p+1+1 by omega) R;refine fz eM (c7 ?_);exact dg Z Z
def Z3:d0 cQ 284 [] (.str (lg 32)):=by refine d5 Tryz.func284 0 Z cV (cO ?_);refine df (Ks Av 32 cZ cZ) (c7 ?_);rfl
def lh(d:gA)(id:J):e'×J:=
 if(qe d id).2≠0 then(d_,(qe d id).2) else if(l3 (qe d id).1).2≠0 then(d_,(l3 (qe d id).1).2) else if(l3 (qe d id).1).1.1≠id then(d_,9) else((l3 (qe d id).1).1,0)
def C_(d id):d0 cQ 140 [iO d,.int .i64 id] (.dS [.agg (eC (lh d id).1),.int .i64 (lh d id).2]):=by
 refine d5 Tryz.func140 2 Z cV (c7 ?_);refine df (Z2 d id) (c7 ?_);rw[lh]
 refine kV (λQ=>?_) λQ=>?_
 .rw[if_pos Q];exact dg Z Z
 rw[cS (λq=>q Q)];refine dF ?_;refine df (anI (qe d id).1) (c7 ?_)
 refine kV (λa=>?_) λa=>?_
 .rw[if_pos a];exact dg Z Z
 rw[cS (λq=>q a)];refine dF ?_
 refine kV (λb=>?_) λb=>?_
 .rw[if_pos b];exact dg Z Z
 rw[cS (λq=>q b)];refine dF ?_;exact dg Z Z
def Z4(d p s)(a:s.size<=1000000):d0 cQ 283 [iO d,.int .i64 p,.str s] (.dS [iO (qd d p s).1,.int .i64 (qd d p s).2]):=by
 refine d5 Tryz.func283 3 Z cV (c7 ?_);refine df (aon d p s a) (c7 ?_)
 have c:(qd d p s).2≠0->(qd d p s).1=d:=λh=>by
  rw[qd]at h⊢;grind
 refine sU (λQ=>?_) λQ=>?_
 .rw[c Q];exact dg Z Z
 .rw[Q];exact dg Z Z
open Classical in
def q9(d:gA)(x:e'):gA×J:=if gB x=N then qd d x.1 (mm x) else(d,1)
def aoq(d x):d0 cQ 287 [iO d,.agg (eC x)] (.dS [iO (q9 d x).1,(q9 d x).2]):=by
 refine d5 Tryz.func287 2 Z cV (c7 ?_);have u:=C5 x
 by_cases cU:gB x=N
 .rw[if_pos cU]at u;rw[q9,if_pos cU];have z:=Aw (lf.1 cU).2.2.2.2;refine df u (c7 ?_);refine df (Z4 d x.1 (mm x) R) (c7 ?_);exact dg Z Z
 .rw[cS cU]at u;rw[q9,cS cU];exact df u (c7 (dg Z Z))
def yF(d:gA)(id:J):gA×J:=qd d id (lg 32)
def Z5(d id):d0 cQ 228 [iO d,.int .i64 id] (.dS [iO (yF d id).1,.int .i64 (yF d id).2]):=by refine d5 Tryz.func228 2 Z cV (c7 ?_);refine df Z3 (c7 ?_);refine df (Z4 d id (lg 32) (by rw[w2];decide)) (c7 ?_);exact dg Z Z
open Classical in
def sY(d:gA)(x:e'):I lD:=if x.2.1≠0\/x.2.2≠fB then(if gB x=N then(lE d x.1 (mm x)).1 else []) else(lE d x.1 (lg 32)).1
def Qt{d p s}(h:(lE d p s).2≠0):(lE d p s).1=[]:=by rw[lE]at h⊢;grind
def Qu(d x):d0 cQ 229 [iO d,.agg (eC x)] (.dm ((sY d x).map mn)):=by
 refine d5 Tryz.func229 2 Z cV (c7 ?_);refine df Z3 (c7 ?_);rw[sY]
 refine wT (λQ=>?_) λQ=>?_
 .rw[if_pos (.inl Q)];refine dF ?_;have u:=C5 x
  by_cases cU:gB x=N
  .rw[if_pos cU]at u;rw[if_pos cU];have z:=Aw (lf.1 cU).2.2.2.2;refine df u (c7 ?_);refine df (KF d x.1 (mm x) R) (c7 ?_)
   refine sU (λb=>?_) λb=>?_
   .rw[Qt b];exact dg Z Z
   .exact dg Z Z
  .rw[cS cU]at u;rw[cS cU];refine df u (c7 ?_);exact dg Z Z
 .refine dF ?_
  refine wT (λa=>?_) λa=>?_
  .rw[if_pos (.inr a)];refine dF ?_;have u:=C5 x
   by_cases cU:gB x=N
   .rw[if_pos cU]at u;rw[if_pos cU];have z:=Aw (lf.1 cU).2.2.2.2;refine df u (c7 ?_);refine df (KF d x.1 (mm x) R) (c7 ?_)
    refine sU (λb=>?_) λb=>?_
    .rw[Qt b];exact dg Z Z
    .exact dg Z Z
   .rw[cS cU]at u;rw[cS cU];refine df u (c7 ?_);exact dg Z Z
  .rw[cS (λq=>q.elim (λq=>q Q) (λq=>q a))];refine dF ?_;refine df (KF d x.1 (lg 32) (by rw[w2];decide)) (c7 ?_)
   refine sU (λb=>?_) λb=>?_
   .rw[Qt b];exact dg Z Z
   .exact dg Z Z
def aor{d id}(h:iI d/\1<=id/\id<=16):lh d id=if(l3 (jk d (2*id+1)++jk d (2*id+1+1))).2≠0 then(d_,(l3 (jk d (2*id+1)++jk d (2*id+1+1))).2) else if(l3 (jk d (2*id+1)++jk d (2*id+1+1))).1.1≠id then(d_,9) else((l3 (jk d (2*id+1)++jk d (2*id+1+1))).1,0):=by have:qe d id=(jk d (2*id+1)++jk d (2*id+1+1),0):=if_pos h;rw[lh,this,cS (λq=>q Z)]
def ey.h6{f}(h:ey f):t8 f.eg:=⟨by have:=h.eg.len;omega,by rw[h.cnt];exact fG JD (by have:=h.ij.g1;omega)⟩
def ey.dl{f}(h:ey f):f.dK.length<=1000000:=by have:=(Dt.t5 h.dK).1;omega
def ey.pl{f}(h:ey f):f.dJ.length<=8:=by have:=h.ij.g1;rwa[h.len]
structure fJ where
 f:hv
 d:gA
 now:J
def oG(p:fJ):c3:=.agg [.dm (p.f.cN.map fl),p.f.hand,hk p.f.eg,.dm (p.f.dJ.map eC),hk p.f.dK,.dm (p.d.sec.map hW),.dm (p.d.fy.map fs),p.now]
def fJ.box(p:fJ):I dp:=[.d (.dm (p.f.cN.map fl)),.d p.f.hand,.d (hk p.f.eg),.d (.dm (p.f.dJ.map eC)),.d (hk p.f.dK),.d (.dm (p.d.sec.map hW)),.d (.dm (p.d.fy.map fs)),.d p.now]
def aaS:fJ:=⟨aaF,⟨[],[]⟩,0⟩
def iQ(d:gA)(n:J):fJ×J:=if(qe d 1).2≠0\/0<d.fy.length then(aaS,1) else if n<1\/8<n then(aaS,1) else(⟨kZ n.toNat,KI d,0⟩,0)
def aaT(d n):d0 cQ 100 [iO d,.int .i64 n] (.dS [oG (iQ d n).1,.int .i64 (iQ d n).2]):=by
 refine d5 Tryz.func100 2 Z cV (cO ?_)
 have m:(d.fy.map fs).length=d.fy.length:=ec ..
 rw[iQ];refine dF ?_;refine df (Z2 d 1) (c7 ?_)
 refine kV (λQ=>?_) λQ=>?_
 .rw[if_pos (.inl Q)];exact dg Z Z
 refine dF ?_
 refine iG (λa=>?_) λa=>?_
 .rw[if_pos (.inr R)];exact dg Z Z
 rw[cS (λq=>q.elim (λq=>q Q) (λq=>a R))];refine dF ?_;have c0:=QE n
 by_cases c:n<1\/8<n
 .rw[if_pos c,if_pos c]at c0;rw[if_pos c];refine df c0 (c7 ?_);exact dg Z Z
 .rw[cS c,cS c]at c0;rw[cS c];refine df c0 (c7 ?_);refine df (aop d) (c7 ?_);exact dg Z Z
def lk(p:fJ)(n:J):fJ:=if n<=0 then p else if 2147483647-p.now<n then ⟨p.f,p.d,2147483647⟩ else ⟨p.f,p.d,p.now+n⟩
def apo(p n)(cW:0<=p.now)(Q:p.now<=2147483647):d0 cQ 119 [oG p,.int .i64 n] (oG (lk p n)):=by
 refine d5 Tryz.func119 2 Z cV (cO ?_);rw[lk];refine dF ?_
 refine iG (λa=>?_) λa=>?_
 .rw[if_pos a];exact dg Z Z
 rw[cS a];refine dF ?_
 refine iG (λb=>?_) λb=>?_
 .rw[if_pos b];exact dg Z Z
 rw[cS b];exact dF (dg Z Z)
abbrev Q0:=J×J×dG
def aaU(a:Q0):I c3:=[a.1,a.2.1,.str a.2.2]
def nV(p:fJ)(a:Q0):fJ×e'×J:=
 if(jO p.f a.2.1).2=L\/ (rZ p.f.cN (jO p.f a.2.1).1.toNat).2.1=0 then(p,d_,12)
 else if a.1=4 then(if(i0 p.f a.2.1 a.2.2 p.now).2≠0 then(p,d_,(i0 p.f a.2.1 a.2.2 p.now).2) else(⟨(i0 p.f a.2.1 a.2.2 p.now).1,p.d,p.now⟩,nS (i0 p.f a.2.1 a.2.2 p.now).1.dJ (jO p.f a.2.1).1.toNat,0))
 else if a.1=5 then(if(mr p.f a.2.1).2≠0 then(p,d_,(mr p.f a.2.1).2) else(⟨(mr p.f a.2.1).1,p.d,p.now⟩,d_,0))
 else(p,nS p.f.dJ (jO p.f a.2.1).1.toNat,0)
def apq{f q b n}(h:(i0 f q b n).2=0):(i0 f q b n).1.dJ.length=f.dJ.length:=by rw[i0]at h⊢;grind
def apr(p a)(F:ey p.f)(Q:1<=a.2.1)(f:a.2.1<=16):
  d0 cQ 165 [oG p,.agg (aaU a)] (.dS [oG (nV p a).1,.agg (eC (nV p a).2.1),(nV p a).2.2]):=by
 have h:=t9 p.f a.2.1 F.h6 F.dl
 have m:(p.f.cN.map fl).length=p.f.cN.length:=ec ..
 have j:(p.f.dJ.map eC).length=p.f.dJ.length:=ec ..
 refine d5 Tryz.func165 2 Z cV (cO ?_);rw[nV];refine dF ?_;rcases F.xb (show a.2.1≠0 by omega) with⟨_,n⟩|⟨i,_,c8⟩
 .rw[qk F n R]at h⊢;refine df h (c7 ?_);rw[if_pos (.inl Z)];exact dg Z Z
 rw[qj c8]at h⊢;have cK:=c8.cK;have b:=c8.O;refine df h (c7 ?_);rw[gz,j7 cK];refine ea R (cO ?_);refine d2 (x:=fl p.f.cN[i]) (by simp[cK]) (c7 ?_)
 refine iG (λd=>?_) λd=>?_
 .rw[if_pos (.inr d)];exact dg Z Z
 rw[cS (λq=>q.elim (λq=>by cases q) d)];refine dF ?_
 refine dT (λo=>?_) λo=>?_
 .rw[if_pos o];refine dF ?_;refine df (apg p.f a.2.1 a.2.2 p.now F.h6 F.dl) (c7 ?_);have g:=@apq p.f a.2.1 a.2.2 p.now;have⟨r,e⟩:∃r,i0 p.f a.2.1 a.2.2 p.now=r:=⟨_,Z⟩;rw[e]at g⊢
  refine kV (λl=>?_) λl=>?_
  .rw[if_pos l];exact dg Z Z
  rw[cS (λq=>q l)];refine dF ?_
  refine dT (λdu=>?_) λdu=>?_
  .omega
  have k:(r.1.dJ.map eC).length=r.1.dJ.length:=ec ..
  have c:i<r.1.dJ.length:=by have:=g R;omega
  refine dF ?_;refine ea R (cO ?_);refine d2 (x:=eC r.1.dJ[i]) (by simp[c]) (c7 ?_);rw[nT c];exact dg Z Z
 .rw[cS o];refine dF ?_
  refine dT (λl=>?_) λl=>?_
  .rw[if_pos l];refine dF ?_;refine df (ape p.f a.2.1 F.h6 F.dl) (c7 ?_);have⟨r,e⟩:∃r,mr p.f a.2.1=r:=⟨_,Z⟩;rw[e]
   refine kV (λdu=>?_) λdu=>?_
   .rw[if_pos du];exact dg Z Z
   rw[cS (λq=>q du)];refine eH ?_;exact dg Z Z
  .rw[cS l];refine dF ?_;refine ea R (cO ?_);refine d2 (x:=eC p.f.dJ[i]) (by simp[b]) (c7 ?_);rw[nT b];exact dg Z Z
def i'(p:fJ)(id:J):fJ×I lD×J:=
 if(jO p.f id).2=L then(p,[],3)
 else if(rc p.f id).2≠0 then(p,[],(rc p.f id).2)
 else if(q9 p.d (nS p.f.dJ (jO p.f id).1.toNat)).2≠0 then(p,[],(q9 p.d (nS p.f.dJ (jO p.f id).1.toNat)).2)
 else(⟨(rc p.f id).1,(q9 p.d (nS p.f.dJ (jO p.f id).1.toNat)).1,p.now⟩,sY p.d (nS p.f.dJ (jO p.f id).1.toNat),0)
def Q1(p id)(F:ey p.f)(cW:id≠0):
  d0 cQ 231 [oG p,.int .i64 id] (.dS [oG (i' p id).1,.dm ((i' p id).2.1.map mn),.int .i64 (i' p id).2.2]):=by
 have h:=t9 p.f id F.h6 F.dl
 have m:(p.f.dJ.map eC).length=p.f.dJ.length:=ec ..
 refine d5 Tryz.func231 2 Z (by kernel_rfl) (cO ?_);rw[i'];refine dF ?_;rcases F.xb cW with⟨_,n⟩|⟨i,_,c8⟩
 .rw[qk F n cW]at h⊢;refine df h (c7 ?_);rw[if_pos Z];exact dg Z Z
 rw[qj c8]at h⊢;have b:=c8.O;refine df h (c7 ?_);rw[cS (show ¬N=L by decide),gz,nT b];have⟨x,c⟩:∃x,p.f.dJ[i]=x:=⟨_,Z⟩;rw[c];refine ea (by omega) (cO ?_);refine d2 (x:=eC x) (by grind) (c7 ?_);refine df (GM p.f id F.h6 F.dl) (c7 ?_)
 refine kV (λa=>?_) λa=>?_
 .rw[if_pos a];exact dg Z Z
 rw[cS (λq=>q a)];refine dF ?_;refine df (aoq p.d x) (c7 ?_)
 refine kV (λe=>?_) λe=>?_
 .rw[if_pos e];exact dg Z Z
 rw[cS (λq=>q e)];refine dF ?_;refine df (Qu p.d x) (c7 ?_);exact dg Z Z
def yJ(f:hv)(id:J):hv:=⟨f.cN,f.hand,f.eg,f.dJ,f.dK.filter λx=>x.1 !=id⟩
def Q2{l n}(h:(Dt.qg l n).2=N):0<=Dt.gI l n 0:=by rw[Dt.qg]at h;grind
def aaV{f p i}(c8:hP f p i):rc f p=if 0<=Dt.gI f.dK p 0 then(yJ f p,0) else(f,12):=by
 have cU:=c8.right
 have e:hO f p=((i:J),0):=by rw[hO,if_pos (s6.2 cU),(pJ cU.eg).2 ⟨c8.fD,c8.mem⟩];rfl
 rw[rc,e,cS (λq=>q Z),Dt.QB cU.dK]
 by_cases h:0<=Dt.gI f.dK p 0
 .rw[if_pos h,if_pos h];rfl
 grind
def Q3{f}(h:ey f)(p):ey (yJ f p):=by
 have⟨hi,a⟩:=QU (p:=p) h.dK
 by_cases O:0<=Dt.gI f.dK p 0
 .rw[Dt.QB h.dK,if_pos O]at hi a;exact h.apj hi λy b=>((a y).1 b).1
 .have e:f.dK.filter (λx=>x.1 !=p)=f.dK:=by
   rw[List.filter_eq_self];intro x c;simp;exact λq=>O (Dt.q'.2 ⟨x,c,q⟩)
  rwa[yJ,e]
def aaW{f p}(h:0<=Dt.gI f.dK p 0):(yJ f p).dK.length<f.dK.length:=by have⟨x,a,e⟩:=Dt.q'.1 h;show(f.dK.filter _).length<_;rw[List.length_filter_lt_length_iff_exists];grind
def Q4(d x):(sY d x).length<=10:=by
 rw[sY];split
 .split
  .exact Qs _ _ _
  .simp
 .exact Qs _ _ _
def aaX{p id i}(c8:hP p.f id i):i' p id=if 0<=Dt.gI p.f.dK id 0 then(if(q9 p.d (p.f.dJ[i]'c8.O)).2≠0 then(p,[],(q9 p.d (p.f.dJ[i]'c8.O)).2) else(⟨yJ p.f id,(q9 p.d (p.f.dJ[i]'c8.O)).1,p.now⟩,sY p.d (p.f.dJ[i]'c8.O),0)) else(p,[],12):=by
 rw[i',qj c8,cS (show ¬N=L by decide),gz,nT c8.O,aaV c8]
 by_cases h:0<=Dt.gI p.f.dK id 0
 .rw[if_pos h,if_pos h,cS (λq=>q Z)]
 .rw[cS h,cS h,if_pos (show(12:J)≠0 by decide)]
def oH:V->fJ->I lD->fJ×I lD×J
 |0,p,l=>(p,l,99)
 |n+1,p,l=>
  if(hA p.f).2.2.2≠0 then(p,l,(hA p.f).2.2.2)
  else if(hA p.f).2.2.1=L then(⟨(hA p.f).1,p.d,p.now⟩,l,0)
  else if(i' ⟨(hA p.f).1,p.d,p.now⟩ (hA p.f).2.1.1).2.2≠0 then(⟨(hA p.f).1,p.d,p.now⟩,l,(i' ⟨(hA p.f).1,p.d,p.now⟩ (hA p.f).2.1.1).2.2)
  else oH n (i' ⟨(hA p.f).1,p.d,p.now⟩ (hA p.f).2.1.1).1 (l++(i' ⟨(hA p.f).1,p.d,p.now⟩ (hA p.f).2.1.1).2.1)
def ky(p:fJ):fJ×I lD×J:=oH 17 p []
def aps{f}(h:ey f)(b:(hA f).2.2.2=0)(cP:(hA f).2.2.1=N):
  ∃i,hP (hA f).1 (hA f).2.1.1 i/\0<=Dt.gI (hA f).1.dK (hA f).2.1.1 0/\ (hA f).1.dK=f.dK:=by
 rcases Dj h with⟨i,cK,_,e⟩|⟨_,_,e⟩|⟨_,l,a,p,c8,s,A,_,e⟩
 .simp_all
 .simp_all
 .by_cases q:(Dt.qg f.dK p).2=N
  .rw[if_pos q]at e;rw[e];have g:=c8.dJ;exact⟨a,by simp_all,by simp only[];rw[g];exact Q2 q,Z⟩
  simp_all
structure apt(ja:fJ)(s:V×fJ×I lD):Prop where
 fm:ey s.2.1.f
 lt:s.2.1.f.dK.length<s.1
 n:s.1<=17
 len:s.2.2.length+10*s.1<=170
 eq:ky ja=oH s.1 s.2.1 s.2.2
def apu(p)(c:ey p.f):d0 cQ 280 [oG p] (.dS [oG (ky p).1,.dm ((ky p).2.1.map mn),(ky p).2.2]):=by
 refine d5 Tryz.func280 1 Z cV (cO ?_);refine eW (D:=V×fJ×I lD) (λs=>[(1,.ptr 1 0 0),(2,.ptr 2 0 0),(5,.own 47)]) (λs=>[(1,.box s.2.1.box L),(2,.box [.nil,.d (.int .i64 0),.nil,.nil,.nil,.nil,.nil,.d (.int .i64 0)] L),(47,.row (s.2.2.map mn) 3 L)])
  (apt p) (λs=>s.1) (17,p,[]) ⟨c,by have:=c.dl;have:=(Dt.t5 c.dK).1;grind,l_,dw,Z⟩ (nd (.row 5 47 3) g_ (dH eJ eJ dV)) ?_
 rintro⟨n,q,l⟩ ⟨b,m,c0,o,he⟩;simp only at b m c0 o he⊢;rw[he];obtain⟨k,rfl⟩:∃k,n=k+1:=⟨n-1,R⟩;rw[oH]
 conv=>whnf
 refine dF ?_;refine df (api q.f b.h6 b.dl) (c7 ?_);have e:=@aps q.f b;have⟨r,dQ⟩:∃r,hA q.f=r:=⟨_,Z⟩;rw[dQ]at e⊢
 refine kV (λQ=>?_) λQ=>?_
 .rw[if_pos Q];exact dg Z Z
 rw[cS (λq=>q Q)];refine dF ?_
 refine kl (λc5=>?_) λc5=>?_
 .rw[if_pos sn];exact dg Z Z
 have c5:=sn;rw[cS zh];have⟨i,c8,cP,t⟩:=e Q c5;have u:r.2.1.1≠0:=Bs;refine dF ?_;refine df (Q1 ⟨r.1,q.d,q.now⟩ r.2.1.1 c8.right u) (c7 ?_);have hw:=@aaX ⟨r.1,q.d,q.now⟩ r.2.1.1 i c8;have⟨w,h⟩:∃w,i' ⟨r.1,q.d,q.now⟩ r.2.1.1=w:=⟨_,Z⟩;rw[h]at hw⊢
 refine kV (λa=>?_) λa=>?_
 .rw[if_pos a];exact dg Z Z
 rw[cS (λq=>q a)];have v:=cP;rw[if_pos v]at hw
 have j:w.1.f=yJ r.1 r.2.1.1/\w.2.1.length<=10:=by
  split at hw
  .rename_i g;rw[hw]at a;exact dN a g
  .rw[hw];exact⟨Z,Q4 _ _⟩
 have y:=Q3 c8.right r.2.1.1;have x:=aaW cP
 have z:(w.2.1.map mn).length=w.2.1.length:=ec ..
 have A:(l.map mn).length=l.length:=ec ..
 refine dF ?_;refine fz (Qn _) (cO ?_);refine fO 1000 1000 R cZ cZ cZ (cO ?_);refine⟨(k,w.1,l++w.2.1),⟨by simp only[];rwa[j.1],by simp only[];rw[j.1];rw[t]at x;omega,l_,TQ,?_⟩,l_,dX (dH ⟨?_,?_,?_,dM⟩ ⟨?_,?_,?_,dM⟩ ⟨?_,?_,?_,?_⟩)⟩
 .simp only[];rw[he,oH,dQ,cS (λq=>q Q),cS zh,h,cS (λq=>q a)]
 rotate_left 5
 .rw[jl];kernel_rfl
 all_goals kernel_rfl
def KY{f}(h:ey f):ey (hA f).1:=by
 rcases Dj h with⟨i,cK,_,e⟩|⟨_,_,e⟩|⟨_,l,a,p,c8,s,A,_,e⟩
 .simp_all
 .simp_all
 .rw[e];split
  .exact A.right
  .exact ey.rel A
def apv{f}(h:ey f)(id):ey (rc f id).1:=by
 rcases vA f id with e|⟨i,e,c8⟩
 .rwa[rc,if_pos e]
 .rw[aaV c8];split
  .exact Q3 h id
  .exact h
def Q5{p}(h:ey p.f)(id):ey (i' p id).1.f:=by
 rw[i'];split
 .exact h
 split
 .exact h
 split
 .exact h
 .exact apv h id
def aaY:∀n p l,ey p.f->ey (oH n p l).1.f
 |0,p,l,h=>h
 |n+1,p,l,h=>by
  rw[oH];split
  .exact h
  split
  .exact KY h
  split
  .exact KY h
  .exact aaY n _ _ (Q5 (p:=⟨(hA p.f).1,p.d,p.now⟩) (KY h) _)
def apw{p}(h:ey p.f):ey (ky p).1.f:=aaY 17 p [] h
abbrev s8:=fJ×e'×I lD×J
def AJ(r:s8):c3:=.dS [oG r.1,.agg (eC r.2.1),.dm (r.2.2.1.map mn),r.2.2.2]
def re(p:fJ)(x:e')(gl:di):s8:=
 if(ky p).2.2≠0 then((ky p).1,d_,[],(ky p).2.2)
 else if(mW (ky p).1.f x (ky p).1.now gl).2≠0 then((ky p).1,d_,[],(mW (ky p).1.f x (ky p).1.now gl).2)
 else(⟨(mW (ky p).1.f x (ky p).1.now gl).1,(ky p).1.d,(ky p).1.now⟩,x,(ky p).2.1,0)
def aaZ(p x gl)(F:ey p.f):d0 cQ 226 [oG p,.agg (eC x),.bool gl] (AJ (re p x gl)):=by
 have f:=apw F;refine d5 Tryz.func226 3 Z cV (cO ?_);rw[re];refine dF ?_;refine df (apu p F) (c7 ?_);have⟨r,c⟩:∃r,ky p=r:=⟨_,Z⟩;rw[c]at f⊢
 refine kV (λQ=>?_) λQ=>?_
 .rw[if_pos Q];exact dg Z Z
 rw[cS (λq=>q Q)];refine dF ?_;refine df (aph r.1.f x r.1.now gl f.h6 f.dl) (c7 ?_);have⟨g,b⟩:∃g,mW r.1.f x r.1.now gl=g:=⟨_,Z⟩;rw[b]
 refine kV (λa=>?_) λa=>?_
 .rw[if_pos a];exact dg Z Z
 rw[cS (λq=>q a)];refine dF ?_;exact dg Z Z
def r1(p:fJ)(id:J):s8:=
 if(jO p.f id).2=N then(if(l5 p.f id).2≠0 then(p,d_,[],(l5 p.f id).2) else(⟨(l5 p.f id).1,p.d,p.now⟩,nS (l5 p.f id).1.dJ (jO p.f id).1.toNat,[],0))
 else if(lh p.d id).2≠0 then(p,d_,[],(lh p.d id).2) else re p (lh p.d id).1 L
def apx{f q}:(l5 f q).1.dJ=f.dJ:=by
 rw[l5]
 repeat' split
 all_goals rfl
def apy(p id)(F:ey p.f)(cW:id≠0):d0 cQ 160 [oG p,.int .i64 id] (AJ (r1 p id)):=by
 have h:=t9 p.f id F.h6 F.dl;refine d5 Tryz.func160 2 Z (by kernel_rfl) (cO ?_);rw[r1];refine dF ?_;rcases F.xb cW with⟨_,n⟩|⟨i,_,c8⟩
 .rw[qk F n cW]at h⊢;refine df h (c7 ?_);rw[cS (show ¬L=N by decide)];refine df (C_ p.d id) (c7 ?_);have⟨g,d⟩:∃g,lh p.d id=g:=⟨_,Z⟩;rw[d]
  refine kV (λQ=>?_) λQ=>?_
  .rw[if_pos Q];exact dg Z Z
  rw[cS (λq=>q Q)];refine dF ?_;refine df (aaZ p g.1 L F) (c7 ?_);exact dg Z Z
 .rw[qj c8]at h⊢;have c:=c8.O;refine df h (c7 ?_);rw[if_pos Z];refine df (apd p.f id F.h6 F.dl) (c7 ?_);have b:=@apx p.f id;have⟨r,e⟩:∃r,l5 p.f id=r:=⟨_,Z⟩;rw[e]at b⊢
  refine kV (λQ=>?_) λQ=>?_
  .rw[if_pos Q];exact dg Z Z
  rw[cS (λq=>q Q)]
  have a:i<r.1.dJ.length:=by rwa[b]
  have m:(r.1.dJ.map eC).length=r.1.dJ.length:=ec ..
  refine dF ?_;refine ea (by omega) (cO ?_);refine d2 (x:=eC r.1.dJ[i]) (by simp[a]) (c7 ?_);rw[gz,nT a];exact dg Z Z
def r2(p:fJ)(id:J):s8:=
 if(jO p.f id).2=N then(p,d_,[],4)
 else if(lh p.d id).2=3 then re p (id,1,fB) N
 else if(lh p.d id).2=0 then(p,d_,[],4) else(p,d_,[],(lh p.d id).2)
def apz(p id)(F:ey p.f)(cW:id≠0):d0 cQ 161 [oG p,.int .i64 id] (AJ (r2 p id)):=by
 have h:=t9 p.f id F.h6 F.dl;refine d5 Tryz.func161 2 Z (by kernel_rfl) (cO ?_);rw[r2];refine dF ?_;rcases F.xb cW with⟨_,n⟩|⟨i,_,c8⟩
 .rw[qk F n cW]at h⊢;refine df h (c7 ?_);rw[cS (show ¬L=N by decide)];refine df (C_ p.d id) (c7 ?_);have⟨g,b⟩:∃g,lh p.d id=g:=⟨_,Z⟩;rw[b]
  refine iG (λQ=>?_) λQ=>?_
  .rw[if_pos Q];exact df (aaZ p (id,1,fB) N F) (c7 (dg Z Z))
  rw[cS Q];refine dF ?_
  refine iG (λa=>?_) λa=>?_
  .rw[if_pos a];exact dg Z Z
  rw[cS a];exact dF (dg Z Z)
 .rw[qj c8]at h⊢;refine eH ?_;rw[if_pos Z];exact dg Z Z
def vC(p next:fJ)(id:J):s8:=
 if(lh p.d id).2=3 then(next,d_,[],0)
 else if(yF p.d id).2≠0 then(p,d_,[],(yF p.d id).2)
 else(⟨next.f,(yF p.d id).1,next.now⟩,d_,sY p.d (id,0,fB),0)
def xc(p:fJ)(id:J):s8:=
 if(jO p.f id).2=N then
  (if 0<(rZ p.f.cN (jO p.f id).1.toNat).2.1 then(p,d_,[],6)
   else if(oE p.f id).2≠0 then(p,d_,[],(oE p.f id).2) else vC p ⟨(oE p.f id).1,p.d,p.now⟩ id)
 else if(lh p.d id).2≠0 then(p,d_,[],3) else vC p p id
def apA(p id)(F:ey p.f)(cW:id≠0):d0 cQ 162 [oG p,.int .i64 id] (AJ (xc p id)):=by
 have h:=t9 p.f id F.h6 F.dl
 have m:(p.f.cN.map fl).length=p.f.cN.length:=ec ..
 refine d5 Tryz.func162 2 Z (by kernel_rfl) (cO ?_);rw[xc];refine dF ?_;have⟨g,a⟩:∃g,lh p.d id=g:=⟨_,Z⟩;rcases F.xb cW with⟨_,n⟩|⟨i,_,c8⟩
 .rw[qk F n cW]at h⊢;refine df h (c7 ?_);rw[cS (show ¬L=N by decide)];refine df (C_ p.d id) (c7 ?_);rw[a]
  refine kV (λQ=>?_) λQ=>?_
  .rw[if_pos Q];exact dg Z Z
  rw[cS (λq=>q Q)];refine dF ?_;rw[vC,a]
  refine iG (λk1=>?_) λk1=>?_
  .rw[if_pos k1];exact dg Z Z
  rw[cS k1];refine dF ?_;refine df (Z5 p.d id) (c7 ?_);have⟨e,c⟩:∃e,yF p.d id=e:=⟨_,Z⟩;rw[c]
  refine kV (λeK=>?_) λeK=>?_
  .rw[if_pos eK];exact dg Z Z
  rw[cS (λq=>q eK)];refine dF ?_;refine df (Qu p.d (id,0,fB)) (c7 ?_);exact dg Z Z
 .rw[qj c8]at h⊢;have cK:=c8.cK;refine df h (c7 ?_);rw[if_pos Z,gz,j7 cK];refine ea (by omega) (cO ?_);refine d2 (x:=fl p.f.cN[i]) (by simp[cK]) (c7 ?_)
  refine iG (λQ=>?_) λQ=>?_
  .rw[if_pos Q];exact dg Z Z
  rw[cS Q];refine dF ?_;refine df (C_ p.d id) (c7 ?_);rw[a];refine dF ?_;refine df (apf p.f id F.h6 F.dl) (c7 ?_);have⟨r,d⟩:∃r,oE p.f id=r:=⟨_,Z⟩;rw[d]
  refine kV (λb=>?_) λb=>?_
  .rw[if_pos b];exact dg Z Z
  rw[cS (λq=>q b)];refine dF ?_;rw[vC,a]
  refine iG (λk1=>?_) λk1=>?_
  .rw[if_pos k1];exact dg Z Z
  rw[cS k1];refine dF ?_;refine df (Z5 p.d id) (c7 ?_);have⟨e,c⟩:∃e,yF p.d id=e:=⟨_,Z⟩;rw[c]
  refine kV (λeK=>?_) λeK=>?_
  .rw[if_pos eK];exact dg Z Z
  rw[cS (λq=>q eK)];refine dF ?_;refine df (Qu p.d (id,0,fB)) (c7 ?_);exact dg Z Z
def Dl(p:fJ)(id:J):s8:=
 if(jO p.f id).2=L then(if(lh p.d id).2≠0 then(p,d_,[],3) else(p,d_,[],0))
 else if(Dt.qg p.f.dK id).2=L then(p,d_,[],0)
 else if(i' p id).2.2≠0 then(p,d_,[],(i' p id).2.2) else((i' p id).1,d_,(i' p id).2.1,0)
def apB(p id)(F:ey p.f)(cW:id≠0):d0 cQ 163 [oG p,.int .i64 id] (AJ (Dl p id)):=by
 refine d5 Tryz.func163 2 Z cV (cO ?_);rw[Dl];refine dF ?_;refine df (t9 p.f id F.h6 F.dl) (c7 ?_)
 refine hV (λQ=>?_) λQ=>?_
 .rw[if_pos pm];refine dF ?_;refine df (C_ p.d id) (c7 ?_);have⟨g,b⟩:∃g,lh p.d id=g:=⟨_,Z⟩;rw[b]
  refine kV (λa=>?_) λa=>?_
  .rw[if_pos a];exact dg Z Z
  rw[cS (λq=>q a)];refine dF ?_;exact dg Z Z
 rw[cS pm];refine dF ?_;refine df (Dt.aaa p.f.dK id F.dl) (c7 ?_)
 refine hV (λeG=>?_) λeG=>?_
 .rw[if_pos HG];refine dF ?_;exact dg Z Z
 rw[cS HG];refine dF ?_;refine df (Q1 p id F cW) (c7 ?_);have⟨w,hw⟩:∃w,i' p id=w:=⟨_,Z⟩;rw[hw]
 refine kV (λc=>?_) λc=>?_
 .rw[if_pos c];exact dg Z Z
 rw[cS (λq=>q c)];refine dF ?_;exact dg Z Z
def oI(p:fJ):I J->fJ->I lD->s8
 | [],q,l=>(q,d_,l,0)
 |id::r,q,l=>if(i' q id).2.2≠0 then(p,d_,[],(i' q id).2.2) else oI p r (i' q id).1 (l++(i' q id).2.1)
def ua(p:fJ)(a:J):s8:=oI p (Dt.pa p.f.dK p.now a) p []
def KZ(p id):(i' p id).2.1.length<=10:=by
 rw[i']
 repeat' split
 all_goals first|exact Q4 _ _|simp
def Q6{l now g2 id}(h:id∈Dt.pa l now g2):Dt.hm l=N/\ ∃t,(id,t)∈l/\g2<=now-t:=by
 rw[Dt.pa]at h;split at h
 .cases h
 .rename_i q;have⟨x,a,e⟩:=K0.1 h;rw[Dt.vw]at e;grind
def Q7{l now g2}(h:Dt.hm l=N):(Dt.pa l now g2).length<=16:=by have a:=(Dt.t5 h).1;rw[Dt.pa];grind
def aa1{l}(h:Dt.hm l=N){x}(a:x∈l):1<=x.1/\x.1<=16/\0<=x.2:=by obtain⟨i,cK,rfl⟩:=kr.1 a;have:=(Dt.t5 h).2 i cK;omega
structure apD(p:fJ)(ids:I J)(s:V×fJ×I lD):Prop where
 le:s.1<=ids.length
 fm:ey s.2.1.f
 len:s.2.2.length<=10*s.1
 eq:oI p ids p []=oI p (ids.drop s.1) s.2.1 s.2.2
def apE(p a)(b:ey p.f)(c0:p.now<=2147483647):d0 cQ 164 [oG p,.int .i64 a] (AJ (ua p a)):=by
 have e:∀id∈Dt.pa p.f.dK p.now a,id≠0:=λid h=>by
  have⟨Q,t,c5,_⟩:=Q6 h;have:=aa1 Q c5;omega
 have i:=Q7 (now:=p.now) (g2:=a) b.dK;refine d5 Tryz.func164 2 Z cV (c7 ?_);refine df (Dt.apC p.f.dK p.now a b.dl R) (c7 ?_);rw[ua];have⟨ids,j⟩:∃ids,Dt.pa p.f.dK p.now a=ids:=⟨_,Z⟩;rw[j]at e i⊢
 have r:(ids.map h1).length=ids.length:=ec ..
 refine eW (D:=V×fJ×I lD) (λs=>[(2,.ptr 2 0 0),(4,.ptr 4 0 0),(5,.ptr 5 0 0),(8,.ptr 8 0 0),(9,.own 43),(22,.d (Gi ids)),(23,.d (ids.map h1).length),(24,.d s.1)])
  (λs=>[(2,.box p.box L),(4,.box [.nil,.d (.int .i64 0),.nil,.nil,.nil,.nil,.nil,.d (.int .i64 0)] L),(5,.box [.d (.int .i64 0),.d (.int .i64 0),.d (.str fB)] L),(8,.box s.2.1.box L),(43,.row (s.2.2.map mn) 3 L)])
  (apD p ids) (λs=>ids.length-s.1) (0,p,[]) ⟨dw,b,dw,Z⟩ (nd (.row 9 43 3) g_ (dH lP gO dV)) ?_
 rintro⟨k,q,l⟩ ⟨c_,c,m,he⟩;simp only at c_ c m he⊢;rw[he]
 conv=>whnf
 refine mj (λdu=>?_) λdu=>?_
 .have eR:k<ids.length:=R
  rw[qT eR,oI];have n:=e ids[k] (hF eR);have g:=Q5 c ids[k];have o:=KZ q ids[k];refine ea R (cO ?_);refine d2 (x:=h1 ids[k]) iJ (c7 ?_);refine df (Q1 q ids[k] c n) (c7 ?_);have⟨w,hw⟩:∃w,i' q ids[k]=w:=⟨_,Z⟩;rw[hw]at g o⊢
  refine kV (λdY=>?_) λdY=>?_
  .rw[if_pos dY];exact dg Z Z
  rw[cS (λq=>q dY)]
  have u:(w.2.1.map mn).length=w.2.1.length:=ec ..
  have v:(l.map mn).length=l.length:=ec ..
  refine dF ?_;refine fz (Qn _) (cO ?_);refine fO 1000 1000 R cZ cZ cZ (c7 ?_);refine⟨(k+1,w.1,l++w.2.1),⟨l_,g,TQ,?_⟩,l_,dX (dH ⟨?_,?_,?_,?_,?_,?_,?_,?_,dM⟩ ⟨?_,?_,?_,?_,?_,dM⟩ ⟨?_,?_,?_,?_⟩)⟩
  .simp only[];rw[he,qT eR,oI,hw,cS (λq=>q dY)]
  rotate_left 12
  .rw[jl];kernel_rfl
  all_goals kernel_rfl
 .rw[CY R,oI];exact dg Z Z
def hp(p:fJ)(a:Q0):s8:=
 if a.1<1\/8<a.1 then(p,d_,[],1)
 else if a.1≠8/\ (a.2.1<1\/16<a.2.1) then(p,d_,[],1)
 else if a.1=1 then r1 p a.2.1
 else if a.1=2 then r2 p a.2.1
 else if a.1=6 then xc p a.2.1
 else if a.1=7 then Dl p a.2.1
 else if a.1=8 then ua p a.2.1
 else((nV p a).1,(nV p a).2.1,[],(nV p a).2.2)
def K1(p a)(F:ey p.f)(c0:p.now<=2147483647):d0 cQ 118 [oG p,.agg (aaU a)] (AJ (hp p a)):=by
 refine d5 Tryz.func118 2 Z cV (cO ?_);rw[hp];refine dF ?_
 refine iG (λQ=>?_) λQ=>?_
 .rw[if_pos (.inl Q)];exact dg Z Z
 refine dF ?_
 refine iG (λb=>?_) λb=>?_
 .rw[if_pos (.inr b)];exact dg Z Z
 rw[cS R];refine dF ?_
 refine wT (λc=>?_) λc=>?_
 .refine dF ?_
  refine iG (λe=>?_) λe=>?_
  .rw[if_pos ⟨c,.inl e⟩];exact dg Z Z
  refine dF ?_
  refine iG (λdu=>?_) λdu=>?_
  .rw[if_pos ⟨c,.inr du⟩];exact dg Z Z
  rw[cS (λq=>R)];have cW:a.2.1≠0:=R;refine dF ?_
  refine iG (λk1=>?_) λk1=>?_
  .rw[if_pos k1];exact df (apy p a.2.1 F cW) (c7 (dg Z Z))
  rw[cS k1];refine dF ?_
  refine iG (λeK=>?_) λeK=>?_
  .rw[if_pos eK];exact df (apz p a.2.1 F cW) (c7 (dg Z Z))
  rw[cS eK];refine dF ?_
  refine iG (λd=>?_) λd=>?_
  .rw[if_pos d];exact df (apA p a.2.1 F cW) (c7 (dg Z Z))
  rw[cS d];refine dF ?_
  refine iG (λk=>?_) λk=>?_
  .rw[if_pos k];exact df (apB p a.2.1 F cW) (c7 (dg Z Z))
  rw[cS k,cS c];refine eH ?_;refine df (apr p a F R R) (c7 ?_);exact dg Z Z
 .refine dF ?_;rw[cS (λq=>q.1 c),cS R,cS R,cS R,cS R,if_pos c];refine eH ?_;refine df (apE p a.2.1 F c0) (c7 ?_);exact dg Z Z
structure hI where
 n:V
 ds:I (V×di)
 q:I V
def fP(c:V×di):I c3:=[c.1,.int .i64 1,.int .i64 (if c.2=N then 1 else 0)]
def iR(w:V):I c3:=[w,.int .i64 1]
def hI.cells(h:hI):I c3:=[h.n,.int .i64 1,.dm (h.ds.map fP),.dm (h.q.map iR)]
def ql(h:hI):c3:=.agg h.cells
def h2(l:I (V×di)):V:=l.countP (·.2)
structure jb(h:hI):Prop where
 fA:1<=h.n
 ub:h.n<=8
 len:h.ds.length+h.q.length<=4
 eO:(h.ds.map (·.1)++h.q).Nodup
 lt:∀w∈h.ds.map (·.1)++h.q,w<4
 held:h2 h.ds<=h.n
 shut:h.q=[] \/2*h.n<=h.ds.length
def iv(n:V):I (V×di)->I V->I (V×di)×I V
 |ds,[]=>(ds,[])
 |ds,w::q=>if ds.length<2*n then iv n (ds++[(w,L)]) q else(ds,w::q)
def xd(n:V)(r:I (V×di)×I V):hI:=⟨n,r.1,r.2⟩
def AK(h:hI)(w:V):hI:=xd h.n (iv h.n h.ds (h.q++[w]))
def j9(h:hI)(w:V):di:=h.ds.any λc=>c.1==w
def l6(h:hI)(w:V):di:=h.ds.any λc=>c.1==w&&c.2
def h5(l:I (V×di))(w:V)(b:di):I (V×di):=l.map λc=>if c.1=w then(c.1,b) else c
def qm(h:hI)(w:V):hI:=⟨h.n,h5 h.ds w N,h.q⟩
def xe(h:hI)(w:V):hI:=⟨h.n,h5 h.ds w L,h.q⟩
def r3(h:hI)(w:V):hI:=xd h.n (iv h.n (h.ds.filter λc=>c.1 !=w) (h.q.filter λx=>x !=w))
structure hx where
 c':I V
 ex:di
 q:I (V×di)
def f1(w:V):I c3:=[w]
def ik(w:V×di):I c3:=[w.1,.bool w.2]
def hx.cells(l:hx):I c3:=[.dm (l.c'.map f1),.bool l.ex,.dm (l.q.map ik)]
def vD(l:hx):c3:=.agg l.cells
def qn:hx:=⟨[],L,[]⟩
structure rf(l:hx):Prop where
 len:l.c'.length+l.q.length<=4
 lt:∀w∈l.c'++l.q.map (·.1),w<4
 up:l.c'.Pairwise (·<·)
 eO:(l.c'++l.q.map (·.1)).Nodup
 one:l.ex=N->l.c'.length=1
 shut:l.q=[] \/ (l.c'≠[] /\ (l.ex=N\/ ∀x,l.q.head? =U x->x.2=N))
def nW(w:V)(l:I V):I V:=l.takeWhile (λx=>gy (x<w))++w::l.dropWhile (λx=>gy (x<w))
def r4:I V->di->I (V×di)->hx
 |c',ex,[]=>⟨c',ex,[]⟩
 |c',ex,(w,x)::q=>if c'=[] \/ (ex=L/\x=L) then r4 (nW w c') (ex||x) q else ⟨c',ex,(w,x)::q⟩
def uc(l:hx)(w:V)(x:di):hx:=r4 l.c' l.ex (l.q++[(w,x)])
def r5(l:hx)(w:V):hx:=r4 (l.c'.filter λx=>x !=w) (if(l.c'.filter λx=>x !=w)=[] then L else l.ex) (l.q.filter λx=>x.1 !=w)
def s9(l:hx)(w:V):di:=l.c'.contains w
structure mu where
 kJ:V
 gs:V
 dJ:J
 k0:V
structure gw where
 at':V
 gX:di
 eD:I (dB J)
 next:V
 out:I mu
def apF(j:dB J):c3:=.dm (match j with|none=>[]|some _=>[[.int .i64 2]])
def hd(j:dB J):I c3:=[.int .i64 1,.int .i64 0,apF j]
def AL(w:V)(p:J)(t:V):I c3:=[w,.int .i64 1,p,.str fB,t]
def yK(w:V)(j:dB J):I c3:=[.dm (match j with|none=>[]|some p=>[AL w p 0])]
def lG(f:mu):I c3:=[f.kJ,.int .i64 1,f.dJ,.str fB]
def jm(f:mu):I c3:=AL f.gs f.dJ f.k0
def gw.cells(s:gw)(d:gA):I c3:=
 [.dm (s.eD.map hd),s.at',.bool s.gX,.dm (s.eD.mapIdx yK),.dm (d.sec.map hW),.dm (d.fy.map fs),s.next,.dm (s.out.map lG),.dm (s.out.map jm)]
structure r6(s:gw):Prop where
 fA:1<=s.eD.length
 mv:s.eD.length<=4
 AM:s.at'<s.eD.length
 dJ:∀p,U p∈s.eD->1<=p/\p<=16
 fr:s.next<=2147483647
 jC:s.out.length<=4
 up:(s.out.map (·.kJ)).Pairwise (·<·)
 lt:∀f∈s.out,f.kJ<s.next/\f.gs<s.eD.length/\ (1<=f.dJ/\f.dJ<=16) /\1<=f.k0/\f.k0<=3
def pc(eD:I (dB J)):V->V->dB V
 |0,_=>cL
 |m+1,k=>if(eD[k%eD.length]?.getD cL).isSome=N then U (k%eD.length) else pc eD m (k+1)
def Q8(s:gw):dB V:=pc s.eD s.eD.length (if s.gX=N then s.at'+1 else s.at')
def Dm:V->gw->gw
 |0,s=>s
 |m+1,s=>if s.out.length<4/\s.next<2147483647 then
   match Q8 s with
   |none=>s
   |some k=>Dm m ⟨k,N,s.eD.set k cL,s.next+1,s.out++[⟨s.next,k,(s.eD[k]?.getD cL).getD 0,1⟩]⟩
  else s
def Dn(s:gw):gw:=Dm 5 s
def ud(s:gw)(w:V)(p:J):gw:={s with eD:=s.eD.set w (U p)}
def Q9(s:gw)(i:V)(a:di):gw×dB (V×di):=
 match s.out[i]? with
 |none=>(s,cL)
 |some j=>if a=N/\j.k0<3/\s.next<2147483647 then({s with next:=s.next+1,out:=s.out.eraseIdx i++[⟨s.next,j.gs,j.dJ,j.k0+1⟩]},cL)
  else({s with out:=s.out.eraseIdx i},U (j.gs,a))
abbrev gU:=J×J×dG
abbrev lH:=J×e'
def kz(o:gU):I c3:=[o.1,o.2.1,.str o.2.2]
def K2(r:lH):I c3:=[r.1,r.2.1,r.2.2.1,.str r.2.2.2]
structure gd where
 todo:I gU
 ended:V
 st:V
 asked:di
 pinned:di
 nX:J
 done:J
 res:lH
def j_(w:gd):I c3:=[.dm (w.todo.map kz),.int .i64 w.ended,.int .i64 w.st,.bool w.asked,.bool w.pinned,.int .i64 w.nX,.int .i64 w.done]++K2 w.res
def rg(l:I gU):gd:=⟨l,0,0,L,L,0,0,(0,d_)⟩
def K3:gU:=(0,0,fB)
def gd.op(w:gd):gU:=w.todo[w.ended]?.getD K3
structure qo where
 gs:V
 op:gU
 res:lH
 nX:J
 done:J
 ended:J
def pK(e:qo):I c3:=[c3.int .i64 e.gs]++kz e.op++K2 e.res++[.int .i64 e.nX,.int .i64 e.done,.int .i64 e.ended]
structure eu where
 ws:I gd
 p:fJ
 h:hI
 ej:I hx
 s:gw
 eh:J
 dq:I qo
def i1(o:gU):di:=gy (o.1<1)||decide (4<o.1)||decide (o.2.1<1)||decide (16<o.2.1)
def r7(l:I hx)(k:J)(x:hx):I hx:=l.set k.toNat x
def iS(m:eu)(k:J):hx:=m.ej[k.toNat]?.getD qn
def qp(w:gd)(r:lH)(now:J):gd:={w with res:=r,done:=now,st:=6}
def l7(p:fJ)(id:J):di:=(jO p.f id).2
def vE(p:fJ)(id:J):di:=(jO p.f id).2&&decide (0<(rZ p.f.cN (jO p.f id).1.toNat).2.1)
def k2(k:J):I J:=if k=1 then [2] else if k=2 then [1,3] else if k=3 then [1,4] else if k=4 then [6] else []
def kA(o:gU):I J->fJ->lH->fJ×lH
 | [],p,r=>(p,r)
 |k::vf,p,r=>let t:=hp p (k,o.2.1,o.2.2);if t.2.2.2≠0 then(t.1,(t.2.2.2,d_)) else kA o vf t.1 (r.1,t.2.1)
def rh(o:gU)(q:fJ×lH):fJ×lH:=
 if vE q.1 o.2.1=N then
  let t:=hp q.1 (5,o.2.1,fB)
  (t.1,if q.2.1=0/\t.2.2.2≠0 then(t.2.2.2,d_) else q.2)
 else q
def gg(p:fJ)(o:gU):fJ×lH:=rh o (kA o (k2 o.1) p (0,d_))
def pd(m:eu)(k:V)(w:gd):eu:={m with ws:=m.ws.set k w}
def stepW(m:eu)(k:V)(w:gd)(now:J):eu×di:=
 match w.st with
 |0=>if w.todo.length<=w.ended then(m,L) else({pd m k {w with nX:=now,st:=1} with h:=AK m.h k},N)
 |1=>if j9 m.h k=L then(m,L) else
   if i1 w.op=N then(pd m k (qp w (1,d_) now),N) else
   ({pd m k {w with asked:=N,st:=2} with ej:=r7 m.ej w.op.2.1 (uc (iS m w.op.2.1) k (decide (w.op.1≠2)))},N)
 |2=>if s9 (iS m w.op.2.1) k=L then(m,L) else(pd m k {w with st:=3},N)
 |3=>if m.h.n<=h2 m.h.ds then(m,L) else
   if l7 m.p w.op.2.1=L/\ (w.op.1=2\/w.op.1=3) then({pd m k {w with pinned:=N,st:=4} with h:=qm m.h k,s:=ud m.s k w.op.2.1},N)
   else({pd m k {w with pinned:=N,st:=5} with h:=qm m.h k},N)
 |5=>({pd m k (qp w (gg m.p w.op).2 now) with p:=(gg m.p w.op).1},N)
 |6=>({m with
   ws:=m.ws.set k ⟨w.todo,w.ended+1,0,L,L,0,0,(0,d_)⟩
   h:=r3 (if w.pinned=N then xe m.h k else m.h) k
   ej:=if w.asked=N then r7 m.ej w.op.2.1 (r5 (iS m w.op.2.1) k) else m.ej
   dq:=m.dq++[⟨k,w.op,w.res,w.nX,w.done,now⟩]},N)
 |_=>(m,L)
def gR(m:eu)(k:J):eu×di:=
 if k<0 then(m,L) else
 match m.ws[k.toNat]? with
 |none=>(m,L)
 |some w=>stepW {m with eh:=m.eh+1} k.toNat w m.eh
def qq(m:eu):eu:={m with s:=Dn m.s}
def Do(m:eu)(w:gd)(vB:di):gd:=if vB=N then qp w (8,d_) (m.eh-1) else {w with st:=5}
def jn(m:eu)(i:J)(a:di):eu×di:=
 if i<0\/ (m.s.out.length:J) <=i then(m,L) else
 match Q9 m.s i.toNat a with
 |(s,cL)=>({m with s:=s},N)
 |(s,U (k,vB))=>match m.ws[k]? with
  |none=>({m with s:=s},N)
  |some w=>if w.st≠4 then({m with s:=s},N) else({m with s:=s,ws:=m.ws.set k (Do m w vB)},N)
def vF(m:eu)(g2:J):eu:={m with p:=(hp (lk m.p 1) (8,g2,fB)).1}
def mw(p:fJ)(n:V)(todo:I (I gU)):eu:=
 ⟨todo.map rg,p,⟨n,[],[]⟩,eQ 17 qn,⟨0,L,eQ todo.length cL,0,[]⟩,0,[]⟩
def Dp(n):∀q ds,(iv n ds q).1.map (·.1)++(iv n ds q).2=ds.map (·.1)++q
 | [],ds=>rfl
 |w::q,ds=>by
  rw[iv];split
  .rw[Dp n q];simp
  .rfl
def K4(n):∀q ds,∃t,(iv n ds q).1=ds++t/\ ∀c∈t,c.2=L
 | [],ds=>⟨[],by simp[iv],dw⟩
 |w::q,ds=>by
  rw[iv];split
  .have⟨t,Q,a⟩:=K4 n q (ds++[(w,L)]);simp_all
  simp_all
def aa2(n):∀q ds,(iv n ds q).2=[] \/2*n<= (iv n ds q).1.length
 | [],ds=>.inl Z
 |w::q,ds=>by
  rw[iv];split
  .exact aa2 n q _
  simp_all
def apG(n q ds):h2 (iv n ds q).1=h2 ds:=by have⟨t,Q,h⟩:=K4 n q ds;rw[h2,h2,Q,aaD,(List.countP_eq_zero (l:=t) (p:=(·.2))).2 (λc a=>by grind)];omega
def apH(n q ds):(iv n ds q).1.length+(iv n ds q).2.length=ds.length+q.length:=by have:=eL pt (Dp n q ds);simp_all
def aa3{n ds q}(a:1<=n)(b:n<=8)(l:ds.length+q.length<=4)(cP:(ds.map (·.1)++q).Nodup)(h:∀w∈ds.map (·.1)++q,w<4)(c9:h2 ds<=n):jb (xd n (iv n ds q)):=
 ⟨a,b,by have:=apH n q ds;show(iv n ds q).1.length+(iv n ds q).2.length<=4;omega,
  by show((iv n ds q).1.map (·.1)++(iv n ds q).2).Nodup;rwa[Dp],
  by show ∀w∈(iv n ds q).1.map (·.1)++(iv n ds q).2,w<4;rw[Dp];exact h,
  by show h2 (iv n ds q).1<=n;rw[apG];exact c9,aa2 n q ds⟩
def hI.all(h:hI):I V:=h.ds.map (·.1)++h.q
def Q_(h w):(AK h w).all=h.all++[w]:=by show(iv h.n h.ds (h.q++[w])).1.map (·.1)++(iv h.n h.ds (h.q++[w])).2=_;rw[Dp,hI.all];simp
def apI{h w}(O:jb h)(hw:w<4)(c0:w∉h.all)(l:h.ds.length+h.q.length<4):jb (AK h w):=by
 refine aa3 O.fA O.ub hy ?_ ?_ O.held
 .rw[<-j4,pH];exact⟨O.eO,dw,λa d b e=>by rw[p6.1 e];exact λq=>c0 (q▸d)⟩
 .intro x c;rw[<-j4]at c;rcases iY.1 c with c|c
  .exact O.lt x c
  simp_all
def aa4{n ds q w}(h:ds.any (λc=>c.1==w)=N):j9 (xd n (iv n ds q)) w=N:=by have⟨t,Q,a⟩:=K4 n q ds;show(iv n ds q).1.any _=N;simp_all
def Q'{n ds q w}:l6 (xd n (iv n ds q)) w=ds.any λc=>c.1==w&&c.2:=by have⟨t,Q,h⟩:=K4 n q ds;show(iv n ds q).1.any _=_;simp_all
def Dq(l w b):(h5 l w b).map (·.1)=l.map (·.1):=by rw[h5,K5];refine apJ λc _=>?_;grind
def apK{l w b}(h:w∉l.map (·.1)):h5 l w b=l:=by
 rw[h5]
 conv=>rhs;rw[<-apL l]
 refine apJ λc a=>?_;grind
def Ra{w b c}:∀ {l},(l.map (·.1)).Nodup->(w,c)∈l->h2 (h5 l w b)+(if c=N then 1 else 0)=h2 l+(if b=N then 1 else 0)
 | [],_,h=>hh
 |x::r,cP,h=>by
  have d:=tH.1 (by simp_all:(x.1::r.map (·.1)).Nodup);show h2 ((if x.1=w then(x.1,b) else x)::h5 r w b)+_=_;rcases nG.1 h with rfl|h
  .rw[apK d.1,if_pos Z];simp[h2,QK];omega
  .have n:x.1≠w:=λq=>d.1 (q▸r8 (f:=(·.1)) h);have i:=Ra (b:=b) d.2 h;rw[cS n];simp[h2,QK]at i⊢;omega
def AN{h w}:j9 h w=N↔w∈h.ds.map (·.1):=by rw[j9,xf,is];simp_all
def GX{h w}:l6 h w=N↔(w,N)∈h.ds:=by rw[l6,xf];simp_all
def Rb(w x r):nW w (x::r)=if x<w then x::nW w r else w::x::r:=by
 by_cases h:x<w
 .simp[nW,Rc,apM,h]
 .simp[nW,Rc,apM,h]
def yL{w y}:∀ {l},y∈nW w l↔y=w\/y∈l
 | []=>by simp[nW]
 |x::r=>by
  rw[Rb];split
  .rw[nG,yL,nG];grind
  simp_all
def K6(w):∀l,(nW w l).length=l.length+1
 | []=>rfl
 |x::r=>by
  rw[Rb];split
  .simp[K6 w r]
  .simp
def K7{w}:∀ {l},l.Pairwise (·<·)->w∉l->(nW w l).Pairwise (·<·)
 | [],_,_=>by simp[nW]
 |x::r,O,c0=>by
  have Q:=vg.1 O;have a:w≠x:=λq=>c0 (q▸.head _);rw[Rb];split
  .refine vg.2 ⟨λy h=>?_,K7 Q.2 λq=>c0 (.tail _ q)⟩;rcases yL.1 h with rfl|h
   .assumption
   simp_all
  .refine vg.2 ⟨λy h=>?_,O⟩;grind
structure jP(x:V->di)(c':I V)(ex:di)(q:I (V×di)):Prop where
 up:c'.Pairwise (·<·)
 eO:(c'++q.map (·.1)).Nodup
 one:ex=N->c'.length=1
 jC:∀p∈q,p.2=x p.1
 cP:∀w∈c',x w=ex
def apN{x s e w b q}(h:jP x s e ((w,b)::q))(o:s=[] \/ (e=L/\b=L)):jP x (nW w s) (e||b) q:=by
 have c0:=λhw=>(pH.1 h.eO).2.2 w hw w dw Z;have j:=h.jC (w,b) (.head _)
 have i:e=L:=by
  rcases o with o|o
  .cases f:e with|false=>rfl|true=>have:=h.one f;simp_all
  .exact o.1
 have g:=pH.1 h.eO;refine⟨K7 h.up c0,pH.2 ⟨(K7 h.up c0).imp (λq=>R),?_,λa d c k=>?_⟩,λf=>?_,λp O=>h.jC p (.tail _ O),λv cY=>?_⟩
 .simp_all
 .rcases yL.1 d with rfl|d
  .grind
  simp_all
 .rw[K6];simp_all
 .rw[i,Bool.false_or];rcases yL.1 cY with rfl|cY
  .grind
  .rcases o with o|o
   .simp_all
   .rw[o.2,h.cP v cY,o.1]
structure Dr(x:V->di)(c':I V)(q:I (V×di))(r:hx):Prop where
 li:jP x r.c' r.ex r.q
 mem:∀w,(w∈r.c'\/w∈r.q.map (·.1))↔(w∈c'\/w∈q.map (·.1))
 sub:∀w∈c',w∈r.c'
 len:r.c'.length+r.q.length=c'.length+q.length
 shut:r.q=[] \/ (r.c'≠[] /\ (r.ex=N\/ ∀y,r.q.head? =U y->y.2=N))
def Re{x}:∀ {q s e},jP x s e q->Dr x s q (r4 s e q)
 | [],s,e,h=>⟨h,λw=>Iff.rfl,λw hw=>hw,Z,.inl Z⟩
 |(w,b)::q,s,e,h=>by
  rw[r4];split
  .rename_i o;have⟨a,fh,c,d,f⟩:=Re (apN h o);refine⟨a,λv=>?_,λv cY=>c v (yL.2 (.inr cY)),by rw[d,K6];simp;omega,f⟩;rw[fh,yL];grind
  .rename_i o;refine⟨h,λw=>Iff.rfl,λw hw=>hw,Z,.inr ⟨λq=>o (.inl q),?_⟩⟩;grind
def K8{eD}(j:eD≠[]):∀ {m k r},pc eD m k=U r->r<eD.length/\ ∃p,eD[r]?=U (U p)
 |0,_,_,h=>hh
 |m+1,k,r,h=>by
  rw[pc]at h;split at h
  .rename_i s
   cases h
   have l:k%eD.length<eD.length:=lp _ (Cz.2 j);refine⟨l,?_⟩;rw[fq l]at s⊢;have⟨p,O⟩:=Option.isSome_iff_exists.1 s;simp_all
  .exact K8 j h
def aa5{eD}(a:eD≠[]):∀ {m k},pc eD m k=cL->∀j,k<=j->j<k+m->eD[j%eD.length]?=U cL
 |0,_,_,j,Q,b=>R
 |m+1,k,h,j,Q,b=>by
  rw[pc]at h;split at h
  .cases h
  .rename_i s
   by_cases e:j=k
   .subst e;have l:j%eD.length<eD.length:=lp _ (Cz.2 a);simp_all
   .exact aa5 a h j R R
def apP{n k i:V}(cK:i<n):∃j,k<=j/\j<k+n/\j%n=i:=by
 have c0:0<n:=R
 by_cases h:k%n<=i
 .refine⟨k-k%n+i,?_,?_,?_⟩
  .omega
  .omega
  .have Q:k-k%n=n*(k/n):=by have:=V_ k n;omega
   rw[Q,Jc,nH cK]
 .refine⟨k-k%n+n+i,?_,?_,?_⟩
  .have:=apQ k n;have:=lp k c0;omega
  .have:=apQ k n;omega
  .have Q:k-k%n+n=n*(k/n+1):=by have:=V_ k n;rw[Nat.mul_add];omega
   rw[Q,Jc,nH cK]
def apR{eD}(b:eD≠[]){k}(h:pc eD eD.length k=cL):∀i,i<eD.length->eD[i]?=U cL:=by intro i cK;have⟨j,Q,a,c⟩:=apP (k:=k) cK;rw[<-c];exact aa5 b h j Q a
def kB(s:gw)(k:V)(p:J):Prop:=s.eD[k]?=U (U p) \/ ∃f∈s.out,f.gs=k/\f.dJ=p
structure mX(s:gw):Prop extends r6 s where
 eO:(s.out.map (·.gs)).Nodup
 ex:∀f∈s.out,s.eD[f.gs]?=U cL
def r6.ne{s}(h:r6 s):s.eD≠[]:=λq=>by have:=h.fA;simp_all
def aa6{s}(h:mX s){k p g}(c_:k<s.eD.length)(l:s.eD[k]?=U (U p))(m:s.out.length<4)(c0:s.next<2147483647):mX ⟨k,g,s.eD.set k cL,s.next+1,s.out++[⟨s.next,k,p,1⟩]⟩:=by
 have O:=h.dJ p (jY l);refine⟨⟨by grind,by simpa using h.mv,uB,?_,by assumption,hy,?_,?_⟩,?_,?_⟩
 .intro q d;rcases apS d with d|d
  .exact h.dJ q d
  .cases d
 .simp;refine KL.2 ⟨h.up,dw,λa i b j=>?_⟩;rw[p6.1 j];obtain⟨f,c,rfl⟩:=is.1 i;exact(h.lt f c).1
 .intro f c;rcases iY.1 c with c|c
  .have:=h.lt f c;grind
  simp_all
 .simp;refine pH.2 ⟨h.eO,dw,λa i b j=>?_⟩;rw[p6.1 j];obtain⟨f,c,rfl⟩:=is.1 i;intro e;have:=h.ex f c;simp_all
 .intro f c;rw[ly];rcases iY.1 c with c|c
  .have:=h.ex f c;grind
  simp_all
def apT{s}(h:mX s){k p g}(c:k<s.eD.length)(j:s.eD[k]?=U (U p))(w q):kB ⟨k,g,s.eD.set k cL,s.next+1,s.out++[⟨s.next,k,p,1⟩]⟩ w q↔kB s w q:=by
 unfold kB;rw[ly];constructor
 .grind
 .rintro (Q|⟨f,b,Q,a⟩)
  .by_cases e:k=w
   .simp_all
   simp_all
  grind
structure aa7(s r:gw):Prop where
 jH:mX r
 aa8:∀w q,kB r w q↔kB s w q
 len:r.eD.length=s.eD.length
 fr:r.next<=s.next+(r.out.length-s.out.length)
 ol:s.out.length<=r.out.length
def aa9:∀(m) {s},mX s->aa7 s (Dm m s)
 |0,s,h=>⟨h,λ_ _=>Iff.rfl,Z,by show s.next<=_;omega,fi _⟩
 |m+1,s,h=>by
  have cW:aa7 s s:=⟨h,λ_ _=>Iff.rfl,Z,R,fi _⟩;rw[Dm];split
  .rename_i c;split
   .exact cW
   .rename_i k b;have⟨Q,p,a⟩:=K8 h.ne b
    have d:(s.eD[k]?.getD cL).getD 0=p:=by rw[a];rfl
    rw[d];have i:=aa9 m (aa6 (g:=N) h Q a c.1 c.2);have l:(s.out++[(⟨s.next,k,p,1⟩:mu)]).length=s.out.length+1:=dw;refine⟨i.jH,λw q=>(i.aa8 w q).trans (apT h Q a w q),by rw[i.len];simp,?_,?_⟩
    .have:=i.fr;have:=i.ol;simp at*;omega
    .have:=i.ol;grind
  .exact cW
def apU{l:I V}(e:l.length=4)(c0:l.Nodup)(h:∀x∈l,x<4){k}(j:k<4):k∈l:=by
 match l,e with
 | [a,b,c,d],_=>simp at c0;have f:=h a dw;have g:=h b dw;have i:=h c dw;have cP:=h d dw;grind
def apV{s}(h:mX s){k p}(c:k<s.eD.length)(O:1<=p/\p<=16)(c0:∀q,¬kB s k q):mX (ud s k p):=by
 refine⟨⟨by simpa[ud]using h.fA,by simpa[ud]using h.mv,by simpa[ud]using h.AM,?_,h.fr,h.jC,h.up,λf a=>?_⟩,h.eO,λf a=>?_⟩
 .intro q b;rcases apS b with b|b
  .exact h.dJ q b
  simp_all
 .simpa[ud]using h.lt f a
 .show(s.eD.set k (U p))[f.gs]?=_;rw[ly,cS (λe=>c0 f.dJ (.inr ⟨f,a,e.symm,Z⟩))];exact h.ex f a
def aba{s k p}(a:k<s.eD.length)(c0:∀q,¬kB s k q)(w q):kB (ud s k p) w q↔kB s w q\/ (w=k/\q=p):=by
 unfold kB;show((s.eD.set k (U p))[w]?=_\/ ∃f∈s.out,_)↔_;rw[ly]
 by_cases e:k=w
 .subst e;rw[if_pos Z,if_pos a];constructor
  .grind
  .rintro (h|⟨_,rfl⟩)
   .exact dN h (c0 q)
   simp_all
 grind
def apW{α:Type}{l i}{j:α}(h:l[i]?=U j):∃A B,l=A++j::B/\l.eraseIdx i=A++B:=by have cK:=(f_.1 h).1;have a:=(f_.1 h).2;refine⟨l.take i,l.drop (i+1),?_,List.eraseIdx_eq_take_drop_succ l i⟩;rw[<-a,<-qT cK,JB]
structure rb(s:gw)(i:V)(j:mu)(A B:I mu):Prop where
 o:s.out=A++j::B
 e:s.out.eraseIdx i=A++B
 w:∀f∈A++B,f.gs≠j.gs
def apY{s}(h:mX s){i j}(b:s.out[i]?=U j):∃A B,rb s i j A B:=by have⟨A,B,Q,a⟩:=apW b;refine⟨A,B,Q,a,λf c=>?_⟩;have c0:=h.eO;grind
def rb.mem{s i j A B}(c:rb s i j A B)(f):f∈s.out↔f=j\/f∈A++B:=by rw[c.o];grind
def abb{s}(h:mX s){i j A B}(c:rb s i j A B):mX {s with out:=A++B}:=by
 have u:(A++B).Sublist s.out:=by rw[c.o];exact apZ (ax7 A) (List.sublist_cons_self _ _)
 exact⟨⟨h.fA,h.mv,h.AM,h.dJ,h.fr,fG u.length_le h.jC,h.up.sublist (u.map _),λf a=>h.lt f (u.mem a)⟩,h.eO.sublist (u.map _),λf a=>h.ex f (u.mem a)⟩
def ap1{s}(h:mX s){i j A B}(c:rb s i j A B)(w q):kB {s with out:=A++B} w q↔kB s w q/\w≠j.gs:=by
 unfold kB;constructor
 .rintro (Q|⟨f,a,Q,b⟩)
  .refine⟨.inl Q,λe=>?_⟩;have:=h.ex j ((c.mem j).2 (.inl Z));simp_all
  .exact⟨.inr ⟨f,(c.mem f).2 (.inr a),Q,b⟩,λe=>c.w f a (Q.trans e)⟩
 .rintro⟨Q|⟨f,a,Q,b⟩,hw⟩
  .grind
  .rcases (c.mem f).1 a with rfl|a
   .omega
   grind
def ap2{s}(h:mX s){i j A B}(c:rb s i j A B)(t:j.k0<3)(c0:s.next<2147483647):mX {s with next:=s.next+1,out:=(A++B)++[⟨s.next,j.gs,j.dJ,j.k0+1⟩]}:=by
 have cW:=abb h c;have k:=h.lt j ((c.mem j).2 (.inl Z))
 have m:(A++B).length+1=s.out.length:=by rw[c.o];simp;omega
 have l:=h.jC;refine⟨⟨h.fA,h.mv,h.AM,h.dJ,by assumption,by grind,?_,λf d=>?_⟩,?_,λf d=>?_⟩
 .rw[jl];refine KL.2 ⟨cW.up,dw,λa e b g=>?_⟩;rw[p6.1 g];obtain⟨f,d,rfl⟩:=is.1 e;exact(cW.lt f d).1
 .rcases iY.1 d with d|d
  .have:=cW.lt f d;grind
  grind
 .rw[jl];refine pH.2 ⟨cW.eO,dw,λa e b g=>?_⟩;rw[p6.1 g];obtain⟨f,d,rfl⟩:=is.1 e;exact c.w f d
 .rcases iY.1 d with d|d
  .exact cW.ex f d
  .rw[p6.1 d];exact h.ex j ((c.mem j).2 (.inl Z))
def ap3{s i j A B}(c:rb s i j A B)(w q):kB {s with next:=s.next+1,out:=(A++B)++[⟨s.next,j.gs,j.dJ,j.k0+1⟩]} w q↔kB s w q:=by
 unfold kB;constructor
 .rintro (Q|⟨f,h,Q,a⟩)
  .grind
  .rcases iY.1 h with h|h
   .exact .inr ⟨f,(c.mem f).2 (.inr h),Q,a⟩
   .rw[p6.1 h]at Q a;exact .inr ⟨j,(c.mem j).2 (.inl Z),Q,a⟩
 .rintro (Q|⟨f,h,Q,a⟩)
  .grind
  .rcases (c.mem f).1 h with rfl|h
   .exact .inr ⟨_,iY.2 (.inr (.head _)),Q,a⟩
   grind
def hx.all(l:hx):I V:=l.c'++l.q.map (·.1)
structure Ds(h:hI)(ej:I hx)(s:gw)(k:V)(w:gd):Prop where
 Du:w.st<=6
 k7:w.ended<=w.todo.length
 kC:w.st≠0->w.ended<w.todo.length
 mS:k∈h.all↔w.st≠0
 ds:2<=w.st->j9 h k=N
 held:l6 h k=w.pinned
 AI:w.st=4\/w.st=5->w.pinned=N
 zj:w.st<4->w.pinned=L
 ask:2<=w.st->w.st<=5->w.asked=N
 Dv:w.st<2->w.asked=L
 val:w.asked=N->i1 w.op=L
 lt:∀(j:V) (l:hx),ej[j]?=U l->(k∈l.all↔w.asked=N/\w.op.2.1=j)
 hold:w.asked=N->3<=w.st->∀(l:hx),ej[w.op.2.1.toNat]?=U l->k∈l.c'
 r9:∀p,kB s k p↔w.st=4/\p=w.op.2.1
structure yM(h iN:hI)(k:V):Prop where
 mS:k∈iN.all↔k∈h.all
 ds:j9 h k=N->j9 iN k=N
 held:l6 iN k=l6 h k
def yN(ej oJ:I hx)(k:V):Prop:=∀(j:V) (a:hx),oJ[j]?=U a->∃l,ej[j]?=U l/\ (k∈a.all↔k∈l.all) /\ (k∈l.c'->k∈a.c')
def GY(s s':gw)(k:V):Prop:=∀p,kB s' k p↔kB s k p
def yM.nY(h k):yM h h k:=⟨Iff.rfl,id,Z⟩
def yN.nY(l k):yN l l k:=λj a h=>⟨a,h,Iff.rfl,id⟩
def GY.nY(s k):GY s s k:=λ_=>Iff.rfl
def Ds.frame{h e ej t s s' k w}(o:Ds h ej s k w)(a:yM h e k)(b:yN ej t k)(c:GY s s' k):Ds e t s' k w:=
 ⟨o.Du,o.k7,o.kC,a.mS.trans o.mS,λq=>a.ds (o.ds q),a.held.trans o.held,o.AI,o.zj,o.ask,o.Dv,o.val,
  λj l d=>by have⟨e_,cW,Q,_⟩:=b j l d;exact Q.trans (o.lt j e_ cW),
  λg i l d=>by have⟨e_,cW,_,f⟩:=b _ l d;exact f (o.hold g i e_ cW),
  λp=>(c p).trans (o.r9 p)⟩
def Dw(h:hI)(k b):(⟨h.n,h5 h.ds k b,h.q⟩:hI).all=h.all:=by show(h5 h.ds k b).map (·.1)++h.q=_;rw[Dq];rfl
def K9(h k j b):j9 ⟨h.n,h5 h.ds k b,h.q⟩ j=j9 h j:=by rw[Cg,AN,AN];rw[Dq]
def Rf{h k j b}(a:j≠k):yM h ⟨h.n,h5 h.ds k b,h.q⟩ j:=
 ⟨by rw[Dw],λq=>(K9 h k j b).trans q,by show(h5 h.ds k b).any _=h.ds.any _;rw[h5,ap4];grind⟩
def abc{h k b}(a:j9 h k=N):l6 ⟨h.n,h5 h.ds k b,h.q⟩ k=b:=by
 show(h5 h.ds k b).any _=b;rw[h5,ap4]
 cases b with|true=>rw[xf];have⟨c,Q,d⟩:=xf.1 a;grind|false=>grind
def abd(h k):(r3 h k).all=h.all.filter λx=>x !=k:=by show(iv _ _ _).1.map (·.1)++(iv _ _ _).2=_;rw[Dp,hI.all,z',ap5];rfl
def ap6{h k j}(a:j≠k):yM h (r3 h k) j:=by
 refine⟨by rw[abd];simp[a],λq=>aa4 ?_,?_⟩
 .rw[ap7];have⟨c,Q,b⟩:=xf.1 q;grind
 .show l6 (xd _ _) j=_;rw[Q',ap7]
  congr 1
  grind
def AO{l:hx}{w}:w∈l.all↔w∈l.c'\/w∈l.q.map (·.1):=iY
def jP.congr{x y s a q}(h:jP x s a q)(e:∀w,w∈s\/w∈q.map (·.1)->y w=x w):jP y s a q:=
 ⟨h.up,h.eO,h.one,λp O=>(h.jC p O).trans (e p.1 (.inr (r8 (f:=(·.1)) O))).symm,λw hw=>(e w (.inl hw)).trans (h.cP w hw)⟩
def ap8{x}{l:hx}{k b}(h:jP x l.c' l.ex l.q)(c0:k∉l.all)(g:b=x k):jP x l.c' l.ex (l.q++[(k,b)]):=by
 refine⟨h.up,?_,h.one,λp O=>?_,h.cP⟩
 .rw[jl,<-j4];refine pH.2 ⟨h.eO,dw,λa d c f=>?_⟩
  have:c=k:=by simpa using f
  rw[this];exact λe=>c0 (e▸d)
 .rcases iY.1 O with O|O
  .exact h.jC p O
  simp_all
def ap9{x}{l:hx}{k}(h:jP x l.c' l.ex l.q):jP x (l.c'.filter λy=>y !=k) (if(l.c'.filter λy=>y !=k)=[] then L else l.ex) (l.q.filter λy=>y.1 !=k):=by
 have s1:(l.c'.filter λy=>y !=k).Sublist l.c':=Dx;have s2:((l.q.filter λy=>y.1 !=k).map (·.1)).Sublist (l.q.map (·.1)):=Dx.map _;refine⟨h.up.sublist s1,h.eO.sublist (s1.append s2),λa=>?_,λp O=>h.jC p (ou.1 O).1,λw hw=>?_⟩
 .split at a
  .cases a
  .rename_i n;have Q:=h.one a;have b:=s1.length_le;have c:=Cz.2 n;omega
 .rw[cS (λe=>by simp_all)];exact h.cP w (ou.1 hw).1
def Rg{x l k b}(h:jP x l.c' l.ex l.q)(c0:k∉l.all)(a:b=x k):Dr x l.c' (l.q++[(k,b)]) (uc l k b):=Re (ap8 h c0 a)
def Rh{x l k}(h:jP x l.c' l.ex l.q):Dr x (l.c'.filter λy=>y !=k) (l.q.filter λy=>y.1 !=k) (r5 l k):=Re (ap9 h)
def Ri{x l k b}(h:jP x l.c' l.ex l.q)(c0:k∉l.all)(a:b=x k)(w):w∈(uc l k b).all↔w∈l.all\/w=k:=by rw[AO,(Rg h c0 a).mem,AO];grind
def K_{x l k}(h:jP x l.c' l.ex l.q)(w):w∈(r5 l k).all↔w∈l.all/\w≠k:=by
 rw[AO,(Rh h).mem,AO]
 have:(w∈(l.q.filter λy=>y.1 !=k).map (·.1))↔(w∈l.q.map (·.1) /\w≠k):=by
  simp only[is,ou,bne_iff_ne,ne_eq];constructor
  .simp_all
  .simp_all
 grind
def abe{ej i j l r}(b:ej[i]?=U l)(Q:j∈r.all↔j∈l.all)(a:j∈l.c'->j∈r.c'):yN ej (ej.set i r) j:=by intro c d h;grind
def aqa{x ej i j k l b}(d:ej[i]?=U l)(h:jP x l.c' l.ex l.q)(c0:k∉l.all)(a:b=x k)(c:j≠k):yN ej (ej.set i (uc l k b)) j:=
 abe d ((Ri h c0 a j).trans ⟨λq=>q.resolve_right c,.inl⟩) λq=>(Rg h c0 a).sub j q
def oK(ws:I gd)(k:V):di:=match ws[k]? with|some w=>decide (w.op.1≠2)|none=>L
structure vG(x:V->di)(n:V)(l:hx):Prop where
 li:jP x l.c' l.ex l.q
 shut:l.q=[] \/ (l.c'≠[] /\ (l.ex=N\/ ∀y,l.q.head? =U y->y.2=N))
 lt:∀w∈l.all,w<n
structure hY(m:eu):Prop where
 fA:1<=m.ws.length
 mv:m.ws.length<=4
 kD:jb m.h
 hw:∀k∈m.h.all,k<m.ws.length
 s_:m.ej.length=17
 li:∀(j:V) (l:hx),m.ej[j]?=U l->vG (oK m.ws) m.ws.length l
 jH:mX m.s
 uF:m.s.eD.length=m.ws.length
 cN:m.h.n=m.p.f.cN.length
 w:∀(k:V) (w:gd),m.ws[k]?=U w->Ds m.h m.ej m.s k w
def abf{ws k j w}(h:j≠k):oK (ws.set k w) j=oK ws j:=by rw[oK,oK,ly,cS (Ne.symm h)]
def aqb{ws k w w'}(a:ws[k]?=U w)(e:w'.op=w.op):∀j,oK (ws.set k w') j=oK ws j:=by
 intro j
 by_cases h:j=k
 .subst h;have l:=(f_.1 a).1;rw[oK,oK,ly,if_pos Z,if_pos l,a];simp_all
 .exact abf h
def vG.same{ws k w w' n l}(a:ws[k]?=U w)(e:w'.op=w.op)(h:vG (oK ws) n l):vG (oK (ws.set k w')) n l:=
 ⟨h.li.congr λj _=>aqb a e j,h.shut,h.lt⟩
structure vH(m:eu)(k:V)(w':gd)(p':fJ)(iN:hI)(oJ:I hx)(s':gw):Prop where
 c9:jb iN
 dt:∀j∈iN.all,j∈m.h.all\/j=k
 s_:oJ.length=m.ej.length
 dv:∀(j:V) (l:hx),oJ[j]?=U l->vG (oK (m.ws.set k w')) m.ws.length l
 jH:mX s'
 uF:s'.eD.length=m.s.eD.length
 cN:iN.n=p'.f.cN.length
 self:Ds iN oJ s' k w'
 aqc:∀j,j≠k->yM m.h iN j/\yN m.ej oJ j/\GY m.s s' j
def hY.upd{m}(o:hY m){k w w' p' g t s' i d}(q:m.ws[k]?=U w)(u:vH m k w' p' g t s'):hY ⟨m.ws.set k w',p',g,t,s',i,d⟩:=by
 have f:=(f_.1 q).1;have n:(m.ws.set k w').length=m.ws.length:=iu;refine⟨by grind,by rw[n];exact o.mv,u.c9,λj p=>?_,u.s_.trans o.s_,λj l r=>?_,u.jH,?_,u.cN,λj v cY=>?_⟩
 .rw[n];rcases u.dt j p with h|rfl
  .exact o.hw j h
  .exact f
 .have:=u.dv j l r;simp_all
 .rw[n,u.uF,o.uF]
 .replace cY:(m.ws.set k w')[j]?=U v:=cY;rw[ly]at cY;split at cY
  .rename_i e;subst e
   cases cY
   exact u.self
  .rename_i e;have⟨a,b,c⟩:=u.aqc j (Ne.symm e);exact(o.w j v cY).frame a b c
def Rj(h ej s j):yM h h j/\yN ej ej j/\GY s s j:=⟨.nY _ _,.nY _ _,.nY _ _⟩
def aqd{m}(o:hY m){k w}(b:m.ws[k]?=U w)(s:w.st=0)(c:w.ended<w.todo.length)(now):vH m k {w with nX:=now,st:=1} m.p (AK m.h k) m.ej m.s:=by
 have t:=(f_.1 b).1;have v:=o.w k w b;have c0:=λq=>v.mS.1 q s
 have f:k<4:=by have:=o.mv;omega
 have e:m.h.ds.length+m.h.q.length<4:=by
  have Q:=o.kD.len
  by_cases h:m.h.ds.length+m.h.q.length=4
  .exact dN (apU (l:=m.h.all) (by simpa[hI.all]using h) o.kD.eO o.kD.lt f) c0
  .omega
 have d:=v.zj R;have n:=v.Dv R;refine⟨apI o.kD f c0 e,λj a=>by rw[Q_]at a;simp_all,Z,λj l c=>(o.li j l c).same b Z,o.jH,Z,o.cN,⟨by simp_all,v.k7,λ_=>c,by rw[Q_];simp,λq=>dN (show 2<=1 from q) cZ,?_,λq=>dN q dw,λ_=>d,λq=>dN (show 2<=1 from q) cZ,λ_=>n,v.val,v.lt,λq=>dN (n.symm.trans q) cZ,λp=>?_⟩,λj a=>⟨⟨by rw[Q_];simp[a],λq=>aa4 q,by show l6 (xd _ _) j=_;rw[Q'];rfl⟩,.nY _ _,.nY _ _⟩⟩
 .show l6 (xd _ _) k=w.pinned;rw[Q'];exact v.held
 .rw[v.r9,s];simp
def aqe{m}(o:hY m){k w}(b:m.ws[k]?=U w)(s:w.st=1)(c:j9 m.h k=N)(r now):vH m k (qp w r now) m.p m.h m.ej m.s:=by
 have v:=o.w k w b;refine⟨o.kD,λj a=>.inl a,Z,λj l d=>(o.li j l d).same b Z,o.jH,Z,o.cN,⟨fi 6,v.k7,λ_=>v.kC R,⟨λ_=>by show 6≠0;decide,λ_=>v.mS.2 R⟩,λ_=>c,v.held,λq=>dN q (by show ¬(6=4\/6=5);decide),λq=>dN (show 6<4 from q) cZ,λ_ q=>dN (show 6<=5 from q) cZ,λq=>dN (show 6<2 from q) cZ,v.val,v.lt,λq=>?_,λp=>?_⟩,λj a=>Rj ..⟩
 .exact dN ((v.Dv R).symm.trans q) cZ
 .rw[v.r9,s];show _↔6=4/\_;simp
def aqf{m}(o:hY m){k w}(b:m.ws[k]?=U w)(s:w.st=2)(c9:∀l,m.ej[w.op.2.1.toNat]?=U l->k∈l.c'):vH m k {w with st:=3} m.p m.h m.ej m.s:=by have v:=o.w k w b;refine⟨o.kD,λj a=>.inl a,Z,λj l c=>(o.li j l c).same b Z,o.jH,Z,o.cN,⟨by simp_all,v.k7,λ_=>v.kC R,⟨λ_=>by simp_all,λ_=>v.mS.2 R⟩,λ_=>v.ds R,v.held,λq=>dN q eM,λ_=>v.zj R,λ_ _=>v.ask R R,λq=>dN (show 3<2 from q) cZ,v.val,v.lt,λ_ _=>c9,λp=>?_⟩,λj a=>Rj ..⟩;rw[v.r9,s];simp
def yO{o}(h:i1 o=L):(1<=o.1/\o.1<=4) /\1<=o.2.1/\o.2.1<=16:=by simp[i1,Bool.or_eq_false_iff,Jg]at h;omega
def aqh{ws k w}(h:ws[k]?=U w):oK ws k=gy (w.op.1≠2):=by rw[oK,h]
def aqi{m}(o:hY m){k w}(b:m.ws[k]?=U w)(y:w.st=1)(u:j9 m.h k=N)(s:i1 w.op=L):vH m k {w with asked:=N,st:=2} m.p m.h (r7 m.ej w.op.2.1 (uc (iS m w.op.2.1) k (decide (w.op.1≠2)))) m.s:=by
 have v:=o.w k w b;have t:=(f_.1 b).1;have⟨_,z,A⟩:=yO s
 have cK:w.op.2.1.toNat<m.ej.length:=by rw[o.s_];omega
 have⟨l,c⟩:∃l,m.ej[w.op.2.1.toNat]?=U l:=⟨_,fq cK⟩
 have g:iS m w.op.2.1=l:=by rw[iS,c];rfl
 have n:=v.Dv R
 have c0:k∉l.all:=λq=>by have:=(v.lt _ l c).1 q;grind
 have B:=o.li _ l c;have d:=(aqh b).symm;rw[g];have O:=Rg B.li c0 d;refine⟨o.kD,λj f=>.inl f,iu,λj r a=>?_,o.jH,Z,o.cN,?_,λj f=>⟨.nY _ _,aqa c B.li c0 d f,.nY _ _⟩⟩
 .rw[r7,ly]at a;split at a
  .rename_i e
   cases a
   refine vG.same b Z ⟨O.li,O.shut,λx i=>?_⟩;rcases (Ri B.li c0 d x).1 i with h|rfl
   .exact B.lt x h
   .exact t
  .exact(o.li j r a).same b Z
 .refine⟨by simp_all,v.k7,λ_=>v.kC R,⟨λ_=>by simp_all,λ_=>v.mS.2 R⟩,λ_=>u,v.held,λq=>dN q eM,λ_=>v.zj R,λ_ _=>Z,λq=>dN (show 2<2 from q) cZ,λ_=>s,λj r a=>?_,λ_ q=>dN (show 3<=2 from q) cZ,λp=>?_⟩
  .show _↔N=N/\w.op.2.1=j;rw[r7,ly]at a;split at a
   .rename_i e
    cases a
    exact⟨λ_=>⟨Z,R⟩,λ_=>(Ri B.li c0 d k).2 (.inr Z)⟩
   .rename_i e;rw[v.lt j r a,n];omega
  .rw[v.r9,y];simp
def Rk{h}(o:jb h){k}(d:j9 h k=N)(c9:l6 h k=L)(f:h2 h.ds<h.n):jb (qm h k):=by
 have m:(k,L)∈h.ds:=by
  have⟨⟨a,b⟩,Q,c⟩:=is.1 (AN.1 d)
  cases c
  cases b with|false=>exact Q|true=>rw[GX.2 Q]at c9;cases c9
 have cP:=(pH.1 o.eO).1;have:=Ra (b:=N) cP m;simp at this;refine⟨o.fA,o.ub,by show(h5 h.ds k N).length+h.q.length<=4;rw[h5,ec];exact o.len,?_,?_,by show h2 (h5 h.ds k N) <=h.n;omega,?_⟩
 .show((h5 h.ds k N).map (·.1)++h.q).Nodup;rw[Dq];exact o.eO
 .show ∀w∈(h5 h.ds k N).map (·.1)++h.q,w<4;rw[Dq];exact o.lt
 .show h.q=[] \/2*h.n<= (h5 h.ds k N).length;rw[h5,ec];exact o.shut
def aqj{m}(o:hY m){k w}(d:m.ws[k]?=U w)(s:w.st=3)(f:h2 m.h.ds<m.h.n):vH m k {w with pinned:=N,st:=5} m.p (qm m.h k) m.ej m.s:=by have v:=o.w k w d;have c:=v.ds R;have c9:l6 m.h k=L:=TS;have b:=v.ask R R;refine⟨Rk o.kD c c9 f,λj a=>.inl (by rw[qm,Dw]at a;exact a),Z,λj l e=>(o.li j l e).same d Z,o.jH,Z,o.cN,⟨by simp_all,v.k7,λ_=>v.kC R,⟨λ_=>by simp_all,λ_=>by rw[qm,Dw];exact v.mS.2 R⟩,λ_=>(K9 ..).trans c,abc c,λ_=>Z,λq=>dN (show 5<4 from q) cZ,λ_ _=>b,λq=>dN (show 5<2 from q) cZ,v.val,v.lt,λg _=>v.hold b R,λp=>?_⟩,λj a=>⟨Rf a,.nY _ _,.nY _ _⟩⟩;rw[v.r9,s];simp
def aqk{m}(o:hY m){k w}(f:m.ws[k]?=U w)(s:w.st=3)(g:h2 m.h.ds<m.h.n):vH m k {w with pinned:=N,st:=4} m.p (qm m.h k) m.ej (ud m.s k w.op.2.1):=by
 have v:=o.w k w f;have t:=(f_.1 f).1;have d:=v.ds R;have c9:l6 m.h k=L:=TS;have c:=v.ask R R;have r:=(yO (v.val c)).2
 have n:∀q,¬kB m.s k q:=λq h=>by have:=(v.r9 q).1 h;omega
 have a:k<m.s.eD.length:=by rwa[o.uF]
 refine⟨Rk o.kD d c9 g,λj b=>.inl (by rwa[qm,Dw]at b),Z,λj l i=>(o.li j l i).same f Z,apV o.jH a r n,iu,o.cN,⟨by simp_all,v.k7,λ_=>v.kC R,⟨λ_=>by simp_all,λ_=>by rw[qm,Dw];exact v.mS.2 R⟩,λ_=>(K9 ..).trans d,abc d,λ_=>Z,λq=>dN (show 4<4 from q) cZ,λ_ _=>c,λq=>dN (show 4<2 from q) cZ,v.val,v.lt,λu _=>v.hold c R,λp=>(aba a n k p).trans ⟨λh=>h.elim (λh=>dN h (n p)) λh=>⟨Z,h.2⟩,λh=>.inr ⟨Z,h.2⟩⟩⟩,λj b=>⟨Rf b,.nY _ _,λq=>(aba a n j q).trans ⟨λh=>h.resolve_right λe=>b e.1,.inl⟩⟩⟩
def aql{m}(o:hY m){k w}(b:m.ws[k]?=U w)(s:w.st=5)(r now p')(O:p'.f.cN.length=m.p.f.cN.length):vH m k (qp w r now) p' m.h m.ej m.s:=by have v:=o.w k w b;refine⟨o.kD,λj a=>.inl a,Z,λj l c=>(o.li j l c).same b Z,o.jH,Z,o.cN.trans O.symm,⟨fi 6,v.k7,λ_=>v.kC R,⟨λ_=>by show 6≠0;decide,λ_=>v.mS.2 R⟩,λ_=>v.ds R,v.held,λq=>dN q (by show ¬(6=4\/6=5);decide),λq=>dN (show 6<4 from q) cZ,λ_ q=>dN (show 6<=5 from q) cZ,λq=>dN (show 6<2 from q) cZ,v.val,v.lt,λq _=>v.hold q R,λp=>?_⟩,λj a=>Rj ..⟩;rw[v.r9,s];show _↔6=4/\_;simp
def abg{h}(o:jb h)(k):jb (xe h k):=by
 have l:h2 (h5 h.ds k L) <=h2 h.ds:=by
  rw[h2,h2,h5,abh];refine List.countP_mono_left λc _ a=>?_;replace a:(if c.1=k then(c.1,L) else c).2=N:=a;split at a
  .cases a
  .exact a
 refine⟨o.fA,o.ub,by show(h5 h.ds k L).length+h.q.length<=4;rw[h5,ec];exact o.len,?_,?_,fG l o.held,?_⟩
 .show((h5 h.ds k L).map (·.1)++h.q).Nodup;rw[Dq];exact o.eO
 .show ∀w∈(h5 h.ds k L).map (·.1)++h.q,w<4;rw[Dq];exact o.lt
 .show h.q=[] \/2*h.n<= (h5 h.ds k L).length;rw[h5,ec];exact o.shut
def aqm{h}(o:jb h)(k):jb (r3 h k):=by
 have e:h.ds.filter (λc=>c.1 !=k)=h.ds.filter (λc=>c.1 !=k):=rfl
 have a:(h.ds.filter λc=>c.1 !=k).map (·.1)++(h.q.filter λx=>x !=k)=h.all.filter λx=>x !=k:=by rw[hI.all,z',ap5];rfl
 have eB:=Db (λc:V×di=>c.1 !=k) h.ds;have el:=Db (λx=>x !=k) h.q;refine aa3 o.fA o.ub (by have:=o.len;omega) ?_ ?_ (fG (ax8 Dx) o.held)
 .rw[a];exact(show h.all.Nodup from o.eO).sublist Dx
 .rw[a];exact λw hw=>o.lt w (ou.1 hw).1
def K'(w:gd):gd:=⟨w.todo,w.ended+1,0,L,L,0,0,(0,d_)⟩
def Rl(m:eu)(k:V)(w:gd):hI:=r3 (if w.pinned=N then xe m.h k else m.h) k
def GZ(m:eu)(k:V)(w:gd):I hx:=if w.asked=N then r7 m.ej w.op.2.1 (r5 (iS m w.op.2.1) k) else m.ej
def aqn{m}(o:hY m){k w}(H:m.ws[k]?=U w)(M:w.st=6):vH m k (K' w) m.p (Rl m k w) (GZ m k w) m.s:=by
 have v:=o.w k w H;have cX:=(f_.1 H).1
 have⟨Q,I,O,g,t⟩:∃Q,Q=(if w.pinned=N then xe m.h k else m.h) /\jb Q/\Q.all=m.h.all/\ (Q.n=m.h.n/\ ∀j,j≠k->yM m.h Q j):=by
  refine⟨_,Z,?_⟩;split
  .exact⟨abg o.kD k,Dw ..,Z,λj d=>Rf d⟩
  .exact⟨o.kD,Z,Z,λj d=>.nY _ _⟩
 have dh:Rl m k w=r3 Q k:=by rw[Rl,<-I]
 rw[dh]
 have E:(r3 Q k).all=m.h.all.filter λx=>x !=k:=by rw[abd,g]
 have C:∀j,j≠k->oK (m.ws.set k (K' w)) j=oK m.ws j:=λj d=>abf d
 have y:(GZ m k w).length=m.ej.length/\ (∀(j:V) (l:hx),(GZ m k w)[j]?=U l->vG (oK (m.ws.set k (K' w))) m.ws.length l/\k∉l.all) /\ ∀j,j≠k->yN m.ej (GZ m k w) j:=by
  unfold GZ;split
  .rename_i A;have⟨_,dc,P⟩:=yO (v.val A)
   have cK:w.op.2.1.toNat<m.ej.length:=by rw[o.s_];omega
   have⟨l,r⟩:∃l,m.ej[w.op.2.1.toNat]?=U l:=⟨_,fq cK⟩
   have B:iS m w.op.2.1=l:=by rw[iS,r];rfl
   have D:=o.li _ l r;rw[B];have G:=Rh (k:=k) D.li;refine⟨iu,λj u c=>?_,λj d=>have h:=D.li;have dU:=d;abe r ((K_ h j).trans ⟨λq=>q.1,λq=>⟨q,dU⟩⟩) λq=>(Rh h).sub j (ou.2 ⟨q,xA⟩)⟩;rw[r7,ly]at c;split at c
   .cases c
    exact⟨⟨G.li.congr λj d=>C j λe=>((K_ D.li j).1 (AO.2 d)).2 e,G.shut,λx F=>D.lt x ((K_ D.li x).1 F).1⟩,λq=>((K_ D.li k).1 q).2 Z⟩
   .rename_i e;have c0:=λq=>e (by have:=((v.lt j u c).1 q).2;omega);have cM:=o.li j u c;exact⟨⟨cM.li.congr λi n=>C i λz=>c0 (z▸AO.2 n),cM.shut,cM.lt⟩,c0⟩
  .rename_i A;exact⟨Z,λj u c=>have c0:=λq=>A ((v.lt j u c).1 q).1;have cM:=o.li j u c;⟨⟨cM.li.congr λi n=>C i λz=>c0 (z▸AO.2 n),cM.shut,cM.lt⟩,c0⟩,λj d=>.nY _ _⟩
 have s:k∉(r3 Q k).all:=by rw[E];simp
 refine⟨aqm O k,λj d=>.inl eM,y.1,λj l r=>(y.2.1 j l r).1,o.jH,Z,t.1.trans o.cN,?_,λj d=>⟨?_,y.2.2 j d,.nY _ _⟩⟩
 .refine⟨eY 6,v.kC R,λq=>dN Z q,⟨λq=>dN q s,λq=>dN Z q⟩,λq=>dN (show 2<=0 from q) cZ,?_,λq=>dN q (by show ¬(0=4\/0=5);decide),λ_=>Z,λq=>dN (show 2<=0 from q) cZ,λ_=>Z,λq=>dN (show L=N from q) cZ,λj l r=>⟨λq=>dN q (y.2.1 j l r).2,λq=>dN (show L=N from q.1) cZ⟩,λq=>dN (show L=N from q) cZ,λp=>?_⟩
  .cases K:l6 (r3 Q k) k with|false=>rfl|true=>exact dN (iY.2 (.inl (r8 (f:=(·.1)) (GX.1 K)))) s
  .rw[v.r9,M];show _↔0=4/\_;simp
 .have a:=t.2 j d;have b:=ap6 (h:=Q) d;exact⟨b.mS.trans a.mS,λq=>b.ds (a.ds q),b.held.trans a.held⟩
def hY.sched{m}(o:hY m){s'}(u:mX s')(l:s'.eD.length=m.s.eD.length)(h:∀k q,kB s' k q↔kB m.s k q):hY {m with s:=s'}:=
 ⟨o.fA,o.mv,o.kD,o.hw,o.s_,o.li,u,l.trans o.uF,o.cN,λk w a=>(o.w k w a).frame (.nY _ _) (.nY _ _) (h k)⟩
def hY.vI{m}(o:hY m):hY (qq m):=
 have h:=aa9 5 o.jH
 o.sched h.jH h.len h.aa8
def aqo{m}(o:hY m){k w w' s'}(i:m.ws[k]?=U w)(t:w.st=4)(s:mX s')(d:s'.eD.length=m.s.eD.length)(b:∀j q,kB s' j q↔kB m.s j q/\j≠k)
  (u:w'.todo=w.todo)(a:w'.ended=w.ended)(n:w'.asked=w.asked)(f:w'.pinned=w.pinned)(r:w'.st=5\/w'.st=6):vH m k w' m.p m.h m.ej s':=by
 have v:=o.w k w i
 have e:w'.op=w.op:=by rw[gd.op,gd.op,u,a]
 have g:=v.ask R R;refine⟨o.kD,λj b=>.inl b,Z,λj l d=>(o.li j l d).same i e,s,d,o.cN,⟨R,by rw[u,a];exact v.k7,λ_=>by rw[u,a];exact v.kC R,⟨λ_=>R,λ_=>v.mS.2 R⟩,λ_=>v.ds R,by rw[f];exact v.held,λ_=>by rw[f];exact v.AI R,λq=>dN q R,λ_ _=>by simp_all,λq=>dN q R,λ_=>by rw[e];exact v.val g,by rw[n,e];exact v.lt,λ_ _=>by rw[e];exact v.hold g R,λp=>?_⟩,λj c=>⟨.nY _ _,.nY _ _,λq=>(b j q).trans ⟨λh=>h.1,λh=>⟨h,c⟩⟩⟩⟩;grind
def hY.fin{m}(o:hY m)(i f):hY (jn m i f).1:=by
 rw[jn];split
 .exact o
 .rename_i cK;have⟨j,e⟩:∃j,m.s.out[i.toNat]?=U j:=⟨_,fq R⟩;have⟨A,B,c⟩:=apY o.jH e;rw[Q9,e];simp only[];rw[c.e];split
  .rename_i s cP;split at cP
   .rename_i d
    cases cP
    exact o.sched (ap2 o.jH c d.2.1 d.2.2) Z (ap3 c)
   .cases cP
  .rename_i s k vB cP;split at cP
   .cases cP
   .cases cP
    have hw:=ap1 o.jH c;have u:=abb o.jH c;have TR:=(c.mem j).2 (.inl Z);have b:kB m.s j.gs j.dJ:=.inr ⟨j,TR,Z,Z⟩;have l:=afP;have⟨w,a⟩:∃w,m.ws[j.gs]?=U w:=⟨_,fq l⟩;have g:=((o.w _ w a).r9 _).1 b;rw[a];simp only[];rw[cS (λq=>q g.1)];refine o.upd a (aqo o a g.1 u Z hw ?_ ?_ ?_ ?_ ?_)
    all_goals (unfold Do;split<;>first|rfl|exact .inr Z|simp_all)
def aqp{p n todo}(i:1<=n)(m:n<=8)(O:p.f.cN.length=n)(t:1<=todo.length)(r:todo.length<=4):hY (mw p n todo):=by
 have d:(qn).all=[]:=Z;have a:∀(j:V) (l:hx),(eQ 17 qn)[j]?=U l->l=qn:=λj l h=>Gt (jY h)
 have o:∀(k:V) (q:J),¬kB (mw p n todo).s k q:=by
  rintro k q (h|⟨f,c,_⟩)
  .cases Gt (jY (show(eQ todo.length (cL:dB J))[k]?=_ from h))
  .cases c
 have s:(mw p n todo).ws.length=todo.length:=by simp[mw]
 refine⟨by omega,by omega,⟨i,m,by show 0+0<=4;decide,GN,λw hw=>(by cases hw),eY _,.inl Z⟩,λk b=>(by cases b),Z,λj l h=>?_,?_,by simp[mw],O.symm,λk w b=>?_⟩
 .rw[a j l h];exact⟨⟨abi,GN,λq=>zo,λ_ q=>zo,λ_ q=>zo⟩,.inl Z,λ_ q=>zo⟩
 .refine⟨⟨by simpa[mw]using t,by simpa[mw]using r,by show 0<(eQ todo.length cL).length;grind,λq g=>?_,by show 0<=_;decide,by show 0<=4;decide,abi,λf c=>(by cases c)⟩,GN,λf c=>by cases c⟩
  cases Gt (show U q∈eQ todo.length (cL:dB J) from g)
 .replace b:(todo.map rg)[k]?=U w:=b;rw[ir]at b;obtain⟨l,e,rfl⟩:=v_.1 b;exact⟨eY 6,eY _,λq=>dN Z q,⟨λq=>zo,λq=>dN Z q⟩,λq=>dN (show 2<=0 from q) cZ,Z,λq=>dN q (by show ¬(0=4\/0=5);decide),λ_=>Z,λq=>dN (show 2<=0 from q) cZ,λ_=>Z,λq=>dN (show L=N from q) cZ,λj l h=>by rw[a j l h];exact⟨λq=>zo,λq=>dN (show L=N from q.1) cZ⟩,λq=>dN (show L=N from q) cZ,λp=>⟨λq=>dN q (o k p),λq=>dN (show 0=4 from q.1) cZ⟩⟩
def hY.eh{m}(o:hY m)(c):hY {m with eh:=c}:=⟨o.fA,o.mv,o.kD,o.hw,o.s_,o.li,o.jH,o.uF,o.cN,o.w⟩
def hY.stepW {m:eu} (o:hY m) {k:V} {w:gd} (c_:m.ws[k]?=U w) (now:J) (O:(gg m.p w.op).1.f.cN.length=m.p.f.cN.length):hY (stepW m k w now).1:=by
 have v:=o.w k w c_;unfold Go.Lk.stepW
 split
 ·rename_i c'
  split
  ·exact o
  ·exact o.upd c_ (aqd o c_ c' (by omega) now)
 ·rename_i c'
  split
  ·exact o
  ·rename_i dj
   replace dj:j9 m.h k=N:=by simpa using dj
   split
   ·exact o.upd c_ (aqe o c_ c' dj _ now)
   ·rename_i dQ;exact o.upd c_ (aqi o c_ c' dj (by simpa using dQ))
 ·rename_i c'
  split
  ·exact o
  ·rename_i dj;refine o.upd c_ (aqf o c_ c' fun l dv=>?_)
   have a:iS m w.op.2.1=l:=by rw [iS,dv];rfl
   rw [a] at dj
   simpa [s9] using dj
 ·rename_i c'
  split
  ·exact o
  ·split
   ·exact o.upd c_ (aqk o c_ c' (by omega))
   ·exact o.upd c_ (aqj o c_ c' (by omega))
 ·rename_i c';exact o.upd c_ (aql o c_ c' _ now _ O)
 ·rename_i c';exact o.upd c_ (aqn o c_ c')
 ·exact o
def fQ{α:Type}(p:α->di):I α->V->J
 | [],_=>-1
 |x::r,k=>if p x=N then(k:J) else fQ p r (k+1)
def xg{α p}:∀ {l:I α} {k},(∀x∈l,p x=L)->fQ p l k=-1
 | [],_,_=>rfl
 |x::r,k,h=>by
  rw[fQ,h x (.head _),cS cZ];exact xg λy a=>h y (.tail _ a)
def AP{α p}:∀ {l:I α} {k},(∃x∈l,p x=N)->∃i,∃cK,fQ p l k=((k+i:V):J) /\p l[i]=N
 | [],_,h=>by simp_all
 |x::r,k,h=>by
  rw[fQ]
  by_cases e:p x=N
  .rw[if_pos e];exact⟨0,Nat.zero_lt_succ _,Z,e⟩
  .rw[cS e];have⟨y,a,O⟩:=h
   cases a with|head=>simp_all|tail _ a=>have⟨i,cK,Q,c5⟩:=AP (k:=k+1) ⟨y,a,O⟩;exact⟨i+1,HI,by omega,c5⟩
def La{α}(p)(l:I α)(k):0<=fQ p l k↔l.any p=N:=by
 rw[xf];constructor
 .intro h;refine nA λg=>?_;rw[xg λx a=>?_]at h
  .omega
  simp_all
 .intro h;have⟨i,_,e,_⟩:=AP (k:=k) h;omega
def G0:∀(l:I (V×di)),gZ 3 (l.map fP)=N
 | []=>rfl|_::r=>G0 r
def Rm:∀(l:I V),gZ 2 (l.map iR)=N
 | []=>rfl|_::r=>Rm r
def nZ(gs:J)(c:V×di):di:=gy ((c.1:J)=gs)
def ll(gs:J)(w:V):di:=gy ((w:J)=gs)
def abk(g cs p)(a:∀c,d0 cQ g (.agg (fP c)::cs) (.bool (p c)))(l)(d:l.length<=1000000):d0 cQ 261 [.dm (l.map fP),.fn g cs] (fQ p l 0):=by
 refine d5 Tryz.func261 2 Z cV (cO ?_);refine eW (D:=V) (λk=>[(0,.d (.dm (l.map fP))),(1,.d (.fn g cs)),(7,.d (l.map fP).length),(8,.d k)]) (λ_=>[])
  (λk=>k<=l.length/\fQ p (l.drop k) k=fQ p l 0) (λk=>l.length-k) 0 ⟨eY _,Z⟩ (dX (dH ff dM dV)) ?_
 rintro k ⟨b,fL⟩
 conv=>whnf
 refine dT (λh=>?_) λh=>?_
 .have eR:k<l.length:=by simpa using h
  refine ea R (cO ?_);refine d2 (x:=fP l[k]) iJ (c7 ?_);rw[rN eR,fQ]at fL;refine df (a l[k]) (cO ?_)
  refine hV (λc5=>?_) λc5=>?_
  .rw[if_pos c5]at fL;exact dg Z nu
  .rw[cS zh]at fL;refine dF ?_;exact⟨k+1,⟨R,fL⟩,R,(dX (dH ff dM dV))⟩
 .have:k=l.length:=by simp at h;omega
  subst this;simp at fL;exact dg Z nu
def abl(g cs p)(a:∀c,d0 cQ g (.agg (iR c)::cs) (.bool (p c)))(l)(d:l.length<=1000000):d0 cQ 263 [.dm (l.map iR),.fn g cs] (fQ p l 0):=by
 refine d5 Tryz.func263 2 Z cV (cO ?_);refine eW (D:=V) (λk=>[(0,.d (.dm (l.map iR))),(1,.d (.fn g cs)),(7,.d (l.map iR).length),(8,.d k)]) (λ_=>[])
  (λk=>k<=l.length/\fQ p (l.drop k) k=fQ p l 0) (λk=>l.length-k) 0 ⟨eY _,Z⟩ (dX (dH ff dM dV)) ?_
 rintro k ⟨b,fL⟩
 conv=>whnf
 refine dT (λh=>?_) λh=>?_
 .have eR:k<l.length:=by simpa using h
  refine ea R (cO ?_);refine d2 (x:=iR l[k]) iJ (c7 ?_);rw[rN eR,fQ]at fL;refine df (a l[k]) (cO ?_)
  refine hV (λc5=>?_) λc5=>?_
  .rw[if_pos c5]at fL;exact dg Z nu
  .rw[cS zh]at fL;refine dF ?_;exact⟨k+1,⟨R,fL⟩,R,(dX (dH ff dM dV))⟩
 .have:k=l.length:=by simp at h;omega
  subst this;simp at fL;exact dg Z nu
def G1(w l)(a:l.length<=1000000):d0 cQ 198 [.dm (l.map fP),.int .i64 w] (.int .i64 (fQ (nZ w) l 0)):=by refine d5 Tryz.func198 2 Z cV (dk ?_);refine df (abk 262 _ _ (λc=>by refine d5 Tryz.func262 2 Z cV (dk ?_);rfl) l a) (c7 ?_);rfl
def abm(w l)(a:l.length<=1000000):d0 cQ 199 [.dm (l.map iR),.int .i64 w] (.int .i64 (fQ (ll w) l 0)):=by refine d5 Tryz.func199 2 Z cV (dk ?_);refine df (abl 264 _ _ (λc=>by refine d5 Tryz.func264 2 Z cV (dk ?_);rfl) l a) (c7 ?_);rfl
def aqs(g cs p)(a:∀c:V,d0 cQ g (.int .i64 c::cs) (.bool (p c)))(l)(d:l.length<=1000000):d0 cQ 274 [.dm (l.map f1),.fn g cs] (fQ p l 0):=by
 refine d5 Tryz.func274 2 Z cV (cO ?_);refine eW (D:=V) (λk=>[(0,.d (.dm (l.map f1))),(1,.d (.fn g cs)),(7,.d (l.map f1).length),(8,.d k)]) (λ_=>[])
  (λk=>k<=l.length/\fQ p (l.drop k) k=fQ p l 0) (λk=>l.length-k) 0 ⟨eY _,Z⟩ (dX (dH ff dM dV)) ?_
 rintro k ⟨b,fL⟩
 conv=>whnf
 refine dT (λh=>?_) λh=>?_
 .have eR:k<l.length:=by simpa using h
  refine ea R (cO ?_);refine d2 (x:=f1 l[k]) iJ (c7 ?_);rw[rN eR,fQ]at fL;refine df (a l[k]) (cO ?_)
  refine hV (λc5=>?_) λc5=>?_
  .rw[if_pos c5]at fL;exact dg Z nu
  .rw[cS zh]at fL;refine dF ?_;exact⟨k+1,⟨R,fL⟩,R,(dX (dH ff dM dV))⟩
 .have:k=l.length:=by simp at h;omega
  subst this;simp at fL;exact dg Z nu
def abn(g cs p)(a:∀c,d0 cQ g (.agg (ik c)::cs) (.bool (p c)))(l)(d:l.length<=1000000):d0 cQ 275 [.dm (l.map ik),.fn g cs] (fQ p l 0):=by
 refine d5 Tryz.func275 2 Z cV (cO ?_);refine eW (D:=V) (λk=>[(0,.d (.dm (l.map ik))),(1,.d (.fn g cs)),(7,.d (l.map ik).length),(8,.d k)]) (λ_=>[])
  (λk=>k<=l.length/\fQ p (l.drop k) k=fQ p l 0) (λk=>l.length-k) 0 ⟨eY _,Z⟩ (dX (dH ff dM dV)) ?_
 rintro k ⟨b,fL⟩
 conv=>whnf
 refine dT (λh=>?_) λh=>?_
 .have eR:k<l.length:=by simpa using h
  refine ea R (cO ?_);refine d2 (x:=ik l[k]) iJ (c7 ?_);rw[rN eR,fQ]at fL;refine df (a l[k]) (cO ?_)
  refine hV (λc5=>?_) λc5=>?_
  .rw[if_pos c5]at fL;exact dg Z nu
  .rw[cS zh]at fL;refine dF ?_;exact⟨k+1,⟨R,fL⟩,R,(dX (dH ff dM dV))⟩
 .have:k=l.length:=by simp at h;omega
  subst this;simp at fL;exact dg Z nu
def abo{l:I V}{e}(h:e∈l.map iR):e.length=2:=by obtain⟨x,_,rfl⟩:=is.1 h;rfl
def Rn(h)(Q:1<=h.n):d0 cQ 197 [ql h,.int .i64 1] (.bool N):=by refine d5 Tryz.func197 2 Z cV (dk ?_);exact dg Z hy
def aqv(l:I (V×di)){k}(h:k<l.length):h2 (l.take (k+1))=h2 (l.take k)+(if l[k].2=N then 1 else 0):=by rw[h2,mb h,aaD,List.countP_singleton];rfl
def abp(l):h2 l<=l.length:=JD
def abq(h)(l:h.ds.length<=1000)(c0:h.n<=1000):d0 cQ 208 [ql h] (.int .i64 ((h.n:J)-h2 h.ds)):=by
 have m:(h.ds.map fP).length=h.ds.length:=ec ..
 refine d5 Tryz.func208 1 Z cV (dk ?_);refine eW (D:=V) (λk=>[(3,.d (.int .i64 ((h.n:J)-h2 (h.ds.take k)))),(9,.d (.dm (h.ds.map fP))),(10,.d (h.ds.map fP).length),(11,.d k)]) (λ_=>[])
  (λk=>k<=h.ds.length) (λk=>h.ds.length-k) 0 (eY _) (dX (dH ⟨by rfl,Z,Z,Z,dM⟩ dM dV)) ?_
 intro k g
 conv=>whnf
 refine dT (λdu=>?_) λdu=>?_
 .have eR:k<h.ds.length:=R
  refine ea R (cO ?_);refine d2 (x:=fP h.ds[k]) iJ (c7 ?_);have e:=aqv h.ds eR;have b:=abp (h.ds.take k);have c:(h.ds.take k).length=k:=hy
  have a:((h.n:J)-h2 (h.ds.take k))-(if h.ds[k].2=N then 1 else 0)=(h.n:J)-h2 (h.ds.take (k+1)):=by rw[e];split<;>omega
  rw[a];have d:=abp (h.ds.take (k+1));have f:(h.ds.take (k+1)).length=k+1:=hy;refine dF ?_;exact⟨k+1,R,R,(dX (dH ff dM dV))⟩
 .have:k=h.ds.length:=R
  subst this;rw[rW];rfl
def G2(h:hI):di:=match h.q with
 | []=>L
 |_::_=>decide ((h.ds.length:J)+1<=2*h.n)
def abr(h)(l:h.ds.length<=7)(c0:h.n<=1000):d0 cQ 260 [ql h] (.bool (G2 h)):=by
 have m:(h.ds.map fP).length=h.ds.length:=ec ..
 have⟨n,ds,q⟩:=h;simp only[]at l c0 m
 cases q with
 |nil=>refine d5 aqw 1 Z cV (dk ?_);exact dg Z Z
 |cons t q=>
  have b:(hI.mk n ds (t::q)).n<=1000:=c0;refine d5 aqw 1 Z cV (dk ?_)
  refine dT (λQ=>?_) λQ=>?_
  .simp at Q;omega
  refine dk ?_;refine ea (i:=0) dw (cO ?_);refine d2 (x:=iR t) Z (dk ?_);refine eW (D:=V) (λk=>[(1,.ptr 1 0 0),(3,.d (.int .i64 ((k:J)+1))),(22,.d (.dm (ds.map fP))),(23,.d (ds.map fP).length),(24,.d (.int .i64 k))]) (λ_=>[(1,.box ((hI.cells ⟨n,ds,t::q⟩).map dp.d) L)])
   (λk=>k<=ds.length) (λk=>ds.length-k) 0 (eY _) (dX (dH gO ez dV)) ?_
  intro k c
  conv=>whnf
  refine dT (λdu=>?_) λdu=>?_
  .have a:k<ds.length:=R
   refine ea R (cO ?_);refine d2 (x:=fP ds[k]) (by simp[a]) (c7 ?_);rw[show(k:J)+1+1=((k+1:V):J)+1 by omega];exact⟨k+1,by omega,by omega,(dX (dH gO ez dV))⟩
  .have:k=ds.length:=R
   subst this;refine dF ?_;exact dg Z Z
structure Dy(l:I (V×di)):Prop where
 len:l.length<=8
 lt:∀c∈l,c.1<4
 eO:(l.map (·.1)).Nodup
def Lb{α:Type}{l:I α}(h:l.Nodup){i j:V}(cK:i<j)(a:j<l.length):l[i]≠l[j]:=by intro e;have:=(List.nodup_iff_pairwise_ne.1 h);exact(yh.1 this) i j R a cK e
def Dy.ne{l:I (V×di)}(h:Dy l){i j:V}(cK:i<j)(a:j<l.length):l[i].1≠l[j].1:=by have:=Lb h.eO cK eM;simp_all
def abt(l)(h:Dy l):d0 cQ 259 [.dm (l.map fP)] (.bool N):=by
 have m:(l.map fP).length=l.length:=ec ..
 have j:=h.len;refine d5 Tryz.func259 1 Z cV (dk ?_);refine eW (D:=V) (λk=>[(0,.d (.dm (l.map fP))),(10,.d (.dm (l.map fP))),(11,.d (l.map fP).length),(12,.d k)]) (λ_=>[])
  (λk=>k<=l.length) (λk=>l.length-k) 0 (eY _) (dX (dH ff dM dV)) ?_
 intro k g
 conv=>whnf
 refine dT (λdu=>?_) λdu=>?_
 .have eR:k<l.length:=R
  have t:=h.lt _ (hF eR)
  have f:(0:J) <= (if l[k].2=N then 1 else 0) /\ (if l[k].2=N then 1 else 0) <= (1:J):=by split<;>omega
  refine ea R (cO ?_);refine d2 (x:=fP l[k]) iJ (c7 ?_);refine dk ?_;refine fz (λe b=>by obtain⟨x,_,rfl⟩:=is.1 b;rfl) (cO ?_);refine oV R (c7 ?_);have c:((l.map fP).take k).length=k:=HD
  refine eW (D:=V) (λq=>[(0,.d (.dm (l.map fP))),(4,.ptr 4 0 0),(10,.d (.dm (l.map fP))),(11,.d (l.map fP).length),(12,.d k),(47,.d (.dm (((l.map fP).take k).drop 0))),(48,.d (((l.map fP).take k).drop 0).length),(49,.d q)]) (λ_=>[(4,.box ((fP l[k]).map dp.d) L)])
   (λq=>q<=k) (λq=>k-q) 0 (eY _) (dX (dH lP ez dV)) ?_
  intro q i;rw[C0]
  conv=>whnf
  refine mj (λdY=>?_) λdY=>?_
  .have a:q<k:=R
   have d:q<l.length:=R;have n:=h.ne a eR;refine ea R (cO ?_);refine d2 (x:=fP l[q]) eM (c7 ?_);refine dk ?_;exact⟨q+1,R,R,(dX (dH lP ez dV))⟩
  .exact⟨k+1,R,R,(dX (dH ff dM dV))⟩
 rfl
abbrev ue:=(V×di)×di
def hB(c:V×di):J:=if c.2=N then 1 else 0
def r_(free:J)(x:ue):di:=!x.2&&decide (1-hB x.1<=free)
def rT(x:ue):I c3:=[.bool x.2]
def aqy(f z)(d:z.length<=8){i:V}(cK:fQ (r_ f) z 0=(i)):d0 cQ 305 [f,.dm ((z.map (·.1)).map fP),.dm (z.map rT)] (.dS [i,.bool N]):=by
 have c:((z.map (·.1)).map fP).length=z.length:=eM
 have m:(z.map rT).length=z.length:=ec ..
 refine d5 Tryz.func305 3 Z cV (dk ?_);refine eW (D:=V) (λk=>[(0,.d f),(2,.d (.dm (z.map rT))),(10,.d (.dm ((z.map (·.1)).map fP))),(11,.d ((z.map (·.1)).map fP).length),(12,.d k)]) (λ_=>[])
  (λk=>k<=z.length/\fQ (r_ f) (z.drop k) k=(i:J)) (λk=>z.length-k) 0 ⟨eY _,cK⟩ (dX (dH gO dM dV)) ?_
 rintro k ⟨a,fL⟩
 conv=>whnf
 refine dT (λh=>?_) λh=>?_
 .have eR:k<z.length:=R
  rw[rN eR,fQ]at fL;have b:0<=hB z[k].1/\hB z[k].1<=1:=T2;refine ea R (cO ?_);refine d2 (x:=fP z[k].1) iJ (c7 ?_);refine ea R (cO ?_);refine d2 (x:=rT z[k]) iJ (c7 ?_)
  refine kl (λc5=>?_) λc5=>?_
  .replace c5:z[k].2=L:=sn
   refine dT (λe=>?_) λe=>?_
   .replace e:1-hB z[k].1<=f:=e;rw[if_pos (by rw[r_,c5];simp_all)]at fL;refine dF ?_;exact dg Z nu
   .replace e:¬(1-hB z[k].1<=f):=e;rw[cS (by rw[r_,decide_eq_false e];simp)]at fL;refine dF ?_;exact⟨k+1,⟨R,fL⟩,R,(dX (dH gO dM dV))⟩
  .rw[cS (by rw[r_];simp_all)]at fL;refine dF ?_;exact⟨k+1,⟨R,fL⟩,R,(dX (dH gO dM dV))⟩
 .have:k=z.length:=R
  subst this;simp[fQ]at fL
def abu{α:Type}(p){l:I α}{i}(x)(cK:i<l.length):(l.set i x).countP p+(if p l[i]=N then 1 else 0)=l.countP p+(if p x=N then 1 else 0):=hN
def yP(z:I ue):V:=z.countP λx=>x.1.2&&!x.2
def AQ(z:I ue):V:=z.countP λx=>!x.2
def Dz:V->J->I ue->I J->I J
 |0,_,_,o=>o
 |m+1,f,z,o=>match z[(fQ (r_ f) z 0).toNat]? with
  |some x=>Dz m (f+hB x.1) (z.set (fQ (r_ f) z 0).toNat (x.1,N)) (o++[fQ (r_ f) z 0])
  |none=>o
structure Lc(l:I (V×di))(JC:J)(s:J×I ue×I J):Prop where
 fst:s.2.1.map (·.1)=l
 aqz:0<=s.1
 ax9:1<=s.1+yP s.2.1
 top:s.1+yP s.2.1<=16
 len:s.2.2.length<=l.length
 cnt:AQ s.2.1+s.2.2.length=l.length
 eq:Dz (l.length-s.2.2.length) s.1 s.2.1 s.2.2=Dz l.length JC (l.map λc=>(c,L)) []
def Lc.next{l g s}(h:Lc l g s)(m:s.2.2.length<l.length):∃i:V,∃cK,fQ (r_ s.1) s.2.1 0=(i) /\ (s.2.1[i]).2=L/\Lc l g (s.1+hB (s.2.1[i]).1,s.2.1.set i ((s.2.1[i]).1,N),s.2.2++[(i:J)]):=by
 have⟨f,z,o⟩:=s;have⟨Q,j,t,v,du,dY,q⟩:=h;simp only[]at Q j t v du dY q m⊢
 have b:∃x∈z,r_ f x=N:=by
  by_cases p:1<=f
  .have:0<z.countP λx=>!x.2:=by show 0<AQ z;omega
   have⟨x,d,O⟩:=CK.1 this;refine⟨x,d,?_⟩
   have:1-hB x.1<=f:=by unfold hB;split<;>omega
   rw[r_,O,decide_eq_true this];rfl
  .have:0<z.countP λx=>x.1.2&&!x.2:=by show 0<yP z;omega
   have⟨x,d,O⟩:=CK.1 this;refine⟨x,d,?_⟩;simp at O
   have:1-hB x.1<=f:=by rw[hB,if_pos O.1];omega
   rw[r_,O.2,decide_eq_true this];rfl
 have⟨i,cK,e,O⟩:=AP (k:=0) b;rw[mM]at e
 have a:(z[i]).2=L:=by rw[r_]at O;simp at O;simpa using O.1
 have hi:=abu (λx:ue=>x.1.2&&!x.2) ((z[i]).1,N) cK;have r:=abu (λx:ue=>!x.2) ((z[i]).1,N) cK;simp[a,Bool.not_false,Bool.and_true,Bool.not_true,Bool.and_false,nz]at hi r
 have u:(yP (z.set i ((z[i]).1,N)):J)+hB (z[i]).1=yP z:=by
  unfold yP hB;split
  .grind
  .simp_all
 have n:0<=hB (z[i]).1:=by unfold hB;split<;>omega
 have es:AQ (z.set i ((z[i]).1,N))+1=AQ z:=by unfold AQ;simpa using r
 refine⟨i,cK,e,a,?_,?_,?_,?_,?_,?_,?_⟩
 .rw[rQ,Q];subst Q
  have c:i<(z.map (·.1)).length:=by rwa[ec]
  have e:(z[i]).1=(z.map (·.1))[i]:=dw
  rw[e];exact List.set_getElem_self c
 .dsimp only;omega
 .dsimp only;omega
 .dsimp only;omega
 .simp;omega
 .simp;omega
 .simp;rw[<-q,show l.length-o.length=(l.length-(o.length+1))+1 by omega,Dz,e,gz,fq cK]
def aqA(a:J)(l)(h:Dy l)(d:0<=a)(Q:1<=a+h2 l)(v:a+h2 l<=16):
  d0 cQ 273 [a,.dm (l.map fP)] (.dS [Gi (Dz l.length a (l.map λc=>(c,L)) []),.bool N]):=by
 have K:=h.len
 have y:(l.map fP).length=l.length:=ec ..
 have k:(l.map λc=>((c,L):ue)).map (·.1)=l:=by rw[K5];exact apL l
 have M:yP (l.map λc=>(c,L))=h2 l:=by unfold yP h2;rw[abh];congr 1;funext c;simp
 have m:AQ (l.map λc=>(c,L))=l.length:=by unfold AQ;rw[abh];exact List.countP_eq_length.2 λ_ _=>Z
 have n:eQ l.length [c3.bool L]=(l.map λc=>((c,L):ue)).map rT:=by rw[K5];exact(List.eq_replicate_iff.2 ⟨ec ..,λb w=>by obtain⟨c,_,rfl⟩:=is.1 w;rfl⟩).symm
 refine d5 Tryz.func273 2 Z cV (cO ?_);refine df (abt l h) (c7 ?_);refine dk ?_;rw[y,gz];refine fO 1000 100 R cZ cZ cZ (cO ?_);refine eW (D:=J×I ue×I J) (λs=>[(0,.d s.1),(1,.d (.dm (l.map fP))),(6,.own 52),(7,.own 23)]) (λs=>[(23,.row (s.2.1.map rT) 1 L),(52,.row (s.2.2.map h1) 1 L)])
  (Lc l a) (λs=>l.length-s.2.2.length) (a,l.map λc=>(c,L),[]) ⟨k,d,by simp_all,by simp_all,eY _,by rw[m];rfl,Z⟩
  (nd (.row 6 52 1) g_ (dH ff ⟨by rw[<-n];rfl,Z,dM⟩ dV)) ?_
 rintro⟨f,z,o⟩ dh;have q:=dh.fst;have F:=dh.top;have G:=dh.len;have H:=dh.aqz;have p:=dh.eq;simp only[]at q F G H p⊢
 have A:(o.map h1).length=o.length:=ec ..
 have B:(z.map rT).length=z.length:=ec ..
 have C:z.length=l.length:=hN
 conv=>whnf
 refine dT (λdu=>?_) λdu=>?_
 .have⟨i,cK,g,u,cX⟩:=dh.next Bp;simp only[]at cK g u cX;have j:=aqy f z R g;rw[q]at j;refine df j (c7 ?_);refine ea R (cO ?_);refine d2 (x:=rT z[i]) Mx (c7 ?_);have e:i<l.length:=R
  have r:(z[i]).1=l[i]:=by subst q;simp
  have E:0<=hB l[i] /\hB l[i] <=1:=T2;refine ea R (cO ?_);refine d2 (x:=fP l[i]) (by simp[e]) (c7 ?_);refine fO 1000 1000 (by show(o.map h1).length+1<=1000;omega) cZ cZ cZ (c7 ?_);rw[r]at cX
  have t:(z.map rT).set i (iC (rT z[i]) 0 [c3.bool N])=(z.set i (l[i],N)).map rT:=by rw[rQ];rfl
  refine⟨(f+hB l[i],z.set i (l[i],N),o++[(i:J)]),cX,by dsimp only;rw[kv];simp;omega,dX (dH ff ⟨by rw[<-t];rfl,xw,dM⟩ dV)⟩
 .have:o.length=l.length:=R
  rw[this,Nat.sub_self,Dz]at p;refine dF ?_;exact dg Z (by rw[<-p];rfl)
def abw(f:J)(l)(h:Dy l)(b:0<=f)(Q:1<=f+h2 l)(a:f+h2 l<=16):d0 cQ 210 [f,.dm (l.map fP)] (.bool N):=by refine d5 Tryz.func210 2 Z cV (cO ?_);refine df (aqA f l h b Q a) (c7 ?_);rfl
