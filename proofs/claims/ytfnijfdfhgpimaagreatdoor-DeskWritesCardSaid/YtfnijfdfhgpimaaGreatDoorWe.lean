/- What is proved here: what functions of the program compute, and what follows; no condition beyond each theorem's own. -/
import Derived.Conc.EventLaws
import Derived.Laws.Strings
import Derived.Lib.MakeNoZero
import Derived.Lib.Repeat
import Derived.Test.YtfnijfdfhgpimaaGreatDoorWd
set_option linter.all false
noncomputable section
set_option maxHeartbeats 0
open Array renaming replicate->kx
open Bool renaming false->L,not_eq_true->Mi,true->N
open ByteArray renaming data_extract->OZ,empty->fI,mk->JB
open Decidable renaming decide->gV
open Go renaming Act->e7,Addr->gP,Frame->gS,Goroutine->dN,Program->el,TypeId->eH,Value->dp,World->c',convert->xG,invoke->ij,resolve->ii
open Go.Addr renaming add->oN
open Go.Builtin renaming min_->VJ
open Go.CallKind renaming early->ze
open Go.Conc renaming anyCH_done->M7,served->xi
open Go.ConcN renaming AtR0->L5,Has->alO
open Go.ConcX.Gen renaming body_add->awc
open Go.Deferred renaming ofValue->sd
open Go.Extern.BytealgMakeNoZero renaming digits->awd,makeNoZero->YF
open Go.Frame renaming eval->Ul,round->alo
open Go.GStep renaming after->s8
open Go.Instr renaming beginRound->FF,endLoop->O4,endRound->O3,enterLoop->O6,getLoop->O2,indexAt->qA,loadAt->sc,slice->xu,sliceAt->m1,sliceBound->Bs,sliceBounds->pT,storeAt->zv,sureAddr->lA,takeDeferred->O5,yield->Yb
open Go.IntKind renaming wrap->kU
open Go.Item renaming code->alk
open Go.Lib renaming indexByte->kF,repeatL->Pk
open Go.MemAct renaming ofEvent->mq,touch?->k6
open Go.Proofs.Tryz renaming f12->zS,f171->z3,f25->YI,f289->Pr,f68->Yc,func121->amv,func134->XZ,func171->anj,func179->ako,func25->amJ,func260->apw,func68->alu,prog->cR
open Go.Sem renaming run->Hr
open Go.Value renaming cells->Jg,slice->Uf
open Go.World renaming cell?->j3,frozen?->Ns
open Go.stepG renaming exec->Ey
open List renaming any_filter->ao7,any_map->ao4,countP_append->ZX,countP_cons->PR,countP_map->aaA,dropWhile_cons->aoP,filter_map->ao5,head?_eq_some_iff->alh,length->pY,map_congr_left->aoM,map_id->aoO,map_map->Kc,mem_or_eq_of_mem_set->aoT,range->iB,replicate->eL,takeWhile_cons->Qk
open List.Pairwise renaming imp->awe,nil->aaB
open List.Sublist renaming append->aoZ,countP_le->awg,refl->awf
open Nat renaming beq->d2,div_add_mod->Va,mod_le->aoS,mul_add_mod->Ip,mul_one->ID,strongRecOn->s6
open Option renaming map->Um,none->cM,some->U
open UInt8 renaming ofNat->uw
open _root_ renaming Array->ea,Bool->dh,ByteArray->dS,Int->I,List->J,Nat->V,Option->dB,UInt8->hj,absurd->dQ,rfl->Z,trivial->dU
namespace Go.Lk
def kK:=@ByteArray.size_append
def O_:=@run_sliceAt_string
def wP:=@List.any_eq_true
def CS:=@List.filter_sublist
def FR:=@List.foldl_append
def J_:=@List.mem_filterMap
def rJ:=@List.mem_map_of_mem
def zP:=@List.take_left'
def Cf:=@Nat.div_div_eq_div_mul
namespace Dk
section
open Go.Conc Go.Lib Go.Proofs
set_option maxRecDepth 100000
structure jr(cV:jm)(cO:c')(dJ:eE)(w:c')(M:eE):Prop where
 sub:gJ dJ M
 mD:fq M w
 hD:gG cV (λc=>w.heap.size<=c) M
 fc:nX cV cO.heap.size cO w
 cN:uu cO dJ M
def jr.init{cV w M}(a:gG cV (λc=>w.heap.size<=c) M)(d:fq M w):jr cV w M w M:=⟨.refl M,d,a,⟨Z,Z,Z,fB _,λ_ _ _=>Z⟩,λb o v h=>.inl h⟩
def jr.rel{cV cO w c0 dJ M}(h:jr cV cO dJ w M)(r:eX cV.F w c0):jr cV cO dJ c0 M:=
 ⟨h.sub,tj h.hD r h.mD,h.hD.low λc a=>by rwa[r.size]at a,
  ⟨r.os.trans h.fc.os,r.tape.trans h.fc.tape,r.output.trans h.fc.output,by rw[r.size];exact h.fc.size,λk b q=>(r.block k q).trans (h.fc.block k b q)⟩,h.cN⟩
def jr.own{cV cO w c0 dJ M}(h:jr cV cO dJ w M)(g:oC cV.F w c0)(f:∀k,k<w.heap.size->c0.heap[k]?≠w.heap[k]?->cO.heap.size<=k/\ ∀o,M k o=cM):jr cV cO dJ c0 M:=by
 refine⟨h.sub,λb o v cU=>?_,h.hD.low λc a=>fJ g.size a,⟨g.os.trans h.fc.os,g.tape.trans h.fc.tape,g.output.trans h.fc.output,fJ h.fc.size g.size,λk q d=>?_⟩,h.cN⟩
 .have a:=h.mD b o v cU
  have l:b<w.heap.size:=by
   unfold j3 at a
   cases i:w.heap[b]? with|none=>simp_all|some _=>grind
  by_cases e:c0.heap[b]?=w.heap[b]?
  .unfold j3 at a⊢;simp_all
  simp_all
 .have l:=ro q h.fc.size
  by_cases e:c0.heap[k]?=w.heap[k]?
  .exact e.trans (h.fc.block k q d)
  grind
def jr.zN{P cV cO w dJ M}(h:jr cV cO dJ w M){f dx d}(c8:dX P f dx d){vs}(cP:ly M dx vs):
  gT P cV.main cV.F f vs w λv w'=>∃i,jr cV cO dJ w' i/\ (gJ M i/\nX cV w.heap.size w w'/\uu w M i) /\e1 i d v:=by
 refine gT.mono (c8.2 cV w M vs h.hD h.mD cP) λv w' n=>?_;have⟨fN,i,e,g,s,a,f,l⟩:=n
 cases e
 refine⟨i,⟨h.sub.trans s,a,(h.hD.new s λb o v cU=>f b o v cU).low λc m=>fJ g.size m,⟨g.os.trans h.fc.os,g.tape.trans h.fc.tape,g.output.trans h.fc.output,fJ h.fc.size g.size,λk q j=>(g.block k (ro q h.fc.size) j).trans (h.fc.block k q j)⟩,λb o v cU=>?_⟩,⟨s,g,f⟩,l⟩;rcases f b o v cU with Q|Q
 .exact h.cN b o v Q
 .exact .inr (fJ h.fc.size Q)
def jr.out{cV cO w dJ M}(h:jr cV cO dJ w M){d v}(cP:e1 M d v):∃(fN:dp) (a:eE),Ending.returned v=.returned fN/\nX cV cO.heap.size cO w/\gJ dJ a/\fq a w/\uu cO dJ a/\e1 a d fN:=
 ⟨v,M,rfl,h.fc,h.sub,h.mD,h.cN,cP⟩
def XL{M d vs}(h:ly M [d] vs):∃v,vs=#[v] /\e1 M d v:=by
 have⟨Q,a⟩:=h
 match vs,Q with
 |⟨[x]⟩,_=>exact⟨x,Z,a 0 _ x Z Z⟩
def zO{M d v}(h:e1 M d v):ly M [d] #[v]:=⟨Z,λi a fN Q b=>by
 grind⟩
def Jp:∀i,(od.data.getD i 0).toNat<=8:=λi=>by
 by_cases h:i<256
 .exact(by decide+kernel:∀i,i<256->(od.data.getD i 0).toNat<=8) i h
 .have:od.data.getD i 0=0:=by
   have s:od.data.size=256:=c2;rw[um,Array.getElem?_eq_none R];rfl
  simp_all
def XM(d):f4 d<=32:=by unfold f4;have Q:=Jp (d/65536/256);have h:=Jp (d/65536);have eS:=Jp (d/256);have fy:=Jp d;grind
def akk{x}(h:x<=32):p2 x<=9:=by unfold p2;omega
def Fz(d:V):V:=p2 (f4 d)+if 10^p2 (f4 d) <=d then 1 else 0
def XN:∀k,k<=9->MC[k]?=U (((10^k:V):I)):=DJ
def akl(w):(sizeOf 59).run cR w=.ok 1 w:=c2
def akm{a:e7}{o x y}{n:V}(b:o.op=.indexAddr 355 x y)(c:a.eval x=.pointer (U ⟨3,0,cM⟩))(d:a.eval y=.int .i64 n)(h:n<20)(w):
  (execOp a.eval o).run cR w=.ok (.value (.pointer (U ⟨3,n,cM⟩))) w/\ (execOp a.eval o).events cR w #[]=#[]:=by
 have z:=R
 have e:(⟨3,0,cM⟩:gP).add (n*1)=⟨3,n,cM⟩:=by simp[oN];exact λh=>h.symm
 have r:(qA 355 (.pointer (U ⟨3,0,cM⟩)) n).run cR w=.ok (.pointer (U ⟨3,n,cM⟩)) w:=by simp[qA,asIntOf,fv c2,lA,akl,z,h];simpa using e
 have f:=HX 355 (.pointer (U ⟨3,0,cM⟩)) n cR w #[];constructor
 .simp[execOp,b,c,d,g2,r,g7,hM]
 .simp[execOp,b,c,d,jn,r,f,kE,pk]
def jr.call{cV cO w dJ M f dx d vs dv g}(K:jr cV cO dJ w M)(H:dX cR f dx d)(c3:ly M dx vs)(k:∀a w' v,jr cV cO dJ w' a->gJ M a/\nX cV w.heap.size w w'/\uu w M a->e1 a d v->dF cV.main cV.F dv (put g v) w')
 (o:(e5 g).op=.call {callee:=.value (.func f),args:=uH g,argTypes:=Ex g}:=by kernel_rfl)(y:(uH g).map (eA g).eval=vs:=by kernel_rfl)(h:it g:=by exact kA):dF cV.main cV.F dv g w:=dO.H1 h o y (K.zN H c3) λv w' ⟨a,B,x,q⟩=>k a w' v B x q
def akn(d:V)(h:d<4294967296):dX cR 179 [.int .u64 d] (Fz d):=by
 refine⟨⟨Tryz.f179,ako,c2,c2⟩,λcV w M vs s u cP=>qC ako λcs dv z=>?_⟩;obtain⟨c,rfl,Q⟩:=XL cP
 cases Q
 refine dF.p 7 ?_;refine (jr.init s u).call (OO d h) (zO (.int _ _)) λG w v K _ q=>?_
 cases q
 refine K.call (aj9 (f4 d) (by have:=XM d;omega)) (zO (.int _ _)) λH w v b _ q=>?_
 cases q
 have a:=akk (XM d);refine dF.p 7 ?_;refine dF.wo 0 _ (λj _=>akm (x:=.global 3) (y:=.tmp 9) (n:=p2 (f4 d)) c2 c2 c2 R j) λw r=>?_;have b:=b.rel r
 refine dF.eD 1 _ (b.hD.mem _ _ _ (b.hD.xo _ _ (XN _ a))) (λ_ r=>have K:=b.rel r;K.mD _ _ _ (K.hD.xo _ _ (XN _ a))) λw r=>?_;have b:=b.rel r
 refine b.call (aj8 (decide (((10^p2 (f4 d):V):I) <=d))) (zO (.bool _)) λdr w v m _ q=>?_
 cases q
 have e:kU .i64 ((p2 (f4 d):V)+(if gV (((10^p2 (f4 d):V):I) <= (d:I))=N then 1 else 0):I)=((Fz d:V):I):=by
  unfold Fz;rw[rp]
  by_cases q:10^p2 (f4 d) <=d
  .grind
  .grind
 exact dF.p 4 (z.z (v:=.int .i64 (kU .i64 ((p2 (f4 d):V)+(if gV (((10^p2 (f4 d):V):I) <= (d:I))=N then 1 else 0)))) (m.out (by rw[e];exact .int _ _)))
end
open Go.Proofs Go.RowKit
def k':∀j,j<8->∀y,y<256->2^j<=y->y<2^(j+1)->(od.data.getD y 0).toNat=j+1:=DJ
def akz{u}(cW:512<=u)(Q:u<1024):f4 u=10:=by rw[f4,cT R,if_pos R,k' 1 c1 (u/256) R R R]
def akA{u}(cW:1024<=u)(Q:u<2048):f4 u=11:=by rw[f4,cT R,if_pos R,k' 2 c1 (u/256) R R R]
def akB{u}(cW:2048<=u)(Q:u<4096):f4 u=12:=by rw[f4,cT R,if_pos R,k' 3 c1 (u/256) R R R]
def akC{u}(cW:4096<=u)(Q:u<8192):f4 u=13:=by rw[f4,cT R,if_pos R,k' 4 c1 (u/256) R R R]
def akD{u}(cW:8192<=u)(Q:u<16384):f4 u=14:=by rw[f4,cT R,if_pos R,k' 5 c1 (u/256) R R R]
def akE{u}(cW:16384<=u)(Q:u<32768):f4 u=15:=by rw[f4,cT R,if_pos R,k' 6 c1 (u/256) R R R]
def akF{u}(cW:32768<=u)(Q:u<65536):f4 u=16:=by rw[f4,cT R,if_pos R,k' 7 c1 (u/256) R R R]
def akG{u}(cW:65536<=u)(Q:u<131072):f4 u=17:=by rw[f4,if_pos R,cT R,k' 0 c1 (u/65536) R R R]
def akH{u}(cW:131072<=u)(Q:u<262144):f4 u=18:=by rw[f4,if_pos R,cT R,k' 1 c1 (u/65536) R R R]
def akI{u}(cW:262144<=u)(Q:u<524288):f4 u=19:=by rw[f4,if_pos R,cT R,k' 2 c1 (u/65536) R R R]
def akJ{u}(cW:524288<=u)(Q:u<1048576):f4 u=20:=by rw[f4,if_pos R,cT R,k' 3 c1 (u/65536) R R R]
def akK{u}(cW:1048576<=u)(Q:u<2097152):f4 u=21:=by rw[f4,if_pos R,cT R,k' 4 c1 (u/65536) R R R]
def akL{u}(cW:2097152<=u)(Q:u<4194304):f4 u=22:=by rw[f4,if_pos R,cT R,k' 5 c1 (u/65536) R R R]
def akM{u}(cW:4194304<=u)(Q:u<8388608):f4 u=23:=by rw[f4,if_pos R,cT R,k' 6 c1 (u/65536) R R R]
def akN{u}(cW:8388608<=u)(Q:u<16777216):f4 u=24:=by rw[f4,if_pos R,cT R,k' 7 c1 (u/65536) R R R]
def akO{u}(cW:16777216<=u)(Q:u<33554432):f4 u=25:=by rw[f4,if_pos R,if_pos R,k' 0 c1 (u/65536/256) R R R]
def akP{u}(cW:33554432<=u)(Q:u<67108864):f4 u=26:=by rw[f4,if_pos R,if_pos R,k' 1 c1 (u/65536/256) R R R]
def akQ{u}(cW:67108864<=u)(Q:u<134217728):f4 u=27:=by rw[f4,if_pos R,if_pos R,k' 2 c1 (u/65536/256) R R R]
def akR{u}(cW:134217728<=u)(Q:u<268435456):f4 u=28:=by rw[f4,if_pos R,if_pos R,k' 3 c1 (u/65536/256) R R R]
def akS{u}(cW:268435456<=u)(Q:u<536870912):f4 u=29:=by rw[f4,if_pos R,if_pos R,k' 4 c1 (u/65536/256) R R R]
def akT{u}(cW:536870912<=u)(Q:u<1000000000):f4 u=30:=by rw[f4,if_pos R,if_pos R,k' 5 c1 (u/65536/256) R R R]
def akU{u}(cW:100<=u)(Q:u<1000000000):∃eI,3<=eI/\eI<=9/\Fz u=eI/\10^(eI-1) <=u/\u<10^eI:=by
 have k:∀cL t,f4 u=cL->p2 cL=t->Fz u=t+if 10^t<=u then 1 else 0:=λcL t b a=>by subst b;subst a;rfl
 rcases jd u 128 with h|h
 .have e:=k 7 2 (by rw[f4,cT R,cT R,k' 6 c1 u R R R]) Z;rw[if_pos R]at e;exact⟨3,c1,c1,e,R,R⟩
 rcases jd u 256 with h|h
 .have e:=k 8 2 (by rw[f4,cT R,cT R,k' 7 c1 u R R R]) Z;rw[if_pos R]at e;exact⟨3,c1,c1,e,R,R⟩
 rcases jd u 512 with h|h
 .have e:=k 9 2 (by rw[f4,cT R,if_pos R,k' 0 c1 (u/256) R R R]) Z;rw[if_pos R]at e;exact⟨3,c1,c1,e,R,R⟩
 rcases jd u 1024 with h|h
 .have e:=k 10 3 (akz R h) Z
  by_cases O:1000<=u
  .rw[if_pos R]at e;exact⟨4,c1,c1,e,R,R⟩
  .rw[cT R]at e;exact⟨3,c1,c1,e,R,R⟩
 rcases jd u 2048 with h|h
 .have e:=k 11 3 (akA R h) Z;rw[if_pos R]at e;exact⟨4,c1,c1,e,R,R⟩
 rcases jd u 4096 with h|h
 .have e:=k 12 3 (akB R h) Z;rw[if_pos R]at e;exact⟨4,c1,c1,e,R,R⟩
 rcases jd u 8192 with h|h
 .have e:=k 13 3 (akC R h) Z;rw[if_pos R]at e;exact⟨4,c1,c1,e,R,R⟩
 rcases jd u 16384 with h|h
 .have e:=k 14 4 (akD R h) Z
  by_cases O:10000<=u
  .rw[if_pos R]at e;exact⟨5,c1,c1,e,R,R⟩
  .rw[cT R]at e;exact⟨4,c1,c1,e,R,R⟩
 rcases jd u 32768 with h|h
 .have e:=k 15 4 (akE R h) Z;rw[if_pos R]at e;exact⟨5,c1,c1,e,R,R⟩
 rcases jd u 65536 with h|h
 .have e:=k 16 4 (akF R h) Z;rw[if_pos R]at e;exact⟨5,c1,c1,e,R,R⟩
 rcases jd u 131072 with h|h
 .have e:=k 17 5 (akG R h) Z
  by_cases O:100000<=u
  .rw[if_pos R]at e;exact⟨6,c1,c1,e,R,R⟩
  .rw[cT R]at e;exact⟨5,c1,c1,e,R,R⟩
 rcases jd u 262144 with h|h
 .have e:=k 18 5 (akH R h) Z;rw[if_pos R]at e;exact⟨6,c1,c1,e,R,R⟩
 rcases jd u 524288 with h|h
 .have e:=k 19 5 (akI R h) Z;rw[if_pos R]at e;exact⟨6,c1,c1,e,R,R⟩
 rcases jd u 1048576 with h|h
 .have e:=k 20 6 (akJ R h) Z
  by_cases O:1000000<=u
  .rw[if_pos R]at e;exact⟨7,c1,c1,e,R,R⟩
  .rw[cT R]at e;exact⟨6,c1,c1,e,R,R⟩
 rcases jd u 2097152 with h|h
 .have e:=k 21 6 (akK R h) Z;rw[if_pos R]at e;exact⟨7,c1,c1,e,R,R⟩
 rcases jd u 4194304 with h|h
 .have e:=k 22 6 (akL R h) Z;rw[if_pos R]at e;exact⟨7,c1,c1,e,R,R⟩
 rcases jd u 8388608 with h|h
 .have e:=k 23 6 (akM R h) Z;rw[if_pos R]at e;exact⟨7,c1,c1,e,R,R⟩
 rcases jd u 16777216 with h|h
 .have e:=k 24 7 (akN R h) Z
  by_cases O:10000000<=u
  .rw[if_pos R]at e;exact⟨8,c1,c1,e,R,R⟩
  .rw[cT R]at e;exact⟨7,c1,c1,e,R,R⟩
 rcases jd u 33554432 with h|h
 .have e:=k 25 7 (akO R h) Z;rw[if_pos R]at e;exact⟨8,c1,c1,e,R,R⟩
 rcases jd u 67108864 with h|h
 .have e:=k 26 7 (akP R h) Z;rw[if_pos R]at e;exact⟨8,c1,c1,e,R,R⟩
 rcases jd u 134217728 with h|h
 .have e:=k 27 8 (akQ R h) Z
  by_cases O:100000000<=u
  .rw[if_pos R]at e;exact⟨9,c1,c1,e,R,R⟩
  .rw[cT R]at e;exact⟨8,c1,c1,e,R,R⟩
 rcases jd u 268435456 with h|h
 .have e:=k 28 8 (akR R h) Z;rw[if_pos R]at e;exact⟨9,c1,c1,e,R,R⟩
 rcases jd u 536870912 with h|h
 .have e:=k 29 8 (akS R h) Z;rw[if_pos R]at e;exact⟨9,c1,c1,e,R,R⟩
 have e:=k 30 9 (akT R R) Z;rw[cT R]at e;exact⟨9,c1,c1,e,R,R⟩
def p3:V->V->J hj
 |0,_=>[]
 |k+1,u=>p3 k (u/10)++[eP u]
def XV:∀k f u,k+1<=f->(k=0\/10^k<=u)->u<10^(k+1)->kW f u=p3 (k+1) u
 |0,f+1,u,_,_,h=>by
  rw[kW,if_pos AK];rfl
 |k+1,f+1,u,a,cW,h=>by
  have cW:=cW.resolve_left R;have b:10^(k+1)=10*10^k:=SU;have e:10^(k+1+1)=10*10^(k+1):=SU;have O:1<=10^k:=Nat.one_le_iff_ne_zero.2 (Nat.pos_iff_ne_zero.1 (Nat.pow_pos c1));rw[kW,cT R,XV k f (u/10) R (.inr R) R];rfl
def akV{eI u}(eS:1<=eI)(a:eI<=9)(cW:eI=1\/10^(eI-1) <=u)(Q:u<10^eI):nv u=p3 eI u:=by obtain⟨k,rfl⟩:∃k,eI=k+1:=⟨eI-1,R⟩;exact XV k 20 u R (cW.imp R id) Q
def OU:∀k u,(p3 k u).length=k
 |0,_=>rfl|k+1,u=>by simp[p3,OU k]
def nw(eI u:V):J (J c3):=[.int .u8 0]::((p3 eI u).map ff++kX (23-eI))
def akW(u):nw 3 u=[.int .u8 0]::[ff (eP (u/100)),ff (eP (u/10)),ff (eP u)]++kX 20:=by simp[nw,p3,Cf,uU,jC,pr,kD,qK]
def akX(u):nw 4 u=[.int .u8 0]::[ff (eP (u/1000)),ff (eP (u/100)),ff (eP (u/10)),ff (eP u)]++kX 19:=by simp[nw,p3,Cf,uU,jC,pr,kD,qK]
def akY(u):nw 5 u=[.int .u8 0]::[ff (eP (u/10000)),ff (eP (u/1000)),ff (eP (u/100)),ff (eP (u/10)),ff (eP u)]++kX 18:=by simp[nw,p3,Cf,uU,jC,pr,kD,qK]
def akZ(u):nw 6 u=[.int .u8 0]::[ff (eP (u/100000)),ff (eP (u/10000)),ff (eP (u/1000)),ff (eP (u/100)),ff (eP (u/10)),ff (eP u)]++kX 17:=by simp[nw,p3,Cf,uU,jC,pr,kD,qK]
def ak0(u):nw 7 u=[.int .u8 0]::[ff (eP (u/1000000)),ff (eP (u/100000)),ff (eP (u/10000)),ff (eP (u/1000)),ff (eP (u/100)),ff (eP (u/10)),ff (eP u)]++kX 16:=by simp[nw,p3,Cf,uU,jC,pr,kD,qK]
def ak1(u):nw 8 u=[.int .u8 0]::[ff (eP (u/10000000)),ff (eP (u/1000000)),ff (eP (u/100000)),ff (eP (u/10000)),ff (eP (u/1000)),ff (eP (u/100)),ff (eP (u/10)),ff (eP u)]++kX 15:=by simp[nw,p3,Cf,uU,jC,pr,kD,qK]
def ak2(u):nw 9 u=[.int .u8 0]::[ff (eP (u/100000000)),ff (eP (u/10000000)),ff (eP (u/1000000)),ff (eP (u/100000)),ff (eP (u/10000)),ff (eP (u/1000)),ff (eP (u/100)),ff (eP (u/10)),ff (eP u)]++kX 14:=by simp[nw,p3,Cf,uU,jC,pr,kD,qK]
def ak3{eI u:V}(eS:3<=eI)(a:eI<=9)(cW:10^(eI-1) <=u)(Q:u<10^eI):fG cR 180 [.win 1000000 1 eI (U 23),.d (.int .u64 u)] [(1000000,.row (kX 24) 1 L)] [(1000000,.row (nw eI u) 1 L)] (.dP []):=by
 have c:eI=3\/eI=4\/eI=5\/eI=6\/eI=7\/eI=8\/eI=9:=R;rcases c with rfl|rfl|rfl|rfl|rfl|rfl|rfl
 .rw[akW];exact FA
 .rw[akX];exact FA
 .rw[akY];exact FA
 .rw[akZ];exact akv u yG o_
 .rw[ak0];exact akw u yG o_
 .rw[ak1];exact akx u yG o_
 .rw[ak2];exact aky u yG o_
section
open Go.Conc Go.Lib
set_option maxRecDepth 100000
def wu:ea dp:=kx 24 (.int .u8 0)
section
def ak4:cR.underlying 279=U (.array 24 5):=c2
def XW:cR.underlying 5=U (.int .u8):=c2
def ak5(w):(sizeOf 5).run cR w=.ok 1 w:=c2
def XX{a:e7}{o x y A eI h}(d:o.op=.slice 279 x (U (.const (.int .i64 1))) (U y) cM)(e:a.eval x=.pointer (U ⟨A,0,cM⟩))(f:a.eval y=.int .i64 h)(c_:h=((1+eI:V):I))(cY:eI<=9)(w):
  (execOp a.eval o).run cR w=.ok (.value (.slice (U ⟨A,1,cM⟩) eI 23)) w/\ (execOp a.eval o).events cR w #[]=#[]:=by
 subst c_;have b:=H6 (P:=cR) (Ni:=L) (len:=24) (cap:=24) (dy:=U 1) (cK:=U ((1+eI:V):I)) (k1:=.i64) (eF:=.i64) w c1 hd hd (fB _)
 have r:(m1 279 (.pointer (U ⟨A,0,cM⟩)) (U (.int .i64 1)) (U ((1+eI:V):I)) cM).run cR w=.ok (.slice (U ⟨A,1,cM⟩) eI 23) w:=by have l:((U (1:I)).getD 0).toNat=1:=Z;have k:((U (((1+eI:V):I))).getD 24).toNat=1+eI:=hd;simp only[jp]at b;simp only[m1,fv ak4,g2,g7,lA,hM,b,ak5,l];have g:(1:V)+eI-1=eI:=R;have i:(Option.getD (U (((1+eI:V):I))) (((24:V):I))).toNat=1+eI:=hd;rw[i,g];simp[oN]
 have j:=HW 279 (.pointer (U ⟨A,0,cM⟩)) (U (.int .i64 1)) (U ((1+eI:V):I)) cM cR w #[];have c:a.eval (.const (.int .i64 1))=.int .i64 1:=Z;constructor
 .simp only[execOp,d,e,f,c,jp,uN,g2,r,g7,hM]
 .simp only[execOp,d,e,f,c,jp,uN,jn,r,j,kE,pk]
def XY{a:e7}{o x eb c l vs dR own M w}(b:o.op=.convert 26 9 x)(d:a.eval x=.slice eb l.length c)(s:tn cR own M w (.slice eb l.length c) l 1 vs)(f:v0 l=U dR):
  (execOp a.eval o).run cR w=.ok (.value (.string (qx dR))) w/\ ∀e∈(execOp a.eval o).events cR w #[],h0 own M e:=by
 have r:=(run_convert_bytes_string (P:=cR) w 26 9 5 eb l.length c n4 XW tq).trans (VC s f);constructor
 .simp[execOp,b,d,g2,r,g7,hM]
 .intro e h;simp[execOp,b,d,jn,r,kE,pk]at h;exact VE s e (by simpa[xG,fv tq,fv n4,fv XW]using h)
end
def OV:∀l:J hj,v0 (l.map ff)=U (l.map λc=>(c.toNat:I))
 | []=>rfl
 |c::l=>by
  have i:=OV l;simp[ff,v0,j4,i]
def OW(l:J hj)(s:dS):(l.map λc=>(c.toNat:I)).foldl (λr n=>r.push (uw n.toNat)) s=⟨s.data++l.toArray⟩:=by
 induction l generalizing s with
 |nil=>simp|cons c l i=>simp_all
def ak6(l:J hj):qx (l.map λc=>(c.toNat:I))=⟨l.toArray⟩:=by unfold qx;rw[OW];simp_all
def ak7(M):lz M wu (kX 24) 1:=by
 refine⟨λi e a=>?_,λi j e d a cP=>?_⟩
 .have:=jg a;have c:=FB this;grind
 .have cK:i<24:=by have:=(fM.1 a).1;simpa[kX]using this
  have:=jg a;have c:=FB this;subst c
  have f:j=0:=by
   cases j with|zero=>rfl|succ j=>simp at cP
  subst f;have b:=aeH;subst b;exact⟨.int .u8 0,by rw[wu,ID,BO,Array.getElem?_replicate,if_pos cK],.int _ _⟩
def ak8{M a b vs}(h:ly M [.int .i64 a,.int .i64 b] vs):vs=#[.int .i64 a,.int .i64 b]:=by
 obtain⟨d,v,rfl,Q,c⟩:=I_ h
 cases Q;cases c;rfl
def ak9{m}(W:m+100<1000000000):dX cR 134 [((m+100:V):I),.int .i64 10] (.str (iE (m+100))):=by
 have⟨eI,eS,g,aw,dc,ag⟩:=akU (u:=m+100) R W;refine⟨⟨Tryz.f134,XZ,c2,c2⟩,λcV w M vs f' dq cP=>?_⟩;obtain rfl:=ak8 cP;refine qC XZ λcs dv E=>?_;have dr:=jr.init f' dq;refine dF.p 25 ?_;refine dF.m7 18 (.cells wu 279) eV dr.hD.own λw1 Q=>?_;have dr:=dr.rel Q;have aO:=Q.size;have ah:=λk c6=>dr.hD.own k c6;have ai:jr cV w M (w1.alloc (.cells wu 279)) M:=dr.own (B_ ah _) λk aa J=>dQ (xX _ _ aa) J;have⟨A,c8⟩:∃A,w1.heap.size=A:=⟨_,Z⟩;have j:(w1.alloc (.cells wu 279)).heap[A]?=U (.cells wu 279 (0,0)):=c8▸Fr w1 _
 have aP:∀o,M A o=cM:=λo=>by
  cases cU:M A o with
  |none=>rfl
  |some v=>have E:=dr.mD A o v cU;unfold j3 at E;simp_all
 have aj:=ah A R
 have ak:A<(w1.alloc (.cells wu 279)).heap.size:=by rw[Jd];omega
 rw[c8];generalize (w1.alloc (.cells wu 279))=w2 at ai j ak
 have al:kU .u64 ((m+100:V):I)=((m+100:V):I):=by rw[XP];omega
 refine ai.call (vs:=#[.int .u64 (kU .u64 ((m+100:V):I))]) (akn (m+100) R) (by rw[al];exact zO (.int _ _)) λF aQ v ab q cU=>?_;have⟨aR,ax,ay⟩:=q
 cases cU
 rw[aw];have t:=(ax.block A ak aj).trans j
 have cX:∀o,F A o=cM:=λo=>by
  cases cU:F A o with
  |none=>rfl
  |some v=>
   rcases ay A o v cU with h|h
   .simp_all
   .omega
 refine dF.p 6 ?_;have am:kU .i64 (1+(eI:I))=((1+eI:V):I):=Sp;refine dF.wo 1 _ (λw _=>XX (x:=.tmp 5) (y:=.tmp 29) (A:=A) (eI:=eI) (h:=kU .i64 (1+(eI:I))) c2 c2 c2 am g w) λan fy=>?_
 let D:gr:=λb=>if b=1000000 then U (U ⟨A,1,24,24⟩) else cM
 let O:V->dB d4:=λb=>if b=1000000 then U (.row (kX 24) 1 L) else cM
 have rg:=ab.rel fy;have z:=(fy.block A aj).trans t;have az:w.heap.size<=A:=R
 have aA:er (λc=>w.heap.size<=c) F D O an:=by
  refine⟨λb=>?_,λb hb=>?_,λb B cL ac f=>?_,λb d7 cL ej f s he=>?_⟩
  .grind
  .simp only[D]at hb;split at hb<;>simp at hb
  .simp only[D]at f;simp only[O]at ac;split at f
   .rename_i e;rw[if_pos e]at ac
    cases f;cases ac
    refine⟨az,wu,279,z,Z,Z,Z,fB 24,ak7 F,rW,λ_=>cX⟩
   .cases f
  .simp only[D]at f s;split at f
   .split at s
    .rename_i a d;rw[a,d]
    .cases s
   .cases f
 have H:=ak3 eS g dc ag
 have aB:=H.2 [(1000000,1000000)] O ⟨λn mx b a d=>by
   have ao:∀n b,et [(1000000,1000000)] n=U b->n=1000000:=λn b e=>by
    simp[et]at e
    cases q:d2 n 1000000 with
    |true=>exact gs q
    |false=>rw[q]at e;cases e
   rw[ao n b a,ao mx b d],λn=>by
   simp[et,fo.fF]
   cases d2 n 1000000<;>simp⟩ (λn B b a d=>by
   simp[fo.fF]at a;simp[et]at d
   cases q:d2 n 1000000 with
   |false=>rw[q]at a;cases a
   |true=>
    rw[q]at a d;simp at a d;subst a;subst d
    rfl)
 have r:=f'.new ab.sub λb o v cU=>ab.cN b o v cU
 have aC:dV F D (.win 1000000 1 eI (U 23)) (.slice (U ⟨A,1,cM⟩) eI 23):=
  .win 1000000 1 eI (U 23) ⟨A,1,24,24⟩ 23 1 Z R (λm W=>by cases W;rfl) (fB 24) (.inl Z)
 have C:=aB.2 cV (λc=>w.heap.size<=c) F D an #[.slice (U ⟨A,1,cM⟩) eI 23,.int .u64 ((m+100:V):I)] r (λc E=>fJ rg.fc.size E) rg.mD aA ⟨Z,λi x v a d=>by
  match i with
  |0=>cases a;cases d;exact aC
  |1=>cases a;cases d;exact .d _ _ (.int _ _)
  |i+2=>simp at d⟩
 refine dF.k (vs:=#[.slice (U ⟨A,1,cM⟩) eI 23,.int .u64 (kU .u64 ((m+100:V):I))]) (by rwa[al]) λv aD q=>?_;have⟨fN,ad,ap,aE,G,ae,aF,af,aG,aH,aI⟩:=q
 cases aE
 have aJ:v=.tuple #[]:=by
  have:=aI
  cases this with
  |dP _ vs dw _=>have:=Array.eq_empty_of_size_eq_zero dw;rw[this]
 subst aJ
 have aK:jr cV w M aD ad:=by
  refine⟨rg.sub.trans ae,aF,(r.new ae af).low λc E=>fJ rg.fc.size (fJ G.size E),⟨G.os.trans rg.fc.os,G.tape.trans rg.fc.tape,G.output.trans rg.fc.output,fJ rg.fc.size G.size,λk aa J=>?_⟩,λb o v cU=>?_⟩
  .exact(G.block k λh=>h.elim (λh=>R) J).trans (rg.fc.block k aa J)
  .rcases af b o v cU with h|h
   .exact rg.cN b o v h
   .exact .inr h
 have aL:=aH 1000000 dU
 have X:dV ad ap (.win 1000000 1 eI (U 23)) (.slice (U ⟨A,1,cM⟩) eI 23):=
  .win 1000000 1 eI (U 23) ⟨A,1,24,24⟩ 23 1 (aL.trans Z) R (λm W=>by cases W;rfl) (fB 24) (.inl Z)
 refine dF.p 13 ?_;refine dF.wo 0 _ (λw _=>XX (x:=.tmp 5) (y:=.tmp 41) (A:=A) (eI:=eI) (h:=kU .i64 (1+(eI:I))) c2 c2 c2 am g w) λuZ dW=>?_;have da:=r.new ae af
 have S:((nw eI (m+100)).drop 1).take eI=(p3 eI (m+100)).map ff:=by exact zP (by rw[ef,OU])
 have aM:(nw eI (m+100)).length=24:=by simp[nw,OU,kX];omega
 have⟨l,dw,Y⟩:=Nu (P:=cR) (cQ:=1) (v:=.win 1000000 1 eI (U 23)) (O:=ge.O ⟨lx (.dP []),kj [(1000000,1000000)] [(1000000,.row (nw eI (m+100)) 1 L)],et [(1000000,1000000)] 1000004⟩ O) (K:=λl=>l=(p3 eI (m+100)).map ff) (by
  refine fC ⟨by rw[aM];omega,?_⟩ S;rw[S]
  simp[gN,Bh,ff,pO.one])
 subst dw;refine dO.zf sf λaq l5=>?_;have dj:=dW.trans l5;have ar:=aK.rel dj;have aN:=BA da dj aG;have⟨eb,au,aS,T,av,_⟩:=Y (λc=>w.heap.size<=c) ad ap aq _ ar.mD aN X
 refine⟨_,aq,(XY (x:=.tmp 42) c2 (show _=Uf eb _ au by rw[<-T];kernel_rfl) (T▸av) (OV _)).1,⟨.refl _ _,λe he=>((XY (x:=.tmp 42) c2 (show _=Uf eb _ au by rw[<-T];kernel_rfl) (T▸av) (OV _)).2 e (mem_listed he)).hD da⟩,?_⟩;rw[ak6,<-akV R g (.inr dc) ag];exact dF.p 3 (E.z (ar.out (.str _)))
end
def ale(n:V)(h:n<1000000000):dX cR 134 [n,.int .i64 10] (.str (iE n)):=by
 rcases jd n 100 with Q|Q
 .have h:=Q;refine d6 XZ 2 Z c2 (di ?_);refine df (akj n h) (c9 ?_);rfl
 .obtain⟨m,rfl⟩:∃m,n=m+100:=⟨n-100,R⟩;exact ak9 h
def alf(n:V)(h:n<1000000000):dX cR 103 [n] (.str (iE n)):=by refine d6 Tryz.func103 1 Z c2 (cO ?_);refine df (ale n h) (c9 ?_);rfl
def X_(n:V)(h:n<1000000000):dX cR 71 [n] (.str (iE n)):=by refine d6 Tryz.func71 1 Z c2 (cO ?_);refine df (alf n h) (c9 ?_);rfl
def Jt:∀k n,(kW k n).length<=k
 |0,_=>fB 0
 |k+1,n=>by
  unfold kW;split
  .simp
  .have:=Jt k (n/10);simp;omega
def rs(n):(iE n).size<=20:=by have:=Jt 20 n;assumption
def jD(n:V):dS:=⟨#[101,114,114,111,114,32]⟩++iE n
def Ju(n:V)(h:n<1000000000):dX cR 51 [n] (.str (jD n)):=by refine d6 Tryz.func51 1 Z c2 (cO ?_);refine df (X_ n h) (c9 ?_);refine fC (by have:=rs n;show 6+(iE n).size<=9223372036854775807;omega) (cO ?_);rfl
section
open Go.Conc Go.Lib
set_option maxRecDepth 100000
theorem jr.FD{cV cO w w' dJ M S}(h:jr cV cO dJ w M)(f:h5 cV.F S w w')(i:∀k,k<w.heap.size->S k->cO.heap.size<=k/\ ∀o,M k o=cM):jr cV cO dJ w' M:=by
 refine⟨h.sub,λb o v cU=>?_,h.hD.low λc a=>fJ f.size a,⟨f.os.trans h.fc.os,f.tape.trans h.fc.tape,f.output.trans h.fc.output,fJ h.fc.size f.size,λk d g=>?_⟩,h.cN⟩
 .have a:=h.mD b o v cU
  have l:b<w.heap.size:=by
   unfold j3 at a
   cases j:w.heap[b]? with|none=>simp_all|some _=>grind
  have e:=f.block b l (h.hD.mem b o v cU) λq=>by simp_all
  unfold j3 at a⊢;simp_all
 .have l:=ro d h.fc.size;exact(f.block k l g λq=>by grind).trans (h.fc.block k d g)
theorem jr.off{cV cO w dJ M}(h:jr cV cO dJ w M){k}(a:w.heap.size<=k)(o):M k o=cM:=by
 cases cU:M k o with|none=>rfl|some v=>have c:=h.mD k o v cU;unfold j3 at c;simp_all
structure kI(cV:jm)(cO:c')(dJ:eE)(B:V)(cN:dh)(l:J hj)(w:c')(M:eE):Prop where
 kw:jr cV cO dJ w M
 f':gG cV (λc=>cO.heap.size<=c) dJ
 e8:cO.heap.size<=B
 nx:∀o,M B o=cM
 ex:∃p r,(p=.pointer cM\/p=eV B) /\h_ cN B p r l w/\ (∀k,r=U k->cO.heap.size<=k/\ ∀o,M k o=cM) /\ (r≠cM->l≠[])
section
variable {cV:jm} {cO w w':c'} {dJ M:eE} {B:V} {cN:dh} {l:J hj} {s:dS}
theorem kI.js(h:kI cV cO dJ B cN l w M){k}(a:cO.heap.size<=k):¬cV.F k:=h.f'.own k a
theorem kI.rel(h:kI cV cO dJ B cN l w M)(r:eX cV.F w w'):kI cV cO dJ B cN l w' M:=by have⟨p,e,O,b,a,d⟩:=h.ex;exact⟨h.kw.rel r,h.f',h.e8,h.nx,p,e,O,b.h2 (r.block _ (h.js h.e8)) λk c=>r.block _ (h.js (a k c).1),a,d⟩
theorem kI.FE(h:kI cV cO dJ B cN l w M)(c:l.length+s.size<=1000000000000):gT cR cV.main cV.F 21 #[eV B,.string s] w λq w'=>q=.tuple #[s.size,.nilIface] /\kI cV cO dJ B cN (l++s.data.toList) w' M:=by
 have⟨p,x,O,j,v,t⟩:=h.ex;refine gT.mono (OA (h.js h.e8) (λk a=>h.js (v k a).1) (λk a=>h.js (fJ h.kw.fc.size a)) O j c) λq w' u=>?_;have⟨e,hZ,d,r,z,m⟩:=u
 have g:∀k,hZ=U k->cO.heap.size<=k/\ ∀o,M k o=cM:=λk a=>by
  rcases r with e|⟨fr,y,i⟩
  .simp_all
  .rw[y]at a;cases a
   exact⟨fJ h.kw.fc.size i,h.kw.off i⟩
 refine⟨e,h.kw.FD m λk _ S=>?_,h.f',h.e8,h.nx,_,hZ,.inr Z,d,g,λcY b=>?_⟩
 .rcases S with rfl|S
  .exact⟨h.e8,h.nx⟩
  simp_all
 .have f:=(zj.1 b).1;have Sy:=(zj.1 b).2;have n:=lv λe=>t e f;exact cY (z n Sx)
theorem kI.O1(h:kI cV cO dJ B L l w M){c}(b:l.length+1<=1000000000000):gT cR cV.main cV.F 23 #[eV B,.int .u8 c.toNat] w λq w'=>q=.nilIface/\kI cV cO dJ B L (l++[c]) w' M:=by
 have⟨p,t,O,i,n,s⟩:=h.ex;refine gT.mono (Xm (h.js h.e8) (λk a=>h.js (n k a).1) (λk a=>h.js (fJ h.kw.fc.size a)) O i b) λq w' m=>?_;have⟨e,hZ,d,r,j⟩:=m
 have f:∀k,hZ=U k->cO.heap.size<=k/\ ∀o,M k o=cM:=λk a=>by
  rcases r with e|⟨fr,u,g⟩
  .simp_all
  .rw[u]at a;cases a
   exact⟨fJ h.kw.fc.size g,h.kw.off g⟩
 refine⟨e,h.kw.FD j λk _ S=>?_,h.f',h.e8,h.nx,_,hZ,.inr Z,d,f,λ_=>dt⟩;rcases S with rfl|S
 .exact⟨h.e8,h.nx⟩
 simp_all
theorem kI.str(m:cR.follows .mixedOrders=N)(h:kI cV cO dJ B cN l w M)(a:l.length<=1000000000000):gT cR cV.main cV.F 24 #[eV B] w λq w'=>q=.string ⟨l.toArray⟩ /\kI cV cO dJ B N l w' M:=by have⟨p,j,O,d,r,c⟩:=h.ex;exact gT.mono (Xu m (h.js h.e8) (λk g=>h.js (r k g).1) d.f c a) λq w' i=>have⟨e,b,f⟩:=i;⟨e,h.kw.FD f λk _ S=>r k S,h.f',h.e8,h.nx,p,j,O,b,r,c⟩
theorem kI.zN(h:kI cV cO dJ B cN l w M){f dx d}(c8:dX cR f dx d){vs}(cP:ly M dx vs):
  gT cR cV.main cV.F f vs w λv w'=>∃a,kI cV cO dJ B cN l w' a/\gJ M a/\e1 a d v:=by
 have⟨p,j,O,e,r,i⟩:=h.ex;refine gT.mono (h.kw.zN c8 cP) λv w' q=>?_;have⟨a,fr,⟨s,b,f⟩,g⟩:=q
 have off:∀k,k<w.heap.size->(∀o,M k o=cM)->∀o,a k o=cM:=λk c m o=>by
  cases cU:a k o with
  |none=>rfl
  |some v=>
   rcases f k o v cU with Q|Q
   .simp_all
   .omega
 exact⟨a,⟨fr,h.f',h.e8,off B e.lt.1 h.nx,p,j,O,e.h2 (b.block _ e.lt.1 (h.js h.e8)) λk c=>b.block _ (e.lt.2 k c) (h.js (r k c).1),λk c=>⟨(r k c).1,off k (e.lt.2 k c) (r k c).2⟩,i⟩,s,g⟩
end
end
section
open Go.Conc Go.Lib
set_option maxRecDepth 100000
section
variable {P:el} {main:dh} {cX:c'->c'->Prop} {c3:c'->c'->ea Event->Prop} {dv:dN->c'->Prop} {g:dN} {w w':c'} {v:dp} {l:V}
def ny(w:c')(l:V)(o:Obj):c':={w with heap:=w.heap.setIfInBounds l o}
def u2(l:V)(es:ea Event):Prop:=∀e∈es,e.loc=.obj l/\e.sync=L
theorem Ch{fn es}(h:u2 l es):u2 l (seen P fn es):=λe a=>h e (mem_seen a)
theorem Jv{r}(h:w.heap[l]?=U (.loop r)):(O2 l).run P w=.ok r w/\ ∀es,(O2 l).events P w es=es.push ⟨.obj l,L,L⟩:=by
 have a:(getObj l).run P w=.ok (.loop r) w:=by simp[getObj,Hr,h]
 have e:∀es,(getObj l).events P w es=es.push ⟨.obj l,L,L⟩:=λes=>SG;exact⟨by simp[O2,a],λes=>by simp[O2,a,e]⟩
theorem Jw{o old}(h:w.heap[l]?=U old)(a:∀c t f,old≠.cells c t f)(b:o.isChan=L):(setObj l o).run P w=.ok () (ny w l o) /\ ∀es,(setObj l o).events P w es=es.push ⟨.obj l,N,L⟩:=by
 constructor
 .cases old<;>first|exact dQ Z (a _ _ _)|simp[setObj,Hr,h,ny]
 .intro es;cases old<;>first|exact dQ Z (a _ _ _)|simp[setObj,Sem.events,Sem.runT,h,b,-Sem.runT_eq]
theorem alg{cN cs r}(m:cN.mode=.run)(a:(cN.kind==ze)=L)(t:cN.todo.head?=U .beginRound)(c:cN.roundOf=U l)(h:w.heap[l]?=U (.loop r))(s:r.state=.ready):
  ∃es,stepG P main (G cN cs) w=.go (G {cN with todo:=cN.todo.tail} cs) (ny w l (.loop {r with state:=.busy})) es/\u2 l es:=by
 have⟨d,j⟩:=Jv (P:=P) h;have⟨s1,s2⟩:=Jw (P:=P) (o:=.loop {r with state:=.busy}) h (by intros;simp) Z
 have b:(FF l).run P w=.ok () (ny w l (.loop {r with state:=.busy})):=by unfold FF;simp[d,s1,s]
 have he:(FF l).events P w #[]=#[⟨.obj l,L,L⟩,⟨.obj l,N,L⟩]:=by unfold FF;simp[d,j,s1,s2,s]
 refine⟨seen P cN.fn #[⟨.obj l,L,L⟩,⟨.obj l,N,L⟩],?_,Ch λe he=>Dv⟩;have⟨fn,tmps,todo,defers,mode,i,n⟩:=cN;simp only at m a t c;subst m c;obtain⟨k,rfl⟩:=alh.1 t
 have f:(FF l>>=λ_=>pure Next.skip).run P w=.ok .skip (ny w l (.loop {r with state:=.busy})):=by simp[b]
 have g:(FF l>>=λ_=>pure Next.skip).events P w #[]=#[⟨.obj l,L,L⟩,⟨.obj l,N,L⟩]:=by simp[b,he]
 simp[G,stepG,Ey,stepG.apply,b,he,a,s8,Frame.finish]
theorem X'{r}(j)(h:w.heap[l]?=U (.loop r)):(O3 l j).run P w=.ok (.bool j.isNone) (ny w l (.loop {r with state:=if j.isNone then .ready else .done,pending:=j})) /\ (O3 l j).events P w #[]=#[⟨.obj l,L,L⟩,⟨.obj l,N,L⟩]:=by
 have⟨a,b⟩:=Jv (P:=P) h;have⟨s1,s2⟩:=Jw (P:=P) (o:=.loop {r with state:=if j.isNone then .ready else .done,pending:=j}) h (by intros;simp) Z;constructor
 .unfold O3;simp_all
 .unfold O3;simp_all
theorem ali{cN c cs r}(m:cN.mode=.run)(k:cN.kind=.normal)(t:cN.todo=[])(a:cN.roundOf=U l)(h:w.heap[l]?=U (.loop r)):
  ∃es,stepG P main (G cN (c::cs)) w=.go (G (c.finish (.bool N)) cs) (ny w l (.loop {r with state:=.ready,pending:=cM})) es/\u2 l es:=by
 have⟨b,d⟩:=X' (P:=P) cM h;refine⟨seen P cN.fn #[⟨.obj l,L,L⟩,⟨.obj l,N,L⟩],?_,Ch λe he=>Dv⟩;have⟨fn,tmps,todo,defers,mode,i,o⟩:=cN;simp only at m k t a;subst m t a k;simp[G,stepG,Ey,b,d,s8,doReturn]
theorem alj{cN c cs r}(m:cN.mode=.run)(a:cN.kind=.normal)(t:cN.todo.head?=U (.code .ret))(b:cN.roundOf=U l)(h:w.heap[l]?=U (.loop r)):
  ∃es,stepG P main (G cN (c::cs)) w=.go (G (c.finish (.bool L)) cs) (ny w l (.loop {r with state:=.done,pending:=U .ret})) es/\u2 l es:=by
 have⟨d,f⟩:=X' (P:=P) (U .ret) h;refine⟨seen P cN.fn #[⟨.obj l,L,L⟩,⟨.obj l,N,L⟩],?_,Ch λe he=>Dv⟩;have⟨fn,tmps,todo,defers,mode,i,o⟩:=cN;simp only at m a t b;subst m b a;obtain⟨k,rfl⟩:=alh.1 t;simp[G,stepG,Ey,d,f,s8,doReturn]
theorem Ya{cN cs r k}(m:cN.mode=.run)(t:cN.todo=.endRangeFunc l::k)(h:w.heap[l]?=U (.loop r))(b:r.state=.ready\/r.state=.done):
  ∃es,stepG P main (G cN cs) w=.go (G {cN with todo:=(r.pending.map alk).toList++k} cs) (ny w l (.loop {r with state:=.exhausted})) es/\u2 l es:=by
 have⟨c,d⟩:=Jv (P:=P) h;have⟨s1,s2⟩:=Jw (P:=P) (o:=.loop {r with state:=.exhausted}) h (by intros;simp) Z
 have g:(O4 l).run P w=.ok r.pending (ny w l (.loop {r with state:=.exhausted})):=by unfold O4;rcases b with b|b<;>simp_all<;>rfl
 have a:(O4 l).events P w #[]=#[⟨.obj l,L,L⟩,⟨.obj l,N,L⟩]:=by unfold O4;rcases b with b|b<;>simp_all<;>rfl
 refine⟨seen P cN.fn #[⟨.obj l,L,L⟩,⟨.obj l,N,L⟩],?_,Ch λe he=>Dv⟩;have⟨fn,tmps,todo,defers,mode,i,f⟩:=cN;simp only at m t;subst m t;simp[G,stepG,Ey,g,a,s8]
theorem alm{cN cs dx args b}(m:cN.mode=.returning)(cP:cN.defers={target:=.collected b,args:=args}::dx)(h:w.heap[b]?=U (.deferred (U []))):
  ∃es,stepG P main (G cN cs) w=.go (G {cN with defers:=dx} cs) (ny w b (.deferred cM)) es/\u2 b es:=by
 have r:(getObj b).run P w=.ok (.deferred (U [])) w:=by simp[getObj,Hr,h]
 have c:∀es,(getObj b).events P w es=es.push ⟨.obj b,L,L⟩:=λes=>SG;have⟨s1,s2⟩:=Jw (P:=P) (o:=.deferred cM) h (by intros;simp) Z
 have f:(O5 b).run P w=.ok [] (ny w b (.deferred cM)):=by unfold O5;simp[r,s1]
 have a:(O5 b).events P w #[]=#[⟨.obj b,L,L⟩,⟨.obj b,N,L⟩]:=by unfold O5;simp[r,c,s1,s2]
 refine⟨seen P cN.fn #[⟨.obj b,L,L⟩,⟨.obj b,N,L⟩],?_,Ch λe he=>Dv⟩;have⟨fn,tmps,todo,defers,mode,k,d⟩:=cN;simp only at m cP;subst m cP;simp[G,stepG,unwind,f,a,s8]
theorem aln{a:e7}{o f x y ats r u v}(c:o.op=.call {callee:=.value f,args:=#[x,y],argTypes:=ats})(b:a.eval f=.func (.yield l) #[] #[])(d:a.eval x=u)(g:a.eval y=v)(h:w.heap[l]?=U (.loop r)){t t2}(O:r.params=#[t,t2]):
  (execOp a.eval o).run P w=.ok (.round l r.fn ((r.tmps.setIfInBounds t u).setIfInBounds t2 v) r.assign r.body) w/\u2 l ((execOp a.eval o).events P w #[]):=by
 have⟨i,k⟩:=Jv (P:=P) h
 have e:execOp a.eval o=Yb l #[u,v]:=by simp[execOp,c,ii,b,d,g,sd,ij]
 rw[e];constructor
 .unfold Yb;simp[i,O]
 .unfold Yb;intro e j;simp_all
theorem it.round(h:it g){f tmps assign body}(r:(execOp (eA g).eval (e5 g)).run P w=.ok (.round l f tmps assign body) w'):
  stepG P main g w=.go (G (alo l f tmps assign body .normal) (g.frame.at (eA g) (.inRegion (i6 g) (k8 g::k9 g)::g.frame.todo.tail)::g.callers)) w' (listed P g.frame.fn (eA g) (e5 g) w):=by
 conv=>lhs;rw[h.eq]
 rw[stepG_oper h.op h.wanted];simp[stepG.apply,r,G,Frame.at,h.kind,s8,listed]
end
section
variable {P:el} {main:dh} {w:c'}
theorem alp{cN cs k f params assign body h cY c cap}(m:cN.mode=.run)(d:(cN.kind==ze)=L)(r:cN.roundOf=cM)
  (e:cN.todo=.code (.rangeFunc f params assign body)::k)(l:cN.eval f=.func (.func h) #[] #[cap])(Q:P.funcs[h]?=U cY)(c5:(cY.name== "runtime.NumGoroutine")=L)(eS:cY.body=U c):
  stepG P main (G cN cs) w=.go (G (Frame.enter P h #[.func (.yield (w.heap.size+1)) #[] #[],cap] .normal) ({cN with todo:=.inRangeFunc (w.heap.size+1)::k,defers:={target:=.collected w.heap.size,args:=#[]}::cN.defers}::cs))
   ((w.alloc (.deferred (U []))).alloc (.loop {state:=.ready,pending:=cM,fn:=cN.fn,tmps:=cN.tmps,params,assign,body,defers:=w.heap.size})) #[]:=by
 have j:∀c0,(callFunc h #[.func (.yield (w.heap.size+1)) #[] #[],cap]).run P c0=.ok (.enter h #[.func (.yield (w.heap.size+1)) #[] #[],cap]) c0/\ (callFunc h #[.func (.yield (w.heap.size+1)) #[] #[],cap]).events P c0 #[]=#[]:=λc0=>by
  have o:cY.body.isSome=N:=by rw[eS];rfl
  have n:=rV;simp[callFunc,Q,n,eS]
 have⟨fn,tmps,todo,defers,mode,i,q⟩:=cN;simp only at m d r e;subst m r e;have z:(w.alloc (.deferred (U []))).heap.size=w.heap.size+1:=dt
 have p:(O6 fn tmps params assign body cM).run P w=.ok (w.heap.size+1,[{target:=.collected w.heap.size,args:=#[]}]) ((w.alloc (.deferred (U []))).alloc (.loop {state:=.ready,pending:=cM,fn:=fn,tmps:=tmps,params,assign,body,defers:=w.heap.size})):=by unfold O6;simp
 have g:(O6 fn tmps params assign body cM).events P w #[]=#[]:=by unfold O6;simp
 have b:∀t dx,Ul ⟨fn,tmps,t,dx,.run,i,cM⟩ f=.func (.func h) #[] #[cap]:=λt dx=>by assumption
 have a:∀t dx v,Ul ⟨fn,tmps,t,dx,.run,i,cM⟩ (.const v)=v:=λ_ _ _=>Z;simp[a,G,stepG,Ey,p,g,s8,seen,stepG.apply,ii,b,sd,ij,j,d]
end
end
section
open Go.Conc Go.Lib
set_option maxRecDepth 100000
section
variable (v:dB gP) (n c:V) (cs:J gS) (B:V) (f:V->dp) (i:I)
noncomputable def O7:dN:=
 let g:=e6 10 (put (e6 3 (f3 (e6 6 (G ((base 68).at {tmps:=#[.slice v n c]++kx (Yc.ntmps-1) undef,defers:=[]} [.code (Yc.body.getD .skip)]) cs)) (eV B))) (.tuple #[.int .i64 2,.nilIface]))
 {g with frame:={g.frame with tmps:=([.slice v n c,f 1,f 2,eV B,f 4,f 5,f 6,.slice v n c,n,i]++(iB 9).map λi=>f (i+10)).toArray}}
end
def jQ:J V->J hj
 | []=>[]
 |n::l=>32::nv n++jQ l
def gx(l:J V):dS:=⟨([111,107]++jQ l).toArray⟩
theorem Yd(a b):jQ (a++b)=jQ a++jQ b:=by
 induction a with
 |nil=>rfl|cons x a i=>simp[jQ,i]
theorem Jx(l):(jQ l).length<=21*l.length:=by
 induction l with
 |nil=>exact fB 0|cons x l i=>have:(nv x).length<=20:=Jt 20 x;simp[jQ,pW,kG];omega
theorem alq(w):(sizeOf 3).run cR w=.ok 1 w:=c2
theorem alr{a:e7}{o x y}{b off n c i:V}(d:o.op=.indexAddr 96 x y)(e:a.eval x=.slice (U ⟨b,off,cM⟩) n c)(f:a.eval y=.int .i64 i)(h:i<n)(w):
  (execOp a.eval o).run cR w=.ok (.value (.pointer (U ⟨b,off+i,cM⟩))) w/\ (execOp a.eval o).events cR w #[]=#[]:=by
 have r:(qA 96 (.slice (U ⟨b,off,cM⟩) n c) i).run cR w=.ok (.pointer (U ⟨b,off+i,cM⟩)) w:=by have z:=R;simp[qA,asIntOf,fv c2,alq,z,h,mA]
 have g:=HX 96 (.slice (U ⟨b,off,cM⟩) n c) i cR w #[];constructor
 .simp[execOp,d,e,f,g2,r,g7,hM]
 .simp[execOp,d,e,f,jn,r,g,kE,pk]
theorem als{M}{l:J V}{u}(h:e1 M (.dk (l.map f1)) u):∃eb c,u=.slice eb l.length c/\ ∀(i k:V),l[i]?=U k->∃b off,eb=U ⟨b,off,cM⟩ /\M b (off+i)=U (.int .i64 k):=by
 have⟨d,cP⟩:∃d,c3.dk (l.map f1)=d:=⟨_,Z⟩;rw[cP]at h
 cases h with
 |emp a c=>simp_all
 |dk g b off cap cQ val dw c7 d8 e=>
  cases cP
  refine⟨U ⟨b,off,cM⟩,cap,by simp_all,λi k c6=>⟨b,off,Z,?_⟩⟩
  have he:(l.map f1)[i]?=U (f1 k):=by rw[iO,c6];rfl
  have f:cQ=1:=(c7 i _ he).symm;subst f;have Q:=d8 i 0 _ _ he Z;have c5:=e i 0 _ _ he Z;generalize val i 0=q at Q c5
  cases c5
  simp_all
 |_=>cases cP
theorem zQ(d8:cR.follows .mixedOrders=N)(l)(a:∀n∈l,n<1000000000)(dw:l.length<=1000000):dX cR 68 [.dk (l.map f1)] (.str (gx l)):=by
 refine⟨⟨Yc,alu,c2,c2⟩,λcV w M vs O Y cP=>?_⟩;obtain⟨u,rfl,g⟩:=XL cP;obtain⟨v,c,rfl,t⟩:=als g;have⟨n,cY⟩:∃n,l.length=n:=⟨_,Z⟩;rw[cY];refine qC alu λcs dv z=>dF.p 6 ?_;have K:=jr.init O Y;refine dF.m7 3 (.cells #[.pointer cM,.slice cM 0 0] 52) eV K.hD.own λw1 Q=>?_;have K:=K.rel Q;have ah:=Q.size;have D:=λk m=>K.hD.own k m;have⟨B,dj⟩:∃B,w1.heap.size=B:=⟨_,Z⟩
 have cL:kI cV w M B L [] (w1.alloc (.cells #[.pointer cM,.slice cM 0 0] 52)) M:=by refine⟨K.own (B_ D _) λk J aa=>dQ (xX _ _ J) aa,O,R,λo=>K.off R o,.pointer cM,cM,.inl Z,⟨.slice cM 0 0,dj▸Fr w1 _,World.ownsRow_nil _ _ _ _,Z⟩,(λk m=>by cases m),λh=>dQ Z h⟩
 rw[dj];generalize (w1.alloc (.cells #[.pointer cM,.slice cM 0 0] 52))=w2 at cL;refine dF.k (cL.FE (s:=⟨#[111,107]⟩) c1) λq ab d=>?_;obtain⟨rfl,da⟩:=d
 have loop:∀(k i:V) (f:V->dp) (w':c') (r:eE),k+i=n->gJ M r->kI cV w M B L ([111,107]++jQ (l.take i)) w' r->dF cV.main cV.F dv (O7 v n c cs B f i) w':=by
  intro k
  induction k with
  |zero=>
   intro i f w' r m E T;refine dF.p 5 (dF.c 10 ((i:I)<n) (λh=>by omega) λh=>dF.p 4 ?_);have C:l.take i=l:=u1 R;rw[C]at T;have A:=Jx l;refine dF.k (T.str d8 (by simp;omega)) λq dr d=>?_;obtain⟨rfl,cX⟩:=d;exact dF.p 3 (z.z (cX.kw.out (.str _)))
  |succ k ac=>
   intro i f w' r m E T;have cK:i<n:=R;have⟨x,G⟩:∃x,l[i]?=U x:=⟨l[i],fe R⟩;obtain⟨b,off,rfl,X⟩:=t i x G;have H:=a x (jg G);refine dF.p 5 (dF.c 10 ((i:I)<n) (λ_=>dF.p 6 ?_) λh=>by omega)
   refine dF.wo 0 (.pointer (U ⟨b,off+i,cM⟩)) (λdr _=>alr (x:=.tmp 7) (y:=.tmp 9) (b:=b) (off:=off) (n:=n) (c:=c) (i:=i) c2 c2 c2 cK dr) λdr fy=>?_;have T:=T.rel fy;have j:=E _ _ _ X;refine dF.eD 4 _ (T.kw.hD.mem _ _ _ j) (λ_ e=>(T.rel e).kw.mD _ _ _ j) λai dz=>?_;have T:=T.rel dz;have A:(jQ (l.take i)).length<=21*n:=fJ (Jx _) (by rw[pn];omega)
   refine dF.k (T.O1 (c:=32) (by simp;omega)) λq uZ d=>?_;obtain⟨rfl,S⟩:=d;refine dF.p 3 (dF.k (S.zN (X_ x H) (zO (.int _ _))) λq aj d=>?_);have⟨P,ad,ae,d⟩:=d
   cases d
   have cP:(iE x).data.toList=nv x:=by simp[iE]
   have ak:=rs x;refine dF.k (ad.FE (s:=iE x) (by simp;omega)) λq af d=>?_;obtain⟨rfl,dc⟩:=d;refine dF.p 7 (dF.h (λf=>O7 (U ⟨b,off,cM⟩) n c cs B f (kU .i64 ((i:I)+1))) λf=>?_);rw[show kU .i64 ((i:I)+1)=((i+1:V):I) by rw[rp];omega];apply ac (i+1) f af P R (E.trans ae)
   have ag:l.take (i+1)=l.take i++[x]:=by rw[List.take_add_one,G];rfl
   rw[ag,Yd]
   have W:[111,107]++(jQ (l.take i)++jQ [x])=[111,107]++jQ (l.take i)++[32]++(iE x).data.toList:=by rw[cP];simp[jQ]
   rwa[W]
 exact dF.p 10 (dF.h (λf=>O7 v n c cs B f 0) λf=>loop n 0 f ab M R (.refl M) da)
end
section
open Go.Conc Go.Lib
set_option maxRecDepth 100000
section
variable {main:dh} {F:V->Prop} {cN:dh} {B:V} {p:dp} {r:dB V} {l:J hj} {w:c'}
theorem h_.sl(h:h_ cN B p r l w):∃a c,w.heap[B]?=U (.cells #[p,.slice a l.length c] 52 (0,0)):=by
 have⟨v,Q,b,eS⟩:=h;rcases b.f.2 with⟨rfl,cW⟩|⟨g,cap,u,f,rfl,_⟩
 .simp_all
 simp_all
theorem amt(d:¬F B)(h:h_ cN B p r l w):gT cR main F 57 #[eV B] w λq w'=>q=.int .i64 l.length/\eX F w w':=by
 have⟨a,c,Q⟩:=h.sl;exact qC Tryz.func57 λcs dv e=>dF.p 9 (dF.eD 4 1 d (λ_ b=>m5 ((b.block B d).trans Q) Z) λw1 i=>e.z ⟨Z,i⟩)
end
end
section
open Go.Conc Go.Lib
set_option maxRecDepth 100000
structure gn(cV:jm)(cO:c')(dJ:eE)(w:c')(M:eE)(cL:J (V×Obj)):Prop where
 K:jr cV cO dJ w M
 js:∀c,cO.heap.size<=c->¬cV.F c
 H:∀p∈cL,cO.heap.size<=p.1/\w.heap[p.1]?=U p.2/\ ∀o,M p.1 o=cM
section
variable {cV:jm} {cO w w':c'} {dJ M:eE} {cL ej:J (V×Obj)}
theorem gn.init(h:gG cV (λc=>w.heap.size<=c) M)(a:fq M w):gn cV w M w M []:=⟨jr.init h a,h.own,λp O=>by cases O⟩
theorem gn.rel(h:gn cV cO dJ w M cL)(r:eX cV.F w w'):gn cV cO dJ w' M cL:=⟨h.K.rel r,h.js,λp O=>⟨(h.H p O).1,(r.block _ (h.js _ (h.H p O).1)).trans (h.H p O).2.1,(h.H p O).2.2⟩⟩
theorem gn.lt(h:gn cV cO dJ w M cL){p}(O:p∈cL):p.1<w.heap.size:=(kv.1 (h.H p O).2.1).1
theorem gn.mV(h:gn cV cO dJ w M cL)(o):oC cV.F w (w.alloc o):=B_ (λk a=>h.js k (fJ h.K.fc.size a)) o
theorem gn.alloc(h:gn cV cO dJ w M cL)(o):gn cV cO dJ (w.alloc o) M ((w.heap.size,o)::cL):=
 ⟨h.K.own (h.mV o) λk q a=>dQ (xX _ _ q) a,h.js,λp O=>by
  rcases m3.1 O with rfl|O
  .exact⟨h.K.fc.size,Fr w o,λkh=>h.K.off (fB _) kh⟩
  .exact⟨(h.H p O).1,(xX _ _ (h.lt O)).trans (h.H p O).2.1,(h.H p O).2.2⟩⟩
theorem gn.set{b off a T}(h:gn cV cO dJ w M ((b,.cells a T (0,0))::cL))(f:∀p∈cL,p.1≠b)(v):gn cV cO dJ (w.setCell ⟨b,off,cM⟩ v) M ((b,.cells (a.setIfInBounds off v) T (0,0))::cL):=by
 have⟨Q,d,eS⟩:=h.H _ (.head _);refine⟨h.K.own (Fp (h.js _ Q) v) λk i q=>?_,h.js,λp O=>?_⟩
 .have e:=lv λe=>q (tw e v);simp_all
 .rcases m3.1 O with rfl|O
  .exact⟨Q,uX d v,eS⟩
  .have⟨dG,g,c⟩:=h.H p (.tail _ O);exact⟨dG,(tw (f p O) v).trans g,c⟩
theorem gn.sub(h:gn cV cO dJ w M cL)(a:∀p∈ej,p∈cL):gn cV cO dJ w M ej:=⟨h.K,h.js,λp O=>h.H p (a p O)⟩
theorem gn.zN(h:gn cV cO dJ w M cL){f dx d}(c8:dX cR f dx d){vs}(cP:ly M dx vs):
  gT cR cV.main cV.F f vs w λv w'=>∃a,gn cV cO dJ w' a cL/\w.heap.size<=w'.heap.size/\e1 a d v:=by
 refine gT.mono (h.K.zN c8 cP) λv w' g=>have⟨a,fr,⟨s,b,f⟩,c⟩:=g;⟨a,⟨fr,h.js,λp O=>have⟨Q,e,eS⟩:=h.H p O;⟨Q,(b.block _ (h.lt O) (h.js _ Q)).trans e,λo=>?_⟩⟩,b.size,c⟩
 cases cU:a p.1 o with
 |none=>rfl
 |some v=>
  rcases f _ o v cU with q|q
  .simp_all
  simp_all
end
section
variable {P:el} {w:c'}
theorem am3{a:e7}{o t x y b off u z r T}(f:o.op=.store t x y)(i:a.eval x=.pointer (U ⟨b,off,cM⟩))(j:a.eval y=.agg #[u,z])(g:(sizeOf t).run P w=.ok 2 w)
  (cW:u.oneCell'=N)(Q:z.oneCell'=N)(v:u.cells=#[u])(q:z.cells=#[z])(c:w.heap[b]?=U (.cells r T (0,0)))(l:off+1<r.size):
  (execOp a.eval o).run P w=.ok .skip ((w.setCell ⟨b,off,cM⟩ u).setCell ⟨b,off+1,cM⟩ z) /\ ∀e∈(execOp a.eval o).events P w #[],e=⟨.cell ⟨b,off,cM⟩,N,L⟩ \/e=⟨.cell ⟨b,off+1,cM⟩,N,L⟩:=by
 have eT:w.cell? ⟨b,off,cM⟩=U (r[off]' R):=by simp[j3,c,show off<r.size by omega]
 have n:w.frozen? ⟨b,off,cM⟩=L:=by simp[Ns,c]
 have h:=uX (o:=off) c u
 have g6:(w.setCell ⟨b,off,cM⟩ u).cell? ⟨b,off+1,cM⟩=U (r[off+1]'l):=by simp[j3,h,l]
 have p:(w.setCell ⟨b,off,cM⟩ u).frozen? ⟨b,off+1,cM⟩=L:=by simp[Ns,h]
 have r0:(store ⟨b,off,cM⟩ u).run P w=.ok () (w.setCell ⟨b,off,cM⟩ u):=by rw[Ii P w _ u _ cW,eT];simp[n]
 have k:(store ⟨b,off+1,cM⟩ z).run P (w.setCell ⟨b,off,cM⟩ u)=.ok () ((w.setCell ⟨b,off,cM⟩ u).setCell ⟨b,off+1,cM⟩ z):=by rw[Ii P _ _ z _ Q,g6];simp[p]
 have m:∀es,(store ⟨b,off,cM⟩ u).events P w es=es.push ⟨.cell ⟨b,off,cM⟩,N,L⟩:=λes=>by
  rw[Ij P w es _ u _ cW,eT];grind
 have A:∀es,(store ⟨b,off+1,cM⟩ z).events P (w.setCell ⟨b,off,cM⟩ u) es=es.push ⟨.cell ⟨b,off+1,cM⟩,N,L⟩:=λes=>by
  rw[Ij P _ es _ z _ Q,g6];grind
 have s:(sizeOf t).events P w #[]=#[]:=by
  have s:∀es,(typeInfo t).events P w es=es:=λes=>by
   simp[typeInfo]
   cases P.info? t<;>simp
  simp[sizeOf]
 constructor
 .simp[execOp,f,i,j,zv,lA,storeVar,g,Jg,storeCells,oN,r0,k]
 .intro e d;simpa[execOp,f,i,j,zv,lA,storeVar,g,Jg,storeCells,oN,r0,k,m,A,s]using d
end
section
variable {cV:jm} {cO w:c'} {dJ M:eE} {cL:J (V×Obj)} {b:V} {o kh:Obj}
theorem Y0{k}(h:k≠b)(kh):(ny w b kh).heap[k]?=w.heap[k]?:=by simp[ny,Array.getElem?_setIfInBounds,Ne.symm h]
theorem am4(kh):(ny w b kh).heap.size=w.heap.size:=by simp[ny]
theorem Y1{F}(h:¬F b)(kh):oC F w (ny w b kh):=⟨Z,Z,Z,xy (am4 kh).symm,λk a=>Y0 (λe=>h eG) kh⟩
end
end
section
open Go.Conc Go.Lib
set_option maxRecDepth 100000
structure hy(cV:jm)(cO:c')(dJ:eE)(w:c')(M:eE)(cL:J (V×Obj)):Prop extends gn cV cO dJ w M cL where
 P:(cL.map (·.1)).Pairwise (·>·)
section
variable {P:el} {w:c'}
theorem am5{a:e7}{o t x b off l m}(c:o.op=.load t x)(f:a.eval x=.pointer (U ⟨b,off,cM⟩))(g:(isAgg t).run P w=.ok N w)(d:(sizeOf t).run P w=.ok 2 w)
  (eT:w.cell? ⟨b,off,cM⟩=U l)(g6:w.cell? ⟨b,off+1,cM⟩=U m):(execOp a.eval o).run P w=.ok (.value (.agg #[l,m])) w/\ ∀e∈(execOp a.eval o).events P w #[],∃j,e=⟨.cell ⟨b,j,cM⟩,L,L⟩:=by
 have s:∀es,(sizeOf t).events P w es=es:=λes=>by
  simp_all
 have h:=λes=>ed.isAgg t P w es
 have i:∀es,(load ⟨b,off,cM⟩).events P w es=es.push ⟨.cell ⟨b,off,cM⟩,L,L⟩:=λes=>by rw[Iq,eT];rfl
 have n:∀es,(load ⟨b,off+1,cM⟩).events P w es=es.push ⟨.cell ⟨b,off+1,cM⟩,L,L⟩:=λes=>by rw[Iq,g6];rfl
 have r0:(load ⟨b,off,cM⟩).run P w=.ok l w:=eG
 have r:(load ⟨b,off+1,cM⟩).run P w=.ok m w:=eG
 constructor
 .simp[execOp,c,f,sc,lA,loadVar,g,d,loadCells,loadCellsFrom,oN,r0,r,eT,g6]
 .intro e k;simp[execOp,c,f,sc,lA,loadVar,g,d,h,s,loadCells,loadCellsFrom,oN,r0,r,i,n,eT,g6]at k;grind
theorem am6{a:e7}{o st k x y}{b off n c i cQ:V}(u:P.underlying st=U (.slice k))(j:(sizeOf k).run P w=.ok cQ w)(d:o.op=.indexAddr st x y)(e:a.eval x=.slice (U ⟨b,off,cM⟩) n c)(f:a.eval y=.int .i64 i)(h:i<n):
  (execOp a.eval o).run P w=.ok (.value (.pointer (U ⟨b,off+i*cQ,cM⟩))) w/\ (execOp a.eval o).events P w #[]=#[]:=by
 have r:(qA st (.slice (U ⟨b,off,cM⟩) n c) i).run P w=.ok (.pointer (U ⟨b,off+i*cQ,cM⟩)) w:=by have z:=R;simp[qA,asIntOf,fv u,j,z,h,oN]
 have g:=HX st (.slice (U ⟨b,off,cM⟩) n c) i P w #[];constructor
 .simp[execOp,d,e,f,g2,r,g7,hM]
 .simp[execOp,d,e,f,jn,r,g,kE,pk]
end
theorem am7{F w l}(c:¬F l){es}(h:u2 l es):i3 F w w es:=⟨.refl _ _,λe a=>by
 have⟨Q,b⟩:=h e a
 unfold i2;simp_all⟩
theorem am8{F w b}(a:¬F b){es}(h:∀e∈es,∃j,e=⟨.cell ⟨b,j,cM⟩,L,L⟩):i3 F w w es:=⟨.refl _ _,λe c=>by
 obtain⟨j,rfl⟩:=h e c
 exact⟨Z,a⟩⟩
theorem c7(w:c'):∃B,w.heap.size=B:=⟨_,Z⟩
section
variable {cV:jm} {cO w w':c'} {dJ M:eE} {cL:J (V×Obj)} {dv:dN->c'->Prop} {g:dN} {b n:V} {o:Obj} {a:ea dp} {T:eH} {u v:dp}
theorem hy.init(h:gG cV (λc=>w.heap.size<=c) M)(a:fq M w):hy cV w M w M []:=⟨.init h a,.nil⟩
theorem hy.rel(h:hy cV cO dJ w M cL)(r:eX cV.F w w'):hy cV cO dJ w' M cL:=⟨h.1.rel r,h.P⟩
theorem hy.hY{x}(h:hy cV cO dJ w M (x::cL)):hy cV cO dJ w M cL:=⟨h.sub λ_ q=>.tail _ q,h.P.tail⟩
theorem hy.sm(A:hy cV cO dJ w M cL)(b:w.heap.size=n)(o):hy cV cO dJ (w.alloc o) M ((n,o)::cL):=b▸⟨A.1.alloc o,.cons (λq h=>by obtain⟨p,O,rfl⟩:=h4.1 h;exact A.lt O) A.P⟩
theorem hy.gt(A:hy cV cO dJ w M cL)(i:V)(m:cL[i]?=U (b,o):=by rfl):cO.heap.size<=b/\w.heap[b]?=U o/\ ∀o,M b o=cM:=A.H _ (jg m)
theorem hy.ne(A:hy cV cO dJ w M cL)(i:V)(m:cL[i]?=U (b,o):=by rfl):¬cV.F b:=A.js _ (A.gt i m).1
theorem hy.up(A:hy cV cO dJ w M cL){i:V}(m:cL[i]?=U (b,o))(kh)(Q:w'.heap[b]?=U kh)(c5:∀k,k≠b->w'.heap[k]?=w.heap[k]?)(g:oC cV.F w w'):hy cV cO dJ w' M (cL.set i (b,kh)):=by
 have⟨d,c,e⟩:=A.gt i m
 have q:(cL.set i (b,kh)).map (·.1)=cL.map (·.1):=by
  rw[sv];apply EP ;intro j;rw[lF];split
  .subst_vars;split
   .simp_all
   .simp_all
  .rfl
 have P:=A.P;rw[<-q]at P;refine⟨⟨A.K.own g λk _ q=>?_,A.js,λp O=>?_⟩,P⟩
 .have x:=lv λx=>q (c5 k x);subst x;exact⟨d,e⟩
 .have⟨j,dL,z⟩:=kg.1 O
  by_cases y:j=i
  .subst y;simp at z;subst z;exact⟨d,Q,e⟩
  .have l:j<cL.length:=by simpa using dL
   have z:cL[j]=p:=by simpa[zX,Ne.symm y]using z
   have f:=A.H p (z▸hS l);refine⟨f.1,(c5 _ λx=>y ?_).trans f.2.1,f.2.2⟩
   have dj:=awe (λh=>Nat.ne_of_gt h) A.P
   have:=(fM.1 m).1
   exact (List.getElem_inj (h₀:=by simpa) (h₁:=by simpa) dj).1 (by simp_all[fM])
theorem hy.m7(A:hy cV cO dJ w M cL)(z:V)(b:w.heap.size=n)(o)(v:V->dp)(k:∀w',hy cV cO dJ w' M ((n,o)::cL)->w'.heap.size=n+1->dF cV.main cV.F dv (e6 z (f3 g (v n))) w')(h:l3 g:=by exact sf)
 (r:∀w,(execOp (eA g).eval (e5 g)).run cR w=.ok (.value (v w.heap.size)) (w.alloc o):=by intro w;kernel_rfl)(e:∀w,(execOp (eA g).eval (e5 g)).events cR w #[]=#[]:=by intro w;kernel_rfl)(p:∀n,jN cR cV.main (f3 g (v n)) (e6 z (f3 g (v n))):=by intro n;exact oL):dF cV.main cV.F dv g w:=
 dF.m7 z o v (λk a=>A.js k (fJ A.K.fc.size a)) (λ_ q=>have b:=q.size.trans b;by rw[b];exact k _ ((A.rel q).sm b o) (by simp[b])) r e h p
theorem hy.nt(A:hy cV cO dJ w M cL)(z i off:V)(k:∀w',hy cV cO dJ w' M cL->dF cV.main cV.F dv (e6 z (f3 g v)) w')(m:cL[i]?=U (b,.cells a T (0,0)):=by rfl)(d:a[off]?=U v:=by rfl)
 (o:(e5 g).op=.load (oK g) (pg g):=by kernel_rfl)(j:(eA g).eval (pg g)=.pointer (U ⟨b,off,cM⟩):=by kernel_rfl)(t:∀w,(isAgg (oK g)).run cR w=.ok L w:=by intro w;kernel_rfl)(h:l3 g:=by exact sf)(p:jN cR cV.main (f3 g v) (e6 z (f3 g v)):=by exact oL):dF cV.main cV.F dv g w:=
 dF.eD z off (A.ne i m) (λ_ r=>m5 ((A.rel r).gt i m).2.1 d) (λ_ r=>k _ (A.rel r)) o j t h p
theorem hy.st(A:hy cV cO dJ w M cL)(z i off:V)(v)(k:∀w',hy cV cO dJ w' M (cL.set i (b,.cells (a.setIfInBounds off v) T (0,0)))->dF cV.main cV.F dv (e6 z (f3 g undef)) w')(m:cL[i]?=U (b,.cells a T (0,0)):=by rfl)(d:a[off]?=U u:=by rfl)
 (o:(e5 g).op=.store (oK g) (pg g) (xv g):=by kernel_rfl)(j:(eA g).eval (pg g)=.pointer (U ⟨b,off,cM⟩):=by kernel_rfl)(y:(eA g).eval (xv g)=v:=by kernel_rfl)(t:∀w,(sizeOf (oK g)).run cR w=.ok 1 w:=by intro w;kernel_rfl)
 (Q:v.oneCell'=N:=by rfl)(c5:v.cells=#[v]:=by rfl)(h:l3 g:=by exact sf)(p:jN cR cV.main (f3 g undef) (e6 z (f3 g undef)):=by exact oL):dF cV.main cV.F dv g w:=
 dF.s1 z off v (A.ne i m) (λ_ r=>((A.rel r).gt i m).2.1) (λ_ r=>have A:=A.rel r;k _ (A.up m _ (uX (A.gt i m).2.1 v) (λ_ h=>tw h v) (Fp (A.ne i m) v))) d Q c5 o j y t h p
theorem hy.call(A:hy cV cO dJ w M cL){f dx d vs}(H:dX cR f dx d)(c3:ly M dx vs)(k:∀a w' v,hy cV cO dJ w' a cL->e1 a d v->dF cV.main cV.F dv (put g v) w')
 (o:(e5 g).op=.call {callee:=.value (.func f),args:=uH g,argTypes:=Ex g}:=by kernel_rfl)(y:(uH g).map (eA g).eval=vs:=by kernel_rfl)(h:it g:=by exact kA):dF cV.main cV.F dv g w:=
 dO.H1 h o y (A.zN H c3) λv w' ⟨a,B,_,q⟩=>k a w' v ⟨B,A.P⟩ q
theorem hy.Y2(A:hy cV cO dJ w M cL)(d i off:V){x y}(z:x.oneCell'=N/\x.cells=#[x])(fY:y.oneCell'=N/\y.cells=#[y])(k:∀w',hy cV cO dJ w' M (cL.set i (b,.cells ((a.setIfInBounds off x).setIfInBounds (off+1) y) T (0,0)))->dF cV.main cV.F dv (e6 d (f3 g undef)) w')(m:cL[i]?=U (b,.cells a T (0,0)):=by rfl)(l:off+1<a.size:=by decide)
 (o:(e5 g).op=.store (oK g) (pg g) (xv g):=by kernel_rfl)(j:(eA g).eval (pg g)=.pointer (U ⟨b,off,cM⟩):=by kernel_rfl)(q:(eA g).eval (xv g)=.agg #[x,y]:=by kernel_rfl)(t:∀w,(sizeOf (oK g)).run cR w=.ok 2 w:=by intro w;kernel_rfl)(h:l3 g:=by exact sf)(p:jN cR cV.main (f3 g undef) (e6 d (f3 g undef)):=by exact oL):dF cV.main cV.F dv g w:=
 dO.Un h λw1 r=>have A:=A.rel r;have c:=(A.gt i m).2.1;have n:=A.ne i m;have⟨s,f⟩:=am3 o j q (t w1) z.1 fY.1 z.2 fY.2 c l;have dG:=Fp (w:=w1) (o:=off) n x;have u:=Fp (w:=w1.setCell ⟨b,off,cM⟩ x) (o:=off+1) n y
  have G:oC cV.F w1 ((w1.setCell ⟨b,off,cM⟩ x).setCell ⟨b,off+1,cM⟩ y):=⟨Z,Z,Z,fJ dG.size u.size,λc h=>(u.block c h).trans (dG.block c h)⟩
  ⟨_,s,⟨G,λe h=>by rcases f e (mem_listed h) with rfl|rfl<;>exact⟨Z,n⟩⟩,dO.pure ti.trans oJ p (k _ (A.up m _ (uX (uX c x) y) (λ_ h=>(tw h y).trans (tw h x)) G))⟩
theorem hy.sp(A:hy cV cO dJ w M cL)(i:V)(kh){g' cs}(h:∀w,w.heap[b]?=U o->∃es,stepG cR cV.main (G g.frame cs) w=.go g' (ny w b kh) es/\u2 b es)(k:∀w',hy cV cO dJ w' M (cL.set i (b,kh))->dF cV.main cV.F dv g' w')(m:cL[i]?=U (b,o):=by rfl)(e:g=G g.frame cs:=by kernel_rfl):dF cV.main cV.F dv g w:=by
 rw[e];exact dO.ng Z λw1 r=>have A:=A.rel r;have c:=A.gt i m;have⟨es,x,q⟩:=h w1 c.2.1;⟨_,_,es,x,⟨Y1 (A.ne i m) kh,λe m=>have⟨Q,a⟩:=q e m;by unfold i2;rw[Q];exact⟨a,A.js _ c.1⟩⟩,k _ (A.up m kh (by have:=(kv.1 c.2.1).1;simp[ny,this]) (λ_ h=>Y0 h kh) (Y1 (A.ne i m) kh))⟩
theorem dF.eo{main F off}(n:¬F b)(c:∀c0,eX F w c0->c0.cell? ⟨b,off,cM⟩=U u/\c0.cell? ⟨b,off+1,cM⟩=U v)(k:∀c0,eX F w c0->dF main F dv (f3 g (.agg #[u,v])) c0)(o:(e5 g).op=.load (oK g) (pg g):=by kernel_rfl)(j:(eA g).eval (pg g)=.pointer (U ⟨b,off,cM⟩):=by kernel_rfl)
 (s:∀w,(isAgg (oK g)).run cR w=.ok N w:=by intro w;kernel_rfl)(t:∀w,(sizeOf (oK g)).run cR w=.ok 2 w:=by intro w;kernel_rfl)(h:l3 g:=by exact sf):dF main F dv g w:=
 dO.zf h λc0 r=>have⟨p,q⟩:=c c0 r;have⟨x,y⟩:=am5 o j (s c0) (t c0) p q;⟨_,c0,x,am8 n λe q=>y e (mem_listed q),k c0 r⟩
theorem dF.Y3{main F off n c i}(a cQ:V)(l:i<n)(e:(eA g).eval (pg g)=.slice (U ⟨b,off,cM⟩) n c)(k:∀c0,eX F w c0->dF main F dv (f3 g (.pointer (U ⟨b,off+i*cQ,cM⟩))) c0)(f:(eA g).eval (xv g)=.int .i64 i:=by kernel_rfl)(u:cR.underlying (oK g)=U (.slice a):=by kernel_rfl)
 (j:∀w,(sizeOf a).run cR w=.ok cQ w:=by intro w;kernel_rfl)(d:(e5 g).op=.indexAddr (oK g) (pg g) (xv g):=by kernel_rfl)(h:l3 g:=by exact sf):dF main F dv g w:=
 dO.zf h λc0 r=>have⟨x,y⟩:=am6 u (j c0) d e f l;⟨_,c0,x,Xe (Ow y),k c0 r⟩
end
end
section
open Go.Conc Go.Lib
set_option maxRecDepth 100000
structure sw where
 wD:dB gP
 Cu:V
 Y4:V
 a:dB gP
 len:V
 cap:V
 n:I
 cs:J gS
 B:V
def sw.S(p:sw):dp:=.slice p.wD p.Cu p.Y4
def sw.C(p:sw):dp:=.slice p.a p.len p.cap
def Cv(g:dN):ea Tmp×Code×Code:=match g.frame.todo with
 | .code (.rangeFunc _ p a b)::_=>(p,a,b)
 |_=>(#[],.skip,.skip)
section
variable (p:sw) (f:V->dp) (da ana:V) (i:I) (eb:gP) (x:I) (y:dS)
noncomputable def Pq:dN:=G ((base 171).at {tmps:=#[.agg #[p.S,p.C],.int .i64 p.n]++kx (z3.ntmps-2) undef,defers:=[]} [.code (z3.body.getD .skip)]) p.cs
noncomputable def Y5:=f3 (e6 4 (f3 (f3 (f3 (f3 (e6 2 (Pq p)) (eV p.B)) (eV (p.B+1))) (eV (p.B+2))) (eV (p.B+3)))) (.agg #[p.S,p.C])
noncomputable def anb(B:V):ea dp:=((iB 38).map λi=>if d2 i 2 then eV B else if d2 i 3 then eV (B+1) else if d2 i 4 then eV (B+2) else if d2 i 5 then eV (B+3) else f i).toArray
noncomputable def FO:dN:=let g:=e6 15 (f3 (Y5 p) (.bool L));{g with frame:={g.frame with tmps:=anb f p.B}}
noncomputable def Y6:=e6 2 (f3 (f3 (e6 1 (FO p f)) undef) undef)
noncomputable def rx:=e6 11 (f3 (e6 3 (f3 (e6 6 (th (e6 4 (f3 (e6 1 (f3 (e6 2 (th (e6 1 (f3 (e6 2 (f3 (Y5 p) (.bool N))) p.n)) 13 (.bool L))) p.n)) p.S)) 21 (.bool L))) p.C)) (eV da))
noncomputable def FP:gS:=let g:=rx p da;{g.frame with todo:=.inRangeFunc (da+2)::g.frame.todo.tail,defers:=[{target:=.collected (da+1),args:=#[]}]}
noncomputable def Y7:dN:=G ((base 289).at {tmps:=#[.func (.yield (da+2)) #[] #[],eV da]++kx (Pr.ntmps-2) undef,defers:=[]} [.code (Pr.body.getD .skip)]) (FP p da::p.cs)
noncomputable def sa:ea dp:=((iB 19).map λj=>if d2 j 0 then .func (.yield (da+2)) #[] #[] else if d2 j 1 then eV da else if d2 j 3 then .int .i64 i else f j).toArray
noncomputable def JQ:dN:=let g:=e6 8 (f3 (e6 2 (Y7 p da)) p.C);{g with frame:={g.frame with tmps:=sa f da i}}
noncomputable def tD:=f3 (f3 (e6 1 (f3 (e6 8 (th (e6 4 (JQ p f da i)) 8 (.bool N))) p.C)) (.pointer (U eb))) (.agg #[x,.string y])
noncomputable def x_:Loop:={state:=.ready,pending:=cM,fn:=(rx p da).frame.fn,tmps:=(rx p da).frame.tmps,params:=(Cv (rx p da)).1,assign:=(Cv (rx p da)).2.1,body:=(Cv (rx p da)).2.2,defers:=da+1}
noncomputable def anc:ea dp:=((x_ p da).tmps.setIfInBounds 25 i).setIfInBounds 26 (.agg #[x,.string y])
noncomputable def ane:dN:=let g:=tD p f da i eb x y
 G (alo (da+2) (x_ p da).fn (anc p da i x y) (x_ p da).assign (x_ p da).body .normal) (g.frame.at (eA g) (.inRegion (i6 g) (k8 g::k9 g)::g.frame.todo.tail)::g.callers)
noncomputable def JR(oM:J Item):dN:=let q:=FP p da;G {q with todo:=oM++q.todo.tail} p.cs
end
end
section
open Go.Conc
open Go.ConcN (sumTo upd RelBy WgLive AsideCell RW)
open Go.ConcR (KK wgBlock WgAt stA smA rd wr mk DC0 Payload)
set_option maxRecDepth 100000
noncomputable def O8(Wg lJ lK la:V):dN:=born cR {target:=.fn (.func 18) #[.pointer (U ⟨Wg,0,cM⟩),.pointer (U ⟨lJ,0,cM⟩),.pointer (U ⟨lK,0,cM⟩),.pointer (U ⟨la,0,cM⟩)],args:=#[]}
instance awb:Payload:=⟨9⟩
def Ye(lJ lK la:V)(b:V):Prop:=b=lJ\/b=lK\/b=la
structure u3 where
 Wg:V
 lJ:V
 lK:V
 la:V
 d_:V
 en:V
 gh:dS
def u3.F(q:u3):=Ye q.lJ q.lK q.la
abbrev tA(c4:V->Prop)(q:u3)(dv:dN->c'->Prop)(g:dN)(w:c'):=dO cR L (oD q.F) (s9 c4 q.Wg q.F) dv g w
section
variable {c4:V->Prop} {q:u3} {dv:dN->c'->Prop} {s:dS} {g:dN} {w:c'}
theorem Jy:∀w,(s9 c4 q.Wg q.F) w w #[]:=λw=>⟨⟨w.drawn,Z⟩,dt⟩
theorem alz:Terms (oD q.F) (s9 c4 q.Wg q.F):=⟨pb.trans,Jy⟩
theorem alA:LetsDraw (s9 c4 q.Wg q.F):=λw=>⟨⟨_,Z⟩,dt⟩
theorem ru(n:V)(k:tA c4 q dv (e6 n g) w)(h:jN cR L g (e6 n g):=by exact oL):tA c4 q dv g w:=dO.pure pb.trans Jy h k
theorem alB{b}(c:q.F b)(w es)(h:∀e∈es,e=⟨.cell ⟨b,0,cM⟩,L,L⟩):(s9 c4 q.Wg q.F) w w es:=
 ⟨⟨w.drawn,rfl⟩,λe d=>by
  obtain rfl:=h e d;refine⟨λx a=>?_,dt,dt,dt⟩;simp[mq,k6]at a;subst a
  exact .inr (.inl ⟨⟨_,Z,c⟩,Z,Z⟩)⟩
structure wv(q:u3)(w:c'):Prop where
 l:w.cell? ⟨q.lJ,0,cM⟩=U (.chan (U q.d_))
 s:w.cell? ⟨q.lK,0,cM⟩=U (.string q.gh)
 p:w.cell? ⟨q.la,0,cM⟩=U (.chan (U q.en))
theorem Jz{w w':c'}{b}(h:w'.heap[b]?=w.heap[b]?)(o):w'.cell? ⟨b,o,cM⟩=w.cell? ⟨b,o,cM⟩:=by unfold j3;grind
theorem wv.ww{w w'}(h:wv q w)(r:oD q.F w w'):wv q w':=
 ⟨(Jz (r _ (.inl Z)) 0).trans h.l,(Jz (r _ (.inr (.inl Z))) 0).trans h.s,(Jz (r _ (.inr (.inr Z))) 0).trans h.p⟩
theorem alC(w):(isAgg 53).run cR w=.ok L w:=c2
theorem JA{b v}(hw:wv q w)(c:q.F b)(e:∀w,wv q w->w.cell? ⟨b,0,cM⟩=U v)(k:∀w,wv q w->tA c4 q dv (put g v) w)(o:(e5 g).op=.load (oK g) (pg g):=by kernel_rfl)(j:(eA g).eval (pg g)=.pointer (U ⟨b,0,cM⟩):=by kernel_rfl)(t:∀w,(isAgg (oK g)).run cR w=.ok L w:=by intro w;kernel_rfl)(h:it g:=by exact kA):tA c4 q dv g w:=
 dO.load h o j t (λ_ a=>e _ (hw.ww a)) (λ_ _ _ e=>alB c _ _ e) λ_ a=>k _ (hw.ww a)
end
section
variable (q:u3) (s:dS) (f:V->dp) (p r:dS) (b:dh)
noncomputable def u4:=put (put (put (e6 3 (put (e6 7 (O8 q.Wg q.lJ q.lK q.la)) (.chan (U q.d_)))) (.string q.gh)) (.chan (U q.d_))) (.chan (U q.en))
noncomputable def cP:dN:=
 let g:=e6 3 (u4 q)
 {g with frame:={g.frame with tmps:=(.string s::.chan (U q.d_)::.chan (U q.en)::(iB 22).map λi=>f (i+3)).toArray}}
noncomputable def O9:=th (e6 6 (cP q s f)) 10 (.bool N)
noncomputable def rv(i:I):=put (e6 29 (O9 q s f)) i
noncomputable def x1:=put (e6 17 (O9 q s f)) (.tuple #[.string p,.string r,.bool b])
noncomputable def eW(n:V):=e6 9 (rv q s f n)
noncomputable def s1:=xi (ds (e6 32 (x1 q s f p r b))) (A7 (.agg #[]))
end
section
variable {q:u3} {s:dS} {f:V->dp} {n:V}
theorem Cj:cR.underlying 9=U .string:=c2
theorem Yf{a:e7}{o x y}{n:V}(b:o.op=.slice 9 x cM (U y) cM)(d:a.eval x=.string s)(e:a.eval y=.int .i64 n)(cY:n<=s.size)(w):
  (execOp a.eval o).run cR w=.ok (.value (.string (s.extract 0 n))) w/\ (execOp a.eval o).events cR w #[]=#[]:=by
 have c:=run_slice_string_h (P:=cR) w 9 s Cj .i64 (n:I) R R;constructor
 .simp[execOp,b,d,jp,uN,e,g2,O_ (h:=Cj),c,g7,hM,gl]
 .simp[execOp,b,d,jp,uN,e,jn,HW _ _ _ _ _ _ _,O_ (h:=Cj),c,kE,pk]
theorem alD{a:e7}{o x y l}{n:V}(b:o.op=.slice 9 x (U y) cM cM)(d:a.eval x=.string s)(e:a.eval y=.int .i64 l)(f:l=n)(cY:n<=s.size)(w):
  (execOp a.eval o).run cR w=.ok (.value (.string (s.extract n s.size))) w/\ (execOp a.eval o).events cR w #[]=#[]:=by
 subst f;have c:=run_slice_string_l (P:=cR) w 9 s Cj .i64 (n:I) R R;constructor
 .simp[execOp,b,d,jp,uN,e,g2,O_ (h:=Cj),c,g7,hM,gl]
 .simp[execOp,b,d,jp,uN,e,jn,HW _ _ _ _ _ _ _,O_ (h:=Cj),c,kE,pk]
theorem cut(cY:n+1<=s.size)(a:s.size<=9223372036854775807):∃A,uG cR (jO (eW q s f n)) 12 (kx 12 L) (eA (eW q s f n)) A/\jN cR L (G ((eW q s f n).frame.at A (eW q s f n).frame.todo.tail) (eW q s f n).callers) (e6 2 (G ((eW q s f n).frame.at A (eW q s f n).frame.todo.tail) (eW q s f n).callers)) /\e6 2 (G ((eW q s f n).frame.at A (eW q s f n).frame.todo.tail) (eW q s f n).callers)=x1 q s f (s.extract 0 n) (s.extract (n+1) s.size) N:=by
 exact⟨_,se 0 (.string s) (se 1 (.int .i64 n) (se 2 (.string (s.extract 0 n)) (cU:=λw=>Yf (x:=.tmp 13) (y:=.tmp 14) c2 c2 c2 R w) (se 3 (.string s) (se 4 (.int .i64 n) (se 5 (.string ⟨#[10]⟩) (se 6 (.int .i64 1) (se 7 (.int .i64 (kU .i64 (n+1))) (se 8 (.string (s.extract (n+1) s.size)) (cU:=λw=>alD (x:=.tmp 16) (y:=.tmp 20) (l:=kU .i64 (n+1)) c2 c2 c2 (by rw[rp];omega) cY w) (se 9 (.string (s.extract 0 n)) (se 10 (.string (s.extract (n+1) s.size)) (se 11 (.bool N) (.done 0 _ _ c2)))))))))))),oL,c2⟩
end
end
section
open Go.Conc Go.Lib
set_option maxRecDepth 100000
section
variable {F:V->Prop}
theorem amu(n:V)(cY:n<=281474976710656)(w):∀e∈(callFunc 121 #[n]).events cR w #[],i2 F e:=by
 rw[Ja amv c2 c2 c2 (e:=YF #[3] #[26]) c2]
 have d:YF #[3] #[26] #[n]=
   (do
    let .slice l <-underlying 26|stuck _
    if(n:I)<0||(n:I)>2^48 then runtimePanic (.error _)
    let cap <-choose (.appendCap (n:I).toNat 0 l)
    askRoom cap
    let bytes <-choose (.extern _ 0)
    let a <-newRow l (awd cap bytes #[])
    pure (.slice (U a) (n:I).toNat cap)):=rfl
 rw[d];have Q:¬(n:I)<0:=R;have f:¬(281474976710656:I)<(n:I):=R;intro e g;simp[fv (show cR.underlying 26=U (.slice 5) by kernel_rfl),Q,f,newRow]at g
 have k:∀b w',e∈(askRoom b).events cR w' #[⟨.mark (.extern 121),L,N⟩]->i2 F e:=λb w' h=>by
  rcases BP b w' _ e h with h|⟨m,rfl,c⟩
  .simp at h;subst h;trivial
  .unfold Conc.Neutral at c;subst c;trivial
 grind
end
end
section
open Go.Conc Go.Lib
set_option maxRecDepth 100000
section
variable {main:dh} {F:V->Prop} {c:V} {B:V} {w:c'} {p:dp}
theorem amw{n:V}(cY:n<=281474976710656)(w):∃r,n<=r.size/\ (n<=maxLen->r.size<=maxLen) /\ ∀ {a:e7} {o x} {i:I} {ats},o.op=.call {callee:=.value (.func 121),args:=#[x],argTypes:=ats}->a.eval x=.int .i64 i->i=n->
  (execOp a.eval o).run cR w=.ok (.value (.slice (U ⟨w.heap.size,0,cM⟩) n r.size)) (w.drew.drew.alloc (.cells r 5)) /\ ∀e∈(execOp a.eval o).events cR w #[],i2 F e:=by
 have⟨cs,Q,f,eS⟩:=Lib.run_makeNoZero (P:=cR) w #[3] 26 5 c2 n cY;refine⟨cs,f,eS,λ {a o x i ats} b c cK=>?_⟩;subst cK
 have e:execOp a.eval o=callFunc 121 #[n]:=by have h:a.eval (.func 121)=.func (.func 121) #[] #[]:=Z;simp[execOp,b,ii,c,h,sd,ij]
 rw[e];exact⟨by rw[I' amv c2 c2 c2 (e:=YF #[3] #[26]) c2,Q];rfl,amu n cY w⟩
theorem amx{a:e7}{o x y k c cap}(b:o.op=.slice 26 x cM (U y) cM)(d:a.eval x=.slice (U ⟨k,0,cM⟩) c cap)(e:a.eval y=.int .i64 0)(w):
  (execOp a.eval o).run cR w=.ok (.value (.slice (U ⟨k,0,cM⟩) 0 cap)) w/\ (execOp a.eval o).events cR w #[]=#[]:=by
 have u:cR.underlying 26=U (.slice 5):=c2;have f:(sizeOf 5).run cR w=.ok 1 w:=c2;have z:(sizeOf 5).events cR w #[]=#[]:=c2;have cW:(0:I) <=0/\ (0:I) <= (cap:I):=⟨kZ 0,R⟩
 have i:(if cap=0 then(U ⟨k,0,cM⟩:dB gP) else(U ⟨k,0,cM⟩:dB gP).map (·.add (0*1)))=U ⟨k,0,cM⟩:=by split<;>rfl
 have r:(m1 26 (.slice (U ⟨k,0,cM⟩) c cap) cM (U (.int .i64 0)) cM).run cR w=.ok (.slice (U ⟨k,0,cM⟩) 0 cap) w:=by simp[m1,xu,pT,Bs,asIntOf,fv u,f,oN]
 have g:(m1 26 (.slice (U ⟨k,0,cM⟩) c cap) cM (U (.int .i64 0)) cM).events cR w #[]=#[]:=by simp[m1,xu,pT,Bs,asIntOf,fv u,f,z]
 constructor
 .simp[execOp,b,d,e,Um,g2,r,g7,hM]
 .simp[execOp,b,d,e,Um,jn,r,g,kE,pk]
theorem amy(d8:cR.follows .mixedOrders=N)(a:¬F B)(b:∀k,w.heap.size<=k->¬F k)(W:c<=1000)(h:w.heap[B]?=U (.cells #[p,.slice cM 0 0] 52 (0,0))):
  gT cR main F 89 #[eV B,c] w λq w'=>q=.tuple #[] /\ ∃k,w.heap.size<=k/\h_ L B p (U k) [] w'/\h5 F (λj=>j=B) w w':=by
 let S:c'->Prop:=λx=>x.heap[B]?=U (.cells #[p,.slice cM 0 0] 52 (0,0)) /\h5 F (λ_=>False) w x
 have cX:∀x y,S x->eX F x y->S y:=λx y h r=>⟨(r.block _ a).trans h.1,h.2.trans (.so r)⟩
 refine qC Tryz.func89 λcs dv dg=>dF.p 1 (dF.d 16 S d8 λw1 hw=>?_);have f:=And.intro cX (cX _ _ ⟨h,.refl w⟩ hw);have e:=λw (hw:S w)=>m5 (o:=1) hw.1 Z
 refine gO.t 0 (eV B) f ?_;refine gO.t 1 (eV B) f ?_;refine gO.t 2 (.pointer (U ⟨B,1,cM⟩)) f ?_;refine gO.nt 3 _ f e a ?_;refine gO.t 4 (.int .i64 0) f ?_;refine gO.t 5 (.int .i64 0) f ?_;refine gO.t 6 c f ?_;refine gO.t 7 c f ?_ (eR (Value.int .i64) (show kU .i64 ((0:I)+c)=c from Sp))
 refine gO.t 9 (eV B) f ?_;refine gO.t 10 (eV B) f ?_;refine gO.t 11 (.pointer (U ⟨B,1,cM⟩)) f ?_;refine gO.nt 12 _ f e a ?_;refine gO.t 13 (.int .i64 0) f ?_
 refine gO.o 8 λg da=>?_;have t:=cX _ _ f.2 da;have dr:=t.2.size;have⟨k,C⟩:∃k,g.heap.size=k:=⟨_,Z⟩
 have⟨d,M,O,z⟩:=amw (F:=F) (n:=c) R g;replace O:=O (by unfold maxLen;omega);have dj:∀k,g.heap.size<=k->¬F k:=λfr h=>b fr R;have s:∀j,j<g.heap.size->(g.drew.drew.alloc (.cells d 5)).heap[j]?=g.heap[j]?:=λj u=>xX g.drew.drew (.cells d 5) u;have A:=(kv.1 t.1).1;have H:oC F g (g.drew.drew.alloc (.cells d 5)):=⟨Z,Z,Z,(B_ (F:=F) (w:=g.drew.drew) dj _).size,λj u=>s j (Nat.lt_of_not_le λe=>dj j e u)⟩
 have m:S (g.drew.drew.alloc (.cells d 5)):=⟨(s B A).trans t.1,t.2.trans ⟨Z,Z,Z,H.size,λj u _ _=>s j u⟩⟩
 have E:(g.drew.drew.alloc (.cells d 5)).heap[k]?=U (.cells d 5 (0,0)):=C▸Fr g.drew.drew _;refine⟨_,_,z (x:=.tmp 12) (ats:=#[3]) c2 c2 Z,H,m,?_⟩;clear z;rw[C];generalize g.drew.drew.alloc (.cells d 5)=x at m E⊢;have⟨cap,q⟩:∃cap,d.size=cap:=⟨_,Z⟩;rw[q]at M O⊢;rw[C]at dr
 refine gO.t 14 (.slice (U ⟨k,0,cM⟩) 0 cap) ⟨cX,m⟩ ?_ (cU:=λw _=>And.imp id Fs (amx (x:=.tmp 13) (y:=.tmp 18) (k:=k) (c:=c) (cap:=cap) c2 c2 c2 w))
 refine gO.t 15 (.slice (U ⟨k,0,cM⟩) 0 cap) ⟨cX,m⟩ (M7 c2 ⟨Z,λy r=>dF.p 6 ?_⟩ 0);have c6:=b k dr;have dw:=(kv.1 h).1
 refine dF.eD 7 1 a (λ_ q=>m5 (cX _ _ m (r.trans q)).1 Z) λc0 h₁=>?_;have r:=r.trans h₁;refine dF.s1 2 1 (.slice (U ⟨k,0,cM⟩) 0 cap) a (λ_ q=>(cX _ _ m (r.trans q)).1) λD i=>?_;have r:=r.trans i;have l:=(r.block _ c6).trans E;have v:k≠B:=R;refine dg.z ⟨Z,k,dr,⟨_,uX (cX _ _ m r).1 _,?_,Z⟩,?_⟩
 .exact⟨Z,.inr ⟨k,cap,d,Z,e3 _,(tw v _).trans l,e3 _,O,by simp[q],by simp[byteCells]⟩⟩
 .exact((m.2.mono λk _ h=>h.elim).trans (.so r)).trans (.Jb _)
end
end
section
open Go.Conc Go.Lib
set_option maxRecDepth 100000
section
variable {main:dh} {F:V->Prop} {c:V} {B:V} {w:c'} {p:dp}
theorem amz(t:cR.follows .mixedOrders=N)(d:¬F B)(g:∀k,w.heap.size<=k->¬F k)(Q:1<=c)(v:c<=1000)(O:p=.pointer cM\/p=eV B)(h:w.heap[B]?=U (.cells #[p,.slice cM 0 0] 52 (0,0))):
  gT cR main F 56 #[eV B,c] w λq w'=>q=.tuple #[] /\ ∃k,w.heap.size<=k/\h_ L B (eV B) (U k) [] w'/\h5 F (λj=>j=B) w w':=by
 let S:c'->Prop:=λx=>x.heap[B]?=U (.cells #[eV B,.slice cM 0 0] 52 (0,0)) /\h5 F (λj=>j=B) w x
 have cX:∀x y,S x->eX F x y->S y:=λx y e u=>⟨(u.block _ d).trans e.1,e.2.trans (.so u)⟩
 refine qC Tryz.func56 λcs dv s=>dF.p 3 (dF.k (Oy O d h) λq w1 r=>?_);obtain⟨rfl,i,m⟩:=r;refine dF.p 7 (dF.c 7 ((c:I)<0) (λh=>by omega) λ_=>dF.p 3 (dF.d 13 S t λc0 b=>?_));have f:=And.intro cX (cX _ _ ⟨i,m⟩ b);have e:=λw (hw:S w)=>m5 (o:=1) hw.1 Z
 refine gO.t 0 (eV B) f ?_;refine gO.t 1 (eV B) f ?_;refine gO.t 2 (.pointer (U ⟨B,1,cM⟩)) f ?_;refine gO.nt 3 _ f e d ?_;refine gO.t 4 (.int .i64 0) f ?_;refine gO.t 5 (eV B) f ?_;refine gO.t 6 (eV B) f ?_;refine gO.t 7 (.pointer (U ⟨B,1,cM⟩)) f ?_;refine gO.nt 8 _ f e d ?_;refine gO.t 9 (.int .i64 0) f ?_;refine gO.t 10 (.int .i64 0) f ?_;refine gO.t 11 c f ?_
 refine gO.t 12 (.bool N) f (M7 c2 ⟨Z,λx r=>dF.p 4 ?_⟩ 0) (eR Value.bool (decide_eq_true (show (0:I)<c by omega)));have⟨l,a⟩:=cX _ _ f.2 r;refine dF.k (amy t d (λk o=>g k (fJ a.size o)) v l) λq C r=>?_;obtain⟨rfl,k,k1,eF,n⟩:=r;exact dF.p 2 (s.z ⟨Z,k,fJ a.size k1,eF,a.trans n⟩)
end
end
section
open Go.Conc Go.Conc.Lib
open Go.ConcN (sumTo upd RelBy WgLive AsideCell RW)
open Go.ConcR (KK wgBlock WgAt stA smA rd wr mk DC0 Payload)
open Go.ConcR.Gen
set_option maxRecDepth 100000
section
variable {P:el} {main:dh} {cN:gS} {cs:J gS} {ats:ea eH} {dm:eH} {Ck:ea dh} {d_ s r:V} {w:c'}
theorem Yg(l:w.heap[d_]?=U (.chan 0 #[] L s r L)):∃es,callDeferred P cN cs cM {target:=.builtin .close ats dm Ck,args:=#[.chan (U d_)]} w=.go {frame:=cN,callers:=cs,status:=.running,dying:=cM} (w.setChan d_ 0 #[] N s r L) es/\
  ∀e∈es,e=⟨.obj d_,L,N⟩ \/e=⟨.obj d_,N,N⟩:=by
 have a:=run_close_open (P:=P) ats dm l;have b:=events_close_open (P:=P) (es:=#[]) ats dm l;have cK:ij (.builtin .close ats dm Ck) #[.chan (U d_)]=(do pure (.value (<-Builtin.close_ ats dm #[.chan (U d_)]))):=rfl
 have cX:(ij (.builtin .close ats dm Ck) #[.chan (U d_)]).run P w=.ok (.value (.tuple #[])) (w.setChan d_ 0 #[] N s r L):=by rw[cK];simp[g2,a,g7,hM];rfl
 have E:(ij (.builtin .close ats dm Ck) #[.chan (U d_)]).events P w #[]=#[⟨.obj d_,L,N⟩,⟨.obj d_,N,N⟩]:=by rw[cK];simp[a,b]
 refine⟨seen P cN.fn #[⟨.obj d_,L,N⟩,⟨.obj d_,N,N⟩],?_,λe h=>?_⟩
 .unfold callDeferred;simp[cX,E,s8]
 .have:=mem_seen h;simp_all
end
section
variable (q:u3) (s:dS) (f:V->dp)
noncomputable def u5:=e6 6 (th (e6 6 (cP q s f)) 10 (.bool L))
noncomputable def O':gS:={(u5 q s f).frame with defers:=(u5 q s f).frame.defers.tail}
noncomputable def Yh:gS:={(u5 q s f).frame with defers:=[]}
noncomputable def g6:dN:={frame:=O' q s f,callers:=(u5 q s f).callers,status:=.running,dying:=cM}
noncomputable def Yi:dN:=G (Yh q s f) (u5 q s f).callers
theorem alE(w):stepG cR L (u5 q s f) w=callDeferred cR (O' q s f) (u5 q s f).callers cM {target:=.builtin .close #[53] 0 #[L],args:=#[.chan (U q.d_)]} w:=c2
theorem alF:∃m,QuitsD cR m 0 (Yi q s f):=by exact QuitsD.pure (n:=0) (g':=e6 2 (Yi q s f)) (qB 2) ⟨c2,Z⟩
end
section
variable {P:el} {main:dh} {cX:c'->c'->Prop} {c3:c'->c'->ea Event->Prop} {dv:dN->c'->Prop}
theorem Yj(a:∀w,cX w w)(S:∀g w,dv g w->∃g' x,stepG P main g w=.go g' w #[x]){m g dG w}(h:Goes P main cX c3 dv m g w)(e:stepG P main g w=.go dG w #[]):∃b,Goes P main cX c3 dv b dG w:=by
 have n:¬dv g w:=λh=>by
  grind
 cases m with
 |zero=>exact dQ (h w (a w)) n
 |succ m=>
  rcases h with h|⟨_,h⟩
  .simp_all
  .have:=h w (a w);rw[e]at this;exact⟨m,this.2⟩
theorem Yk(a:∀w,cX w w){m g dG w es}(h:Goes P main cX c3 dv m g w)(e:stepG P main g w=.go dG w es):dv g w\/ (c3 w w es/\ ∃b,Goes P main cX c3 dv b dG w):=by
 cases m with
 |zero=>exact .inl (h w (a w))
 |succ m=>
  rcases h with h|⟨_,h⟩
  .simp_all
  .have:=h w (a w);rw[e]at this;exact .inr ⟨this.1,m,this.2⟩
theorem Yl(c:∀w,cX w w)(S:∀g w,dv g w->∃g' x,stepG P main g w=.go g' w #[x]){m g dG w}(h:Goes P main cX c3 dv m g w)(e:jN P main g dG):∃a,Goes P main cX c3 dv a dG w:=by
 induction e generalizing m with
 |nil g=>grind|cons g g' s c_ k i=>have⟨a,b⟩:=Yj c S h (c_ w);exact i b
end
section
variable {c4 F:V->Prop} {Wg:V} (c:gS) (cs:J gS)
noncomputable def Pa(Wg:V)(c:gS)(cs:J gS):dN:=G ((baseD eY.done).at ⟨#[.pointer (U ⟨Wg,0,cM⟩),undef,undef,undef],[]⟩ [.code (ConcR.Gen.body_done eY)]) (c::cs)
noncomputable def fA(Wg:V)(c:gS)(cs:J gS):dN:=zd cR L 14 (Pa Wg c cs)
noncomputable def ug(Wg:V)(c:gS)(cs:J gS):dN:=put (fA Wg c cs) (.pointer (U ⟨Wg,0,cM⟩))
noncomputable def Ym(Wg:V)(c:gS)(cs:J gS):dN:=put (ug Wg c cs) (.tuple #[])
noncomputable def FG(Wg:V)(c:gS)(cs:J gS):dN:=zd cR L 3 (Ym Wg c cs)
theorem Yn:it (fA Wg c cs):=kA
theorem Yo:(e5 (fA Wg c cs)).op=.convert 74 78 (.tmp 11):=c2
theorem Yp:(eA (fA Wg c cs)).eval (.tmp 11)=.pointer (U ⟨Wg,0,cM⟩):=c2
theorem alG:it (ug Wg c cs):=kA
theorem alH:(e5 (ug Wg c cs)).op=.call {callee:=.value (.func 36),args:=#[.tmp 12],argTypes:=#[78]}:=c2
theorem alI:((#[.tmp 12]:ea Operand).map (eA (ug Wg c cs)).eval)[0]?=U (.pointer (U ⟨Wg,0,cM⟩)):=c2
theorem alJ:it (FG Wg c cs):=kA
theorem alK:(e5 (FG Wg c cs)).op=.call {callee:=.value (.func 26),args:=#[],argTypes:=#[]}:=c2
theorem Yq{main:dh}{w v}(h:w.cell? ⟨Wg,0,cM⟩=U v):stepG cR L (fA Wg c cs) w=.go (ug Wg c cs) w #[]:=by
 have a:=run_convert_to_unsafe (P:=cR) kf.underlying_tWgP kf.underlying_tUP kf.room_tWg h;have b:=λes=>events_convert_to_unsafe (P:=cR) kf.underlying_tWgP kf.underlying_tUP kf.room_tWg h es
 have r:(execOp (eA (fA Wg c cs)).eval (e5 (fA Wg c cs))).run cR w=.ok (.value (.pointer (U ⟨Wg,0,cM⟩))) w:=by simp[execOp,Yo,Yp,g2];rw[show(xG 74 78 (.pointer (U ⟨Wg,0,cM⟩))).run cR w=_ from a];rfl
 have e:(execOp (eA (fA Wg c cs)).eval (e5 (fA Wg c cs))).events cR w #[]=#[]:=by simp only[execOp,Yo,Yp,jn];rw[show(xG 74 78 (.pointer (U ⟨Wg,0,cM⟩))).run cR w=_ from a,show(xG 74 78 (.pointer (U ⟨Wg,0,cM⟩))).events cR w #[]=_ from b #[]];rfl
 have:=(Yn (Wg:=Wg) c cs).value (main:=L) r;rwa[listed_nil e]at this
theorem alL(w):stepG cR L (ug Wg c cs) w=.go (Ym Wg c cs) w #[mk (.releaseMerge (stA Wg))]:=by
 have h:=alG (Wg:=Wg) c cs
 conv=>lhs;rw[h.eq]
 exact stepG_markAt .releaseMerge dt h.op h.wanted h.ne (alH c cs) kf.f_relMerge (x_relMerge_n eY) (x_relMerge_b eY) (x_relMerge_x eY) (x_relMerge_f eY) (alI c cs)
theorem alM(w):∃g',stepG cR L (FG Wg c cs) w=.go g' w #[mk .disable]:=by
 have h:=alJ (Wg:=Wg) c cs;refine⟨put (FG Wg c cs) (.tuple #[]),?_⟩
 conv=>lhs;rw[h.eq]
 exact stepG_mark0 .disable dt h.op h.wanted h.ne (alK c cs) kf.f_disable (x_disable_n eY) (x_disable_b eY) (x_disable_x eY) (x_disable_f eY)
theorem alN{val C w Yr}(m:c.mode=.returning)(o:QuitsD cR Yr 0 (G c cs))(dw:WgLive eY.tWg Wg w)(c7:alO C 0 val w):
  dO cR L (RW eY.tWg Wg C 1 0 0) (Hj c4 Wg F C) (L5 cR eY.tWg Wg C 1 0 1 val) (Pa Wg c cs) w:=by
 have i:∀w,Hj c4 Wg F C w w #[]:=λw=>⟨⟨Z,Z,Z,Z,λ_ _=>Z,id,λ_ _=>Z⟩,dt⟩
 have d:∀g w,L5 cR eY.tWg Wg C 1 0 1 val g w->∃g' x,stepG cR L g w=.go g' w #[x]:=λg w h=>by
  have⟨_,_,g',e,_⟩:=h;simp_all
 have a:∀w,RW eY.tWg Wg C 1 0 0 w w:=lu.refl;apply dO.pure lu.trans i (g':=fA Wg c cs) (qB 14);have j:∀c0,RW eY.tWg Wg C 1 0 0 w c0->WgLive eY.tWg Wg c0/\alO C 0 val c0:=λc0 h₁=>⟨h₁.live dw,h₁.cell.trans c7⟩;refine .step (Yn c cs).run (λw=>(ug Wg c cs,w,#[])) (λc0 h₁=>?_) (λc0 h₁=>.stop λb p=>?_)
 .have⟨st,j2,x⟩:=(j c0 h₁).1;exact⟨Yq (main:=L) c cs x.cellSt,i c0⟩
 .have⟨q,r⟩:=j b (lu.trans _ _ _ h₁ p);have⟨st,j2,x⟩:=q;have t:=ConcN.Gen.doneN kf (Own:=λ_ _=>False) (Rd:=λ_ _=>False) (Low:=0) (n:=1) (k:=1) m o b ⟨⟨st,j2,x⟩,r⟩;have⟨rv,dG⟩:=Yl a d t (dG:=fA Wg c cs) (qB 14);have⟨x1,f⟩:=Yj a d dG (Yq (main:=L) c cs x.cellSt);rcases Yk a f (alL c cs b) with f|⟨_,y,u⟩
  .exact f
  .exfalso;have⟨z,v⟩:=Yl a d u (dG:=FG Wg c cs) (qB 3);have⟨g',l⟩:=alM (Wg:=Wg) c cs b;rcases Yk a v l with h|⟨h,_⟩
   .have⟨_,_,g',e,_⟩:=h;rw[l]at e;have:=eR (λs=>match s with|GStep.go _ _ es=>es|_=>#[]) e;simp[mk]at this
   .exact(h.2 (mk .disable) dt).2.1 Z
end
end
section
open Go.Conc Go.Conc.Lib
open Go.ConcN (sumTo upd RelBy WgLive AsideCell RW)
open Go.ConcR (KK wgBlock WgAt stA smA rd wr mk DC0 Payload)
open Go.ConcR.Gen
set_option maxRecDepth 100000
def i9:J hj->J (J hj)
 | []=>[]
 |b::l=>if b=10 then []::i9 l else match i9 l with
  | []=>[[b]]
  |x::dD=>(b::x)::dD
theorem Ys:∀ {l},l≠[]->kF l 10=-1->i9 l=[l]
 | [],h,_=>dQ Z h
 |b::l,_,h=>by
  unfold kF at h
  by_cases hb:(b==10)=N
  .simp_all
  .rw[cT hb]at h;have a:=yJ
   have Q:kF l 10=-1:=by
    by_cases c:(kF l 10==-1)=N
    .simp_all
    .rw[cT c]at h;have:=Jr l 10;omega
   unfold i9;rw[cT a]
   cases l with|nil=>rfl|cons x dD=>rw[Ys (l:=x::dD) dt Q]
theorem Yt:∀ {l} {n:V},kF l 10=n->n+1<=l.length/\i9 l=l.take n::i9 (l.drop (n+1))
 | [],n,h=>by simp[kF]at h
 |b::l,n,h=>by
  unfold kF at h
  by_cases hb:(b==10)=N
  .rw[if_pos hb]at h;have:n=0:=R;subst this;have a:=yJ;simp[i9,a]
  .rw[cT hb]at h;have a:=yJ
   by_cases c:(kF l 10==-1)=N
   .simp_all
   .rw[cT c]at h;obtain⟨m,rfl⟩:∃m,n=m+1:=⟨n-1,by grind⟩;have⟨eS,fy⟩:=Yt (l:=l) (n:=m) R;refine⟨hd,?_⟩
    conv=>lhs;unfold i9
    simp_all
section
variable {c4:V->Prop} {q:u3}
theorem alP(s:dS)(a b):(s.extract a b).data.toList=(s.data.toList.drop a).take (b-a):=eG
def sr(ls:J (J hj)):J dp:=ls.map λl=>.string ⟨l.toArray⟩
noncomputable abbrev x2(c4:V->Prop)(q:u3):J dp->dN->c'->Prop:=
 A_ cR eY.tWg q.Wg q.lK q.d_ q.en c4 q.F (.string q.gh) (.string ⟨#[]⟩) (.agg #[])
theorem alQ(S:c4 q.d_){s f w}(hw:wv q w)(W:q.Wg≠q.d_)(B:q.lK≠q.d_):x2 c4 q [] (u5 q s f) w:=by
 refine⟨c2,c2,λn r l g=>have⟨es,Q,b⟩:=Yg (P:=cR) (cN:=O' q s f) (cs:=(u5 q s f).callers) (ats:=#[53]) (dm:=0) (Ck:=#[L]) l;⟨g6 q s f,es,Z,(alE q s f w).trans Q,λe c=>?_,?_⟩⟩
 .rcases b e c with rfl|rfl
  .refine⟨λx a=>?_,dt,dt,dt⟩;simp[mq,k6]at a;subst a;exact .inr (.inr ⟨⟨_,Z,S⟩,Z⟩)
  .exact⟨λx a=>by simp[mq,k6]at a,dt,dt,dt⟩
 .have⟨st,d,g⟩:=g;have⟨m,j⟩:=alF q s f;apply dO.pure lu.trans (λw=>⟨⟨Z,Z,Z,Z,λ_ _=>Z,id,λ_ _=>Z⟩,dt⟩) (g':=Pa q.Wg (Yh q s f) (u5 q s f).callers) (qB 1);exact alN (Yr:=m) _ _ c2 j ⟨st,d,g.of_block (q' W)⟩ ((Jz (q' B) 0).trans hw.s)
theorem Yu{s p r f b vs w}(i:∀g w',oD q.F w w'->tA c4 q (x2 c4 q vs) (cP q r g) w'):tA c4 q (x2 c4 q (.string p::vs)) (x1 q s f p r b) w:=
 ru 32 (.stop λc0 a=>⟨c2,#[],c2,dt,λd c=>dF.e (g':=s1 q s f p r b) (ru 14 (dF.h (cP q r) λf=>i _ _ (pb.trans _ _ _ a c)))⟩)
theorem alR{s f w}(i:s.size<=9223372036854775807)(b:s.data.toList≠[])
  (g:∀r a w',oD q.F w w'->r.size<s.size->tA c4 q (x2 c4 q (sr (i9 r.data.toList))) (cP q r a) w'):tA c4 q (x2 c4 q (sr (i9 s.data.toList))) (rv q s f (kF s.data.toList 10)) w:=by
 have yN:s.data.toList.length=s.size:=m6
 by_cases j:0<=kF s.data.toList 10
 rotate_left
 .have cK:kF s.data.toList 10=-1:=by have:=Jr s.data.toList 10;omega
  rw[cK,Ys b cK]
  have e:sr [s.data.toList]=[.string s]:=by simp[sr]
  rw[e];refine ru 18 (dF.e (g':=x1 q s f s ⟨#[]⟩ L) (Yu λa w' hi=>g ⟨#[]⟩ a w' hi ?_));rw[<-yN];exact EY.2 b
 .have⟨n,cY⟩:=Int.eq_ofNat_of_zero_le j;have⟨Q,c5⟩:=Yt cY;rw[yN]at Q;rw[cY,c5];have⟨A,c,e,d⟩:=cut (q:=q) (f:=f) Q i;refine ru 9 (dF.e (g':=eW q s f n) (dO.draw (n:=12) alz pb alA c2 c2 c2 c2 c2 c λw' k=>dO.pure pb.trans Jy e (dF.e (h:=d) ?_)))
  have e:sr (s.data.toList.take n::i9 (s.data.toList.drop (n+1)))=.string (s.extract 0 n)::sr (i9 (s.extract (n+1) s.size).data.toList):=by
   have l:(⟨(s.data.toList.take n).toArray⟩:dS)=s.extract 0 n:=ByteArray.ext (zu.1 (by simp_all))
   have m:(s.extract (n+1) s.size).data.toList=s.data.toList.drop (n+1):=by rw[alP,u1 S1]
   rw[m,<-l];rfl
  rw[e];refine Yu λa o hi=>g _ a o (pb.trans _ _ _ k hi) ?_;simp;omega
theorem Yv{s:dS}:(s.toList==(JB #[]).toList)=N↔s.data.toList=[]:=by rw[zi,zi];simp
theorem alS{s:dS}(h:((JB #[10]).toList==s.toList)=N):s.data.toList=[10]:=by rw[zi,zi]at h;simp_all
theorem alT(S:c4 q.d_)(W:q.Wg≠q.d_)(B:q.lK≠q.d_):∀n s f w,s.size<=n->s.size<=9223372036854775807->wv q w->tA c4 q (x2 c4 q (sr (i9 s.data.toList))) (cP q s f) w:=by
 intro n
 induction n using s6 with
 |_ n u=>
  intro s f w cY d hw;refine ru 6 (dF.b 10 (!(s.toList==(JB #[]).toList)) (λe=>ru 53 ?_) λe=>?_)
  rotate_left
  .rw[Yv.1 (by simpa using e)];exact ru 6 (.stop λc0 b=>alQ S (hw.ww b) W B)
  .have g:s.data.toList≠[]:=λh=>by rw[Yv.2 h]at e;cases e
   have z:s.data.toList.length=s.size:=m6
   have m:∀w',oD q.F w w'->tA c4 q (x2 c4 q (sr (i9 s.data.toList))) (rv q s f (kF s.data.toList 10)) w':=λw' k=>alR d g λr j i c t=>u r.size R r j i (fB _) R (hw.ww (pb.trans _ _ _ k c))
   refine dF.b 16 ((JB #[10]).toList==s.toList) (λl=>ru 7 ?_) λl=>ru 22 (dF.x Jy (W' s 10) (Xa s 10) λc0 b=>ru 8 (dF.e (m c0 b)))
   have cW:=m w (pb.refl w);rw[show kF s.data.toList 10=0 by rw[alS l];rfl]at cW;exact dF.e cW
theorem alU{w}(S:c4 q.d_)(W:q.Wg≠q.d_)(B:q.lK≠q.d_)(h:q.gh.size<=9223372036854775807)(hw:wv q w):tA c4 q (x2 c4 q (sr (i9 q.gh.data.toList))) (O8 q.Wg q.lJ q.lK q.la) w:=
 ru 7 (JA hw (.inl Z) (λ_ h=>h.l) λw hw=>ru 3 (JA hw (.inr (.inl Z)) (λ_ h=>h.s) λw hw=>JA hw (.inl Z) (λ_ h=>h.l) λw hw=>JA hw (.inr (.inr Z)) (λ_ h=>h.p) λw hw=>ru 3 (dF.h (cP q q.gh) λf=>alT S W B q.gh.size q.gh _ w (fB _) h hw)))
end
end
section
open Go.Conc Go.Lib
set_option maxRecDepth 100000
structure zR where
 s:dS
 cs:J gS
 la:V
 h_:V
 Cm:dp
 Cn:dp
 B:V
 d_:V
 lJ:V
 en:V
 lK:V
 Wg:V
noncomputable def JC(s:dS)(cs:J gS):dN:=G ((base 12).at {tmps:=#[.string s]++kx (zS.ntmps-1) undef,defers:=[]} [.code (zS.body.getD .skip)]) cs
noncomputable def alV(g:dN):dN:=match stepG cR N g default with| .spawn a _ _ _=>a|_=>g
section
variable (q:zR) (f:V->dp) (o:dS)
noncomputable def zT:=e6 4 (f3 (e6 7 (f3 (e6 3 (f3 (f3 (f3 (e6 3 (f3 (f3 (f3 (e6 3 (f3 (e6 3 (f3 (e6 5 (put (e6 5 (f3 (e6 5 (f3 (e6 2 (JC q.s q.cs)) (eV q.la))) (eV q.h_))) (.tuple #[.agg #[q.Cm,q.Cn],.int .i64 0]))) undef)) (eV q.B))) (.chan (U q.d_))) (eV q.lJ)) undef)) (.chan (U q.en))) (eV q.lK)) undef)) (eV q.Wg))) (.chan (U q.en)))
noncomputable def Pb:dN:=G ((base 17).at ⟨#[.pointer (U ⟨q.Wg,0,cM⟩),.int .i64 1]++kx 115 undef,[]⟩ [.code (awc eY)]) ((zT q).frame.at (eA (zT q)) (.inRegion (i6 (zT q)) (k8 (zT q)::k9 (zT q))::(zT q).frame.todo.tail)::q.cs)
noncomputable def Pc:=e6 4 (put (zT q) (.tuple #[]))
noncomputable def Yw:=alV (Pc q)
noncomputable def Co:dN:=
 let g:=e6 5 (put (e6 4 (Yw q)) (.chan (U q.d_)))
 {g with frame:={g.frame with tmps:=([.string q.s,eV q.la,f 2,eV q.h_,eV q.B,eV q.lJ,eV q.lK,eV q.Wg]++(iB 15).map (λi=>f (i+8))++.chan (U q.d_)::(iB 9).map λi=>f (i+24)).toArray}}
noncomputable def Fh:=e6 7 (xi (ds (Co q f)) (.tuple #[.string ⟨#[]⟩,.bool L]))
noncomputable def zU:=e6 3 (put (Fh q f) (.string o))
noncomputable def Pd:gS:={(zU q f o).frame with defers:=(zU q f o).frame.defers.tail}
noncomputable def wx:gS:={(zU q f o).frame with defers:=[]}
noncomputable def alW:dN:={frame:=Pd q f o,callers:=(zU q f o).callers,status:=.running,dying:=cM}
end
theorem alX{q w}:stepG cR N (Pc q) w=.spawn (Yw q) (O8 q.Wg q.lJ q.la q.lK) w #[]:=c2
theorem Yx{q f}(w):stepG cR N (Co q f) w=.comm (ds (Co q f)) #[rcase q.d_ (.string ⟨#[]⟩)] N (.recv N) w #[]:=c2
end
end Dk
end Go.Lk
namespace Go.Lk
open Go
def rep(s:dS)(c:V):dS:=⟨(Pk s.data.toList c).toArray⟩
end Go.Lk
namespace Go.Lk.Dk
open Go Go.Conc Go.Proofs Go.Lib
set_option maxRecDepth 100000
noncomputable def amA(c:I)(f:V->dp):ea dp:=((iB 125).map λi=>if d2 i 0 then .string ⟨#[0]⟩ else if d2 i 7 then .int .i64 c else if d2 i 8 then .int .i64 c else f i).toArray
def YG(k:V):Code->Code:=Nat.rec (motive:=λ_=>Code->Code) (λc=>c) (λ_ a c=>match c with| .seq _ b=>a b|c=>c) k
def amB:Code->ea Oper
 | .seq (.region _ ops _) _=>ops
 |_=>#[]
noncomputable def YH(c:I)(cs:J gS)(f:V->dp):dN:=G ((base 25).at {tmps:=amA c f,defers:=[]} [.inRegion (amB (YG 10 (YI.body.getD .skip))) [0],.code (YG 11 (YI.body.getD .skip))]) cs
noncomputable def amC(c B:V)(f:V->dp):ea dp:=((iB 125).map λi=>if d2 i 0 then .string ⟨#[0]⟩ else if d2 i 7 then .int .i64 c else if d2 i 8 then .int .i64 c else if d2 i 9 then eV B else f i).toArray
noncomputable def Pl(c:V)(cs:J gS)(B:V)(f:V->dp):dN:=let g:=e6 6 (put (e6 4 (put (e6 4 (f3 (YH c cs f) (eV B))) (.tuple #[]))) (.tuple #[.int .i64 1,.nilIface]));{g with frame:={g.frame with tmps:=amC c B f}}
def amD{a:e7}{o x y z i j k}(b:o.op=.call {callee:=.builtin .min,args:=#[x,y,z],argTypes:=#[3,3,3]})(c:a.eval x=.int .i64 i)(d:a.eval y=.int .i64 j)(f:a.eval z=.int .i64 k)(w):
  (execOp a.eval o).run cR w=.ok (.value (.int .i64 (min (min i j) k))) w/\ (execOp a.eval o).events cR w #[]=#[]:=by
 have e:execOp a.eval o=.pure (.value (.int .i64 (if k<(if j<i then j else i) then k else(if j<i then j else i)))):=by simp[execOp,b,ii,ij,c,d,f,builtin,VJ,Builtin.min2];rfl
 have g:(if k<(if j<i then j else i) then k else(if j<i then j else i))=min (min i j) k:=R;simp_all
def kI.len{cV cO w dJ M B cN l}(h:kI cV cO dJ B cN l w M):gT cR cV.main cV.F 57 #[eV B] w λq w'=>q=.int .i64 l.length/\kI cV cO dJ B cN l w' M:=by have⟨p,d,O,b,r,c⟩:=h.ex;exact gT.mono (amt (h.js h.e8) b) λq w' a=>⟨a.1,h.rel a.2⟩
def amE(c):Pk [0] c=eL c 0:=by
 induction c with
 |zero=>rfl|succ n i=>rw[Pk,i];rfl
def amF(c):rep ⟨#[0]⟩ c=⟨(eL c 0).toArray⟩:=by rw[rep];exact eR (λl=>(⟨List.toArray l⟩:dS)) (amE c)
def amG{main F w}{c:V}(h:c<=32):gT cR main F 54 #[.int .u64 1,.int .u64 c] w λq w'=>q=.tuple #[.int .u64 0,.int .u64 c] /\eX F w w':=by
 iterate 33(rcases Nat.eq_or_lt_of_le h with rfl|h;exact qC Tryz.func54 λcs dv s=>dF.p 115 (s.z ⟨Z,.refl F w⟩);try replace h:=Nat.le_of_lt_succ h)
 cases h
def kI.grow {cV} {w w1} {M} {B k} (K:jr cV w M w1 M) (v:gG cV (fun c=>w.heap.size<=c) M) (dr:B=w1.heap.size) {i} (a:i=w1.alloc (.cells #[.pointer cM,.slice cM 0 0] 52)) {f}
  (m:i.heap.size<=k) (x:h_ L B (eV B) (U k) [] f) (l:h5 cV.F (fun j=>j=B) i f) (s) (C:s.data.toList≠[]) (u:s.size<=1000):
  gT cR cV.main cV.F 21 #[eV B,.string s] f fun q w'=>q=.tuple #[s.size,.nilIface] /\kI cV w M B L s.data.toList w' M:=by
 have h:=fun k m=>K.hD.own k m
 have E:w1.heap.size<=f.heap.size:=by have:=l.size;subst a;have:=Jd w1 (.cells #[.pointer cM,.slice cM 0 0] 52);omega
 have z:=K.fc.size
 have n:=a▸K.own (B_ h _) fun k F G=>dQ (xX _ _ F) G
 have t:=n.FD l fun k _ S=>by subst S;exact ⟨R,fun o=>K.off R o⟩
 have d:w1.heap.size<=k:=by subst a;have:=Jd w1 (.cells #[.pointer cM,.slice cM 0 0] 52);omega
 refine gT.mono (OA (h B R) (fun j b=>by simp_all) (fun j b=>h j R) (.inr Z) x g3) fun q w' A=>?_
 have⟨e,hZ,y,r,cL,g⟩:=A;refine ⟨e,t.FD g fun j _ S=>?_,v,R,fun o=>K.off R o,_,hZ,.inr Z,by simp_all,fun j b=>?_,fun _=>C⟩
 .rcases S with rfl|S
  .exact ⟨R,fun o=>K.off R o⟩
  .cases S;exact ⟨R,fun o=>K.off d o⟩
 .rcases r with e|⟨fr,p,H⟩
  .rw [e] at b;cases b;exact ⟨R,fun o=>K.off d o⟩
  .rw [p] at b;cases b;exact ⟨R,fun o=>K.off R o⟩
def amI(d8:cR.follows .mixedOrders=N)(c:V)(e:c<=32):dX cR 25 [.str ⟨#[0]⟩,c] (.str ⟨(eL c 0).toArray⟩):=by
 refine⟨⟨YI,amJ,c2,c2⟩,λcV w M vs f' dq cP=>?_⟩;obtain⟨u,v,rfl,A,cU⟩:=I_ cP
 cases A;cases cU
 refine qC amJ λcs dv i=>?_;have b:=jr.init f' dq
 match c,e with
 |0,_=>exact dF.p 21 (i.z (b.out (.str _)))|1,_=>exact dF.p 28 (i.z (b.out (.str _)))
 |n+2,e=>
  refine dF.p 39 (dF.k (vs:=#[.int .u64 1,.int .u64 (kU .u64 ((n+2:V):I))]) (by rw[show kU .u64 ((n+2:V):I)=((n+2:V):I) by rw[IntKind.wrap_u64];omega];exact amG e) λq Y a=>?_);obtain⟨rfl,C⟩:=a;have b:=b.rel C
  refine dF.p 16 (dF.c 34 ((9223372036854775807:I)<((n+2:V):I)) (λh=>by omega) λ_=>dF.p 67 (dF.c 96 ((8192:I)<kU .i64 ((n+2:V):I)) (λh=>by rw[rp]at h;omega) λ_=>dF.p 4 (dF.h (YH (kU .i64 ((n+2:V):I)) cs) λIP=>?_)))
  rw[show kU .i64 ((n+2:V):I)=((n+2:V):I) by rw[rp];omega];have⟨c,dg⟩:∃c,n+2=c:=⟨_,Z⟩;rw[dg]at e⊢;refine dF.m7 4 (.cells #[.pointer cM,.slice cM 0 0] 52) eV b.hD.own λw1 Q=>?_;have b:=b.rel Q;have o:=λk c6=>b.hD.own k c6;have⟨B,j⟩:∃B,w1.heap.size=B:=⟨_,Z⟩;have⟨w2,g⟩:∃w2,w1.alloc (.cells #[.pointer cM,.slice cM 0 0] 52)=w2:=⟨_,Z⟩
  have D:w2.heap[B]?=U (.cells #[.pointer cM,.slice cM 0 0] 52 (0,0)):=by rw[<-g,<-j];exact Fr w1 _
  have l:w1.heap.size<=w2.heap.size:=by rw[<-g];simp
  rw[j,g];refine dF.k (amz (c:=c) d8 (o B R) (λk c6=>o k R) R R (.inl Z) D) λq aa a=>?_;obtain⟨rfl,k,k1,eF,u4⟩:=a;refine dF.p 4 (dF.k (kI.grow b f' j.symm g.symm k1 eF u4 ⟨#[0]⟩ c1 c1) λq E a=>?_);obtain⟨rfl,G⟩:=a
  have loop:∀(d cL:V) (cN:dh) (f:V->dp) (w':c'),1<=cL->cL+d=c->kI cV w M B cN (eL cL 0) w' M->dF cV.main cV.F dv (Pl c cs B f) w':=by
   intro d
   induction d using s6 with
   |_ d H=>
   intro cL cN f w' Q ab T;have m:(eL cL (0:hj)).length=cL:=uO;refine dF.p 1 (dF.k T.len λq ac a=>?_);obtain⟨rfl,T⟩:=a;rw[m];refine dF.p 3 (dF.c 113 ((cL:I)<c) (λJ=>dF.p 6 (dF.k T.len λq uZ a=>?_)) λJ=>dF.p 4 (dF.k (T.str d8 R) λq O a=>?_))
   .obtain⟨rfl,T⟩:=a;rw[m];refine dF.p 1 (dF.k T.len λq ad a=>?_);obtain⟨rfl,T⟩:=a;rw[m];obtain⟨K,r⟩:∃K:V,min (min (kU .i64 ((c:I)-(cL:I))) (cL:I)) (c:I)=(K:I):=⟨min (c-cL) cL,by rw[rp];omega⟩
    have ae:K<=cL/\cL+K<=c/\1<=K:=by rw[rp]at r;omega
    refine dF.p 1 ?_;refine dF.wo 3 K (λw _=>by rw[<-r];exact amD (x:=.tmp 116) (y:=.tmp 117) (z:=.tmp 118) c2 c2 c2 c2 w) λaf P=>?_;have T:=T.rel P;refine dF.k (T.str d8 R) λq O a=>?_;obtain⟨rfl,T⟩:=a;have⟨s,c7⟩:∃s:dS,⟨(eL cL (0:hj)).toArray⟩=s:=⟨_,Z⟩
    have ag:s.size=cL:=by rw[<-c7];show(eL cL (0:hj)).toArray.size=cL;simp
    rw[c7];refine dF.p 1 ?_;refine dF.wo 0 (.string (s.extract 0 K)) (λw _=>Yf (x:=.tmp 120) (y:=.tmp 121) c2 c2 c2 R w) λah S=>?_;have T:=T.rel S;have⟨s2,l⟩:∃s2,s.extract 0 K=s2:=⟨_,Z⟩
    have t:s2.data.toList=eL K 0:=by rw[<-l,<-c7];simp;omega
    have ai:s2.size=K:=by have:s2.data.toList.length=s2.size:=m6;rw[t]at this;simpa using this.symm
    rw[l];refine dF.k (T.FE (s:=s2) R) λq W a=>?_;obtain⟨rfl,T⟩:=a;rw[t]at T;exact dF.p 5 (dF.h (Pl c cs B) λf=>H (d-K) R (cL+K) N f W R R (by rwa[<-List.replicate_append_replicate]))
   .obtain⟨rfl,T⟩:=a;have X:cL=c:=R
    rw[X]at T⊢;exact dF.p 3 (i.z (by rw[dg];exact T.kw.out (.str _)))
  exact dF.p 6 (dF.h (Pl c cs B) λf=>loop (c-1) 1 L f E (fB 1) R G)
end Go.Lk.Dk
namespace Go.Lk
open Go Go.Proofs
def JJ(s)(c:V)(h:c<=32)(a:s.data=#[0]):dX cR 25 [.str s,c] (.str (rep s c)):=by
 have⟨d⟩:=s
 cases a
 rw[Dk.amF];exact Dk.amI nu c h
end Go.Lk
namespace Go.Lk
open Go.Proofs Go.RowKit
def OW(dR:J I):∀s:dS,(dR.foldl (λr n=>r.push (uw n.toNat)) s).data.toList=s.data.toList++dR.map λn=>uw n.toNat:=by
 induction dR with
 |nil=>grind|cons n r i=>simp_all
def amO(dR):(qx dR).data.toList=dR.map λn=>uw n.toNat:=by rw[qx,OW];rfl
def YL(s:dS):s.size=s.data.toList.length:=(m6).symm
def YM(dR):(qx dR).size=dR.length:=by rw[YL,amO,ef]
def YN(n):(i_ n).size=4:=YM _
def z0:dS:=⟨#[0]⟩
def k0(n:V):dS:=rep z0 n
def YO(n):(k0 n).data.toList=eL n 0:=by show(Pk [0] n)=_;have:=Lib.repeatL_replicate 0 1 n;simp_all
def wB(n):(k0 n).size=n:=by rw[YL,YO,uO]
def ss(x:e_):dS:=i_ x.1.toNat++i_ x.2.1.toNat++i_ x.2.2.size
def pt(x:e_):dS:=x.2.2++k0 (16-x.2.2.size)
def l9(x:e_):dS:=ss x++i_ (wz (ss x++pt x)).toNat++pt x
def YP(x):(ss x).size=12:=by rfl
def YQ{x}(h:x.2.2.size<=16):(pt x).size=16:=by simp[pt,kK,wB];omega
def z1{x}(h:x.2.2.size<=16):(l9 x).size=32:=by simp[l9,kK,YP,YQ h,YN]
def Cs(x):dX cR 249 [.agg (eB x)] (if gp x=N then .dP [.str (l9 x),.int .i64 0] else .dP [.str fI,.int .i64 1]):=by
 refine d6 Tryz.func249 1 Z c2 (c9 ?_);refine df (FK x) (c9 ?_)
 refine j9 (λQ=>?_) λQ=>?_
 .rw[cT eG];rfl
 have cX:gp x=N:=by simpa using Q
 have cU:=kJ.1 cX;rw[if_pos cX];refine dH ?_;have⟨a,g⟩:∃a:V,x.1=a:=⟨x.1.toNat,by omega⟩;have⟨b,i⟩:∃b:V,x.2.1=b:=⟨x.2.1.toNat,by omega⟩;rw[g,i];refine df (JF a R) (c9 ?_);refine df (JF b R) (c9 ?_);have z:=YN;refine fC eG (c9 ?_);refine df (JF x.2.2.size R) (c9 ?_);refine fC eG (c9 ?_);rw[show(16:I)-(x.2.2.size:I)=((16-x.2.2.size:V):I) by omega];refine df (JJ z0 (16-x.2.2.size) R c1) (c9 ?_);refine fC (by rw[show(rep z0 (16-x.2.2.size)).size=_ from wB _];omega) (c9 ?_)
 have f:i_ a++i_ b++i_ x.2.2.size=ss x:=by rw[ss,g,i];rfl
 have t:x.2.2++rep z0 (16-x.2.2.size)=pt x:=Z;rw[f,t];refine gK amp (c9 ?_);have j:=YP x;have k:=YQ cU.2.2.2.2;refine fC R (c9 ?_);refine df (ams (ss x++pt x) eG) (c9 ?_);have⟨c,h⟩:∃c,(wz (ss x++pt x)).toNat=c:=⟨_,Z⟩
 have d:c<4294967296:=by rw[<-h];exact(wz (ss x++pt x)).isLt
 rw[h];refine df (JF c d) (c9 ?_);refine fC eG (c9 ?_);refine fC eG (c9 ?_)
 have e:ss x++i_ c++pt x=l9 x:=by rw[l9,h]
 rw[e];exact dd Z Z
def d':e_:=(0,0,fI)
def tC(s:dS):e_:=(((l8 s 0:V):I),((l8 s 4:V):I),s.extract 16 (16+l8 s 8))
def lL(s:dS):e_×I:=
 if s.size≠32 then(d',2) else if s=k0 32 then(d',3) else if 16<l8 s 8 then(d',9) else
 if gp (tC s)=N/\l9 (tC s)=s then(tC s,0) else(d',9)
def amP(s):dX cR 189 [.str s] (.dP [.agg (eB (lL s).1),(lL s).2]):=by
 refine d6 Tryz.func189 1 Z c2 (c9 ?_)
 refine kH (λQ=>?_) λQ=>?_
 .have e:lL s=(d',2):=if_pos R;rw[e];rfl
 have c:s.size=32:=R
 have b:lL s=if s=k0 32 then(d',3) else if 16<l8 s 8 then(d',9) else if gp (tC s)=N/\l9 (tC s)=s then(tC s,0) else(d',9):=cT R;rw[b];refine dH ?_;refine df (JJ z0 32 c1 c1) (c9 ?_)
 refine iv (λa=>?_) λa=>?_
 .rw[if_pos (show s=k0 32 from a)];exact dd Z Z
 rw[cT (show ¬s=k0 32 from a)];refine dH ?_;refine df (zL s 8 R R) (c9 ?_)
 refine iv (λf=>?_) λf=>?_
 .rw[if_pos R];exact dd Z Z
 rw[cT R];refine dH ?_;refine df (zL s 0 R R) (c9 ?_);refine df (zL s 4 R R) (c9 ?_);have⟨n,cY⟩:∃n,l8 s 8=n:=⟨_,Z⟩;rw[cY]at f;rw[cY];refine dH ?_;rw[show(16:I)+(n:I)=((16+n:V):I) by omega];refine Mr (l:=16) R R (c9 ?_)
 have g:tC s=(((l8 s 0:V):I),((l8 s 4:V):I),s.extract 16 (16+n)):=by rw[tC,cY]
 rw[g];have h:=Cs (((l8 s 0:V):I),((l8 s 4:V):I),s.extract 16 (16+n))
 by_cases cX:gp (((l8 s 0:V):I),((l8 s 4:V):I),s.extract 16 (16+n))=N
 .rw[if_pos cX]at h;refine df h (c9 ?_)
  refine sq (λd=>?_) λd=>?_
  .rw[cT (λq=>d q.2)];exact dd Z Z
  .rw[if_pos ⟨cX,d⟩];exact dd Z Z
 .rw[cT cX]at h;refine df h (c9 ?_);rw[cT (λq=>cX q.1)];exact dd Z Z
def ev(s:dS):J hj:=s.data.toList
def JN{s t}(h:ev s=ev t):s=t:=by
 cases s;cases t
 simp[ev]at h;simp_all
def JO(s t):ev (s++t)=ev s++ev t:=by rfl
def YR(s):(ev s).length=s.size:=m6
def Po(s a b):ev (s.extract a b)=((ev s).drop a).take (b-a):=by simp[ev,OZ,Array.toList_extract,List.extract]
def amR(n):ev (i_ n)=[uw (n%256),uw (n/256%256),uw (n/65536%256),uw (n/16777216%256)]:=by rfl
def YT(s j):s.data.getD j 0=(ev s)[j]?.getD 0:=by rw[um,ev,ER]
def JP{s A B n i}(h:ev s=A++(ev (i_ n)++B))(cK:A.length=i)(cY:n<4294967296):l8 s i=n:=by
 have get:∀j,j<4->(s.data.getD (i+j) 0)=(ev (i_ n))[j]?.getD 0:=λj a=>by
  rw[YT,h,xD R,show i+j-A.length=j by omega,v' (by assumption)]
 have g:=get 0 c1;rw[BO]at g;rw[l8,g,get 1 c1,get 2 c1,get 3 c1,amR];simp;omega
def amS{x}(h:gp x=N):tC (l9 x)=x:=by
 have cU:=kJ.1 h
 have e:∀a b c d:dS,∀t:dS,ev (a++b++c++d++t)=ev a++(ev b++(ev c++(ev d++ev t))):=λa b c d t=>by simp[JO,jC]
 have f:ev (l9 x)=ev (i_ x.1.toNat)++(ev (i_ x.2.1.toNat)++(ev (i_ x.2.2.size)++(ev (i_ (wz (ss x++pt x)).toNat)++ev (pt x)))):=e _ _ _ _ _
 have l:∀n,(ev (i_ n)).length=4:=λn=>by rfl
 have g:l8 (l9 x) 0=x.1.toNat:=JP (A:=[]) (by rw[f];rfl) Z R;have i:=JP (A:=ev (i_ x.1.toNat)) f (l _) R;have j:=JP (A:=ev (i_ x.1.toNat)++ev (i_ x.2.1.toNat)) (by rw[f,jC]) (by rw[kG,l,l]) R;rw[tC,g,i,j];refine Prod.ext ?_ (Prod.ext ?_ ?_)
 .omega
 .grind
 .apply JN;rw[Po,f,show 16+x.2.2.size-16=x.2.2.size by omega];rw[show ev (i_ x.1.toNat)++(ev (i_ x.2.1.toNat)++(ev (i_ x.2.2.size)++(ev (i_ (wz (ss x++pt x)).toNat)++ev (pt x))))=(ev (i_ x.1.toNat)++ev (i_ x.2.1.toNat)++ev (i_ x.2.2.size)++ev (i_ (wz (ss x++pt x)).toNat))++ev (pt x) by rfl];rw[List.drop_append_of_le_length eG,Ce eG,uU,pt,JO,<-YR,List.take_left]
def amT{x}(h:gp x=N):lL (l9 x)=(x,0):=by
 have cU:=kJ.1 h;have g:=amS h
 have k:l8 (l9 x) 8=x.2.2.size:=by
  have:=eR (λy:e_=>y.2.2.size) g
  have l:∀n,(ev (i_ n)).length=4:=λn=>by rfl
  have e:∀a b c d:dS,∀t:dS,ev (a++b++c++d++t)=ev a++(ev b++(ev c++(ev d++ev t))):=λa b c d t=>by simp[JO,jC]
  exact JP (A:=ev (i_ x.1.toNat)++ev (i_ x.2.1.toNat)) f0 f0 R
 have i:¬l9 x=k0 32:=λq=>by
  have f:l8 (l9 x) 0=x.1.toNat:=by have:=eR (λy:e_=>y.1) g;simp[tC]at this;omega
  rw[q,l8]at f
  have z:∀j,(k0 32).data.getD j 0=0:=λj=>by
   rw[YT,show ev (k0 32)=_ from YO 32,zo];split<;>rfl
  rw[z,z,z,z]at f;omega
 rw[lL,cT (by rw[z1 cU.2.2.2.2];decide),cT i,cT R,g,if_pos ⟨h,Z⟩]
def YU:lL (k0 32)=(d',3):=by rfl
abbrev Wt:=I×dS
def hN(s:dS):J c3:=[.str s]
def fw(w:Wt):J c3:=[w.1,.str w.2]
structure gm where
 sec:J dS
 fz:J Wt
def gm.cells(d:gm):J c3:=[.dk (d.sec.map hN),.dk (d.fz.map fw)]
def iF(d:gm):c3:=.agg [.dk (d.sec.map hN),.dk (d.fz.map fw)]
def su(n:V)(w:Wt):dh:=gV (0<=w.1)&&(decide (w.1<n)&&decide (w.2.size=16))
def x8{n w}:su n w=N↔0<=w.1/\w.1<n/\w.2.size=16:=by simp[su]
structure pu(d:gm):Prop where
 s1:1<=d.sec.length
 s2:d.sec.length<=64
 g6:d.fz.length<=200
 s:∀i,(h:i<d.sec.length)->d.sec[i].size=16
 c:∀i,(h:i<d.fz.length)->su d.sec.length d.fz[i]=N
open Classical in
def Ct(d:gm):dh:=gV (pu d)
def z2{d}:Ct d=N↔pu d:=by simp[Ct]
def x9{d}:Ct d=L↔¬pu d:=by simp[Ct]
def YV:∀(l:J dS),gN 1 (l.map hN)=N
 | []=>rfl|_::r=>YV r
def YW:∀(l:J Wt),gN 2 (l.map fw)=N
 | []=>rfl|_::r=>YW r
def YX(d w):dX cR 240 [iF d,.agg (fw w)] (.bool (su d.sec.length w)):=by
 refine d6 Tryz.func240 2 Z c2 (cO ?_)
 have d8:(d.sec.map hN).length=d.sec.length:=ef ..
 refine dH ?_
 refine d3 (λQ=>?_) λQ=>?_
 rotate_left
 .refine dH ?_;exact dd Z (eR c3.bool (by symm;rw[<-Mi,x8];omega))
 refine dH ?_
 refine d3 (λc5=>?_) λc5=>?_
 rotate_left
 .refine dH ?_;exact dd Z (eR c3.bool (by symm;rw[<-Mi,x8];omega))
 refine dH (dd Z (eR c3.bool ?_))
 by_cases a:(w.2.size:I)=16
 .rw[decide_eq_true a];symm;rw[x8];omega
 .rw[decide_eq_false a];symm;rw[<-Mi,x8];omega
def FM(d):dX cR 176 [iF d] (.bool (Ct d)):=by
 refine d6 Tryz.func176 1 Z c2 (cO ?_)
 have m:(d.sec.map hN).length=d.sec.length:=ef ..
 have c:(d.fz.map fw).length=d.fz.length:=ef ..
 refine dH ?_
 refine iv (λQ=>?_) λQ=>?_
 .exact dd Z (eR c3.bool (x9.2 λh=>by have:=h.s1;omega).symm)
 refine dH ?_
 refine iv (λb=>?_) λb=>?_
 .exact dd Z (eR c3.bool (x9.2 λh=>by have:=h.s2;omega).symm)
 refine dH ?_
 refine pp (λl=>?_) λl=>?_
 .exact dd Z (eR c3.bool (x9.2 λh=>G6).symm)
 refine eZ (D:=V) (λk=>[(1,.ptr 1 0 0),(24,.d (.dk (d.sec.map hN))),(25,.d (d.sec.map hN).length),(26,.d k)]) (λ_=>[(1,.box [.d (.dk (d.sec.map hN)),.d (.dk (d.fz.map fw))] L)])
  (λk=>k<=d.sec.length/\ ∀i,i<k->(h:i<d.sec.length)->d.sec[i].size=16) (λk=>d.sec.length-k) 0 ⟨R,R⟩ (dZ (dT fj eN d0)) ?_
 rintro k ⟨f,cX⟩
 conv=>whnf
 refine l7 (λdz=>?_) λdz=>?_
 .have eM:k<d.sec.length:=R
  refine ec R (cO ?_);refine dY (x:=hN d.sec[k]) iy (c9 ?_)
  refine kH (λdW=>?_) λdW=>?_
  .exact dd Z (eR c3.bool (x9.2 λh=>by have:=h.s k eM;omega).symm)
  refine dH ?_
  exact⟨k+1,⟨R,λi cK h=>by
   grind⟩,R,(dZ (dT fj eN d0))⟩
 .refine eZ (D:=V) (λk=>[(1,.ptr 1 0 0),(35,.d (.dk (d.fz.map fw))),(36,.d (d.fz.map fw).length),(37,.d k)]) (λ_=>[(1,.box [.d (.dk (d.sec.map hN)),.d (.dk (d.fz.map fw))] L)])
   (λk=>k<=d.fz.length/\ ∀i,i<k->(h:i<d.fz.length)->su d.sec.length d.fz[i]=N) (λk=>d.fz.length-k) 0 ⟨R,R⟩ (dZ (dT fj eN d0)) ?_
  rintro j ⟨e,S⟩
  conv=>whnf
  refine l7 (λn=>?_) λn=>?_
  .have a:j<d.fz.length:=R
   refine ec R (cO ?_);refine dY (x:=fw d.fz[j]) (by simp[a]) (c9 ?_);refine df (YX d d.fz[j]) (c9 ?_)
   refine j9 (λg=>?_) λg=>?_
   .exact dd Z (eR c3.bool (x9.2 λh=>by rw[h.c j a]at g;simp_all).symm)
   refine dH ?_
   exact⟨j+1,⟨R,λi cK h=>by
    grind⟩,R,(dZ (dT fj eN d0))⟩
  .exact dd Z (eR c3.bool (z2.2 ⟨R,R,R,λi h=>cX i R h,λi h=>S i R h⟩).symm)
def pv(s:J dS)(l:J Wt):J dS:=l.foldl (λs w=>s.set w.1.toNat w.2) s
def FN:∀l s,(pv s l).length=s.length
 | [],s=>rfl
 |w::r,s=>by
  show(pv (s.set w.1.toNat w.2) r).length=_;rw[FN r,h']
def amU(s l w):pv s (l++[w])=(pv s l).set w.1.toNat w.2:=by simp[pv]
def pick(n:I)(l:J Wt)(b:dS):dS:=l.foldl (λb w=>if w.1=n then w.2 else b) b
def i'(d:gm)(n:I):dS:=pick n d.fz (d.sec[n.toNat]?.getD fI)
def Pp{n}:∀ {l b},(∀w∈l,w.1≠n)->pick n l b=b
 | [],b,_=>rfl
 |w::r,b,h=>by
  show pick n r (if w.1=n then w.2 else b)=b;rw[cT (h w (mz ..)),Pp λx a=>h x (lD _ a)]
def amV(n l r b):pick n (l++r) b=pick n r (pick n l b):=by simp[pick]
def amW{n l k}(d:k<l.length)(h:l[k].1=n)(cX:∀j,k<j->(c:j<l.length)->l[j].1≠n)(b):pick n l b=l[k].2:=by
 have e:l=l.take k++l[k]::l.drop (k+1):=eG
 have a:=eR (λx=>pick n x b) e;rw[a,amV];show pick n (l.drop (k+1)) (if l[k].1=n then l[k].2 else pick n (l.take k) b)=_;rw[if_pos h,Pp];intro w hw;obtain⟨i,cK,rfl⟩:=kg.1 hw;grind
def YY(l:J dS)(b:l.length<=1000000):j5 cR 98 [.dk (l.map hN)] (l.map hN) 1:=by
 refine lH Tryz.func98 1 Z c2 (cO (oG (cO ?_)));intro r a
 conv=>whnf
 refine m8 (λh=>?_) λh=>?_
 .have:=a h;exact⟨2,Z,.inr ⟨Z,this⟩⟩
 .refine fC (YV l) (cO ?_);refine fV 1000100 100 AL c1 c1 c1 (cO ?_);exact⟨2,Z,.inl ⟨5,Z,Z⟩⟩
def YZ(l:J Wt)(b:l.length<=1000000):j5 cR 99 [.dk (l.map fw)] (l.map fw) 2:=by
 refine lH Tryz.func99 1 Z c2 (cO (oG (cO ?_)));intro r a
 conv=>whnf
 refine m8 (λh=>?_) λh=>?_
 .have:=a h;exact⟨2,Z,.inr ⟨Z,this⟩⟩
 .refine fC (YW l) (cO ?_);refine fV 1000100 100 AL c1 c1 c1 (cO ?_);exact⟨2,Z,.inl ⟨5,Z,Z⟩⟩
def amX(d l)(cP:d.sec.length<=1000)(b:l.length<=1000)(h:∀i,(cK:i<l.length)->su d.sec.length l[i]=N):
  dX cR 277 [iF d,.dk (l.map fw)] (iF ⟨pv d.sec l,[]⟩):=by
 refine d6 Tryz.func277 2 Z c2 (cO ?_)
 have c:(l.map fw).length=l.length:=ef ..
 refine dH ?_;refine gK (YY d.sec R) (c9 ?_);refine eZ (D:=V) (λk=>[(4,.ptr 4 0 0),(5,.own 10),(11,.d (.dk (l.map fw))),(12,.d (l.map fw).length),(13,.d k)]) (λk=>[(4,.box [.nil,.nil] L),(10,.row ((pv d.sec (l.take k)).map hN) 1 L)])
  (λk=>k<=l.length) (λk=>l.length-k) 0 R (dZ (dT ih lr d0)) ?_
 intro k a
 conv=>whnf
 refine l7 (λdz=>?_) λdz=>?_
 .have eM:k<l.length:=R
  have hw:=x8.1 (h k eM);have n:=FN (l.take k) d.sec
  have m:((pv d.sec (l.take k)).map hN).length=(pv d.sec (l.take k)).length:=ef ..
  refine ec R (cO ?_);refine dY (x:=fw l[k]) iy (c9 ?_);refine kb R R (cO ?_);have cY:l[k].1.toNat<(pv d.sec (l.take k)).length:=R;refine dY (x:=hN ((pv d.sec (l.take k))[l[k].1.toNat])) (by simp[cY]) (c9 ?_);refine⟨k+1,R,R,dZ (dT ih ⟨Z,?_,dU⟩ d0)⟩;rw[lX eM,amU,sv];rfl
 .have e:l.take k=l:=u1 R;rw[e];rfl
open Classical in
def wC(d:gm):gm:=if pu d then ⟨pv d.sec d.fz,[]⟩ else d
open Classical in
def qP(d:gm)(w:Wt):gm×I:=if pu d/\su d.sec.length w=N then(if 200<=d.fz.length then(d,7) else(⟨d.sec,d.fz++[w]⟩,0)) else(d,1)
def amY(d):dX cR 223 [iF d] (iF (wC d)):=by
 refine d6 Tryz.func223 1 Z c2 (c9 ?_);refine df (FM d) (c9 ?_)
 refine j9 (λQ=>?_) λQ=>?_
 .have cY:=x9.1 o_;rw[wC,cT cY];rfl
 have cX:=z2.1 o_;rw[wC,if_pos cX];have a:=cX.s2;have fb:=cX.g6;refine dH ?_;refine df (amX d d.fz R R cX.c) (c9 ?_);exact dd Z Z
def amZ(d w):dX cR 239 [iF d,.agg (fw w)] (.dP [iF (qP d w).1,(qP d w).2]):=by
 refine d6 Tryz.func239 2 Z c2 (c9 ?_);refine df (FM d) (c9 ?_)
 refine j9 (λQ=>?_) λQ=>?_
 .have cY:=x9.1 o_;rw[qP,cT (λq=>cY q.1)];exact dd Z Z
 have cX:=z2.1 o_;have b:=cX.s2;have fb:=cX.g6
 have m:(d.fz.map fw).length=d.fz.length:=ef ..
 refine dH ?_;refine df (YX d w) (c9 ?_)
 refine j9 (λc5=>?_) λc5=>?_
 .rw[qP,cT (λq=>by simp_all)];exact dd Z Z
 have W:=rV;rw[qP,if_pos ⟨cX,W⟩];refine dH ?_
 refine iv (λa=>?_) λa=>?_
 .rw[if_pos R];exact dd Z Z
 rw[cT R];refine dH ?_;refine gK (YZ d.fz R) (c9 ?_);refine fV 1000100 1000 (by show pY _+1<=1000100;omega) c1 c1 c1 (c9 ?_);apply dd Z;rw[iF,jt];rfl
def jE:dS:=k0 16
def u7(k:V):J (J c3):=(iB 35).map λj=>hN (if j<k then jE else fI)
def am0:eL 35 (hN fI)=u7 0:=by rfl
def am1{i}(cK:i<35):(u7 i).set i (hN jE)=u7 (i+1):=by
 apply List.ext_getElem
 .simp[u7]
 .intro j Q h;rw[zX];simp[u7,List.getElem_map,List.getElem_range];grind
def iw:gm:=⟨eL 35 jE,[]⟩
def am2:dX cR 15 [.int .i64 35] (.dP [iF iw,.int .i64 0]):=by
 refine d6 Tryz.func15 1 Z c2 (c9 ?_);refine fV 1000 1000 c1 c1 c1 c1 (c9 ?_);rw[show eL (35:I).toNat (T 9).zero=u7 0 from am0];refine eZ (D:=V) (λk=>[(2,.ptr 2 0 0),(4,.own 14),(16,.d (.int .i64 35)),(17,.d k)]) (λk=>[(2,.box [.nil,.nil] L),(14,.row (u7 k) 1 L)])
  (λk=>k<=35) (λk=>35-k) 0 R (dZ (dT ⟨Z,Z,c2,Z,dU⟩ lr d0)) ?_
 intro k b
 have f:(u7 k).length=35:=by simp[u7]
 conv=>whnf
 refine l7 (λdz=>?_) λdz=>?_
 .have a:k<35:=R
  refine dH ?_;refine df (JJ z0 16 c1 c1) (c9 ?_);refine ec R (cO ?_);refine dY (x:=hN (if k<k then jE else fI)) (by simp[u7,a]) (c9 ?_);refine⟨k+1,R,R,dZ (dT fj ⟨Z,?_,dU⟩ d0)⟩;rw[<-am1 a];rfl
 .have e:k=35:=R;subst e;rfl
namespace Dk
section
open Go.Conc Go.Lib Go.Proofs
set_option maxRecDepth 100000
theorem Y8{F tmps w a c s}{k:I}(A:tmps.getD 4 undef=eV a)(B:tmps.getD 5 undef=eV c)(fy:w.heap[a]?=U (.cells #[.string s] 9 (0,0)))(dz:w.heap[c]?=U (.cells #[k] 47 (0,0)))(n:¬F a)(m:¬F c):
  ul cR F z3 tmps (.tuple #[.string s,k]) w:=λc0 r=>by
 have h:c0.cell? ⟨a,0,cM⟩=U (.string s):=m5 ((r.block _ n).trans fy) Z;have p:c0.cell? ⟨c,0,cM⟩=U k:=m5 ((r.block _ m).trans dz) Z;have j:(isAgg 9).run cR c0=.ok L c0:=c2;have g:(isAgg 47).run cR c0=.ok L c0:=c2;have z:=λt es=>ed.isAgg t cR c0 es
 have o:(load ⟨a,0,cM⟩).run cR c0=.ok (.string s) c0:=eG
 have q:(load ⟨c,0,cM⟩).run cR c0=.ok k c0:=eG
 have u:∀es,(load ⟨a,0,cM⟩).events cR c0 es=es.push ⟨.cell ⟨a,0,cM⟩,L,L⟩:=λes=>by rw[Iq,h];rfl
 have v:∀es,(load ⟨c,0,cM⟩).events cR c0 es=es.push ⟨.cell ⟨c,0,cM⟩,L,L⟩:=λes=>by rw[Iq,p];rfl
 have d:z3.results=#[.cell 4 9,.cell 5 47]:=c2;have O:∀b,eV b=.pointer (U ⟨b,0,cM⟩):=λb=>Z
 have f:tmps[4]?.getD undef=eV a:=by simpa using A
 have i:tmps[5]?.getD undef=eV c:=by simpa using B
 have e:results z3 tmps=(do let x <-loadVar 9 ⟨a,0,cM⟩;let y <-loadVar 47 ⟨c,0,cM⟩;pure (.tuple #[x,y])):=by unfold results;rw[d];simp[f,i,asAddr,eV]
 rw[e];constructor
 .simp[loadVar,j,g,o,q,h,p]
 .intro e l;simp[loadVar,j,g,z,o,q,u,v,h,p]at l;rcases l with rfl|rfl
  .exact⟨Z,n⟩
  .exact⟨Z,m⟩
def yZ(p:sw)(s:dS)(k:I):J (V×Obj):=[(p.B+3,.cells #[k] 47 (0,0)),(p.B+2,.cells #[.string s] 9 (0,0)),(p.B+1,.cells #[p.n] 3 (0,0)),(p.B,.cells #[p.S,p.C] 43 (0,0))]
section
variable {cV:jm} {cO w:c'} {dJ M:eE} {p:sw} {f:V->dp} {dv:dN->c'->Prop}
def JS(cV:jm)(cO:c')(dJ M:eE)(p:sw)(dv:dN->c'->Prop)(s:dS)(k:I):Prop:=∀d9 todo w',d9.defers=[]->gn cV cO dJ w' M []->ul cR cV.F z3 d9.tmps (.tuple #[.string s,k]) w'->dF cV.main cV.F dv (G {(base 171).at d9 todo with mode:=.returning} p.cs) w'
theorem Ps(A:hy cV cO dJ w M (yZ p ⟨#[]⟩ 0))(c:JS cV cO dJ M p dv ⟨#[]⟩ 1):dF cV.main cV.F dv (FO p f) w:=by
 refine dF.p 1 ?_;refine A.st 0 1 0 (.string ⟨#[]⟩) λw A=>?_;refine A.st 2 0 0 (.int .i64 1) λw A=>?_
 exact dF.e (g':=G {(base 171).at (eA (Y6 p f)) (Y6 p f).frame.todo with mode:=.returning} p.cs) (c _ _ _ c2 (A.sub nofun) (Y8 c2 c2 (A.gt 1).2.1 (A.gt 0).2.1 (A.ne 1) (A.ne 0)))
end
end
section
open Go.Conc Go.Lib Go.Proofs
set_option maxRecDepth 100000
structure Rows(M:eE)(p:sw)(d:gm):Prop where
 ls:p.Cu=d.sec.length
 lc:p.len=d.fz.length
 gB:∀j s,d.sec[j]?=U s->∃b off,p.wD=U ⟨b,off,cM⟩ /\M b (off+j)=U (.string s)
 hC:∀j x,d.fz[j]?=U x->∃b off,p.a=U ⟨b,off,cM⟩ /\M b (off+j*2)=U (.int .i64 x.1) /\M b (off+j*2+1)=U (.string x.2)
def Y9(p:sw)(da:V):J (V×Obj):=[(da+1,.deferred (U [])),(da,.cells #[p.C] 41 (0,0))]
def Y_(d:gm)(n:I)(s:dS):Prop:=(∃(k:V) (z:I×dS),d.fz[k]?=U z/\z.1=n/\s=z.2/\ ∀(j) (dr:I×dS),k<j->d.fz[j]?=U dr->dr.1≠n) \/ ((∀(j:V) (dr:I×dS),d.fz[j]?=U dr->dr.1≠n) /\ ∃j:V,n=j/\d.sec[j]?=U s)
section
variable {cV:jm} {cO w:c'} {dJ M:eE} {p:sw} {f:V->dp} {da:V} {eb:gP} {y:dS} {dv:dN->c'->Prop} {d:gm} {g:dN}
theorem Y'{s}(A:hy cV cO dJ w M (Y9 p da++yZ p s 0))(c:JS cV cO dJ M p dv s 0)(e:g=G g.frame p.cs:=by kernel_rfl)(m:g.frame.mode=.returning:=by kernel_rfl)(cP:g.frame.defers=[{target:=.collected (da+1),args:=#[]}]:=by kernel_rfl)(k1:g.frame.fn=171:=by kernel_rfl)(eF:g.frame.kind=.normal:=by kernel_rfl)(u4:g.frame.roundOf=cM:=by kernel_rfl)
  (t:g.frame.tmps.getD 4 undef=eV (p.B+2):=by kernel_rfl)(f:g.frame.tmps.getD 5 undef=eV (p.B+3):=by kernel_rfl):dF cV.main cV.F dv g w:=by
 refine A.sp 0 (.deferred cM) (λw h=>alm (dx:=[]) (args:=#[]) (cs:=p.cs) m cP h) (λw A=>?_) (e:=e)
 generalize g.frame=cN at *
 have F:({cN with defers:=[]}:gS)={(base 171).at ⟨cN.tmps,[]⟩ cN.todo with mode:=.returning}:=by have⟨g,i,a,b,d,j,l⟩:=cN;simp only at m k1 eF u4;subst m k1 eF u4;rfl
 rw[F];exact c ⟨cN.tmps,[]⟩ _ _ Z (A.sub nofun) (Y8 t f (A.gt 3).2.1 (A.gt 2).2.1 (A.ne 3) (A.ne 2))
theorem anf(g:Rows dJ p d)(ai:p.len<=1000)(J:∀s,Y_ d p.n s->JS cV cO dJ M p dv s 0){m:V}(d8:p.n=(m))(ab:m<p.Cu){o}(ac:o=x_ p da)(cL:o.state=.ready)(D:o.pending=cM)(ad:o.params=#[25,26]):
  ∀k f w,k<=p.len->hy cV cO dJ w M ((da+2,.loop o)::(Y9 p da++yZ p ⟨#[]⟩ 0))->(∀j z,p.len-k<=j->d.fz[j]?=U z->z.1≠p.n)->dF cV.main cV.F dv (JQ p f da ((p.len:I)-1-(k))) w:=by
 intro k
 induction ae:p.len-k using s6 generalizing k with
 |_ r af=>
 intro f w c6 A S;refine dF.p 4 (dF.c 8 (0<=(p.len:I)-1-(k:I)) (λh=>?_) λh=>dF.p 4 ?_)
 .have⟨j,dL⟩:∃j:V,(p.len:I)-1-(k:I)=(j:I):=⟨p.len-1-k,R⟩;rw[dL]
  have O:j<d.fz.length:=by have:=g.lc;omega
  have⟨b,off,dq,rv,x1⟩:=g.hC j _ (fe O);have⟨z,T⟩:∃z,d.fz[j]=z:=⟨_,Z⟩
  have X:d.fz[j]?=U z:=by rw[fe O,T]
  rw[T]at rv x1;have⟨x,y⟩:=z;refine dF.p 8 ?_;refine A.nt 1 2 0 λw A=>?_;refine dF.Y3 (b:=b) (off:=off) (n:=p.len) (c:=p.cap) (i:=j) 191 2 R (by rw[<-dq];kernel_rfl) λw r=>?_;have A:=A.rel r
  have K:=λi v (h:dJ b i=U v)=>A.K.sub _ _ _ h
  refine dF.eo (u:=.int .i64 x) (v:=.string y) (A.K.hD.mem _ _ _ (K _ _ rv)) (λw r=>have A:=A.rel r;⟨A.K.mD _ _ _ (K _ _ rv),A.K.mD _ _ _ (K _ _ x1)⟩) λw r=>?_;have A:=A.rel r
  have⟨eb,ag⟩:∃eb:gP,⟨b,off+j*2,cM⟩=eb:=⟨_,Z⟩;rw[ag];refine dF.e (g':=tD p f da j eb x y) ?_
  have W:it (tD p f da j eb x y):=kA;refine dO.ng W.run λE fy=>?_;have A:=A.rel fy;have⟨B,C⟩:=aln (P:=cR) (w:=E) (a:=eA (tD p f da j eb x y)) (o:=e5 (tD p f da j eb x y)) (l:=da+2) (f:=.tmp 11) (x:=.tmp 12) (y:=.tmp 16) (ats:=#[3,191]) (r:=o) (u:=.int .i64 j) (v:=.agg #[x,.string y]) c2 c2 c2 c2 (A.gt 0).2.1 ad;have Y:=it.round (main:=cV.main) W B;rw[ac]at Y;refine⟨ane p f da j eb x y,E,_,Y,am7 (A.ne 0) (Ch C),dF.p 1 ?_⟩
  have⟨ana,e⟩:=c7 E;refine A.m7 0 e (.cells #[.int .i64 0,.string ⟨#[]⟩] 191) eV λw A _=>?_;refine A.Y2 1 0 0 (x:=.int .i64 x) (y:=.string y) ⟨Z,Z⟩ ⟨Z,Z⟩ λw A=>?_
  refine A.sp 1 (.loop {o with state:=.busy}) (λw h=>alg (cs:=(tD p f da j eb x y).frame::(tD p f da j eb x y).callers) c2 c2 c2 c2 h cL) λw A=>?_
  refine dF.p 4 ?_;refine A.nt 0 0 0 λw A=>?_;refine A.nt 2 6 0 λw A=>?_;refine dF.c 30 (x=p.n) (λq=>dF.p 4 ?_) λq=>dF.p 3 ?_
  .refine A.nt 0 0 1 λw A=>?_;refine A.st 0 5 0 (.string y) λw A=>?_;refine A.st 1 4 0 (.int .i64 0) λw A=>?_
   refine A.sp 1 (.loop {o with state:=.done,pending:=U .ret}) (λw h=>alj (c:=(tD p f da j eb x y).frame) (cs:=(tD p f da j eb x y).callers) (r:={o with state:=.busy}) c2 c2 c2 c2 h) λw A=>?_
   refine dF.q (JR p da [.endRangeFunc (da+2)]) 5 ?_
   refine A.sp 1 (.loop {o with state:=.exhausted,pending:=U .ret}) (λw h=>Ya (cs:=p.cs) (k:=(FP p da).todo.tail) (r:={o with state:=.done,pending:=U .ret}) c2 c2 h (.inr Z)) λw A=>?_
   exact dF.p 1 (Y' A.hY.hY (J y (.inl ⟨j,(x,y),X,q,Z,λdc dr Q H=>S dc dr R H⟩)))
  .refine A.sp 1 (.loop {o with state:=.ready,pending:=cM}) (λw h=>ali (c:=(tD p f da j eb x y).frame) (cs:=(tD p f da j eb x y).callers) (r:={o with state:=.busy}) c2 c2 c2 c2 h) λw A=>dF.p 13 (dF.h (λf=>JQ p f da (kU .i64 ((j:I)-1))) λf=>?_)
   rw[show({o with state:=.ready,pending:=cM}:Loop)=o by have⟨aj,ak,al,am,an,ao,ap,aq⟩:=o;simp only at cL D;subst cL D;rfl]at A;rw[show kU .i64 ((j:I)-1)=(p.len:I)-1-((k+1:V):I) by rw[rp];omega];refine af (p.len-(k+1)) R (k+1) Z _ _ R A.hY λdc dr Q H=>?_
   by_cases e:dc=j
   .subst e;rw[X]at H
    cases H
    exact q
   .exact S dc dr R H
 .have ae:k=p.len:=R
  have dj:m<d.sec.length:=by have:=g.ls;omega
  have⟨b,off,dq,rv⟩:=g.gB m _ (fe dj);have⟨y,aa⟩:∃y,d.sec[m]=y:=⟨_,Z⟩;rw[aa]at rv
  refine dF.e (g':=JR p da [.endRangeFunc (da+2)]) ?_;refine A.sp 0 (.loop {o with state:=.exhausted}) (λw h=>Ya (cs:=p.cs) (k:=(FP p da).todo.tail) (r:=o) c2 c2 h (.inl cL)) λw A=>?_
  have ah:∀oM,oM=[]->G {(JR p da [.endRangeFunc (da+2)]).frame with todo:=oM++(FP p da).todo.tail} p.cs=JR p da []:=λoM h=>by subst h;kernel_rfl
  rw[ah _ (show(o.pending.map alk).toList=[] by rw[D];rfl)]
  refine dF.p 4 ?_;refine A.nt 0 6 0 λw A=>?_;refine A.nt 0 5 0 λw A=>?_;refine dF.Y3 (b:=b) (off:=off) (n:=p.Cu) (c:=p.Y4) (i:=m) 9 1 ab (by rw[<-dq];kernel_rfl) (λw r=>?_) (by rw[<-d8];kernel_rfl);have A:=A.rel r
  rw[ID];refine dO.load (t:=9) (x:=.tmp 36) (eb:=⟨b,off+m,cM⟩) (v:=.string y) kA c2 c2 (λw=>c2) (λw r=>(A.rel r).K.mD _ _ _ (A.K.sub _ _ _ rv)) (λw es r he=>Xf (A.K.hD.mem _ _ _ (A.K.sub _ _ _ rv)) he w) λw r=>?_;have A:=A.rel r
  generalize (⟨b,off+m,cM⟩:gP)=eb;refine A.st 0 4 0 (.string y) λw A=>?_;refine A.st 2 3 0 (.int .i64 0) λw A=>?_
  exact Y' A.hY (J y (.inr ⟨λdc dr h=>S dc dr R h,m,d8,by rw[fe dj,aa]⟩))
end
end
end Dk
end Go.Lk
namespace Go.Lk
open Go
def ang(d:gm)(n:I):Prop:=pu d/\0<=n/\n<d.sec.length
open Classical in
def qQ(d:gm)(n:I):dS×I:=if ang d n then(i' d n,0) else(fI,1)
def Za{M x y vs}(h:vs.size=2)(cP:∀(i:V) (d v),[x,y][i]?=U d->vs[i]?=U v->e1 M d v):∃u v,vs=#[u,v] /\e1 M x u/\e1 M y v:=by
 have⟨l⟩:=vs
 match l,h,cP with
 | [u,v],_,cP=>exact⟨u,v,Z,cP 0 _ _ Z Z,cP 1 _ _ Z Z⟩
end Go.Lk
namespace Go.Lk.Dk
open Go Go.Conc Go.Proofs Go.Lib
set_option maxRecDepth 100000
def Zb{M l u}(h:e1 M (.dk l) u):∃eb c,u=.slice eb l.length c/\ ∀i e,l[i]?=U e->∃b off,eb=U ⟨b,off,cM⟩ /\ ∀j x,e[j]?=U x->∃v,M b (off+i*e.length+j)=U v/\e1 M x v:=by
 have⟨d,cP⟩:∃d,c3.dk l=d:=⟨_,Z⟩;rw[cP]at h
 cases h with
 |emp a c=>simp_all
 |dk f b off cap cQ val dw c7 d8 g=>
  cases cP
  grind
 |_=>cases cP
def anh{d}{n:I}{s}(h:pu d)(cW:0<=n)(Q:n<d.sec.length)
  (g:Y_ d n s):qQ d n=(s,0):=by
 rw[qQ,if_pos ⟨h,cW,Q⟩];apply eR (λz=>(z,(0:I)));rcases g with⟨k,z,Q,c,rfl,eS⟩|⟨Q,j,c,eS⟩
 .obtain⟨f,rfl⟩:=fM.1 Q;exact amW f c (λj e b=>eS j _ e (fe b)) _
 .rw[i',Pp λz l=>?_]
  .simp_all
  .obtain⟨i,cK,rfl⟩:=kg.1 l;exact Q i _ (fe cK)
def ani(ar:cR.follows .mixedOrders=N)(d n):dX cR 171 [iF d,.int .i64 n] (.dP [.str (qQ d n).1,.int .i64 (qQ d n).2]):=by
 refine⟨⟨z3,anj,c2,c2⟩,λcV w M vs f' dq cP=>?_⟩;obtain⟨u,v,rfl,l,cU⟩:=Za cP.1 cP.2
 cases cU
 have dj:=l
 obtain⟨us,rfl,t⟩:∃us:ea dp,u=.agg us/\ (us.size=2/\ ∀(i:V) (x:c3) (v:dp),[c3.dk (d.sec.map hN),.dk (d.fz.map Go.Lk.fw)][i]?=U x->us[i]?=U v->e1 M x v):=by
  cases l with
  |agg c us dw au=>grind
 obtain⟨s1,s2,rfl,Q,c5⟩:=Za t.1 t.2;obtain⟨wD,y,rfl,ab⟩:=Zb Q;obtain⟨a,cap,rfl,ac⟩:=Zb c5
 have ad:(d.sec.map hN).length=d.sec.length:=ef ..
 have ae:(d.fz.map Go.Lk.fw).length=d.fz.length:=ef ..
 rw[ad,ae]at dj⊢;refine Uk (c:=z3.body.getD .skip) anj c2 c2 λcs dv af=>?_;have A:=hy.init f' dq
 obtain⟨q,D,E,F,H,ag,ah,ai,aj,ak⟩:∃q:sw,q.n=n/\q.cs=cs/\q.S=.slice wD d.sec.length y/\q.C=.slice a d.fz.length cap/\q.Cu=d.sec.length/\q.len=d.fz.length/\w.heap.size=q.B/\q.wD=wD/\q.a=a:=⟨⟨wD,d.sec.length,y,a,d.fz.length,cap,n,cs,w.heap.size⟩,Z,Z,Z,Z,Z,Z,Z,Z,Z⟩
 have cX:Rows M q d:=by
  refine⟨ag,ah,λj s c7=>?_,λj x O=>?_⟩
  .have⟨b,off,e,k⟩:=ab j (hN s) (by rw[iO,c7];rfl);have⟨v,k1,eF⟩:=k 0 (.str s) Z
   cases eF
   exact⟨b,off,aj.trans e,by simpa[hN]using k1⟩
  .have⟨b,off,e,k⟩:=ac j (Go.Lk.fw x) (by rw[iO,O];rfl);have⟨v,k1,eF⟩:=k 0 (.int .i64 x.1) Z;have⟨fN,u4,al⟩:=k 1 (.str x.2) Z
   cases eF
   cases al
   exact⟨b,off,ak.trans e,by simpa[Go.Lk.fw]using k1,by simpa[Go.Lk.fw]using u4⟩
 have r:∀(s:dS) (k:I) J,qQ d n=(s,k)->JS cV w M J q dv s k:=λs k J c6 d9 todo w' dG am an=>by
  rw[E];refine af _ _ _ dG ⟨_,an,?_⟩;rw[c6]
  exact am.K.out (.dP _ _ Z λi x v O cU=>by
   match i with
   |0=>simp at O cU;subst O cU;exact .str _
   |1=>simp at O cU;subst O cU;exact .int _ _
   |i+2=>simp at O)
 refine dF.e (g':=Pq q) ?_ (by rw[Pq,D,E,F,H];rfl)
 refine dF.p 2 ?_;refine A.m7 0 ai (.cells #[q.S,q.C] 43) eV λw A b=>?_;refine A.m7 0 b (.cells #[q.n] 3) eV λw A b=>?_;refine A.m7 0 b (.cells #[.string ⟨#[]⟩] 9) eV λw A b=>?_;refine A.m7 4 b (.cells #[.int .i64 0] 47) eV λw A b=>?_
 refine dF.eo (off:=0) (A.ne 3) (λw r=>have c:=((A.rel r).gt 3).2.1;⟨m5 c Z,m5 c Z⟩) λw hZ=>?_;have A:=A.rel hZ;refine A.call (FM d) (zO (by rwa[<-F,<-H]at dj)) λao w v A ap=>?_
 cases ap
 cases hb:Ct d with
 |false=>exact dF.p 15 (dF.h (FO q) λf=>Ps A (r _ _ _ (cT λg=>by have:=z2.2 g.1;rw[hb]at this;cases this)))
 |true=>
 have T:=z2.1 hb;refine dF.p 2 ?_;refine A.nt 1 2 0 λw A=>?_;refine dF.c 13 (q.n<0) (λcL=>dF.p 11 (dF.h (FO q) λf=>Ps A (r _ _ _ (cT λg=>by have:=g.2.1;omega)))) λcL=>dF.p 2 ?_
 refine A.nt 1 2 0 λw A=>?_;refine A.nt 4 3 0 λw A=>?_;refine dF.c 21 ((q.Cu:I) <=q.n) (λdr=>dF.p 2 (dF.h (FO q) λf=>Ps A (r _ _ _ (cT λg=>by have:=g.2.2;omega)))) λdr=>dF.p 6 ?_
 refine A.nt 3 3 1 λw A=>?_;have⟨da,b⟩:=c7 w;refine A.m7 0 b (.cells #[q.C] 41) eV λw A b=>dF.q (rx q da) 11 (dF.e (g':=G (rx q da).frame q.cs) (dO.ng Z λC X=>?_));have A:=A.rel X
 have S:=X.size.trans b
 have aa:=alp (P:=cR) (main:=cV.main) (w:=C) (cN:=(rx q da).frame) (cs:=q.cs) (k:=(rx q da).frame.todo.tail) (f:=.tmp 24) (params:=(Cv (rx q da)).1) (assign:=(Cv (rx q da)).2.1) (body:=(Cv (rx q da)).2.2) (h:=289) (cY:=Pr) (c:=Pr.body.getD .skip) (cap:=eV da) c2 c2 c2 c2 c2 Tryz.func289 c2 c2
 rw[S]at aa
 have B:=A.sm S (.deferred (U []));have y:(C.alloc (.deferred (U []))).heap.size=da+2:=by simp[S]
 have c3:=B.sm y (.loop (x_ q da));have W:=A.mV (.deferred (U []));have Y:=B.mV (.loop (x_ q da))
 refine⟨_,_,_,aa,⟨⟨Z,Z,Z,fJ W.size Y.size,λc dg=>(Y.block c dg).trans (W.block c dg)⟩,by simp⟩,?_⟩
 refine dF.e (g':=Y7 q da) (dF.p 2 ?_);refine c3.nt 8 2 0 λw A=>?_;have av:=T.g6;have⟨m,d8⟩:∃m:V,q.n=(m:I):=⟨q.n.toNat,R⟩
 refine dF.h (λf=>JQ q f da (kU .i64 ((q.len:I)-1))) λf=>?_
 rw[show kU .i64 ((q.len:I)-1)=(q.len:I)-1-((0:V):I) by rw[rp];omega];refine anf cX R (λs h=>r s 0 ao (anh T R R (by rwa[D]at h))) d8 R (o:=x_ q da) Z c2 c2 c2 0 _ w (e3 _) A λj z dL aq=>?_
 have:=(fM.1 aq).1;omega
end Go.Lk.Dk
namespace Go.Lk
open Go Go.Proofs
def z4(d n):dX cR 171 [iF d,.int .i64 n] (.dP [.str (qQ d n).1,.int .i64 (qQ d n).2]):=Dk.ani nu d n
end Go.Lk
namespace Go.Lk
open Go.Proofs Go.RowKit
abbrev ld:=dh×I×dS
def l_(o:ld):J c3:=[.bool o.1,o.2.1,.str o.2.2]
def Pt:∀(l:J ld),gN 3 (l.map l_)=N
 | []=>rfl|_::r=>Pt r
structure ix(d:gm):Prop where
 u9:pu d
 n:35<=d.sec.length
open Classical in
def FQ(d:gm):dh:=gV (ix d)
def z5{d}:FQ d=N↔ix d:=by simp[FQ]
def Zc{d}:FQ d=L↔¬ix d:=by simp[FQ]
def x'(p:I):dh:=gV (1<=p)&&decide (p<=16)
def wE{p}:x' p=N↔1<=p/\p<=16:=by simp[x']
def Pu(d):dX cR 169 [iF d] (.bool (FQ d)):=by
 refine d6 Tryz.func169 1 Z c2 (cO ?_)
 have m:(d.sec.map hN).length=d.sec.length:=ef ..
 refine dH ?_;refine df (FM d) (c9 ?_)
 refine m8 (λQ=>?_) λQ=>?_
 .have cX:=z2.1 Q;refine dH (dd Z (eR c3.bool ?_))
  by_cases h:(35:I) <= ((d.sec.map hN).length:I)
  .rw[decide_eq_true h];exact(z5.2 ⟨cX,R⟩).symm
  .rw[decide_eq_false h];exact(Zc.2 λq=>by have:=q.n;omega).symm
 .exact dd Z (eR c3.bool (Zc.2 λq=>x9.1 Q q.u9).symm)
def Zd(p):dX cR 170 [.int .i64 p] (.bool (x' p)):=by
 refine d6 Tryz.func170 1 Z c2 (cO ?_)
 refine pp (λQ=>?_) λQ=>?_
 .exact dd Z (eR c3.bool (by simp[x',Q]))
 .exact dd Z (eR c3.bool (by simp[x',Q]))
def ya(p)(h:x' p=N):dX cR 172 [p] (.int .i64 (2*p+1)):=by have cU:=wE.1 h;refine d6 Tryz.func172 1 Z c2 (c9 ?_);rfl
def ank:dS:={data:=#[0,0,0,0,0,0,0,0,0,0,0,0,0,0,0,0]}
def Ze:ank=jE:=JN f0
def yb(p:V):dS:=qx [74,(p:I)]++k0 14
def Pv(p):(yb p).size=16:=by rfl
def Zf(p:V)(h:p<=16):dX cR 290 [p] (.str (yb p)):=by refine d6 Tryz.func290 1 Z c2 (cO ?_);refine lZ (YA R R) (c9 ?_);refine pd (l:=2) c1 (c9 ?_);rw[show ByteArray.extract {data:=#[0,0,0,0,0,0,0,0,0,0,0,0,0,0,0,0]} 2 (ByteArray.size {data:=#[0,0,0,0,0,0,0,0,0,0,0,0,0,0,0,0]})=k0 14 from by rfl];exact fC (by rw[YM,wB];simp_all) (c9 (dd Z Z))
def pw(n:I)(s:dS):ld:=(L,n,s)
def tE:ld:=(N,0,fI)
def Pw(n a b)(cW:0<=n)(Q:n<=1000):j5 cR 237 [.int .i64 n,.str a,.str b] ([pw n a,pw (n+1) b,tE].map l_) 3:=by refine lH Tryz.func237 3 Z c2 (c9 ?_);exact⟨6,Z,.inl ⟨17,Z,Z⟩⟩
def JT(s):j5 cR 238 [.str s] ([pw 0 s,tE].map l_) 3:=by refine lH Tryz.func238 1 Z c2 (c9 ?_);exact⟨2,Z,.inl ⟨7,Z,Z⟩⟩
def u_(p:V)(s:dS):J ld:=[pw 1 (s.extract 0 16),pw 2 (s.extract 16 32),tE]++[pw 0 (yb p),tE]++[pw (2*(p:I)+1) (s.extract 0 16),pw (2*(p:I)+1+1) (s.extract 16 32),tE]++[pw 0 jE,tE]
open Classical in
def lf(d:gm)(p:I)(s:dS):J ld×I:=if ix d/\ (1<=p/\p<=16) /\s.size=32 then(u_ p.toNat s,0) else([],1)
def JU(d p s)(e:s.size<=1000000):dX cR 285 [iF d,.int .i64 p,.str s] (.dP [.dk ((lf d p s).1.map l_),.int .i64 (lf d p s).2]):=by
 refine d6 Tryz.func285 3 Z c2 (c9 ?_);refine df (Pu d) (c9 ?_)
 refine j9 (λQ=>?_) λQ=>?_
 .rw[lf,cT (λq=>by rw[z5.2 q.1]at Q;simp_all)];rfl
 have g:=z5.1 (by simpa using Q);refine dH ?_;refine df (Zd p) (c9 ?_)
 refine j9 (λa=>?_) λa=>?_
 .rw[lf,cT (λq=>by rw[wE.2 q.2.1]at a;simp_all)];rfl
 have dc:=wE.1 (show x' p=N by simp_all);refine dH ?_
 refine kH (λf=>?_) λf=>?_
 .rw[lf,cT (λq=>f R)];exact dd Z Z
 have f:s.size=32:=R;obtain⟨k,rfl⟩:∃k:V,p=(k:I):=⟨p.toNat,R⟩;rw[lf,if_pos ⟨g,dc,f⟩,gl,u_];refine dH ?_;refine oE (h:=16) R (c9 ?_);refine pd (l:=16) R (c9 ?_);have⟨x,c⟩:∃x,s.extract 0 16=x:=⟨_,Z⟩;have⟨y,b⟩:∃y,s.extract 16 32=y:=⟨_,Z⟩;rw[c,b];rw[f,b];refine gK (Pw 1 x y R R) (c9 ?_);refine df (Zf k R) (c9 ?_);refine gK (JT (yb k)) (c9 ?_);refine fV 1000 1000 dt c1 c1 c1 (c9 ?_);refine df (ya k (wE.2 dc)) (c9 ?_);refine gK (Pw (2*(k:I)+1) x y R R) (c9 ?_);refine fV 1000 1000 dt c1 c1 c1 (c9 ?_);rw[show({data:=#[0,0,0,0,0,0,0,0,0,0,0,0,0,0,0,0]}:dS)=jE from Ze];refine gK (JT jE) (c9 ?_);refine fV 1000 1000 dt c1 c1 c1 (c9 ?_);exact dd Z Z
def oR(d:gm)(o:ld):gm:=if o.1=N then wC d else(qP d o.2).1
def u'(d:gm)(l:J ld)(gW:I):gm:=(l.take gW.toNat).foldl oR d
def Zg(d l gW)(g:l.length<=1000000):dX cR 175 [iF d,.dk (l.map l_),.int .i64 gW] (iF (u' d l gW)):=by
 refine d6 Tryz.func175 3 Z c2 (cO ?_)
 have m:(l.map l_).length=l.length:=ef ..
 refine dH ?_;refine eZ (D:=V×gm) (λk=>[(2,.d gW),(3,.ptr 3 0 0),(6,.ptr 6 0 0),(11,.d (.dk (l.map l_))),(12,.d (l.map l_).length),(13,.d (.int .i64 k.1))]) (λk=>[(3,.box [.d (.dk (k.2.sec.map hN)),.d (.dk (k.2.fz.map fw))] L),(6,.box [.nil,.nil] L)])
  (λk=>k.1<=l.length/\ ((k.1:I) <=gW\/k.1=0) /\k.2=(l.take k.1).foldl oR d) (λk=>l.length-k.1) (0,d) ⟨R,.inr Z,Z⟩ (dZ (dT mS lr d0)) ?_
 rintro⟨k,e⟩ ⟨b,c,a⟩;simp only at b c a⊢
 have kt:∀j,gW.toNat=j->(l.take j).foldl oR d=u' d l gW:=λj h=>by rw[u',h]
 conv=>whnf
 refine d3 (λdz=>?_) λdz=>?_
 .have eM:k<l.length:=by omega
  have n:∀x,oR e l[k]=x->(l.take (k+1)).foldl oR d=x:=λx f=>by rwa[lX eM,FR,<-a]
  refine ec R (cO ?_);refine dY (x:=l_ l[k]) iy (c9 ?_)
  refine d3 (λdW=>?_) λdW=>?_
  .refine dH ?_
   have:e=u' d l gW:=by
    rcases c with h|h
    .grind
    .grind
   rw[this];exact dd Z Z
  refine dH ?_
  refine xY (λi=>?_) λi=>?_
  .refine df (amY e) (c9 ?_);exact⟨(k+1,wC e),⟨lV,.inl lV,(n _ (if_pos i)).symm⟩,lV,(dZ (dT mS lr d0))⟩
  .refine df (amZ e l[k].2) (c9 ?_);have s:oR e l[k]=(qP e l[k].2).1:=cT (by simp_all)
   refine iv (λo=>?_) λo=>?_
   .exact⟨(k+1,(qP e l[k].2).1),⟨lV,.inl lV,(n _ s).symm⟩,lV,(dZ (dT mS lr d0))⟩
   .refine dH ?_
    have:(qP e l[k].2).1=e:=by
     rw[qP]at o⊢;split
     .grind
     .rfl
    exact⟨(k+1,e),⟨lV,.inl lV,(n _ (s.trans this)).symm⟩,lV,(dZ (dT mS lr d0))⟩
 .refine dH ?_
  have:e=u' d l gW:=by
   rw[a,u'];rcases c with h|h
   .grind
   .simp_all
  rw[this];exact dd Z Z
def tF(s:dS):V->V->I×dh
 |0,_=>(0,L)
 |n+1,k=>if s=yb k then((k:I),N) else tF s n (k+1)
def wF(s:dS):I×dh:=tF s 16 1
def anl(s):dX cR 236 [.str s] (.dP [(wF s).1,.bool (wF s).2]):=by
 refine d6 Tryz.func236 1 Z c2 (cO ?_);refine eZ (D:=V) (λk=>[(0,.d (.str s)),(4,.d k)]) (λ_=>[])
  (λk=>1<=k/\k<=17/\wF s=tF s (17-k) k) (λk=>17-k) 1 ⟨by omega,by omega,Z⟩ (dZ (dT lr dU d0)) ?_
 rintro k ⟨Q,b,cX⟩;rw[cX]
 conv=>whnf
 refine d3 (λdz=>?_) λdz=>?_
 .have e:17-k=(16-k)+1:=R
  rw[e,tF];refine dH ?_;refine df (Zf k R) (c9 ?_)
  refine pp (λdW=>?_) λdW=>?_
  .rw[if_pos dW];rfl
  .rw[cT dW];exact⟨k+1,⟨by omega,by omega,by simp_all⟩,by omega,(dZ (dT lr dU d0))⟩
 .refine dH ?_
  have a:k=17:=R
  subst a;rfl
def Zh{n}:∀ {l b},b.size=16->(∀w∈l,w.2.size=16)->(pick n l b).size=16
 | [],b,a,_=>a
 |w::r,b,a,h=>by
  show(pick n r (if w.1=n then w.2 else b)).size=16;refine Zh ?_ λx c=>h x (lD _ c);grind
def Px{d}(cX:pu d){n:I}(cW:0<=n)(Q:n<d.sec.length):(i' d n).size=16:=by
 refine Zh ?_ λw hw=>?_
 .rw[fe R,v9];exact cX.s _ _
 .obtain⟨i,cK,rfl⟩:=kg.1 hw;exact(x8.1 (cX.c i cK)).2.2
def awp{d}(h:pu d){n:I}(cW:0<=n)(Q:n<d.sec.length):qQ d n=(i' d n,0):=if_pos ⟨h,cW,Q⟩
def JV(d:gm):J ld:=if(wF (i' d 0)).2=N then [pw (2*(wF (i' d 0)).1+1) (i' d 1),pw (2*(wF (i' d 0)).1+1+1) (i' d 2),tE] else []
open Classical in
def ry(d:gm):J ld:=if ix d then(if i' d 0=jE then [] else JV d++[pw 0 jE,tE]) else []
def Zi{s}:∀ {n k},(tF s n k).2=N->(k) <= (tF s n k).1/\ (tF s n k).1<((k+n:V):I) /\s=yb (tF s n k).1.toNat
 |0,k,h=>by simp[tF]at h
 |n+1,k,h=>by
  rw[tF]at h⊢;split
  .grind
  .rename_i e;rw[cT e]at h;have:=Zi h;grind
def anm(d):j5 cR 174 [iF d] ((ry d).map l_) 3:=by
 refine lH Tryz.func174 1 Z c2 (c9 ?_);refine df (Pu d) (c9 ?_)
 refine j9 (λQ=>?_) λQ=>?_
 .rw[ry,cT (λq=>by rw[z5.2 q]at Q;simp_all)];exact⟨2,Z,.inr hg⟩
 have e:=z5.1 o_;have cX:=e.u9;have cY:=e.n;rw[ry,if_pos e];refine dH ?_;refine df (z4 d 0) (c9 ?_);rw[awp cX c1 R];rw[show({data:=#[0,0,0,0,0,0,0,0,0,0,0,0,0,0,0,0]}:dS)=jE from Ze]
 refine iv (λa=>?_) λa=>?_
 .rw[if_pos a];exact⟨2,Z,.inr hg⟩
 rw[cT a];refine dH ?_;refine df (anl (i' d 0)) (c9 ?_)
 refine iD (λf=>?_) λf=>?_
 .have⟨b,c,_⟩:=Zi (show(tF (i' d 0) 16 1).2=N from f);have b:1<= (wF (i' d 0)).1:=b;have c:(wF (i' d 0)).1<17:=c;refine dH ?_;refine df (z4 d 1) (c9 ?_);rw[awp cX c1 R];refine dH ?_;refine df (z4 d 2) (c9 ?_);rw[awp cX c1 R];have⟨p,O⟩:∃p,(wF (i' d 0)).1=p:=⟨_,Z⟩;rw[JV,if_pos f,O];rw[O]at b c;refine dH ?_;refine df (ya p (wE.2 ⟨R,R⟩)) (c9 ?_);refine gK (Pw (2*p+1) (i' d 1) (i' d 2) R R) (c9 ?_);refine gK (JT jE) (c9 ?_);refine fV 1000 1000 dt c1 c1 c1 (cO ?_);exact⟨2,Z,.inl ⟨42,Z,Z⟩⟩
 .rw[JV,cT eG];refine dH ?_;refine gK (JT jE) (c9 ?_);refine fV 1000 1000 dt c1 c1 c1 (cO ?_);exact⟨2,Z,.inl ⟨45,Z,Z⟩⟩
def p4(d:gm)(p:I)(s:dS):gm×I:=if(lf d p s).2=0 then(u' d (lf d p s).1 ((lf d p s).1.length:V),0) else(d,(lf d p s).2)
def Py(d p s):(lf d p s).1.length<=10:=by
 rw[lf];split
 .simp[u_]
 .simp
def ann(d p s)(a:s.size<=1000000):dX cR 311 [iF d,.int .i64 p,.str s] (.dP [iF (p4 d p s).1,.int .i64 (p4 d p s).2]):=by
 refine d6 Tryz.func311 3 Z c2 (c9 ?_);refine df (JU d p s a) (c9 ?_);have l:=Py d p s
 have m:((lf d p s).1.map l_).length=(lf d p s).1.length:=ef ..
 refine kH (λQ=>?_) λQ=>?_
 .rw[p4,cT Q];exact dd Z Z
 .rw[p4,if_pos Q];refine dH ?_;rw[m];exact df (Zg d (lf d p s).1 ((lf d p s).1.length:V) R) (c9 (dd Z Z))
def ano(d):(ry d).length<=5:=by
 rw[ry];split
 .split
  .simp
  .rw[JV];grind
 .simp
def JW(d:gm):gm:=u' d (ry d) ((ry d).length:V)
def anp(d):dX cR 131 [iF d] (iF (JW d)):=by
 refine d6 Tryz.func131 1 Z c2 (c9 ?_);refine gK (anm d) (cO ?_);have l:=ano d
 have m:((ry d).map l_).length=(ry d).length:=ef ..
 refine dH ?_;rw[m];exact df (Zg d (ry d) ((ry d).length:V) R) (c9 (dd Z Z))
open Classical in
def p5(d:gm)(p:I):dS×I:=if ix d/\1<=p/\p<=16 then(i' d (2*p+1)++i' d (2*p+1+1),0) else(fI,1)
def Zj(d p):dX cR 129 [iF d,.int .i64 p] (.dP [.str (p5 d p).1,.int .i64 (p5 d p).2]):=by
 refine d6 Tryz.func129 2 Z (by kernel_rfl) (c9 ?_);refine df (Pu d) (c9 ?_)
 refine j9 (λQ=>?_) λQ=>?_
 .rw[p5,cT (λq=>by rw[z5.2 q.1]at Q;simp_all)];rfl
 have b:=z5.1 (by simpa using Q);have h:=b.u9;have cY:=b.n;refine dH ?_;refine df (Zd p) (c9 ?_)
 refine j9 (λa=>?_) λa=>?_
 .rw[p5,cT (λq=>by rw[wE.2 q.2]at a;simp_all)];rfl
 have dc:=wE.1 (show x' p=N by simp_all);rw[p5,if_pos ⟨b,dc⟩];refine dH ?_;refine df (ya p (wE.2 dc)) (c9 ?_);refine df (z4 d (2*p+1)) (c9 ?_);rw[awp h R R];refine dH ?_;refine df (ya p (wE.2 dc)) (c9 ?_);refine df (z4 d (2*p+1+1)) (c9 ?_);rw[awp h R R];have fY:=Px h (show 0<=2*p+1 by omega) R;have gY:=Px h (show 0<=2*p+1+1 by omega) R;refine fC eG (c9 ?_);exact dd Z Z
def Zk:dX cR 284 [] (.str (k0 32)):=by refine d6 Tryz.func284 0 Z c2 (cO ?_);refine df (JJ z0 32 c1 c1) (c9 ?_);rfl
def k2(d:gm)(id:I):e_×I:=
 if(p5 d id).2≠0 then(d',(p5 d id).2) else if(lL (p5 d id).1).2≠0 then(d',(lL (p5 d id).1).2) else if(lL (p5 d id).1).1.1≠id then(d',9) else((lL (p5 d id).1).1,0)
def Cw(d id):dX cR 140 [iF d,.int .i64 id] (.dP [.agg (eB (k2 d id).1),.int .i64 (k2 d id).2]):=by
 refine d6 Tryz.func140 2 Z c2 (c9 ?_);refine df (Zj d id) (c9 ?_);rw[k2]
 refine kH (λQ=>?_) λQ=>?_
 .rw[if_pos Q];exact dd Z Z
 rw[cT (λq=>q Q)];refine dH ?_;refine df (amP (p5 d id).1) (c9 ?_)
 refine kH (λa=>?_) λa=>?_
 .rw[if_pos a];exact dd Z Z
 rw[cT (λq=>q a)];refine dH ?_
 refine kH (λb=>?_) λb=>?_
 .rw[if_pos b];exact dd Z Z
 rw[cT (λq=>q b)];refine dH ?_;exact dd Z Z
def Zl(d p s)(a:s.size<=1000000):dX cR 283 [iF d,.int .i64 p,.str s] (.dP [iF (p4 d p s).1,.int .i64 (p4 d p s).2]):=by
 refine d6 Tryz.func283 3 Z c2 (c9 ?_);refine df (ann d p s a) (c9 ?_)
 have c:(p4 d p s).2≠0->(p4 d p s).1=d:=λh=>by
  rw[p4]at h⊢;grind
 refine sq (λQ=>?_) λQ=>?_
 .rw[c Q];exact dd Z Z
 .rw[Q];exact dd Z Z
open Classical in
def qR(d:gm)(x:e_):gm×I:=if gp x=N then p4 d x.1 (l9 x) else(d,1)
def anq(d x):dX cR 287 [iF d,.agg (eB x)] (.dP [iF (qR d x).1,(qR d x).2]):=by
 refine d6 Tryz.func287 2 Z c2 (c9 ?_);have u:=Cs x
 by_cases cX:gp x=N
 .rw[if_pos cX]at u;rw[qR,if_pos cX];have z:=z1 (kJ.1 cX).2.2.2.2;refine df u (c9 ?_);refine df (Zl d x.1 (l9 x) R) (c9 ?_);exact dd Z Z
 .rw[cT cX]at u;rw[qR,cT cX];exact df u (c9 (dd Z Z))
def yc(d:gm)(id:I):gm×I:=p4 d id (k0 32)
def Zm(d id):dX cR 228 [iF d,.int .i64 id] (.dP [iF (yc d id).1,.int .i64 (yc d id).2]):=by refine d6 Tryz.func228 2 Z c2 (c9 ?_);refine df Zk (c9 ?_);refine df (Zl d id (k0 32) (by rw[wB];decide)) (c9 ?_);exact dd Z Z
open Classical in
def sx(d:gm)(x:e_):J ld:=if x.2.1≠0\/x.2.2≠fI then(if gp x=N then(lf d x.1 (l9 x)).1 else []) else(lf d x.1 (k0 32)).1
def Pz{d p s}(h:(lf d p s).2≠0):(lf d p s).1=[]:=by rw[lf]at h⊢;grind
def PA(d x):dX cR 229 [iF d,.agg (eB x)] (.dk ((sx d x).map l_)):=by
 refine d6 Tryz.func229 2 Z c2 (c9 ?_);refine df Zk (c9 ?_);rw[sx]
 refine wq (λQ=>?_) λQ=>?_
 .rw[if_pos (.inl Q)];refine dH ?_;have u:=Cs x
  by_cases cX:gp x=N
  .rw[if_pos cX]at u;rw[if_pos cX];have z:=z1 (kJ.1 cX).2.2.2.2;refine df u (c9 ?_);refine df (JU d x.1 (l9 x) R) (c9 ?_)
   refine sq (λb=>?_) λb=>?_
   .rw[Pz b];exact dd Z Z
   .exact dd Z Z
  .rw[cT cX]at u;rw[cT cX];refine df u (c9 ?_);exact dd Z Z
 .refine dH ?_
  refine wq (λa=>?_) λa=>?_
  .rw[if_pos (.inr a)];refine dH ?_;have u:=Cs x
   by_cases cX:gp x=N
   .rw[if_pos cX]at u;rw[if_pos cX];have z:=z1 (kJ.1 cX).2.2.2.2;refine df u (c9 ?_);refine df (JU d x.1 (l9 x) R) (c9 ?_)
    refine sq (λb=>?_) λb=>?_
    .rw[Pz b];exact dd Z Z
    .exact dd Z Z
   .rw[cT cX]at u;rw[cT cX];refine df u (c9 ?_);exact dd Z Z
  .rw[cT (λq=>q.elim (λq=>q Q) (λq=>q a))];refine dH ?_;refine df (JU d x.1 (k0 32) (by rw[wB];decide)) (c9 ?_)
   refine sq (λb=>?_) λb=>?_
   .rw[Pz b];exact dd Z Z
   .exact dd Z Z
def anr{d id}(h:ix d/\1<=id/\id<=16):k2 d id=if(lL (i' d (2*id+1)++i' d (2*id+1+1))).2≠0 then(d',(lL (i' d (2*id+1)++i' d (2*id+1+1))).2) else if(lL (i' d (2*id+1)++i' d (2*id+1+1))).1.1≠id then(d',9) else((lL (i' d (2*id+1)++i' d (2*id+1+1))).1,0):=by have:p5 d id=(i' d (2*id+1)++i' d (2*id+1+1),0):=if_pos h;rw[k2,this,cT (λq=>q Z)]
def ew.hY{f}(h:ew f):tK f.eh:=⟨by have:=h.eh.len;omega,by rw[h.cnt];exact fJ IQ (by have:=h.ic.gW;omega)⟩
def ew.dl{f}(h:ew f):f.dK.length<=1000000:=by have:=(Dt.tH h.dK).1;omega
def ew.pl{f}(h:ew f):f.dE.length<=8:=by have:=h.ic.gW;rwa[h.len]
structure fW where
 f:hq
 d:gm
 now:I
def oi(p:fW):c3:=.agg [.dk (p.f.cN.map fp),p.f.hand,g9 p.f.eh,.dk (p.f.dE.map eB),g9 p.f.dK,.dk (p.d.sec.map hN),.dk (p.d.fz.map fw),p.now]
def fW.box(p:fW):J dn:=[.d (.dk (p.f.cN.map fp)),.d p.f.hand,.d (g9 p.f.eh),.d (.dk (p.f.dE.map eB)),.d (g9 p.f.dK),.d (.dk (p.d.sec.map hN)),.d (.dk (p.d.fz.map fw)),.d p.now]
def aaa:fW:=⟨ZZ,⟨[],[]⟩,0⟩
def iH(d:gm)(n:I):fW×I:=if(p5 d 1).2≠0\/0<d.fz.length then(aaa,1) else if n<1\/8<n then(aaa,1) else(⟨m_ n.toNat,JW d,0⟩,0)
def aab(d n):dX cR 100 [iF d,.int .i64 n] (.dP [oi (iH d n).1,.int .i64 (iH d n).2]):=by
 refine d6 Tryz.func100 2 Z c2 (cO ?_)
 have m:(d.fz.map fw).length=d.fz.length:=ef ..
 rw[iH];refine dH ?_;refine df (Zj d 1) (c9 ?_)
 refine kH (λQ=>?_) λQ=>?_
 .rw[if_pos (.inl Q)];exact dd Z Z
 refine dH ?_
 refine iv (λa=>?_) λa=>?_
 .rw[if_pos (.inr R)];exact dd Z Z
 rw[cT (λq=>q.elim (λq=>q Q) (λq=>a R))];refine dH ?_;have cY:=PK n
 by_cases c:n<1\/8<n
 .rw[if_pos c,if_pos c]at cY;rw[if_pos c];refine df cY (c9 ?_);exact dd Z Z
 .rw[cT c,cT c]at cY;rw[cT c];refine df cY (c9 ?_);refine df (anp d) (c9 ?_);exact dd Z Z
def oj(p:fW)(n:I):fW:=if n<=0 then p else if 2147483647-p.now<n then ⟨p.f,p.d,2147483647⟩ else ⟨p.f,p.d,p.now+n⟩
def aor(p n)(cW:0<=p.now)(Q:p.now<=2147483647):dX cR 119 [oi p,.int .i64 n] (oi (oj p n)):=by
 refine d6 Tryz.func119 2 Z c2 (cO ?_);rw[oj];refine dH ?_
 refine iv (λa=>?_) λa=>?_
 .rw[if_pos a];exact dd Z Z
 rw[cT a];refine dH ?_
 refine iv (λb=>?_) λb=>?_
 .rw[if_pos b];exact dd Z Z
 rw[cT b];exact dH (dd Z Z)
abbrev P7:=I×I×dS
def aac(a:P7):J c3:=[a.1,a.2.1,.str a.2.2]
def oW(p:fW)(a:P7):fW×e_×I:=
 if(jS p.f a.2.1).2=L\/ (rE p.f.cN (jS p.f a.2.1).1.toNat).2.1=0 then(p,d',12)
 else if a.1=4 then(if(iR p.f a.2.1 a.2.2 p.now).2≠0 then(p,d',(iR p.f a.2.1 a.2.2 p.now).2) else(⟨(iR p.f a.2.1 a.2.2 p.now).1,p.d,p.now⟩,nB (iR p.f a.2.1 a.2.2 p.now).1.dE (jS p.f a.2.1).1.toNat,0))
 else if a.1=5 then(if(mb p.f a.2.1).2≠0 then(p,d',(mb p.f a.2.1).2) else(⟨(mb p.f a.2.1).1,p.d,p.now⟩,d',0))
 else(p,nB p.f.dE (jS p.f a.2.1).1.toNat,0)
def aos{f q b n}(h:(iR f q b n).2=0):(iR f q b n).1.dE.length=f.dE.length:=by rw[iR]at h⊢;grind
def aot(p a)(F:ew p.f)(Q:1<=a.2.1)(f:a.2.1<=16):
  dX cR 165 [oi p,.agg (aac a)] (.dP [oi (oW p a).1,.agg (eB (oW p a).2.1),(oW p a).2.2]):=by
 have h:=tL p.f a.2.1 F.hY F.dl
 have m:(p.f.cN.map fp).length=p.f.cN.length:=ef ..
 have j:(p.f.dE.map eB).length=p.f.dE.length:=ef ..
 refine d6 Tryz.func165 2 Z c2 (cO ?_);rw[oW];refine dH ?_;rcases F.wL (show a.2.1≠0 by omega) with⟨_,n⟩|⟨i,_,c8⟩
 .rw[qW F n R]at h⊢;refine df h (c9 ?_);rw[if_pos (.inl Z)];exact dd Z Z
 rw[qa c8]at h⊢;have cK:=c8.cK;have b:=c8.O;refine df h (c9 ?_);rw[gl,jT cK];refine ec R (cO ?_);refine dY (x:=fp p.f.cN[i]) (by simp[cK]) (c9 ?_)
 refine iv (λd=>?_) λd=>?_
 .rw[if_pos (.inr d)];exact dd Z Z
 rw[cT (λq=>q.elim (λq=>by cases q) d)];refine dH ?_
 refine d3 (λo=>?_) λo=>?_
 .rw[if_pos o];refine dH ?_;refine df (aoj p.f a.2.1 a.2.2 p.now F.hY F.dl) (c9 ?_);have g:=@aos p.f a.2.1 a.2.2 p.now;have⟨r,e⟩:∃r,iR p.f a.2.1 a.2.2 p.now=r:=⟨_,Z⟩;rw[e]at g⊢
  refine kH (λl=>?_) λl=>?_
  .rw[if_pos l];exact dd Z Z
  rw[cT (λq=>q l)];refine dH ?_
  refine d3 (λdz=>?_) λdz=>?_
  .omega
  have k:(r.1.dE.map eB).length=r.1.dE.length:=ef ..
  have c:i<r.1.dE.length:=by have:=g R;omega
  refine dH ?_;refine ec R (cO ?_);refine dY (x:=eB r.1.dE[i]) (by simp[c]) (c9 ?_);rw[nC c];exact dd Z Z
 .rw[cT o];refine dH ?_
  refine d3 (λl=>?_) λl=>?_
  .rw[if_pos l];refine dH ?_;refine df (aoh p.f a.2.1 F.hY F.dl) (c9 ?_);have⟨r,e⟩:∃r,mb p.f a.2.1=r:=⟨_,Z⟩;rw[e]
   refine kH (λdz=>?_) λdz=>?_
   .rw[if_pos dz];exact dd Z Z
   rw[cT (λq=>q dz)];refine e' ?_;exact dd Z Z
  .rw[cT l];refine dH ?_;refine ec R (cO ?_);refine dY (x:=eB p.f.dE[i]) (by simp[b]) (c9 ?_);rw[nC b];exact dd Z Z
def i0(p:fW)(id:I):fW×J ld×I:=
 if(jS p.f id).2=L then(p,[],3)
 else if(qV p.f id).2≠0 then(p,[],(qV p.f id).2)
 else if(qR p.d (nB p.f.dE (jS p.f id).1.toNat)).2≠0 then(p,[],(qR p.d (nB p.f.dE (jS p.f id).1.toNat)).2)
 else(⟨(qV p.f id).1,(qR p.d (nB p.f.dE (jS p.f id).1.toNat)).1,p.now⟩,sx p.d (nB p.f.dE (jS p.f id).1.toNat),0)
def P8(p id)(F:ew p.f)(cW:id≠0):
  dX cR 231 [oi p,.int .i64 id] (.dP [oi (i0 p id).1,.dk ((i0 p id).2.1.map l_),.int .i64 (i0 p id).2.2]):=by
 have h:=tL p.f id F.hY F.dl
 have m:(p.f.dE.map eB).length=p.f.dE.length:=ef ..
 refine d6 Tryz.func231 2 Z (by kernel_rfl) (cO ?_);rw[i0];refine dH ?_;rcases F.wL cW with⟨_,n⟩|⟨i,_,c8⟩
 .rw[qW F n cW]at h⊢;refine df h (c9 ?_);rw[if_pos Z];exact dd Z Z
 rw[qa c8]at h⊢;have b:=c8.O;refine df h (c9 ?_);rw[cT (show ¬N=L by decide),gl,nC b];have⟨x,c⟩:∃x,p.f.dE[i]=x:=⟨_,Z⟩;rw[c];refine ec (by omega) (cO ?_);refine dY (x:=eB x) (by grind) (c9 ?_);refine df (FW p.f id F.hY F.dl) (c9 ?_)
 refine kH (λa=>?_) λa=>?_
 .rw[if_pos a];exact dd Z Z
 rw[cT (λq=>q a)];refine dH ?_;refine df (anq p.d x) (c9 ?_)
 refine kH (λe=>?_) λe=>?_
 .rw[if_pos e];exact dd Z Z
 rw[cT (λq=>q e)];refine dH ?_;refine df (PA p.d x) (c9 ?_);exact dd Z Z
def yg(f:hq)(id:I):hq:=⟨f.cN,f.hand,f.eh,f.dE,f.dK.filter λx=>x.1 !=id⟩
def P_{l n}(h:(Dt.p7 l n).2=N):0<=Dt.gy l n 0:=by rw[Dt.p7]at h;grind
def aad{f p i}(c8:hG f p i):qV f p=if 0<=Dt.gy f.dK p 0 then(yg f p,0) else(f,12):=by
 have cX:=c8.right
 have e:hF f p=((i:I),0):=by rw[hF,if_pos (sD.2 cX),(pA cX.eh).2 ⟨c8.fA,c8.mem⟩];rfl
 rw[qV,e,cT (λq=>q Z),Dt.PH cX.dK]
 by_cases h:0<=Dt.gy f.dK p 0
 .rw[if_pos h,if_pos h];rfl
 grind
def Qa{f}(h:ew f)(p):ew (yg f p):=by
 have⟨g6,a⟩:=P1 (p:=p) h.dK
 by_cases O:0<=Dt.gy f.dK p 0
 .rw[Dt.PH h.dK,if_pos O]at g6 a;exact h.aom g6 λy b=>((a y).1 b).1
 .have e:f.dK.filter (λx=>x.1 !=p)=f.dK:=by
   rw[List.filter_eq_self];intro x c;simp;exact λq=>O (Dt.qT.2 ⟨x,c,q⟩)
  rwa[yg,e]
def aae{f p}(h:0<=Dt.gy f.dK p 0):(yg f p).dK.length<f.dK.length:=by have⟨x,a,e⟩:=Dt.qT.1 h;show(f.dK.filter _).length<_;rw[List.length_filter_lt_length_iff_exists];grind
def Qb(d x):(sx d x).length<=10:=by
 rw[sx];split
 .split
  .exact Py _ _ _
  .simp
 .exact Py _ _ _
def aaf{p id i}(c8:hG p.f id i):i0 p id=if 0<=Dt.gy p.f.dK id 0 then(if(qR p.d (p.f.dE[i]'c8.O)).2≠0 then(p,[],(qR p.d (p.f.dE[i]'c8.O)).2) else(⟨yg p.f id,(qR p.d (p.f.dE[i]'c8.O)).1,p.now⟩,sx p.d (p.f.dE[i]'c8.O),0)) else(p,[],12):=by
 rw[i0,qa c8,cT (show ¬N=L by decide),gl,nC c8.O,aad c8]
 by_cases h:0<=Dt.gy p.f.dK id 0
 .rw[if_pos h,if_pos h,cT (λq=>q Z)]
 .rw[cT h,cT h,if_pos (show(12:I)≠0 by decide)]
def om:V->fW->J ld->fW×J ld×I
 |0,p,l=>(p,l,99)
 |n+1,p,l=>
  if(ht p.f).2.2.2≠0 then(p,l,(ht p.f).2.2.2)
  else if(ht p.f).2.2.1=L then(⟨(ht p.f).1,p.d,p.now⟩,l,0)
  else if(i0 ⟨(ht p.f).1,p.d,p.now⟩ (ht p.f).2.1.1).2.2≠0 then(⟨(ht p.f).1,p.d,p.now⟩,l,(i0 ⟨(ht p.f).1,p.d,p.now⟩ (ht p.f).2.1.1).2.2)
  else om n (i0 ⟨(ht p.f).1,p.d,p.now⟩ (ht p.f).2.1.1).1 (l++(i0 ⟨(ht p.f).1,p.d,p.now⟩ (ht p.f).2.1.1).2.1)
def km(p:fW):fW×J ld×I:=om 17 p []
def aou{f}(h:ew f)(b:(ht f).2.2.2=0)(cP:(ht f).2.2.1=N):
  ∃i,hG (ht f).1 (ht f).2.1.1 i/\0<=Dt.gy (ht f).1.dK (ht f).2.1.1 0/\ (ht f).1.dK=f.dK:=by
 rcases CI h with⟨i,cK,_,e⟩|⟨_,_,e⟩|⟨_,l,a,p,c8,s,A,_,e⟩
 .simp_all
 .simp_all
 .by_cases q:(Dt.p7 f.dK p).2=N
  .rw[if_pos q]at e;rw[e];have g:=c8.dE;exact⟨a,by simp_all,by simp only[];rw[g];exact P_ q,Z⟩
  simp_all
structure aov(ja:fW)(s:V×fW×J ld):Prop where
 fm:ew s.2.1.f
 lt:s.2.1.f.dK.length<s.1
 n:s.1<=17
 len:s.2.2.length+10*s.1<=170
 eq:km ja=om s.1 s.2.1 s.2.2
def aow(p)(c:ew p.f):dX cR 280 [oi p] (.dP [oi (km p).1,.dk ((km p).2.1.map l_),(km p).2.2]):=by
 refine d6 Tryz.func280 1 Z c2 (cO ?_);refine eZ (D:=V×fW×J ld) (λs=>[(1,.ptr 1 0 0),(2,.ptr 2 0 0),(5,.own 47)]) (λs=>[(1,.box s.2.1.box L),(2,.box [.nil,.d (.int .i64 0),.nil,.nil,.nil,.nil,.nil,.d (.int .i64 0)] L),(47,.row (s.2.2.map l_) 3 L)])
  (aov p) (λs=>s.1) (17,p,[]) ⟨c,by have:=c.dl;have:=(Dt.tH c.dK).1;grind,lV,dt,Z⟩ (oI (.row 5 47 3) hg (dT eJ eJ d0)) ?_
 rintro⟨n,q,l⟩ ⟨b,m,cY,o,he⟩;simp only at b m cY o he⊢;rw[he];obtain⟨k,rfl⟩:∃k,n=k+1:=⟨n-1,R⟩;rw[om]
 conv=>whnf
 refine dH ?_;refine df (aol q.f b.hY b.dl) (c9 ?_);have e:=@aou q.f b;have⟨r,dI⟩:∃r,ht q.f=r:=⟨_,Z⟩;rw[dI]at e⊢
 refine kH (λQ=>?_) λQ=>?_
 .rw[if_pos Q];exact dd Z Z
 rw[cT (λq=>q Q)];refine dH ?_
 refine j9 (λc5=>?_) λc5=>?_
 .rw[if_pos rV];exact dd Z Z
 have c5:=rV;rw[cT yI];have⟨i,c8,cP,t⟩:=e Q c5;have u:r.2.1.1≠0:=AN;refine dH ?_;refine df (P8 ⟨r.1,q.d,q.now⟩ r.2.1.1 c8.right u) (c9 ?_);have hw:=@aaf ⟨r.1,q.d,q.now⟩ r.2.1.1 i c8;have⟨w,h⟩:∃w,i0 ⟨r.1,q.d,q.now⟩ r.2.1.1=w:=⟨_,Z⟩;rw[h]at hw⊢
 refine kH (λa=>?_) λa=>?_
 .rw[if_pos a];exact dd Z Z
 rw[cT (λq=>q a)];have v:=cP;rw[if_pos v]at hw
 have j:w.1.f=yg r.1 r.2.1.1/\w.2.1.length<=10:=by
  split at hw
  .rename_i g;rw[hw]at a;exact dQ a g
  .rw[hw];exact⟨Z,Qb _ _⟩
 have y:=Qa c8.right r.2.1.1;have x:=aae cP
 have z:(w.2.1.map l_).length=w.2.1.length:=ef ..
 have A:(l.map l_).length=l.length:=ef ..
 refine dH ?_;refine fC (Pt _) (cO ?_);refine fV 1000 1000 R c1 c1 c1 (cO ?_);refine⟨(k,w.1,l++w.2.1),⟨by simp only[];rwa[j.1],by simp only[];rw[j.1];rw[t]at x;omega,lV,SJ,?_⟩,lV,dZ (dT ⟨?_,?_,?_,dU⟩ ⟨?_,?_,?_,dU⟩ ⟨?_,?_,?_,?_⟩)⟩
 .simp only[];rw[he,om,dI,cT (λq=>q Q),cT yI,h,cT (λq=>q a)]
 rotate_left 5
 .rw[jt];kernel_rfl
 all_goals kernel_rfl
def J8{f}(h:ew f):ew (ht f).1:=by
 rcases CI h with⟨i,cK,_,e⟩|⟨_,_,e⟩|⟨_,l,a,p,c8,s,A,_,e⟩
 .simp_all
 .simp_all
 .rw[e];split
  .exact A.right
  .exact ew.rel A
def aox{f}(h:ew f)(id):ew (qV f id).1:=by
 rcases ve f id with e|⟨i,e,c8⟩
 .rwa[qV,if_pos e]
 .rw[aad c8];split
  .exact Qa h id
  .exact h
def Qc{p}(h:ew p.f)(id):ew (i0 p id).1.f:=by
 rw[i0];split
 .exact h
 split
 .exact h
 split
 .exact h
 .exact aox h id
def aag:∀n p l,ew p.f->ew (om n p l).1.f
 |0,p,l,h=>h
 |n+1,p,l,h=>by
  rw[om];split
  .exact h
  split
  .exact J8 h
  split
  .exact J8 h
  .exact aag n _ _ (Qc (p:=⟨(ht p.f).1,p.d,p.now⟩) (J8 h) _)
def aoy{p}(h:ew p.f):ew (km p).1.f:=aag 17 p [] h
abbrev sF:=fW×e_×J ld×I
def Ac(r:sF):c3:=.dP [oi r.1,.agg (eB r.2.1),.dk (r.2.2.1.map l_),r.2.2.2]
def rF(p:fW)(x:e_)(gb:dh):sF:=
 if(km p).2.2≠0 then((km p).1,d',[],(km p).2.2)
 else if(mI (km p).1.f x (km p).1.now gb).2≠0 then((km p).1,d',[],(mI (km p).1.f x (km p).1.now gb).2)
 else(⟨(mI (km p).1.f x (km p).1.now gb).1,(km p).1.d,(km p).1.now⟩,x,(km p).2.1,0)
def aah(p x gb)(F:ew p.f):dX cR 226 [oi p,.agg (eB x),.bool gb] (Ac (rF p x gb)):=by
 have f:=aoy F;refine d6 Tryz.func226 3 Z c2 (cO ?_);rw[rF];refine dH ?_;refine df (aow p F) (c9 ?_);have⟨r,c⟩:∃r,km p=r:=⟨_,Z⟩;rw[c]at f⊢
 refine kH (λQ=>?_) λQ=>?_
 .rw[if_pos Q];exact dd Z Z
 rw[cT (λq=>q Q)];refine dH ?_;refine df (aok r.1.f x r.1.now gb f.hY f.dl) (c9 ?_);have⟨g,b⟩:∃g,mI r.1.f x r.1.now gb=g:=⟨_,Z⟩;rw[b]
 refine kH (λa=>?_) λa=>?_
 .rw[if_pos a];exact dd Z Z
 rw[cT (λq=>q a)];refine dH ?_;exact dd Z Z
def tO(p:fW)(id:I):sF:=
 if(jS p.f id).2=N then(if(lN p.f id).2≠0 then(p,d',[],(lN p.f id).2) else(⟨(lN p.f id).1,p.d,p.now⟩,nB (lN p.f id).1.dE (jS p.f id).1.toNat,[],0))
 else if(k2 p.d id).2≠0 then(p,d',[],(k2 p.d id).2) else rF p (k2 p.d id).1 L
def aoz{f q}:(lN f q).1.dE=f.dE:=by
 rw[lN]
 repeat' split
 all_goals rfl
def aoA(p id)(F:ew p.f)(cW:id≠0):dX cR 160 [oi p,.int .i64 id] (Ac (tO p id)):=by
 have h:=tL p.f id F.hY F.dl;refine d6 Tryz.func160 2 Z (by kernel_rfl) (cO ?_);rw[tO];refine dH ?_;rcases F.wL cW with⟨_,n⟩|⟨i,_,c8⟩
 .rw[qW F n cW]at h⊢;refine df h (c9 ?_);rw[cT (show ¬L=N by decide)];refine df (Cw p.d id) (c9 ?_);have⟨g,d⟩:∃g,k2 p.d id=g:=⟨_,Z⟩;rw[d]
  refine kH (λQ=>?_) λQ=>?_
  .rw[if_pos Q];exact dd Z Z
  rw[cT (λq=>q Q)];refine dH ?_;refine df (aah p g.1 L F) (c9 ?_);exact dd Z Z
 .rw[qa c8]at h⊢;have c:=c8.O;refine df h (c9 ?_);rw[if_pos Z];refine df (aof p.f id F.hY F.dl) (c9 ?_);have b:=@aoz p.f id;have⟨r,e⟩:∃r,lN p.f id=r:=⟨_,Z⟩;rw[e]at b⊢
  refine kH (λQ=>?_) λQ=>?_
  .rw[if_pos Q];exact dd Z Z
  rw[cT (λq=>q Q)]
  have a:i<r.1.dE.length:=by rwa[b]
  have m:(r.1.dE.map eB).length=r.1.dE.length:=ef ..
  refine dH ?_;refine ec (by omega) (cO ?_);refine dY (x:=eB r.1.dE[i]) (by simp[a]) (c9 ?_);rw[gl,nC a];exact dd Z Z
def tP(p:fW)(id:I):sF:=
 if(jS p.f id).2=N then(p,d',[],4)
 else if(k2 p.d id).2=3 then rF p (id,1,fI) N
 else if(k2 p.d id).2=0 then(p,d',[],4) else(p,d',[],(k2 p.d id).2)
def aoB(p id)(F:ew p.f)(cW:id≠0):dX cR 161 [oi p,.int .i64 id] (Ac (tP p id)):=by
 have h:=tL p.f id F.hY F.dl;refine d6 Tryz.func161 2 Z (by kernel_rfl) (cO ?_);rw[tP];refine dH ?_;rcases F.wL cW with⟨_,n⟩|⟨i,_,c8⟩
 .rw[qW F n cW]at h⊢;refine df h (c9 ?_);rw[cT (show ¬L=N by decide)];refine df (Cw p.d id) (c9 ?_);have⟨g,b⟩:∃g,k2 p.d id=g:=⟨_,Z⟩;rw[b]
  refine iv (λQ=>?_) λQ=>?_
  .rw[if_pos Q];exact df (aah p (id,1,fI) N F) (c9 (dd Z Z))
  rw[cT Q];refine dH ?_
  refine iv (λa=>?_) λa=>?_
  .rw[if_pos a];exact dd Z Z
  rw[cT a];exact dH (dd Z Z)
 .rw[qa c8]at h⊢;refine e' ?_;rw[if_pos Z];exact dd Z Z
def vf(p next:fW)(id:I):sF:=
 if(k2 p.d id).2=3 then(next,d',[],0)
 else if(yc p.d id).2≠0 then(p,d',[],(yc p.d id).2)
 else(⟨next.f,(yc p.d id).1,next.now⟩,d',sx p.d (id,0,fI),0)
def wM(p:fW)(id:I):sF:=
 if(jS p.f id).2=N then
  (if 0<(rE p.f.cN (jS p.f id).1.toNat).2.1 then(p,d',[],6)
   else if(og p.f id).2≠0 then(p,d',[],(og p.f id).2) else vf p ⟨(og p.f id).1,p.d,p.now⟩ id)
 else if(k2 p.d id).2≠0 then(p,d',[],3) else vf p p id
def aoC(p id)(F:ew p.f)(cW:id≠0):dX cR 162 [oi p,.int .i64 id] (Ac (wM p id)):=by
 have h:=tL p.f id F.hY F.dl
 have m:(p.f.cN.map fp).length=p.f.cN.length:=ef ..
 refine d6 Tryz.func162 2 Z (by kernel_rfl) (cO ?_);rw[wM];refine dH ?_;have⟨g,a⟩:∃g,k2 p.d id=g:=⟨_,Z⟩;rcases F.wL cW with⟨_,n⟩|⟨i,_,c8⟩
 .rw[qW F n cW]at h⊢;refine df h (c9 ?_);rw[cT (show ¬L=N by decide)];refine df (Cw p.d id) (c9 ?_);rw[a]
  refine kH (λQ=>?_) λQ=>?_
  .rw[if_pos Q];exact dd Z Z
  rw[cT (λq=>q Q)];refine dH ?_;rw[vf,a]
  refine iv (λk1=>?_) λk1=>?_
  .rw[if_pos k1];exact dd Z Z
  rw[cT k1];refine dH ?_;refine df (Zm p.d id) (c9 ?_);have⟨e,c⟩:∃e,yc p.d id=e:=⟨_,Z⟩;rw[c]
  refine kH (λeF=>?_) λeF=>?_
  .rw[if_pos eF];exact dd Z Z
  rw[cT (λq=>q eF)];refine dH ?_;refine df (PA p.d (id,0,fI)) (c9 ?_);exact dd Z Z
 .rw[qa c8]at h⊢;have cK:=c8.cK;refine df h (c9 ?_);rw[if_pos Z,gl,jT cK];refine ec (by omega) (cO ?_);refine dY (x:=fp p.f.cN[i]) (by simp[cK]) (c9 ?_)
  refine iv (λQ=>?_) λQ=>?_
  .rw[if_pos Q];exact dd Z Z
  rw[cT Q];refine dH ?_;refine df (Cw p.d id) (c9 ?_);rw[a];refine dH ?_;refine df (aoi p.f id F.hY F.dl) (c9 ?_);have⟨r,d⟩:∃r,og p.f id=r:=⟨_,Z⟩;rw[d]
  refine kH (λb=>?_) λb=>?_
  .rw[if_pos b];exact dd Z Z
  rw[cT (λq=>q b)];refine dH ?_;rw[vf,a]
  refine iv (λk1=>?_) λk1=>?_
  .rw[if_pos k1];exact dd Z Z
  rw[cT k1];refine dH ?_;refine df (Zm p.d id) (c9 ?_);have⟨e,c⟩:∃e,yc p.d id=e:=⟨_,Z⟩;rw[c]
  refine kH (λeF=>?_) λeF=>?_
  .rw[if_pos eF];exact dd Z Z
  rw[cT (λq=>q eF)];refine dH ?_;refine df (PA p.d (id,0,fI)) (c9 ?_);exact dd Z Z
def CJ(p:fW)(id:I):sF:=
 if(jS p.f id).2=L then(if(k2 p.d id).2≠0 then(p,d',[],3) else(p,d',[],0))
 else if(Dt.p7 p.f.dK id).2=L then(p,d',[],0)
 else if(i0 p id).2.2≠0 then(p,d',[],(i0 p id).2.2) else((i0 p id).1,d',(i0 p id).2.1,0)
def aoD(p id)(F:ew p.f)(cW:id≠0):dX cR 163 [oi p,.int .i64 id] (Ac (CJ p id)):=by
 refine d6 Tryz.func163 2 Z c2 (cO ?_);rw[CJ];refine dH ?_;refine df (tL p.f id F.hY F.dl) (c9 ?_)
 refine iD (λQ=>?_) λQ=>?_
 .rw[if_pos o_];refine dH ?_;refine df (Cw p.d id) (c9 ?_);have⟨g,b⟩:∃g,k2 p.d id=g:=⟨_,Z⟩;rw[b]
  refine kH (λa=>?_) λa=>?_
  .rw[if_pos a];exact dd Z Z
  rw[cT (λq=>q a)];refine dH ?_;exact dd Z Z
 rw[cT o_];refine dH ?_;refine df (Dt.Zt p.f.dK id F.dl) (c9 ?_)
 refine iD (λeS=>?_) λeS=>?_
 .rw[if_pos GU];refine dH ?_;exact dd Z Z
 rw[cT GU];refine dH ?_;refine df (P8 p id F cW) (c9 ?_);have⟨w,hw⟩:∃w,i0 p id=w:=⟨_,Z⟩;rw[hw]
 refine kH (λc=>?_) λc=>?_
 .rw[if_pos c];exact dd Z Z
 rw[cT (λq=>q c)];refine dH ?_;exact dd Z Z
def oo(p:fW):J I->fW->J ld->sF
 | [],q,l=>(q,d',l,0)
 |id::r,q,l=>if(i0 q id).2.2≠0 then(p,d',[],(i0 q id).2.2) else oo p r (i0 q id).1 (l++(i0 q id).2.1)
def wN(p:fW)(a:I):sF:=oo p (Dt.oT p.f.dK p.now a) p []
def J9(p id):(i0 p id).2.1.length<=10:=by
 rw[i0]
 repeat' split
 all_goals first|exact Qb _ _|simp
def Qe{l now gD id}(h:id∈Dt.oT l now gD):Dt.ha l=N/\ ∃t,(id,t)∈l/\gD<=now-t:=by
 rw[Dt.oT]at h;split at h
 .cases h
 .rename_i q;have⟨x,a,e⟩:=J_.1 h;rw[Dt.va]at e;grind
def Qf{l now gD}(h:Dt.ha l=N):(Dt.oT l now gD).length<=16:=by have a:=(Dt.tH h).1;rw[Dt.oT];grind
def aai{l}(h:Dt.ha l=N){x}(a:x∈l):1<=x.1/\x.1<=16/\0<=x.2:=by obtain⟨i,cK,rfl⟩:=kg.1 a;have:=(Dt.tH h).2 i cK;omega
structure aoF(p:fW)(lO:J I)(s:V×fW×J ld):Prop where
 le:s.1<=lO.length
 fm:ew s.2.1.f
 len:s.2.2.length<=10*s.1
 eq:oo p lO p []=oo p (lO.drop s.1) s.2.1 s.2.2
def aoG(p a)(b:ew p.f)(cY:p.now<=2147483647):dX cR 164 [oi p,.int .i64 a] (Ac (wN p a)):=by
 have e:∀id∈Dt.oT p.f.dK p.now a,id≠0:=λid h=>by
  have⟨Q,t,c5,_⟩:=Qe h;have:=aai Q c5;omega
 have i:=Qf (now:=p.now) (gD:=a) b.dK;refine d6 Tryz.func164 2 Z c2 (c9 ?_);refine df (Dt.aoE p.f.dK p.now a b.dl R) (c9 ?_);rw[wN];have⟨lO,j⟩:∃lO,Dt.oT p.f.dK p.now a=lO:=⟨_,Z⟩;rw[j]at e i⊢
 have r:(lO.map hT).length=lO.length:=ef ..
 refine eZ (D:=V×fW×J ld) (λs=>[(2,.ptr 2 0 0),(4,.ptr 4 0 0),(5,.ptr 5 0 0),(8,.ptr 8 0 0),(9,.own 43),(22,.d (Ft lO)),(23,.d (lO.map hT).length),(24,.d s.1)])
  (λs=>[(2,.box p.box L),(4,.box [.nil,.d (.int .i64 0),.nil,.nil,.nil,.nil,.nil,.d (.int .i64 0)] L),(5,.box [.d (.int .i64 0),.d (.int .i64 0),.d (.str fI)] L),(8,.box s.2.1.box L),(43,.row (s.2.2.map l_) 3 L)])
  (aoF p lO) (λs=>lO.length-s.1) (0,p,[]) ⟨dt,b,dt,Z⟩ (oI (.row 9 43 3) hg (dT lY ih d0)) ?_
 rintro⟨k,q,l⟩ ⟨c6,c,m,he⟩;simp only at c6 c m he⊢;rw[he]
 conv=>whnf
 refine l7 (λdz=>?_) λdz=>?_
 .have eM:k<lO.length:=R
  rw[rk eM,oo];have n:=e lO[k] (hS eM);have g:=Qc c lO[k];have o:=J9 q lO[k];refine ec R (cO ?_);refine dY (x:=hT lO[k]) iy (c9 ?_);refine df (P8 q lO[k] c n) (c9 ?_);have⟨w,hw⟩:∃w,i0 q lO[k]=w:=⟨_,Z⟩;rw[hw]at g o⊢
  refine kH (λdW=>?_) λdW=>?_
  .rw[if_pos dW];exact dd Z Z
  rw[cT (λq=>q dW)]
  have u:(w.2.1.map l_).length=w.2.1.length:=ef ..
  have v:(l.map l_).length=l.length:=ef ..
  refine dH ?_;refine fC (Pt _) (cO ?_);refine fV 1000 1000 R c1 c1 c1 (c9 ?_);refine⟨(k+1,w.1,l++w.2.1),⟨lV,g,SJ,?_⟩,lV,dZ (dT ⟨?_,?_,?_,?_,?_,?_,?_,?_,dU⟩ ⟨?_,?_,?_,?_,?_,dU⟩ ⟨?_,?_,?_,?_⟩)⟩
  .simp only[];rw[he,rk eM,oo,hw,cT (λq=>q dW)]
  rotate_left 12
  .rw[jt];kernel_rfl
  all_goals kernel_rfl
 .rw[Ce R,oo];exact dd Z Z
def iS(p:fW)(a:P7):sF:=
 if a.1<1\/8<a.1 then(p,d',[],1)
 else if a.1≠8/\ (a.2.1<1\/16<a.2.1) then(p,d',[],1)
 else if a.1=1 then tO p a.2.1
 else if a.1=2 then tP p a.2.1
 else if a.1=6 then wM p a.2.1
 else if a.1=7 then CJ p a.2.1
 else if a.1=8 then wN p a.2.1
 else((oW p a).1,(oW p a).2.1,[],(oW p a).2.2)
def J'(p a)(F:ew p.f)(cY:p.now<=2147483647):dX cR 118 [oi p,.agg (aac a)] (Ac (iS p a)):=by
 refine d6 Tryz.func118 2 Z c2 (cO ?_);rw[iS];refine dH ?_
 refine iv (λQ=>?_) λQ=>?_
 .rw[if_pos (.inl Q)];exact dd Z Z
 refine dH ?_
 refine iv (λb=>?_) λb=>?_
 .rw[if_pos (.inr b)];exact dd Z Z
 rw[cT R];refine dH ?_
 refine wq (λc=>?_) λc=>?_
 .refine dH ?_
  refine iv (λe=>?_) λe=>?_
  .rw[if_pos ⟨c,.inl e⟩];exact dd Z Z
  refine dH ?_
  refine iv (λdz=>?_) λdz=>?_
  .rw[if_pos ⟨c,.inr dz⟩];exact dd Z Z
  rw[cT (λq=>R)];have cW:a.2.1≠0:=R;refine dH ?_
  refine iv (λk1=>?_) λk1=>?_
  .rw[if_pos k1];exact df (aoA p a.2.1 F cW) (c9 (dd Z Z))
  rw[cT k1];refine dH ?_
  refine iv (λeF=>?_) λeF=>?_
  .rw[if_pos eF];exact df (aoB p a.2.1 F cW) (c9 (dd Z Z))
  rw[cT eF];refine dH ?_
  refine iv (λd=>?_) λd=>?_
  .rw[if_pos d];exact df (aoC p a.2.1 F cW) (c9 (dd Z Z))
  rw[cT d];refine dH ?_
  refine iv (λk=>?_) λk=>?_
  .rw[if_pos k];exact df (aoD p a.2.1 F cW) (c9 (dd Z Z))
  rw[cT k,cT c];refine e' ?_;refine df (aot p a F R R) (c9 ?_);exact dd Z Z
 .refine dH ?_;rw[cT (λq=>q.1 c),cT R,cT R,cT R,cT R,if_pos c];refine e' ?_;refine df (aoG p a.2.1 F cY) (c9 ?_);exact dd Z Z
structure hH where
 n:V
 ds:J (V×dh)
 q:J V
def fO(c:V×dh):J c3:=[c.1,.int .i64 1,.int .i64 (if c.2=N then 1 else 0)]
def iI(w:V):J c3:=[w,.int .i64 1]
def hH.cells(h:hH):J c3:=[h.n,.int .i64 1,.dk (h.ds.map fO),.dk (h.q.map iI)]
def qb(h:hH):c3:=.agg h.cells
def hU(l:J (V×dh)):V:=l.countP (·.2)
structure i1(h:hH):Prop where
 fh:1<=h.n
 tQ:h.n<=8
 len:h.ds.length+h.q.length<=4
 eI:(h.ds.map (·.1)++h.q).Nodup
 lt:∀w∈h.ds.map (·.1)++h.q,w<4
 held:hU h.ds<=h.n
 shut:h.q=[] \/2*h.n<=h.ds.length
def il(n:V):J (V×dh)->J V->J (V×dh)×J V
 |ds,[]=>(ds,[])
 |ds,w::q=>if ds.length<2*n then il n (ds++[(w,L)]) q else(ds,w::q)
def wO(n:V)(r:J (V×dh)×J V):hH:=⟨n,r.1,r.2⟩
def Ad(h:hH)(w:V):hH:=wO h.n (il h.n h.ds (h.q++[w]))
def jV(h:hH)(w:V):dh:=h.ds.any λc=>c.1==w
def lP(h:hH)(w:V):dh:=h.ds.any λc=>c.1==w&&c.2
def hW(l:J (V×dh))(w:V)(b:dh):J (V×dh):=l.map λc=>if c.1=w then(c.1,b) else c
def qc(h:hH)(w:V):hH:=⟨h.n,hW h.ds w N,h.q⟩
def Ae(h:hH)(w:V):hH:=⟨h.n,hW h.ds w L,h.q⟩
def tR(h:hH)(w:V):hH:=wO h.n (il h.n (h.ds.filter λc=>c.1 !=w) (h.q.filter λx=>x !=w))
structure hz where
 c7:J V
 ex:dh
 q:J (V×dh)
def f1(w:V):J c3:=[w]
def ie(w:V×dh):J c3:=[w.1,.bool w.2]
def hz.cells(l:hz):J c3:=[.dk (l.c7.map f1),.bool l.ex,.dk (l.q.map ie)]
def vg(l:hz):c3:=.agg l.cells
def yh:hz:=⟨[],L,[]⟩
structure qX(l:hz):Prop where
 len:l.c7.length+l.q.length<=4
 lt:∀w∈l.c7++l.q.map (·.1),w<4
 up:l.c7.Pairwise (·<·)
 eI:(l.c7++l.q.map (·.1)).Nodup
 one:l.ex=N->l.c7.length=1
 shut:l.q=[] \/ (l.c7≠[] /\ (l.ex=N\/ ∀x,l.q.head? =U x->x.2=N))
def nE(w:V)(l:J V):J V:=l.takeWhile (λx=>gV (x<w))++w::l.dropWhile (λx=>gV (x<w))
def rG:J V->dh->J (V×dh)->hz
 |c7,ex,[]=>⟨c7,ex,[]⟩
 |c7,ex,(w,x)::q=>if c7=[] \/ (ex=L/\x=L) then rG (nE w c7) (ex||x) q else ⟨c7,ex,(w,x)::q⟩
def vh(l:hz)(w:V)(x:dh):hz:=rG l.c7 l.ex (l.q++[(w,x)])
def tS(l:hz)(w:V):hz:=rG (l.c7.filter λx=>x !=w) (if(l.c7.filter λx=>x !=w)=[] then L else l.ex) (l.q.filter λx=>x.1 !=w)
def vi(l:hz)(w:V):dh:=l.c7.contains w
structure md where
 kt:V
 fi:V
 dE:I
 hc:V
structure gn where
 at':V
 gM:dh
 ez:J (dB I)
 next:V
 out:J md
def aoH(j:dB I):c3:=.dk (match j with|none=>[]|some _=>[[.int .i64 2]])
def g4(j:dB I):J c3:=[.int .i64 1,.int .i64 0,aoH j]
def Af(w:V)(p:I)(t:V):J c3:=[w,.int .i64 1,p,.str fI,t]
def yi(w:V)(j:dB I):J c3:=[.dk (match j with|none=>[]|some p=>[Af w p 0])]
def lh(f:md):J c3:=[f.kt,.int .i64 1,f.dE,.str fI]
def jb(f:md):J c3:=Af f.fi f.dE f.hc
def gn.cells(s:gn)(d:gm):J c3:=
 [.dk (s.ez.map g4),s.at',.bool s.gM,.dk (s.ez.mapIdx yi),.dk (d.sec.map hN),.dk (d.fz.map fw),s.next,.dk (s.out.map lh),.dk (s.out.map jb)]
structure rH(s:gn):Prop where
 fh:1<=s.ez.length
 iJ:s.ez.length<=4
 Ag:s.at'<s.ez.length
 dE:∀p,U p∈s.ez->1<=p/\p<=16
 fk:s.next<=2147483647
 iX:s.out.length<=4
 up:(s.out.map (·.kt)).Pairwise (·<·)
 lt:∀f∈s.out,f.kt<s.next/\f.fi<s.ez.length/\ (1<=f.dE/\f.dE<=16) /\1<=f.hc/\f.hc<=3
def oX(ez:J (dB I)):V->V->dB V
 |0,_=>cM
 |m+1,k=>if(ez[k%ez.length]?.getD cM).isSome=N then U (k%ez.length) else oX ez m (k+1)
def F8(s:gn):dB V:=oX s.ez s.ez.length (if s.gM=N then s.at'+1 else s.at')
def nF:V->gn->gn
 |0,s=>s
 |m+1,s=>if s.out.length<4/\s.next<2147483647 then
   match F8 s with
   |none=>s
   |some k=>nF m ⟨k,N,s.ez.set k cM,s.next+1,s.out++[⟨s.next,k,(s.ez[k]?.getD cM).getD 0,1⟩]⟩
  else s
def sG(s:gn):gn:=nF 5 s
def tT(s:gn)(w:V)(p:I):gn:={s with ez:=s.ez.set w (U p)}
def Ah(s:gn)(i:V)(a:dh):gn×dB (V×dh):=
 match s.out[i]? with
 |none=>(s,cM)
 |some j=>if a=N/\j.hc<3/\s.next<2147483647 then({s with next:=s.next+1,out:=s.out.eraseIdx i++[⟨s.next,j.fi,j.dE,j.hc+1⟩]},cM)
  else({s with out:=s.out.eraseIdx i},U (j.fi,a))
abbrev gH:=I×I×dS
abbrev lQ:=I×e_
def kn(o:gH):J c3:=[o.1,o.2.1,.str o.2.2]
def Ka(r:lQ):J c3:=[r.1,r.2.1,r.2.2.1,.str r.2.2.2]
structure fH where
 todo:J gH
 ended:V
 st:V
 asked:dh
 pinned:dh
 jW:I
 done:I
 res:lQ
def jX(w:fH):J c3:=[.dk (w.todo.map kn),.int .i64 w.ended,.int .i64 w.st,.bool w.asked,.bool w.pinned,.int .i64 w.jW,.int .i64 w.done]++Ka w.res
def pB(l:J gH):fH:=⟨l,0,0,L,L,0,0,(0,d')⟩
def aoI:gH:=(0,0,fI)
def fH.op(w:fH):gH:=w.todo[w.ended]?.getD aoI
structure sH where
 fi:V
 op:gH
 res:lQ
 jW:I
 done:I
 ended:I
def pC(e:sH):J c3:=[c3.int .i64 e.fi]++kn e.op++Ka e.res++[.int .i64 e.jW,.int .i64 e.done,.int .i64 e.ended]
structure ey where
 ws:J fH
 p:fW
 h:hH
 ek:J hz
 s:gn
 d5:I
 du:J sH
def lR(o:gH):dh:=gV (o.1<1)||decide (4<o.1)||decide (o.2.1<1)||decide (16<o.2.1)
def vj(l:J hz)(k:I)(x:hz):J hz:=l.set k.toNat x
def jY(m:ey)(k:I):hz:=m.ek[k.toNat]?.getD yh
def me(w:fH)(r:lQ)(now:I):fH:={w with res:=r,done:=now,st:=6}
def rI(p:fW)(id:I):dh:=(jS p.f id).2
def vk(p:fW)(id:I):dh:=(jS p.f id).2&&decide (0<(rE p.f.cN (jS p.f id).1.toNat).2.1)
def kM(k:I):J I:=if k=1 then [2] else if k=2 then [1,3] else if k=3 then [1,4] else if k=4 then [6] else []
def oY(o:gH):J I->fW->lQ->fW×lQ
 | [],p,r=>(p,r)
 |k::uS,p,r=>let t:=iS p (k,o.2.1,o.2.2);if t.2.2.2≠0 then(t.1,(t.2.2.2,d')) else oY o uS t.1 (r.1,t.2.1)
def sI(o:gH)(q:fW×lQ):fW×lQ:=
 if vk q.1 o.2.1=N then
  let t:=iS q.1 (5,o.2.1,fI)
  (t.1,if q.2.1=0/\t.2.2.2≠0 then(t.2.2.2,d') else q.2)
 else q
def gI(p:fW)(o:gH):fW×lQ:=sI o (oY o (kM o.1) p (0,d'))
def qd(m:ey)(k:V)(w:fH):ey:={m with ws:=m.ws.set k w}
def stepW(m:ey)(k:V)(w:fH)(now:I):ey×dh:=
 match w.st with
 |0=>if w.todo.length<=w.ended then(m,L) else({qd m k {w with jW:=now,st:=1} with h:=Ad m.h k},N)
 |1=>if jV m.h k=L then(m,L) else
   if lR w.op=N then(qd m k (me w (1,d') now),N) else
   ({qd m k {w with asked:=N,st:=2} with ek:=vj m.ek w.op.2.1 (vh (jY m w.op.2.1) k (decide (w.op.1≠2)))},N)
 |2=>if vi (jY m w.op.2.1) k=L then(m,L) else(qd m k {w with st:=3},N)
 |3=>if m.h.n<=hU m.h.ds then(m,L) else
   if rI m.p w.op.2.1=L/\ (w.op.1=2\/w.op.1=3) then({qd m k {w with pinned:=N,st:=4} with h:=qc m.h k,s:=tT m.s k w.op.2.1},N)
   else({qd m k {w with pinned:=N,st:=5} with h:=qc m.h k},N)
 |5=>({qd m k (me w (gI m.p w.op).2 now) with p:=(gI m.p w.op).1},N)
 |6=>({m with
   ws:=m.ws.set k ⟨w.todo,w.ended+1,0,L,L,0,0,(0,d')⟩
   h:=tR (if w.pinned=N then Ae m.h k else m.h) k
   ek:=if w.asked=N then vj m.ek w.op.2.1 (tS (jY m w.op.2.1) k) else m.ek
   du:=m.du++[⟨k,w.op,w.res,w.jW,w.done,now⟩]},N)
 |_=>(m,L)
def gz(m:ey)(k:I):ey×dh:=
 if k<0 then(m,L) else
 match m.ws[k.toNat]? with
 |none=>(m,L)
 |some w=>stepW {m with d5:=m.d5+1} k.toNat w m.d5
def mf(m:ey):ey:={m with s:=sG m.s}
def qe(m:ey)(w:fH)(bad:dh):fH:=if bad=N then me w (8,d') (m.d5-1) else {w with st:=5}
def hP(m:ey)(i:I)(a:dh):ey×dh:=
 if i<0\/ (m.s.out.length:I) <=i then(m,L) else
 match Ah m.s i.toNat a with
 |(s,cM)=>({m with s:=s},N)
 |(s,U (k,bad))=>match m.ws[k]? with
  |none=>({m with s:=s},N)
  |some w=>if w.st≠4 then({m with s:=s},N) else({m with s:=s,ws:=m.ws.set k (qe m w bad)},N)
def CK(m:ey)(gD:I):ey:={m with p:=(iS (oj m.p 1) (8,gD,fI)).1}
def mg(p:fW)(n:V)(todo:J (J gH)):ey:=
 ⟨todo.map pB,p,⟨n,[],[]⟩,eL 17 yh,⟨0,L,eL todo.length cM,0,[]⟩,0,[]⟩
def CL(n):∀q ds,(il n ds q).1.map (·.1)++(il n ds q).2=ds.map (·.1)++q
 | [],ds=>rfl
 |w::q,ds=>by
  rw[il];split
  .rw[CL n q];simp
  .rfl
def Kb(n):∀q ds,∃t,(il n ds q).1=ds++t/\ ∀c∈t,c.2=L
 | [],ds=>⟨[],by simp[il],dt⟩
 |w::q,ds=>by
  rw[il];split
  .have⟨t,Q,a⟩:=Kb n q (ds++[(w,L)]);simp_all
  simp_all
def aaj(n):∀q ds,(il n ds q).2=[] \/2*n<= (il n ds q).1.length
 | [],ds=>.inl Z
 |w::q,ds=>by
  rw[il];split
  .exact aaj n q _
  simp_all
def aoJ(n q ds):hU (il n ds q).1=hU ds:=by have⟨t,Q,h⟩:=Kb n q ds;rw[hU,hU,Q,ZX,(List.countP_eq_zero (l:=t) (p:=(·.2))).2 (λc a=>by grind)];omega
def aoK(n q ds):(il n ds q).1.length+(il n ds q).2.length=ds.length+q.length:=by have:=eR pY (CL n q ds);simp_all
def aak{n ds q}(a:1<=n)(b:n<=8)(l:ds.length+q.length<=4)(cP:(ds.map (·.1)++q).Nodup)(h:∀w∈ds.map (·.1)++q,w<4)(c_:hU ds<=n):i1 (wO n (il n ds q)):=
 ⟨a,b,by have:=aoK n q ds;show(il n ds q).1.length+(il n ds q).2.length<=4;omega,
  by show((il n ds q).1.map (·.1)++(il n ds q).2).Nodup;rwa[CL],
  by show ∀w∈(il n ds q).1.map (·.1)++(il n ds q).2,w<4;rw[CL];exact h,
  by show hU (il n ds q).1<=n;rw[aoJ];exact c_,aaj n q ds⟩
def hH.all(h:hH):J V:=h.ds.map (·.1)++h.q
def Qg(h w):(Ad h w).all=h.all++[w]:=by show(il h.n h.ds (h.q++[w])).1.map (·.1)++(il h.n h.ds (h.q++[w])).2=_;rw[CL,hH.all];simp
def aoL{h w}(O:i1 h)(hw:w<4)(cY:w∉h.all)(l:h.ds.length+h.q.length<4):i1 (Ad h w):=by
 refine aak O.fh O.tQ hd ?_ ?_ O.held
 .rw[<-jC,py];exact⟨O.eI,dt,λa d b e=>by rw[lE.1 e];exact λq=>cY (q▸d)⟩
 .intro x c;rw[<-jC]at c;rcases h3.1 c with c|c
  .exact O.lt x c
  simp_all
def aal{n ds q w}(h:ds.any (λc=>c.1==w)=N):jV (wO n (il n ds q)) w=N:=by have⟨t,Q,a⟩:=Kb n q ds;show(il n ds q).1.any _=N;simp_all
def Qh{n ds q w}:lP (wO n (il n ds q)) w=ds.any λc=>c.1==w&&c.2:=by have⟨t,Q,h⟩:=Kb n q ds;show(il n ds q).1.any _=_;simp_all
def CM(l w b):(hW l w b).map (·.1)=l.map (·.1):=by rw[hW,Kc];refine aoM λc _=>?_;grind
def aoN{l w b}(h:w∉l.map (·.1)):hW l w b=l:=by
 rw[hW]
 conv=>rhs;rw[<-aoO l]
 refine aoM λc a=>?_;grind
def Qi{w b c}:∀ {l},(l.map (·.1)).Nodup->(w,c)∈l->hU (hW l w b)+(if c=N then 1 else 0)=hU l+(if b=N then 1 else 0)
 | [],_,h=>g0
 |x::r,cP,h=>by
  have d:=tm.1 (by simp_all:(x.1::r.map (·.1)).Nodup);show hU ((if x.1=w then(x.1,b) else x)::hW r w b)+_=_;rcases m3.1 h with rfl|h
  .rw[aoN d.1,if_pos Z];simp[hU,PR];omega
  .have n:x.1≠w:=λq=>d.1 (q▸rJ (f:=(·.1)) h);have i:=Qi (b:=b) d.2 h;rw[cT n];simp[hU,PR]at i⊢;omega
def Ai{h w}:jV h w=N↔w∈h.ds.map (·.1):=by rw[jV,wP,h4];simp_all
def F9{h w}:lP h w=N↔(w,N)∈h.ds:=by rw[lP,wP];simp_all
def Qj(w x r):nE w (x::r)=if x<w then x::nE w r else w::x::r:=by
 by_cases h:x<w
 .simp[nE,Qk,aoP,h]
 .simp[nE,Qk,aoP,h]
def yj{w y}:∀ {l},y∈nE w l↔y=w\/y∈l
 | []=>by simp[nE]
 |x::r=>by
  rw[Qj];split
  .rw[m3,yj,m3];grind
  simp_all
def Kd(w):∀l,(nE w l).length=l.length+1
 | []=>rfl
 |x::r=>by
  rw[Qj];split
  .simp[Kd w r]
  .simp
def Ke{w}:∀ {l},l.Pairwise (·<·)->w∉l->(nE w l).Pairwise (·<·)
 | [],_,_=>by simp[nE]
 |x::r,O,cY=>by
  have Q:=uT.1 O;have a:w≠x:=λq=>cY (q▸.head _);rw[Qj];split
  .refine uT.2 ⟨λy h=>?_,Ke Q.2 λq=>cY (.tail _ q)⟩;rcases yj.1 h with rfl|h
   .assumption
   simp_all
  .refine uT.2 ⟨λy h=>?_,O⟩;grind
structure oZ(x:V->dh)(c7:J V)(ex:dh)(q:J (V×dh)):Prop where
 up:c7.Pairwise (·<·)
 eI:(c7++q.map (·.1)).Nodup
 one:ex=N->c7.length=1
 iX:∀p∈q,p.2=x p.1
 cP:∀w∈c7,x w=ex
def aoQ{x s e w b q}(h:oZ x s e ((w,b)::q))(o:s=[] \/ (e=L/\b=L)):oZ x (nE w s) (e||b) q:=by
 have cY:=λhw=>(py.1 h.eI).2.2 w hw w dt Z;have j:=h.iX (w,b) (.head _)
 have i:e=L:=by
  rcases o with o|o
  .cases f:e with|false=>rfl|true=>have:=h.one f;simp_all
  .exact o.1
 have g:=py.1 h.eI;refine⟨Ke h.up cY,py.2 ⟨(Ke h.up cY).imp (λq=>R),?_,λa d c k=>?_⟩,λf=>?_,λp O=>h.iX p (.tail _ O),λv cU=>?_⟩
 .simp_all
 .rcases yj.1 d with rfl|d
  .grind
  simp_all
 .rw[Kd];simp_all
 .rw[i,Bool.false_or];rcases yj.1 cU with rfl|cU
  .grind
  .rcases o with o|o
   .simp_all
   .rw[o.2,h.cP v cU,o.1]
structure Ql(x:V->dh)(c7:J V)(q:J (V×dh))(r:hz):Prop where
 li:oZ x r.c7 r.ex r.q
 mem:∀w,(w∈r.c7\/w∈r.q.map (·.1))↔(w∈c7\/w∈q.map (·.1))
 sub:∀w∈c7,w∈r.c7
 len:r.c7.length+r.q.length=c7.length+q.length
 shut:r.q=[] \/ (r.c7≠[] /\ (r.ex=N\/ ∀y,r.q.head? =U y->y.2=N))
def Qm{x}:∀ {q s e},oZ x s e q->Ql x s q (rG s e q)
 | [],s,e,h=>⟨h,λw=>Iff.rfl,λw hw=>hw,Z,.inl Z⟩
 |(w,b)::q,s,e,h=>by
  rw[rG];split
  .rename_i o;have⟨a,fb,c,d,f⟩:=Qm (aoQ h o);refine⟨a,λv=>?_,λv cU=>c v (yj.2 (.inr cU)),by rw[d,Kd];simp;omega,f⟩;rw[fb,yj];grind
  .rename_i o;refine⟨h,λw=>Iff.rfl,λw hw=>hw,Z,.inr ⟨λq=>o (.inl q),?_⟩⟩;grind
def F_{ez}(j:ez≠[]):∀ {m k r},oX ez m k=U r->r<ez.length/\ ∃p,ez[r]?=U (U p)
 |0,_,_,h=>g0
 |m+1,k,r,h=>by
  rw[oX]at h;split at h
  .rename_i s
   cases h
   have l:k%ez.length<ez.length:=mu _ (EY.2 j);refine⟨l,?_⟩;rw[fe l]at s⊢;have⟨p,O⟩:=Option.isSome_iff_exists.1 s;simp_all
  .exact F_ j h
def aam{ez}(a:ez≠[]):∀ {m k},oX ez m k=cM->∀j,k<=j->j<k+m->ez[j%ez.length]?=U cM
 |0,_,_,j,Q,b=>R
 |m+1,k,h,j,Q,b=>by
  rw[oX]at h;split at h
  .cases h
  .rename_i s
   by_cases e:j=k
   .subst e;have l:j%ez.length<ez.length:=mu _ (EY.2 a);simp_all
   .exact aam a h j R R
def aoR{n k i:V}(cK:i<n):∃j,k<=j/\j<k+n/\j%n=i:=by
 have cY:0<n:=R
 by_cases h:k%n<=i
 .refine⟨k-k%n+i,?_,?_,?_⟩
  .omega
  .omega
  .have Q:k-k%n=n*(k/n):=by have:=Va k n;omega
   rw[Q,Ip,nq cK]
 .refine⟨k-k%n+n+i,?_,?_,?_⟩
  .have:=aoS k n;have:=mu k cY;omega
  .have:=aoS k n;omega
  .have Q:k-k%n+n=n*(k/n+1):=by have:=Va k n;rw[Nat.mul_add];omega
   rw[Q,Ip,nq cK]
def aan{ez}(b:ez≠[]){k}(h:oX ez ez.length k=cM):∀i,i<ez.length->ez[i]?=U cM:=by intro i cK;have⟨j,Q,a,c⟩:=aoR (k:=k) cK;rw[<-c];exact aam b h j Q a
def jF(s:gn)(k:V)(p:I):Prop:=s.ez[k]?=U (U p) \/ ∃f∈s.out,f.fi=k/\f.dE=p
structure lj(s:gn):Prop extends rH s where
 eI:(s.out.map (·.fi)).Nodup
 ex:∀f∈s.out,s.ez[f.fi]?=U cM
def rH.ne{s}(h:rH s):s.ez≠[]:=λq=>by have:=h.fh;simp_all
def Qn{s}(h:lj s){k p g}(c6:k<s.ez.length)(l:s.ez[k]?=U (U p))(m:s.out.length<4)(cY:s.next<2147483647):lj ⟨k,g,s.ez.set k cM,s.next+1,s.out++[⟨s.next,k,p,1⟩]⟩:=by
 have O:=h.dE p (jg l);refine⟨⟨by grind,by simpa using h.iJ,uc,?_,by assumption,hd,?_,?_⟩,?_,?_⟩
 .intro q d;rcases aoT d with d|d
  .exact h.dE q d
  .cases d
 .simp;refine Cz.2 ⟨h.up,dt,λa i b j=>?_⟩;rw[lE.1 j];obtain⟨f,c,rfl⟩:=h4.1 i;exact(h.lt f c).1
 .intro f c;rcases h3.1 c with c|c
  .have:=h.lt f c;grind
  simp_all
 .simp;refine py.2 ⟨h.eI,dt,λa i b j=>?_⟩;rw[lE.1 j];obtain⟨f,c,rfl⟩:=h4.1 i;intro e;have:=h.ex f c;simp_all
 .intro f c;rw[lF];rcases h3.1 c with c|c
  .have:=h.ex f c;grind
  simp_all
def aoU{s}(h:lj s){k p g}(c:k<s.ez.length)(j:s.ez[k]?=U (U p))(w q):jF ⟨k,g,s.ez.set k cM,s.next+1,s.out++[⟨s.next,k,p,1⟩]⟩ w q↔jF s w q:=by
 unfold jF;rw[lF];constructor
 .grind
 .rintro (Q|⟨f,b,Q,a⟩)
  .by_cases e:k=w
   .simp_all
   simp_all
  grind
structure aao(s r:gn):Prop where
 hf:lj r
 Kg:∀w q,jF r w q↔jF s w q
 len:r.ez.length=s.ez.length
 fk:r.next<=s.next+(r.out.length-s.out.length)
 ol:s.out.length<=r.out.length
def CN:∀(m) {s},lj s->aao s (nF m s)
 |0,s,h=>⟨h,λ_ _=>Iff.rfl,Z,by show s.next<=_;omega,fB _⟩
 |m+1,s,h=>by
  have cW:aao s s:=⟨h,λ_ _=>Iff.rfl,Z,R,fB _⟩;rw[nF];split
  .rename_i c;split
   .exact cW
   .rename_i k b;have⟨Q,p,a⟩:=F_ h.ne b
    have d:(s.ez[k]?.getD cM).getD 0=p:=by rw[a];rfl
    rw[d];have i:=CN m (Qn (g:=N) h Q a c.1 c.2);have l:(s.out++[(⟨s.next,k,p,1⟩:md)]).length=s.out.length+1:=dt;refine⟨i.hf,λw q=>(i.Kg w q).trans (aoU h Q a w q),by rw[i.len];simp,?_,?_⟩
    .have:=i.fk;have:=i.ol;simp at*;omega
    .have:=i.ol;grind
  .exact cW
def aap{l:J V}(e:l.length=4)(cY:l.Nodup)(h:∀x∈l,x<4){k}(j:k<4):k∈l:=by
 match l,e with
 | [a,b,c,d],_=>simp at cY;have f:=h a dt;have g:=h b dt;have i:=h c dt;have cP:=h d dt;grind
def aaq:∀(m) {s},lj s->4<s.out.length+m->¬((nF m s).out.length<4/\ (nF m s).next<2147483647/\ ∃k,F8 (nF m s)=U k)
 |0,s,h,d=>by rintro⟨Q,_⟩;simp[nF]at Q;omega
 |m+1,s,h,d=>by
  rw[nF];split
  .rename_i c;split
   .simp_all
   .rename_i k b;have⟨Q,p,a⟩:=F_ h.ne b
    have e:(s.ez[k]?.getD cM).getD 0=p:=by rw[a];rfl
    rw[e];exact aaq m (Qn (g:=N) h Q a c.1 c.2) hd
  omega
def aoV{s}(h:lj s)(cY:s.next+4<2147483647):∀k,k<s.ez.length->(sG s).ez[k]?=U cM:=by
 intro k c;have Q:=CN 5 h;have e:=aaq 5 h R
 have l:k<(nF 5 s).ez.length:=by rwa[Q.len]
 have b:=Q.hf.iX;have n:=Q.fk
 by_cases g:(nF 5 s).out.length<4
 .cases q:F8 (nF 5 s) with|some j=>grind|none=>exact aan Q.hf.ne q k l
 .have dz:(nF 5 s).out.length=4:=R
  have m:k∈(nF 5 s).out.map (·.fi):=aap eG Q.hf.eI (λx d=>by
   obtain⟨f,a,rfl⟩:=h4.1 d;have:=(Q.hf.lt f a).2.1;have:=Q.hf.iJ
   omega) (by have:=Q.hf.iJ;omega)
  obtain⟨f,a,rfl⟩:=h4.1 m;exact Q.hf.ex f a
def aoW{s}(h:lj s){k p}(c:k<s.ez.length)(O:1<=p/\p<=16)(cY:∀q,¬jF s k q):lj (tT s k p):=by
 refine⟨⟨by simpa[tT]using h.fh,by simpa[tT]using h.iJ,by simpa[tT]using h.Ag,?_,h.fk,h.iX,h.up,λf a=>?_⟩,h.eI,λf a=>?_⟩
 .intro q b;rcases aoT b with b|b
  .exact h.dE q b
  simp_all
 .simpa[tT]using h.lt f a
 .show(s.ez.set k (U p))[f.fi]?=_;rw[lF,cT (λe=>cY f.dE (.inr ⟨f,a,e.symm,Z⟩))];exact h.ex f a
def aar{s k p}(a:k<s.ez.length)(cY:∀q,¬jF s k q)(w q):jF (tT s k p) w q↔jF s w q\/ (w=k/\q=p):=by
 unfold jF;show((s.ez.set k (U p))[w]?=_\/ ∃f∈s.out,_)↔_;rw[lF]
 by_cases e:k=w
 .subst e;rw[if_pos Z,if_pos a];constructor
  .grind
  .rintro (h|⟨_,rfl⟩)
   .exact dQ h (cY q)
   simp_all
 grind
def aoX{α:Type}{l i}{j:α}(h:l[i]?=U j):∃A B,l=A++j::B/\l.eraseIdx i=A++B:=by have cK:=(fM.1 h).1;have a:=(fM.1 h).2;refine⟨l.take i,l.drop (i+1),?_,List.eraseIdx_eq_take_drop_succ l i⟩;rw[<-a,<-rk cK,E9]
structure oV(s:gn)(i:V)(j:md)(A B:J md):Prop where
 o:s.out=A++j::B
 e:s.out.eraseIdx i=A++B
 w:∀f∈A++B,f.fi≠j.fi
def aas{s}(h:lj s){i j}(b:s.out[i]?=U j):∃A B,oV s i j A B:=by have⟨A,B,Q,a⟩:=aoX b;refine⟨A,B,Q,a,λf c=>?_⟩;have cY:=h.eI;grind
def oV.mem{s i j A B}(c:oV s i j A B)(f):f∈s.out↔f=j\/f∈A++B:=by rw[c.o];grind
def aat{s}(h:lj s){i j A B}(c:oV s i j A B):lj {s with out:=A++B}:=by
 have u:(A++B).Sublist s.out:=by rw[c.o];exact aoZ (awf A) (List.sublist_cons_self _ _)
 exact⟨⟨h.fh,h.iJ,h.Ag,h.dE,h.fk,fJ u.length_le h.iX,h.up.sublist (u.map _),λf a=>h.lt f (u.mem a)⟩,h.eI.sublist (u.map _),λf a=>h.ex f (u.mem a)⟩
def ao1{s}(h:lj s){i j A B}(c:oV s i j A B)(w q):jF {s with out:=A++B} w q↔jF s w q/\w≠j.fi:=by
 unfold jF;constructor
 .rintro (Q|⟨f,a,Q,b⟩)
  .refine⟨.inl Q,λe=>?_⟩;have:=h.ex j ((c.mem j).2 (.inl Z));simp_all
  .exact⟨.inr ⟨f,(c.mem f).2 (.inr a),Q,b⟩,λe=>c.w f a (Q.trans e)⟩
 .rintro⟨Q|⟨f,a,Q,b⟩,hw⟩
  .grind
  .rcases (c.mem f).1 a with rfl|a
   .omega
   grind
def ao2{s}(h:lj s){i j A B}(c:oV s i j A B)(t:j.hc<3)(cY:s.next<2147483647):lj {s with next:=s.next+1,out:=(A++B)++[⟨s.next,j.fi,j.dE,j.hc+1⟩]}:=by
 have cW:=aat h c;have k:=h.lt j ((c.mem j).2 (.inl Z))
 have m:(A++B).length+1=s.out.length:=by rw[c.o];simp;omega
 have l:=h.iX;refine⟨⟨h.fh,h.iJ,h.Ag,h.dE,by assumption,by grind,?_,λf d=>?_⟩,?_,λf d=>?_⟩
 .rw[jt];refine Cz.2 ⟨cW.up,dt,λa e b g=>?_⟩;rw[lE.1 g];obtain⟨f,d,rfl⟩:=h4.1 e;exact(cW.lt f d).1
 .rcases h3.1 d with d|d
  .have:=cW.lt f d;grind
  grind
 .rw[jt];refine py.2 ⟨cW.eI,dt,λa e b g=>?_⟩;rw[lE.1 g];obtain⟨f,d,rfl⟩:=h4.1 e;exact c.w f d
 .rcases h3.1 d with d|d
  .exact cW.ex f d
  .rw[lE.1 d];exact h.ex j ((c.mem j).2 (.inl Z))
def ao3{s i j A B}(c:oV s i j A B)(w q):jF {s with next:=s.next+1,out:=(A++B)++[⟨s.next,j.fi,j.dE,j.hc+1⟩]} w q↔jF s w q:=by
 unfold jF;constructor
 .rintro (Q|⟨f,h,Q,a⟩)
  .grind
  .rcases h3.1 h with h|h
   .exact .inr ⟨f,(c.mem f).2 (.inr h),Q,a⟩
   .rw[lE.1 h]at Q a;exact .inr ⟨j,(c.mem j).2 (.inl Z),Q,a⟩
 .rintro (Q|⟨f,h,Q,a⟩)
  .grind
  .rcases (c.mem f).1 h with rfl|h
   .exact .inr ⟨_,h3.2 (.inr (.head _)),Q,a⟩
   grind
def hz.all(l:hz):J V:=l.c7++l.q.map (·.1)
structure CO(h:hH)(ek:J hz)(s:gn)(k:V)(w:fH):Prop where
 CP:w.st<=6
 ke:w.ended<=w.todo.length
 ju:w.st≠0->w.ended<w.todo.length
 mF:k∈h.all↔w.st≠0
 ds:2<=w.st->jV h k=N
 held:lP h k=w.pinned
 Ab:w.st=4\/w.st=5->w.pinned=N
 yK:w.st<4->w.pinned=L
 ask:2<=w.st->w.st<=5->w.asked=N
 CQ:w.st<2->w.asked=L
 val:w.asked=N->lR w.op=L
 lt:∀(j:V) (l:hz),ek[j]?=U l->(k∈l.all↔w.asked=N/\w.op.2.1=j)
 hold:w.asked=N->3<=w.st->∀(l:hz),ek[w.op.2.1.toNat]?=U l->k∈l.c7
 pD:∀p,jF s k p↔w.st=4/\p=w.op.2.1
structure yk(h hi:hH)(k:V):Prop where
 mF:k∈hi.all↔k∈h.all
 ds:jV h k=N->jV hi k=N
 held:lP hi k=lP h k
def yl(ek ko:J hz)(k:V):Prop:=∀(j:V) (a:hz),ko[j]?=U a->∃l,ek[j]?=U l/\ (k∈a.all↔k∈l.all) /\ (k∈l.c7->k∈a.c7)
def F'(s s':gn)(k:V):Prop:=∀p,jF s' k p↔jF s k p
def yk.nG(h k):yk h h k:=⟨Iff.rfl,id,Z⟩
def yl.nG(l k):yl l l k:=λj a h=>⟨a,h,Iff.rfl,id⟩
def F'.nG(s k):F' s s k:=λ_=>Iff.rfl
def CO.frame{h e ek t s s' k w}(o:CO h ek s k w)(a:yk h e k)(b:yl ek t k)(c:F' s s' k):CO e t s' k w:=
 ⟨o.CP,o.ke,o.ju,a.mF.trans o.mF,λq=>a.ds (o.ds q),a.held.trans o.held,o.Ab,o.yK,o.ask,o.CQ,o.val,
  λj l d=>by have⟨e0,cW,Q,_⟩:=b j l d;exact Q.trans (o.lt j e0 cW),
  λg i l d=>by have⟨e0,cW,_,f⟩:=b _ l d;exact f (o.hold g i e0 cW),
  λp=>(c p).trans (o.pD p)⟩
def CR(h:hH)(k b):(⟨h.n,hW h.ds k b,h.q⟩:hH).all=h.all:=by show(hW h.ds k b).map (·.1)++h.q=_;rw[CM];rfl
def Kh(h k j b):jV ⟨h.n,hW h.ds k b,h.q⟩ j=jV h j:=by rw[BC,Ai,Ai];rw[CM]
def Qo{h k j b}(a:j≠k):yk h ⟨h.n,hW h.ds k b,h.q⟩ j:=
 ⟨by rw[CR],λq=>(Kh h k j b).trans q,by show(hW h.ds k b).any _=h.ds.any _;rw[hW,ao4];grind⟩
def aau{h k b}(a:jV h k=N):lP ⟨h.n,hW h.ds k b,h.q⟩ k=b:=by
 show(hW h.ds k b).any _=b;rw[hW,ao4]
 cases b with|true=>rw[wP];have⟨c,Q,d⟩:=wP.1 a;grind|false=>grind
def aav(h k):(tR h k).all=h.all.filter λx=>x !=k:=by show(il _ _ _).1.map (·.1)++(il _ _ _).2=_;rw[CL,hH.all,wh,ao5];rfl
def ao6{h k j}(a:j≠k):yk h (tR h k) j:=by
 refine⟨by rw[aav];simp[a],λq=>aal ?_,?_⟩
 .rw[ao7];have⟨c,Q,b⟩:=wP.1 q;grind
 .show lP (wO _ _) j=_;rw[Qh,ao7]
  congr 1
  grind
def Aj{l:hz}{w}:w∈l.all↔w∈l.c7\/w∈l.q.map (·.1):=h3
def oZ.congr{x y s a q}(h:oZ x s a q)(e:∀w,w∈s\/w∈q.map (·.1)->y w=x w):oZ y s a q:=
 ⟨h.up,h.eI,h.one,λp O=>(h.iX p O).trans (e p.1 (.inr (rJ (f:=(·.1)) O))).symm,λw hw=>(e w (.inl hw)).trans (h.cP w hw)⟩
def ao8{x}{l:hz}{k b}(h:oZ x l.c7 l.ex l.q)(cY:k∉l.all)(g:b=x k):oZ x l.c7 l.ex (l.q++[(k,b)]):=by
 refine⟨h.up,?_,h.one,λp O=>?_,h.cP⟩
 .rw[jt,<-jC];refine py.2 ⟨h.eI,dt,λa d c f=>?_⟩
  have:c=k:=by simpa using f
  rw[this];exact λe=>cY (e▸d)
 .rcases h3.1 O with O|O
  .exact h.iX p O
  simp_all
def ao9{x}{l:hz}{k}(h:oZ x l.c7 l.ex l.q):oZ x (l.c7.filter λy=>y !=k) (if(l.c7.filter λy=>y !=k)=[] then L else l.ex) (l.q.filter λy=>y.1 !=k):=by
 have s1:(l.c7.filter λy=>y !=k).Sublist l.c7:=CS;have s2:((l.q.filter λy=>y.1 !=k).map (·.1)).Sublist (l.q.map (·.1)):=CS.map _;refine⟨h.up.sublist s1,h.eI.sublist (s1.append s2),λa=>?_,λp O=>h.iX p (n9.1 O).1,λw hw=>?_⟩
 .split at a
  .cases a
  .rename_i n;have Q:=h.one a;have b:=s1.length_le;have c:=EY.2 n;omega
 .rw[cT (λe=>by simp_all)];exact h.cP w (n9.1 hw).1
def Qp{x l k b}(h:oZ x l.c7 l.ex l.q)(cY:k∉l.all)(a:b=x k):Ql x l.c7 (l.q++[(k,b)]) (vh l k b):=Qm (ao8 h cY a)
def Qq{x l k}(h:oZ x l.c7 l.ex l.q):Ql x (l.c7.filter λy=>y !=k) (l.q.filter λy=>y.1 !=k) (tS l k):=Qm (ao9 h)
def Qr{x l k b}(h:oZ x l.c7 l.ex l.q)(cY:k∉l.all)(a:b=x k)(w):w∈(vh l k b).all↔w∈l.all\/w=k:=by rw[Aj,(Qp h cY a).mem,Aj];grind
def Ki{x l k}(h:oZ x l.c7 l.ex l.q)(w):w∈(tS l k).all↔w∈l.all/\w≠k:=by
 rw[Aj,(Qq h).mem,Aj]
 have:(w∈(l.q.filter λy=>y.1 !=k).map (·.1))↔(w∈l.q.map (·.1) /\w≠k):=by
  simp only[h4,n9,bne_iff_ne,ne_eq];constructor
  .simp_all
  .simp_all
 grind
def aaw{ek i j l r}(b:ek[i]?=U l)(Q:j∈r.all↔j∈l.all)(a:j∈l.c7->j∈r.c7):yl ek (ek.set i r) j:=by intro c d h;grind
def apa{x ek i j k l b}(d:ek[i]?=U l)(h:oZ x l.c7 l.ex l.q)(cY:k∉l.all)(a:b=x k)(c:j≠k):yl ek (ek.set i (vh l k b)) j:=
 aaw d ((Qr h cY a j).trans ⟨λq=>q.resolve_right c,.inl⟩) λq=>(Qp h cY a).sub j q
def oq(ws:J fH)(k:V):dh:=match ws[k]? with|some w=>decide (w.op.1≠2)|none=>L
structure vl(x:V->dh)(n:V)(l:hz):Prop where
 li:oZ x l.c7 l.ex l.q
 shut:l.q=[] \/ (l.c7≠[] /\ (l.ex=N\/ ∀y,l.q.head? =U y->y.2=N))
 lt:∀w∈l.all,w<n
structure hk(m:ey):Prop where
 fh:1<=m.ws.length
 iJ:m.ws.length<=4
 kp:i1 m.h
 hw:∀k∈m.h.all,k<m.ws.length
 sJ:m.ek.length=17
 li:∀(j:V) (l:hz),m.ek[j]?=U l->vl (oq m.ws) m.ws.length l
 hf:lj m.s
 rY:m.s.ez.length=m.ws.length
 cN:m.h.n=m.p.f.cN.length
 w:∀(k:V) (w:fH),m.ws[k]?=U w->CO m.h m.ek m.s k w
def aax{ws k j w}(h:j≠k):oq (ws.set k w) j=oq ws j:=by rw[oq,oq,lF,cT (Ne.symm h)]
def apb{ws k w w'}(a:ws[k]?=U w)(e:w'.op=w.op):∀j,oq (ws.set k w') j=oq ws j:=by
 intro j
 by_cases h:j=k
 .subst h;have l:=(fM.1 a).1;rw[oq,oq,lF,if_pos Z,if_pos l,a];simp_all
 .exact aax h
def vl.same{ws k w w' n l}(a:ws[k]?=U w)(e:w'.op=w.op)(h:vl (oq ws) n l):vl (oq (ws.set k w')) n l:=
 ⟨h.li.congr λj _=>apb a e j,h.shut,h.lt⟩
structure vm(m:ey)(k:V)(w':fH)(p':fW)(hi:hH)(ko:J hz)(s':gn):Prop where
 c_:i1 hi
 dq:∀j∈hi.all,j∈m.h.all\/j=k
 sJ:ko.length=m.ek.length
 dw:∀(j:V) (l:hz),ko[j]?=U l->vl (oq (m.ws.set k w')) m.ws.length l
 hf:lj s'
 rY:s'.ez.length=m.s.ez.length
 cN:hi.n=p'.f.cN.length
 self:CO hi ko s' k w'
 apc:∀j,j≠k->yk m.h hi j/\yl m.ek ko j/\F' m.s s' j
def hk.upd{m}(o:hk m){k w w' p' g t s' i d}(q:m.ws[k]?=U w)(u:vm m k w' p' g t s'):hk ⟨m.ws.set k w',p',g,t,s',i,d⟩:=by
 have f:=(fM.1 q).1;have n:(m.ws.set k w').length=m.ws.length:=h';refine⟨by grind,by rw[n];exact o.iJ,u.c_,λj p=>?_,u.sJ.trans o.sJ,λj l r=>?_,u.hf,?_,u.cN,λj v cU=>?_⟩
 .rw[n];rcases u.dq j p with h|rfl
  .exact o.hw j h
  .exact f
 .have:=u.dw j l r;simp_all
 .rw[n,u.rY,o.rY]
 .replace cU:(m.ws.set k w')[j]?=U v:=cU;rw[lF]at cU;split at cU
  .rename_i e;subst e
   cases cU
   exact u.self
  .rename_i e;have⟨a,b,c⟩:=u.apc j (Ne.symm e);exact(o.w j v cU).frame a b c
def Qs(h ek s j):yk h h j/\yl ek ek j/\F' s s j:=⟨.nG _ _,.nG _ _,.nG _ _⟩
def apd{m}(o:hk m){k w}(b:m.ws[k]?=U w)(s:w.st=0)(c:w.ended<w.todo.length)(now):vm m k {w with jW:=now,st:=1} m.p (Ad m.h k) m.ek m.s:=by
 have t:=(fM.1 b).1;have v:=o.w k w b;have cY:=λq=>v.mF.1 q s
 have f:k<4:=by have:=o.iJ;omega
 have e:m.h.ds.length+m.h.q.length<4:=by
  have Q:=o.kp.len
  by_cases h:m.h.ds.length+m.h.q.length=4
  .exact dQ (aap (l:=m.h.all) (by simpa[hH.all]using h) o.kp.eI o.kp.lt f) cY
  .omega
 have d:=v.yK R;have n:=v.CQ R;refine⟨aoL o.kp f cY e,λj a=>by rw[Qg]at a;simp_all,Z,λj l c=>(o.li j l c).same b Z,o.hf,Z,o.cN,⟨by simp_all,v.ke,λ_=>c,by rw[Qg];simp,λq=>dQ (show 2<=1 from q) c1,?_,λq=>dQ q dt,λ_=>d,λq=>dQ (show 2<=1 from q) c1,λ_=>n,v.val,v.lt,λq=>dQ (n.symm.trans q) c1,λp=>?_⟩,λj a=>⟨⟨by rw[Qg];simp[a],λq=>aal q,by show lP (wO _ _) j=_;rw[Qh];rfl⟩,.nG _ _,.nG _ _⟩⟩
 .show lP (wO _ _) k=w.pinned;rw[Qh];exact v.held
 .rw[v.pD,s];simp
def ape{m}(o:hk m){k w}(b:m.ws[k]?=U w)(s:w.st=1)(c:jV m.h k=N)(r now):vm m k (me w r now) m.p m.h m.ek m.s:=by
 have v:=o.w k w b;refine⟨o.kp,λj a=>.inl a,Z,λj l d=>(o.li j l d).same b Z,o.hf,Z,o.cN,⟨fB 6,v.ke,λ_=>v.ju R,⟨λ_=>by show 6≠0;decide,λ_=>v.mF.2 R⟩,λ_=>c,v.held,λq=>dQ q (by show ¬(6=4\/6=5);decide),λq=>dQ (show 6<4 from q) c1,λ_ q=>dQ (show 6<=5 from q) c1,λq=>dQ (show 6<2 from q) c1,v.val,v.lt,λq=>?_,λp=>?_⟩,λj a=>Qs ..⟩
 .exact dQ ((v.CQ R).symm.trans q) c1
 .rw[v.pD,s];show _↔6=4/\_;simp
def apf{m}(o:hk m){k w}(b:m.ws[k]?=U w)(s:w.st=2)(c_:∀l,m.ek[w.op.2.1.toNat]?=U l->k∈l.c7):vm m k {w with st:=3} m.p m.h m.ek m.s:=by have v:=o.w k w b;refine⟨o.kp,λj a=>.inl a,Z,λj l c=>(o.li j l c).same b Z,o.hf,Z,o.cN,⟨by simp_all,v.ke,λ_=>v.ju R,⟨λ_=>by simp_all,λ_=>v.mF.2 R⟩,λ_=>v.ds R,v.held,λq=>dQ q eG,λ_=>v.yK R,λ_ _=>v.ask R R,λq=>dQ (show 3<2 from q) c1,v.val,v.lt,λ_ _=>c_,λp=>?_⟩,λj a=>Qs ..⟩;rw[v.pD,s];simp
def CT{o}(h:lR o=L):(1<=o.1/\o.1<=4) /\1<=o.2.1/\o.2.1<=16:=by simp[lR,Bool.or_eq_false_iff,It]at h;omega
def apg{ws k w}(h:ws[k]?=U w):oq ws k=gV (w.op.1≠2):=by rw[oq,h]
def aph{m}(o:hk m){k w}(b:m.ws[k]?=U w)(y:w.st=1)(u:jV m.h k=N)(s:lR w.op=L):vm m k {w with asked:=N,st:=2} m.p m.h (vj m.ek w.op.2.1 (vh (jY m w.op.2.1) k (decide (w.op.1≠2)))) m.s:=by
 have v:=o.w k w b;have t:=(fM.1 b).1;have⟨_,z,A⟩:=CT s
 have cK:w.op.2.1.toNat<m.ek.length:=by rw[o.sJ];omega
 have⟨l,c⟩:∃l,m.ek[w.op.2.1.toNat]?=U l:=⟨_,fe cK⟩
 have g:jY m w.op.2.1=l:=by rw[jY,c];rfl
 have n:=v.CQ R
 have cY:k∉l.all:=λq=>by have:=(v.lt _ l c).1 q;grind
 have B:=o.li _ l c;have d:=(apg b).symm;rw[g];have O:=Qp B.li cY d;refine⟨o.kp,λj f=>.inl f,h',λj r a=>?_,o.hf,Z,o.cN,?_,λj f=>⟨.nG _ _,apa c B.li cY d f,.nG _ _⟩⟩
 .rw[vj,lF]at a;split at a
  .rename_i e
   cases a
   refine vl.same b Z ⟨O.li,O.shut,λx i=>?_⟩;rcases (Qr B.li cY d x).1 i with h|rfl
   .exact B.lt x h
   .exact t
  .exact(o.li j r a).same b Z
 .refine⟨by simp_all,v.ke,λ_=>v.ju R,⟨λ_=>by simp_all,λ_=>v.mF.2 R⟩,λ_=>u,v.held,λq=>dQ q eG,λ_=>v.yK R,λ_ _=>Z,λq=>dQ (show 2<2 from q) c1,λ_=>s,λj r a=>?_,λ_ q=>dQ (show 3<=2 from q) c1,λp=>?_⟩
  .show _↔N=N/\w.op.2.1=j;rw[vj,lF]at a;split at a
   .rename_i e
    cases a
    exact⟨λ_=>⟨Z,R⟩,λ_=>(Qr B.li cY d k).2 (.inr Z)⟩
   .rename_i e;rw[v.lt j r a,n];omega
  .rw[v.pD,y];simp
def Qt{h}(o:i1 h){k}(d:jV h k=N)(c_:lP h k=L)(f:hU h.ds<h.n):i1 (qc h k):=by
 have m:(k,L)∈h.ds:=by
  have⟨⟨a,b⟩,Q,c⟩:=h4.1 (Ai.1 d)
  cases c
  cases b with|false=>exact Q|true=>rw[F9.2 Q]at c_;cases c_
 have cP:=(py.1 o.eI).1;have:=Qi (b:=N) cP m;simp at this;refine⟨o.fh,o.tQ,by show(hW h.ds k N).length+h.q.length<=4;rw[hW,ef];exact o.len,?_,?_,by show hU (hW h.ds k N) <=h.n;omega,?_⟩
 .show((hW h.ds k N).map (·.1)++h.q).Nodup;rw[CM];exact o.eI
 .show ∀w∈(hW h.ds k N).map (·.1)++h.q,w<4;rw[CM];exact o.lt
 .show h.q=[] \/2*h.n<= (hW h.ds k N).length;rw[hW,ef];exact o.shut
def api{m}(o:hk m){k w}(d:m.ws[k]?=U w)(s:w.st=3)(f:hU m.h.ds<m.h.n):vm m k {w with pinned:=N,st:=5} m.p (qc m.h k) m.ek m.s:=by have v:=o.w k w d;have c:=v.ds R;have c_:lP m.h k=L:=SL;have b:=v.ask R R;refine⟨Qt o.kp c c_ f,λj a=>.inl (by rw[qc,CR]at a;exact a),Z,λj l e=>(o.li j l e).same d Z,o.hf,Z,o.cN,⟨by simp_all,v.ke,λ_=>v.ju R,⟨λ_=>by simp_all,λ_=>by rw[qc,CR];exact v.mF.2 R⟩,λ_=>(Kh ..).trans c,aau c,λ_=>Z,λq=>dQ (show 5<4 from q) c1,λ_ _=>b,λq=>dQ (show 5<2 from q) c1,v.val,v.lt,λg _=>v.hold b R,λp=>?_⟩,λj a=>⟨Qo a,.nG _ _,.nG _ _⟩⟩;rw[v.pD,s];simp
def apj{m}(o:hk m){k w}(f:m.ws[k]?=U w)(s:w.st=3)(g:hU m.h.ds<m.h.n):vm m k {w with pinned:=N,st:=4} m.p (qc m.h k) m.ek (tT m.s k w.op.2.1):=by
 have v:=o.w k w f;have t:=(fM.1 f).1;have d:=v.ds R;have c_:lP m.h k=L:=SL;have c:=v.ask R R;have r:=(CT (v.val c)).2
 have n:∀q,¬jF m.s k q:=λq h=>by have:=(v.pD q).1 h;omega
 have a:k<m.s.ez.length:=by rwa[o.rY]
 refine⟨Qt o.kp d c_ g,λj b=>.inl (by rwa[qc,CR]at b),Z,λj l i=>(o.li j l i).same f Z,aoW o.hf a r n,h',o.cN,⟨by simp_all,v.ke,λ_=>v.ju R,⟨λ_=>by simp_all,λ_=>by rw[qc,CR];exact v.mF.2 R⟩,λ_=>(Kh ..).trans d,aau d,λ_=>Z,λq=>dQ (show 4<4 from q) c1,λ_ _=>c,λq=>dQ (show 4<2 from q) c1,v.val,v.lt,λu _=>v.hold c R,λp=>(aar a n k p).trans ⟨λh=>h.elim (λh=>dQ h (n p)) λh=>⟨Z,h.2⟩,λh=>.inr ⟨Z,h.2⟩⟩⟩,λj b=>⟨Qo b,.nG _ _,λq=>(aar a n j q).trans ⟨λh=>h.resolve_right λe=>b e.1,.inl⟩⟩⟩
def apk{m}(o:hk m){k w}(b:m.ws[k]?=U w)(s:w.st=5)(r now p')(O:p'.f.cN.length=m.p.f.cN.length):vm m k (me w r now) p' m.h m.ek m.s:=by have v:=o.w k w b;refine⟨o.kp,λj a=>.inl a,Z,λj l c=>(o.li j l c).same b Z,o.hf,Z,o.cN.trans O.symm,⟨fB 6,v.ke,λ_=>v.ju R,⟨λ_=>by show 6≠0;decide,λ_=>v.mF.2 R⟩,λ_=>v.ds R,v.held,λq=>dQ q (by show ¬(6=4\/6=5);decide),λq=>dQ (show 6<4 from q) c1,λ_ q=>dQ (show 6<=5 from q) c1,λq=>dQ (show 6<2 from q) c1,v.val,v.lt,λq _=>v.hold q R,λp=>?_⟩,λj a=>Qs ..⟩;rw[v.pD,s];show _↔6=4/\_;simp
def aaz{h}(o:i1 h)(k):i1 (Ae h k):=by
 have l:hU (hW h.ds k L) <=hU h.ds:=by
  rw[hU,hU,hW,aaA];refine List.countP_mono_left λc _ a=>?_;replace a:(if c.1=k then(c.1,L) else c).2=N:=a;split at a
  .cases a
  .exact a
 refine⟨o.fh,o.tQ,by show(hW h.ds k L).length+h.q.length<=4;rw[hW,ef];exact o.len,?_,?_,fJ l o.held,?_⟩
 .show((hW h.ds k L).map (·.1)++h.q).Nodup;rw[CM];exact o.eI
 .show ∀w∈(hW h.ds k L).map (·.1)++h.q,w<4;rw[CM];exact o.lt
 .show h.q=[] \/2*h.n<= (hW h.ds k L).length;rw[hW,ef];exact o.shut
def apl{h}(o:i1 h)(k):i1 (tR h k):=by
 have e:h.ds.filter (λc=>c.1 !=k)=h.ds.filter (λc=>c.1 !=k):=rfl
 have a:(h.ds.filter λc=>c.1 !=k).map (·.1)++(h.q.filter λx=>x !=k)=h.all.filter λx=>x !=k:=by rw[hH.all,wh,ao5];rfl
 have eD:=CA (λc:V×dh=>c.1 !=k) h.ds;have eo:=CA (λx=>x !=k) h.q;refine aak o.fh o.tQ (by have:=o.len;omega) ?_ ?_ (fJ (awg CS) o.held)
 .rw[a];exact(show h.all.Nodup from o.eI).sublist CS
 .rw[a];exact λw hw=>o.lt w (n9.1 hw).1
def CU(w:fH):fH:=⟨w.todo,w.ended+1,0,L,L,0,0,(0,d')⟩
def Qu(m:ey)(k:V)(w:fH):hH:=tR (if w.pinned=N then Ae m.h k else m.h) k
def Ga(m:ey)(k:V)(w:fH):J hz:=if w.asked=N then vj m.ek w.op.2.1 (tS (jY m w.op.2.1) k) else m.ek
def apm{m}(o:hk m){k w}(H:m.ws[k]?=U w)(M:w.st=6):vm m k (CU w) m.p (Qu m k w) (Ga m k w) m.s:=by
 have v:=o.w k w H;have cV:=(fM.1 H).1
 have⟨Q,I,O,g,t⟩:∃Q,Q=(if w.pinned=N then Ae m.h k else m.h) /\i1 Q/\Q.all=m.h.all/\ (Q.n=m.h.n/\ ∀j,j≠k->yk m.h Q j):=by
  refine⟨_,Z,?_⟩;split
  .exact⟨aaz o.kp k,CR ..,Z,λj d=>Qo d⟩
  .exact⟨o.kp,Z,Z,λj d=>.nG _ _⟩
 have dr:Qu m k w=tR Q k:=by rw[Qu,<-I]
 rw[dr]
 have E:(tR Q k).all=m.h.all.filter λx=>x !=k:=by rw[aav,g]
 have C:∀j,j≠k->oq (m.ws.set k (CU w)) j=oq m.ws j:=λj d=>aax d
 have y:(Ga m k w).length=m.ek.length/\ (∀(j:V) (l:hz),(Ga m k w)[j]?=U l->vl (oq (m.ws.set k (CU w))) m.ws.length l/\k∉l.all) /\ ∀j,j≠k->yl m.ek (Ga m k w) j:=by
  unfold Ga;split
  .rename_i A;have⟨_,dj,P⟩:=CT (v.val A)
   have cK:w.op.2.1.toNat<m.ek.length:=by rw[o.sJ];omega
   have⟨l,r⟩:∃l,m.ek[w.op.2.1.toNat]?=U l:=⟨_,fe cK⟩
   have B:jY m w.op.2.1=l:=by rw[jY,r];rfl
   have D:=o.li _ l r;rw[B];have G:=Qq (k:=k) D.li;refine⟨h',λj u c=>?_,λj d=>have h:=D.li;have dL:=d;aaw r ((Ki h j).trans ⟨λq=>q.1,λq=>⟨q,dL⟩⟩) λq=>(Qq h).sub j (n9.2 ⟨q,w8⟩)⟩;rw[vj,lF]at c;split at c
   .cases c
    exact⟨⟨G.li.congr λj d=>C j λe=>((Ki D.li j).1 (Aj.2 d)).2 e,G.shut,λx F=>D.lt x ((Ki D.li x).1 F).1⟩,λq=>((Ki D.li k).1 q).2 Z⟩
   .rename_i e;have cY:=λq=>e (by have:=((v.lt j u c).1 q).2;omega);have cL:=o.li j u c;exact⟨⟨cL.li.congr λi n=>C i λz=>cY (z▸Aj.2 n),cL.shut,cL.lt⟩,cY⟩
  .rename_i A;exact⟨Z,λj u c=>have cY:=λq=>A ((v.lt j u c).1 q).1;have cL:=o.li j u c;⟨⟨cL.li.congr λi n=>C i λz=>cY (z▸Aj.2 n),cL.shut,cL.lt⟩,cY⟩,λj d=>.nG _ _⟩
 have s:k∉(tR Q k).all:=by rw[E];simp
 refine⟨apl O k,λj d=>.inl eG,y.1,λj l r=>(y.2.1 j l r).1,o.hf,Z,t.1.trans o.cN,?_,λj d=>⟨?_,y.2.2 j d,.nG _ _⟩⟩
 .refine⟨e3 6,v.ju R,λq=>dQ Z q,⟨λq=>dQ q s,λq=>dQ Z q⟩,λq=>dQ (show 2<=0 from q) c1,?_,λq=>dQ q (by show ¬(0=4\/0=5);decide),λ_=>Z,λq=>dQ (show 2<=0 from q) c1,λ_=>Z,λq=>dQ (show L=N from q) c1,λj l r=>⟨λq=>dQ q (y.2.1 j l r).2,λq=>dQ (show L=N from q.1) c1⟩,λq=>dQ (show L=N from q) c1,λp=>?_⟩
  .cases K:lP (tR Q k) k with|false=>rfl|true=>exact dQ (h3.2 (.inl (rJ (f:=(·.1)) (F9.1 K)))) s
  .rw[v.pD,M];show _↔0=4/\_;simp
 .have a:=t.2 j d;have b:=ao6 (h:=Q) d;exact⟨b.mF.trans a.mF,λq=>b.ds (a.ds q),b.held.trans a.held⟩
def hk.sched{m}(o:hk m){s'}(u:lj s')(l:s'.ez.length=m.s.ez.length)(h:∀k q,jF s' k q↔jF m.s k q):hk {m with s:=s'}:=
 ⟨o.fh,o.iJ,o.kp,o.hw,o.sJ,o.li,u,l.trans o.rY,o.cN,λk w a=>(o.w k w a).frame (.nG _ _) (.nG _ _) (h k)⟩
def hk.qY{m}(o:hk m):hk (mf m):=
 have h:=CN 5 o.hf
 o.sched h.hf h.len h.Kg
def apn{m}(o:hk m){k w w' s'}(i:m.ws[k]?=U w)(t:w.st=4)(s:lj s')(d:s'.ez.length=m.s.ez.length)(b:∀j q,jF s' j q↔jF m.s j q/\j≠k)
  (u:w'.todo=w.todo)(a:w'.ended=w.ended)(n:w'.asked=w.asked)(f:w'.pinned=w.pinned)(r:w'.st=5\/w'.st=6):vm m k w' m.p m.h m.ek s':=by
 have v:=o.w k w i
 have e:w'.op=w.op:=by rw[fH.op,fH.op,u,a]
 have g:=v.ask R R;refine⟨o.kp,λj b=>.inl b,Z,λj l d=>(o.li j l d).same i e,s,d,o.cN,⟨R,by rw[u,a];exact v.ke,λ_=>by rw[u,a];exact v.ju R,⟨λ_=>R,λ_=>v.mF.2 R⟩,λ_=>v.ds R,by rw[f];exact v.held,λ_=>by rw[f];exact v.Ab R,λq=>dQ q R,λ_ _=>by simp_all,λq=>dQ q R,λ_=>by rw[e];exact v.val g,by rw[n,e];exact v.lt,λ_ _=>by rw[e];exact v.hold g R,λp=>?_⟩,λj c=>⟨.nG _ _,.nG _ _,λq=>(b j q).trans ⟨λh=>h.1,λh=>⟨h,c⟩⟩⟩⟩;grind
def hk.fin{m}(o:hk m)(i f):hk (hP m i f).1:=by
 rw[hP];split
 .exact o
 .rename_i cK;have⟨j,e⟩:∃j,m.s.out[i.toNat]?=U j:=⟨_,fe R⟩;have⟨A,B,c⟩:=aas o.hf e;rw[Ah,e];simp only[];rw[c.e];split
  .rename_i s cP;split at cP
   .rename_i d
    cases cP
    exact o.sched (ao2 o.hf c d.2.1 d.2.2) Z (ao3 c)
   .cases cP
  .rename_i s k bad cP;split at cP
   .cases cP
   .cases cP
    have hw:=ao1 o.hf c;have u:=aat o.hf c;have DC:=(c.mem j).2 (.inl Z);have b:jF m.s j.fi j.dE:=.inr ⟨j,DC,Z,Z⟩;have l:=SK;have⟨w,a⟩:∃w,m.ws[j.fi]?=U w:=⟨_,fe l⟩;have g:=((o.w _ w a).pD _).1 b;rw[a];simp only[];rw[cT (λq=>q g.1)];refine o.upd a (apn o a g.1 u Z hw ?_ ?_ ?_ ?_ ?_)
    all_goals (unfold qe;split<;>first|rfl|exact .inr Z|simp_all)
def apo{p n todo}(i:1<=n)(m:n<=8)(O:p.f.cN.length=n)(t:1<=todo.length)(r:todo.length<=4):hk (mg p n todo):=by
 have d:(yh).all=[]:=Z;have a:∀(j:V) (l:hz),(eL 17 yh)[j]?=U l->l=yh:=λj l h=>FB (jg h)
 have o:∀(k:V) (q:I),¬jF (mg p n todo).s k q:=by
  rintro k q (h|⟨f,c,_⟩)
  .cases FB (jg (show(eL todo.length (cM:dB I))[k]?=_ from h))
  .cases c
 have s:(mg p n todo).ws.length=todo.length:=by simp[mg]
 refine⟨by omega,by omega,⟨i,m,by show 0+0<=4;decide,FX,λw hw=>(by cases hw),e3 _,.inl Z⟩,λk b=>(by cases b),Z,λj l h=>?_,?_,by simp[mg],O.symm,λk w b=>?_⟩
 .rw[a j l h];exact⟨⟨aaB,FX,λq=>yP,λ_ q=>yP,λ_ q=>yP⟩,.inl Z,λ_ q=>yP⟩
 .refine⟨⟨by simpa[mg]using t,by simpa[mg]using r,by show 0<(eL todo.length cM).length;grind,λq g=>?_,by show 0<=_;decide,by show 0<=4;decide,aaB,λf c=>(by cases c)⟩,FX,λf c=>by cases c⟩
  cases FB (show U q∈eL todo.length (cM:dB I) from g)
 .replace b:(todo.map pB)[k]?=U w:=b;rw[iO]at b;obtain⟨l,e,rfl⟩:=vH.1 b;exact⟨e3 6,e3 _,λq=>dQ Z q,⟨λq=>yP,λq=>dQ Z q⟩,λq=>dQ (show 2<=0 from q) c1,Z,λq=>dQ q (by show ¬(0=4\/0=5);decide),λ_=>Z,λq=>dQ (show 2<=0 from q) c1,λ_=>Z,λq=>dQ (show L=N from q) c1,λj l h=>by rw[a j l h];exact⟨λq=>yP,λq=>dQ (show L=N from q.1) c1⟩,λq=>dQ (show L=N from q) c1,λp=>⟨λq=>dQ q (o k p),λq=>dQ (show 0=4 from q.1) c1⟩⟩
def hk.d5{m}(o:hk m)(c):hk {m with d5:=c}:=⟨o.fh,o.iJ,o.kp,o.hw,o.sJ,o.li,o.hf,o.rY,o.cN,o.w⟩
def hk.stepW {m:ey} (o:hk m) {k:V} {w:fH} (c6:m.ws[k]?=U w) (now:I) (O:(gI m.p w.op).1.f.cN.length=m.p.f.cN.length):hk (stepW m k w now).1:=by
 have v:=o.w k w c6;unfold Go.Lk.stepW
 split
 ·rename_i c7
  split
  ·exact o
  ·exact o.upd c6 (apd o c6 c7 (by omega) now)
 ·rename_i c7
  split
  ·exact o
  ·rename_i dg
   replace dg:jV m.h k=N:=by simpa using dg
   split
   ·exact o.upd c6 (ape o c6 c7 dg _ now)
   ·rename_i dI;exact o.upd c6 (aph o c6 c7 dg (by simpa using dI))
 ·rename_i c7
  split
  ·exact o
  ·rename_i dg;refine o.upd c6 (apf o c6 c7 fun l dw=>?_)
   have a:jY m w.op.2.1=l:=by rw [jY,dw];rfl
   rw [a] at dg
   simpa [vi] using dg
 ·rename_i c7
  split
  ·exact o
  ·split
   ·exact o.upd c6 (apj o c6 c7 (by omega))
   ·exact o.upd c6 (api o c6 c7 (by omega))
 ·rename_i c7;exact o.upd c6 (apk o c6 c7 _ now _ O)
 ·rename_i c7;exact o.upd c6 (apm o c6 c7)
 ·exact o
def fP{α:Type}(p:α->dh):J α->V->I
 | [],_=>-1
 |x::r,k=>if p x=N then(k:I) else fP p r (k+1)
def wQ{α p}:∀ {l:J α} {k},(∀x∈l,p x=L)->fP p l k=-1
 | [],_,_=>rfl
 |x::r,k,h=>by
  rw[fP,h x (.head _),cT c1];exact wQ λy a=>h y (.tail _ a)
def Ak{α p}:∀ {l:J α} {k},(∃x∈l,p x=N)->∃i,∃cK,fP p l k=((k+i:V):I) /\p l[i]=N
 | [],_,h=>by simp_all
 |x::r,k,h=>by
  rw[fP]
  by_cases e:p x=N
  .rw[if_pos e];exact⟨0,Nat.zero_lt_succ _,Z,e⟩
  .rw[cT e];have⟨y,a,O⟩:=h
   cases a with|head=>simp_all|tail _ a=>have⟨i,cK,Q,c5⟩:=Ak (k:=k+1) ⟨y,a,O⟩;exact⟨i+1,GW,by omega,c5⟩
def Kj{α}(p)(l:J α)(k):0<=fP p l k↔l.any p=N:=by
 rw[wP];constructor
 .intro h;refine lv λg=>?_;rw[wQ λx a=>?_]at h
  .omega
  simp_all
 .intro h;have⟨i,_,e,_⟩:=Ak (k:=k) h;omega
def Gb:∀(l:J (V×dh)),gN 3 (l.map fO)=N
 | []=>rfl|_::r=>Gb r
def Qv:∀(l:J V),gN 2 (l.map iI)=N
 | []=>rfl|_::r=>Qv r
def nH(fi:I)(c:V×dh):dh:=gV ((c.1:I)=fi)
def k4(fi:I)(w:V):dh:=gV ((w:I)=fi)
def aaD(g cs p)(a:∀c,dX cR g (.agg (fO c)::cs) (.bool (p c)))(l)(d:l.length<=1000000):dX cR 261 [.dk (l.map fO),.fn g cs] (fP p l 0):=by
 refine d6 Tryz.func261 2 Z c2 (cO ?_);refine eZ (D:=V) (λk=>[(0,.d (.dk (l.map fO))),(1,.d (.fn g cs)),(7,.d (l.map fO).length),(8,.d k)]) (λ_=>[])
  (λk=>k<=l.length/\fP p (l.drop k) k=fP p l 0) (λk=>l.length-k) 0 ⟨e3 _,Z⟩ (dZ (dT fj dU d0)) ?_
 rintro k ⟨b,fX⟩
 conv=>whnf
 refine d3 (λh=>?_) λh=>?_
 .have eM:k<l.length:=by simpa using h
  refine ec R (cO ?_);refine dY (x:=fO l[k]) iy (c9 ?_);rw[rq eM,fP]at fX;refine df (a l[k]) (cO ?_)
  refine iD (λc5=>?_) λc5=>?_
  .rw[if_pos c5]at fX;exact dd Z oA
  .rw[cT yI]at fX;refine dH ?_;exact⟨k+1,⟨R,fX⟩,R,(dZ (dT fj dU d0))⟩
 .have:k=l.length:=by simp at h;omega
  subst this;simp at fX;exact dd Z oA
def aaE(g cs p)(a:∀c,dX cR g (.agg (iI c)::cs) (.bool (p c)))(l)(d:l.length<=1000000):dX cR 263 [.dk (l.map iI),.fn g cs] (fP p l 0):=by
 refine d6 Tryz.func263 2 Z c2 (cO ?_);refine eZ (D:=V) (λk=>[(0,.d (.dk (l.map iI))),(1,.d (.fn g cs)),(7,.d (l.map iI).length),(8,.d k)]) (λ_=>[])
  (λk=>k<=l.length/\fP p (l.drop k) k=fP p l 0) (λk=>l.length-k) 0 ⟨e3 _,Z⟩ (dZ (dT fj dU d0)) ?_
 rintro k ⟨b,fX⟩
 conv=>whnf
 refine d3 (λh=>?_) λh=>?_
 .have eM:k<l.length:=by simpa using h
  refine ec R (cO ?_);refine dY (x:=iI l[k]) iy (c9 ?_);rw[rq eM,fP]at fX;refine df (a l[k]) (cO ?_)
  refine iD (λc5=>?_) λc5=>?_
  .rw[if_pos c5]at fX;exact dd Z oA
  .rw[cT yI]at fX;refine dH ?_;exact⟨k+1,⟨R,fX⟩,R,(dZ (dT fj dU d0))⟩
 .have:k=l.length:=by simp at h;omega
  subst this;simp at fX;exact dd Z oA
def Gc(w l)(a:l.length<=1000000):dX cR 198 [.dk (l.map fO),.int .i64 w] (.int .i64 (fP (nH w) l 0)):=by refine d6 Tryz.func198 2 Z c2 (di ?_);refine df (aaD 262 _ _ (λc=>by refine d6 Tryz.func262 2 Z c2 (di ?_);rfl) l a) (c9 ?_);rfl
def aaF(w l)(a:l.length<=1000000):dX cR 199 [.dk (l.map iI),.int .i64 w] (.int .i64 (fP (k4 w) l 0)):=by refine d6 Tryz.func199 2 Z c2 (di ?_);refine df (aaE 264 _ _ (λc=>by refine d6 Tryz.func264 2 Z c2 (di ?_);rfl) l a) (c9 ?_);rfl
def aps(g cs p)(a:∀c:V,dX cR g (.int .i64 c::cs) (.bool (p c)))(l)(d:l.length<=1000000):dX cR 274 [.dk (l.map f1),.fn g cs] (fP p l 0):=by
 refine d6 Tryz.func274 2 Z c2 (cO ?_);refine eZ (D:=V) (λk=>[(0,.d (.dk (l.map f1))),(1,.d (.fn g cs)),(7,.d (l.map f1).length),(8,.d k)]) (λ_=>[])
  (λk=>k<=l.length/\fP p (l.drop k) k=fP p l 0) (λk=>l.length-k) 0 ⟨e3 _,Z⟩ (dZ (dT fj dU d0)) ?_
 rintro k ⟨b,fX⟩
 conv=>whnf
 refine d3 (λh=>?_) λh=>?_
 .have eM:k<l.length:=by simpa using h
  refine ec R (cO ?_);refine dY (x:=f1 l[k]) iy (c9 ?_);rw[rq eM,fP]at fX;refine df (a l[k]) (cO ?_)
  refine iD (λc5=>?_) λc5=>?_
  .rw[if_pos c5]at fX;exact dd Z oA
  .rw[cT yI]at fX;refine dH ?_;exact⟨k+1,⟨R,fX⟩,R,(dZ (dT fj dU d0))⟩
 .have:k=l.length:=by simp at h;omega
  subst this;simp at fX;exact dd Z oA
def aaG(g cs p)(a:∀c,dX cR g (.agg (ie c)::cs) (.bool (p c)))(l)(d:l.length<=1000000):dX cR 275 [.dk (l.map ie),.fn g cs] (fP p l 0):=by
 refine d6 Tryz.func275 2 Z c2 (cO ?_);refine eZ (D:=V) (λk=>[(0,.d (.dk (l.map ie))),(1,.d (.fn g cs)),(7,.d (l.map ie).length),(8,.d k)]) (λ_=>[])
  (λk=>k<=l.length/\fP p (l.drop k) k=fP p l 0) (λk=>l.length-k) 0 ⟨e3 _,Z⟩ (dZ (dT fj dU d0)) ?_
 rintro k ⟨b,fX⟩
 conv=>whnf
 refine d3 (λh=>?_) λh=>?_
 .have eM:k<l.length:=by simpa using h
  refine ec R (cO ?_);refine dY (x:=ie l[k]) iy (c9 ?_);rw[rq eM,fP]at fX;refine df (a l[k]) (cO ?_)
  refine iD (λc5=>?_) λc5=>?_
  .rw[if_pos c5]at fX;exact dd Z oA
  .rw[cT yI]at fX;refine dH ?_;exact⟨k+1,⟨R,fX⟩,R,(dZ (dT fj dU d0))⟩
 .have:k=l.length:=by simp at h;omega
  subst this;simp at fX;exact dd Z oA
def aaH{l:J V}{e}(h:e∈l.map iI):e.length=2:=by obtain⟨x,_,rfl⟩:=h4.1 h;rfl
def Qw(h)(Q:1<=h.n):dX cR 197 [qb h,.int .i64 1] (.bool N):=by refine d6 Tryz.func197 2 Z c2 (di ?_);exact dd Z hd
def apv(l:J (V×dh)){k}(h:k<l.length):hU (l.take (k+1))=hU (l.take k)+(if l[k].2=N then 1 else 0):=by rw[hU,lX h,ZX,List.countP_singleton];rfl
def aaI(l):hU l<=l.length:=IQ
def aaJ(h)(l:h.ds.length<=1000)(cY:h.n<=1000):dX cR 208 [qb h] (.int .i64 ((h.n:I)-hU h.ds)):=by
 have m:(h.ds.map fO).length=h.ds.length:=ef ..
 refine d6 Tryz.func208 1 Z c2 (di ?_);refine eZ (D:=V) (λk=>[(3,.d (.int .i64 ((h.n:I)-hU (h.ds.take k)))),(9,.d (.dk (h.ds.map fO))),(10,.d (h.ds.map fO).length),(11,.d k)]) (λ_=>[])
  (λk=>k<=h.ds.length) (λk=>h.ds.length-k) 0 (e3 _) (dZ (dT ⟨by rfl,Z,Z,Z,dU⟩ dU d0)) ?_
 intro k g
 conv=>whnf
 refine d3 (λdz=>?_) λdz=>?_
 .have eM:k<h.ds.length:=R
  refine ec R (cO ?_);refine dY (x:=fO h.ds[k]) iy (c9 ?_);have e:=apv h.ds eM;have b:=aaI (h.ds.take k);have c:(h.ds.take k).length=k:=hd
  have a:((h.n:I)-hU (h.ds.take k))-(if h.ds[k].2=N then 1 else 0)=(h.n:I)-hU (h.ds.take (k+1)):=by rw[e];split<;>omega
  rw[a];have d:=aaI (h.ds.take (k+1));have f:(h.ds.take (k+1)).length=k+1:=hd;refine dH ?_;exact⟨k+1,R,R,(dZ (dT fj dU d0))⟩
 .have:k=h.ds.length:=R
  subst this;rw[p9];rfl
def Gd(h:hH):dh:=match h.q with
 | []=>L
 |_::_=>decide ((h.ds.length:I)+1<=2*h.n)
def aaK(h)(l:h.ds.length<=7)(cY:h.n<=1000):dX cR 260 [qb h] (.bool (Gd h)):=by
 have m:(h.ds.map fO).length=h.ds.length:=ef ..
 have⟨n,ds,q⟩:=h;simp only[]at l cY m
 cases q with
 |nil=>refine d6 apw 1 Z c2 (di ?_);exact dd Z Z
 |cons t q=>
  have b:(hH.mk n ds (t::q)).n<=1000:=cY;refine d6 apw 1 Z c2 (di ?_)
  refine d3 (λQ=>?_) λQ=>?_
  .simp at Q;omega
  refine di ?_;refine ec (i:=0) dt (cO ?_);refine dY (x:=iI t) Z (di ?_);refine eZ (D:=V) (λk=>[(1,.ptr 1 0 0),(3,.d (.int .i64 ((k:I)+1))),(22,.d (.dk (ds.map fO))),(23,.d (ds.map fO).length),(24,.d (.int .i64 k))]) (λ_=>[(1,.box ((hH.cells ⟨n,ds,t::q⟩).map dn.d) L)])
   (λk=>k<=ds.length) (λk=>ds.length-k) 0 (e3 _) (dZ (dT ih eN d0)) ?_
  intro k c
  conv=>whnf
  refine d3 (λdz=>?_) λdz=>?_
  .have a:k<ds.length:=R
   refine ec R (cO ?_);refine dY (x:=fO ds[k]) (by simp[a]) (c9 ?_);rw[show(k:I)+1+1=((k+1:V):I)+1 by omega];exact⟨k+1,by omega,by omega,(dZ (dT ih eN d0))⟩
  .have:k=ds.length:=R
   subst this;refine dH ?_;exact dd Z Z
structure CV(l:J (V×dh)):Prop where
 len:l.length<=8
 lt:∀c∈l,c.1<4
 eI:(l.map (·.1)).Nodup
def Kk{α:Type}{l:J α}(h:l.Nodup){i j:V}(cK:i<j)(a:j<l.length):l[i]≠l[j]:=by intro e;have:=(List.nodup_iff_pairwise_ne.1 h);exact(xO.1 this) i j R a cK e
def CV.ne{l:J (V×dh)}(h:CV l){i j:V}(cK:i<j)(a:j<l.length):l[i].1≠l[j].1:=by have:=Kk h.eI cK eG;simp_all
def aaL(l)(h:CV l):dX cR 259 [.dk (l.map fO)] (.bool N):=by
 have m:(l.map fO).length=l.length:=ef ..
 have j:=h.len;refine d6 Tryz.func259 1 Z c2 (di ?_);refine eZ (D:=V) (λk=>[(0,.d (.dk (l.map fO))),(10,.d (.dk (l.map fO))),(11,.d (l.map fO).length),(12,.d k)]) (λ_=>[])
  (λk=>k<=l.length) (λk=>l.length-k) 0 (e3 _) (dZ (dT fj dU d0)) ?_
 intro k g
 conv=>whnf
 refine d3 (λdz=>?_) λdz=>?_
 .have eM:k<l.length:=R
  have t:=h.lt _ (hS eM)
  have f:(0:I) <= (if l[k].2=N then 1 else 0) /\ (if l[k].2=N then 1 else 0) <= (1:I):=by split<;>omega
  refine ec R (cO ?_);refine dY (x:=fO l[k]) iy (c9 ?_);refine di ?_;refine fC (λe b=>by obtain⟨x,_,rfl⟩:=h4.1 b;rfl) (cO ?_);refine oE R (c9 ?_);have c:((l.map fO).take k).length=k:=GR
  refine eZ (D:=V) (λq=>[(0,.d (.dk (l.map fO))),(4,.ptr 4 0 0),(10,.d (.dk (l.map fO))),(11,.d (l.map fO).length),(12,.d k),(47,.d (.dk (((l.map fO).take k).drop 0))),(48,.d (((l.map fO).take k).drop 0).length),(49,.d q)]) (λ_=>[(4,.box ((fO l[k]).map dn.d) L)])
   (λq=>q<=k) (λq=>k-q) 0 (e3 _) (dZ (dT lY eN d0)) ?_
  intro q i;rw[Cg]
  conv=>whnf
  refine l7 (λdW=>?_) λdW=>?_
  .have a:q<k:=R
   have d:q<l.length:=R;have n:=h.ne a eM;refine ec R (cO ?_);refine dY (x:=fO l[q]) eG (c9 ?_);refine di ?_;exact⟨q+1,R,R,(dZ (dT lY eN d0))⟩
  .exact⟨k+1,R,R,(dZ (dT fj dU d0))⟩
 rfl
abbrev tU:=(V×dh)×dh
def jx(c:V×dh):I:=if c.2=N then 1 else 0
def rK(free:I)(x:tU):dh:=!x.2&&decide (1-jx x.1<=free)
def rz(x:tU):J c3:=[.bool x.2]
def apy(f z)(d:z.length<=8){i:V}(cK:fP (rK f) z 0=(i)):dX cR 305 [f,.dk ((z.map (·.1)).map fO),.dk (z.map rz)] (.dP [i,.bool N]):=by
 have c:((z.map (·.1)).map fO).length=z.length:=eG
 have m:(z.map rz).length=z.length:=ef ..
 refine d6 Tryz.func305 3 Z c2 (di ?_);refine eZ (D:=V) (λk=>[(0,.d f),(2,.d (.dk (z.map rz))),(10,.d (.dk ((z.map (·.1)).map fO))),(11,.d ((z.map (·.1)).map fO).length),(12,.d k)]) (λ_=>[])
  (λk=>k<=z.length/\fP (rK f) (z.drop k) k=(i:I)) (λk=>z.length-k) 0 ⟨e3 _,cK⟩ (dZ (dT ih dU d0)) ?_
 rintro k ⟨a,fX⟩
 conv=>whnf
 refine d3 (λh=>?_) λh=>?_
 .have eM:k<z.length:=R
  rw[rq eM,fP]at fX;have b:0<=jx z[k].1/\jx z[k].1<=1:=SV;refine ec R (cO ?_);refine dY (x:=fO z[k].1) iy (c9 ?_);refine ec R (cO ?_);refine dY (x:=rz z[k]) iy (c9 ?_)
  refine j9 (λc5=>?_) λc5=>?_
  .replace c5:z[k].2=L:=rV
   refine d3 (λe=>?_) λe=>?_
   .replace e:1-jx z[k].1<=f:=e;rw[if_pos (by rw[rK,c5];simp_all)]at fX;refine dH ?_;exact dd Z oA
   .replace e:¬(1-jx z[k].1<=f):=e;rw[cT (by rw[rK,decide_eq_false e];simp)]at fX;refine dH ?_;exact⟨k+1,⟨R,fX⟩,R,(dZ (dT ih dU d0))⟩
  .rw[cT (by rw[rK];simp_all)]at fX;refine dH ?_;exact⟨k+1,⟨R,fX⟩,R,(dZ (dT ih dU d0))⟩
 .have:k=z.length:=R
  subst this;simp[fP]at fX
def aaM{α:Type}(p){l:J α}{i}(x)(cK:i<l.length):(l.set i x).countP p+(if p l[i]=N then 1 else 0)=l.countP p+(if p x=N then 1 else 0):=g3
def ym(z:J tU):V:=z.countP λx=>x.1.2&&!x.2
def Al(z:J tU):V:=z.countP λx=>!x.2
def CW:V->I->J tU->J I->J I
 |0,_,_,o=>o
 |m+1,f,z,o=>match z[(fP (rK f) z 0).toNat]? with
  |some x=>CW m (f+jx x.1) (z.set (fP (rK f) z 0).toNat (x.1,N)) (o++[fP (rK f) z 0])
  |none=>o
structure Kl(l:J (V×dh))(IP:I)(s:I×J tU×J I):Prop where
 fst:s.2.1.map (·.1)=l
 apz:0<=s.1
 awh:1<=s.1+ym s.2.1
 top:s.1+ym s.2.1<=16
 len:s.2.2.length<=l.length
 cnt:Al s.2.1+s.2.2.length=l.length
 eq:CW (l.length-s.2.2.length) s.1 s.2.1 s.2.2=CW l.length IP (l.map λc=>(c,L)) []
def Kl.next{l g s}(h:Kl l g s)(m:s.2.2.length<l.length):∃i:V,∃cK,fP (rK s.1) s.2.1 0=(i) /\ (s.2.1[i]).2=L/\Kl l g (s.1+jx (s.2.1[i]).1,s.2.1.set i ((s.2.1[i]).1,N),s.2.2++[(i:I)]):=by
 have⟨f,z,o⟩:=s;have⟨Q,j,t,v,dz,dW,q⟩:=h;simp only[]at Q j t v dz dW q m⊢
 have b:∃x∈z,rK f x=N:=by
  by_cases p:1<=f
  .have:0<z.countP λx=>!x.2:=by show 0<Al z;omega
   have⟨x,d,O⟩:=B2.1 this;refine⟨x,d,?_⟩
   have:1-jx x.1<=f:=by unfold jx;split<;>omega
   rw[rK,O,decide_eq_true this];rfl
  .have:0<z.countP λx=>x.1.2&&!x.2:=by show 0<ym z;omega
   have⟨x,d,O⟩:=B2.1 this;refine⟨x,d,?_⟩;simp at O
   have:1-jx x.1<=f:=by rw[jx,if_pos O.1];omega
   rw[rK,O.2,decide_eq_true this];rfl
 have⟨i,cK,e,O⟩:=Ak (k:=0) b;rw[np]at e
 have a:(z[i]).2=L:=by rw[rK]at O;simp at O;simpa using O.1
 have g6:=aaM (λx:tU=>x.1.2&&!x.2) ((z[i]).1,N) cK;have r:=aaM (λx:tU=>!x.2) ((z[i]).1,N) cK;simp[a,Bool.not_false,Bool.and_true,Bool.not_true,Bool.and_false,ni]at g6 r
 have u:(ym (z.set i ((z[i]).1,N)):I)+jx (z[i]).1=ym z:=by
  unfold ym jx;split
  .grind
  .simp_all
 have n:0<=jx (z[i]).1:=by unfold jx;split<;>omega
 have es:Al (z.set i ((z[i]).1,N))+1=Al z:=by unfold Al;simpa using r
 refine⟨i,cK,e,a,?_,?_,?_,?_,?_,?_,?_⟩
 .rw[sv,Q];subst Q
  have c:i<(z.map (·.1)).length:=by rwa[ef]
  have e:(z[i]).1=(z.map (·.1))[i]:=dt
  rw[e];exact List.set_getElem_self c
 .dsimp only;omega
 .dsimp only;omega
 .dsimp only;omega
 .simp;omega
 .simp;omega
 .simp;rw[<-q,show l.length-o.length=(l.length-(o.length+1))+1 by omega,CW,e,gl,fe cK]
def apA(a:I)(l)(h:CV l)(d:0<=a)(Q:1<=a+hU l)(v:a+hU l<=16):
  dX cR 273 [a,.dk (l.map fO)] (.dP [Ft (CW l.length a (l.map λc=>(c,L)) []),.bool N]):=by
 have K:=h.len
 have y:(l.map fO).length=l.length:=ef ..
 have k:(l.map λc=>((c,L):tU)).map (·.1)=l:=by rw[Kc];exact aoO l
 have M:ym (l.map λc=>(c,L))=hU l:=by unfold ym hU;rw[aaA];congr 1;funext c;simp
 have m:Al (l.map λc=>(c,L))=l.length:=by unfold Al;rw[aaA];exact List.countP_eq_length.2 λ_ _=>Z
 have n:eL l.length [c3.bool L]=(l.map λc=>((c,L):tU)).map rz:=by rw[Kc];exact(List.eq_replicate_iff.2 ⟨ef ..,λb w=>by obtain⟨c,_,rfl⟩:=h4.1 w;rfl⟩).symm
 refine d6 Tryz.func273 2 Z c2 (cO ?_);refine df (aaL l h) (c9 ?_);refine di ?_;rw[y,gl];refine fV 1000 100 R c1 c1 c1 (cO ?_);refine eZ (D:=I×J tU×J I) (λs=>[(0,.d s.1),(1,.d (.dk (l.map fO))),(6,.own 52),(7,.own 23)]) (λs=>[(23,.row (s.2.1.map rz) 1 L),(52,.row (s.2.2.map hT) 1 L)])
  (Kl l a) (λs=>l.length-s.2.2.length) (a,l.map λc=>(c,L),[]) ⟨k,d,by simp_all,by simp_all,e3 _,by rw[m];rfl,Z⟩
  (oI (.row 6 52 1) hg (dT fj ⟨by rw[<-n];rfl,Z,dU⟩ d0)) ?_
 rintro⟨f,z,o⟩ dr;have q:=dr.fst;have F:=dr.top;have G:=dr.len;have H:=dr.apz;have p:=dr.eq;simp only[]at q F G H p⊢
 have A:(o.map hT).length=o.length:=ef ..
 have B:(z.map rz).length=z.length:=ef ..
 have C:z.length=l.length:=g3
 conv=>whnf
 refine d3 (λdz=>?_) λdz=>?_
 .have⟨i,cK,g,u,cV⟩:=dr.next AJ;simp only[]at cK g u cV;have j:=apy f z R g;rw[q]at j;refine df j (c9 ?_);refine ec R (cO ?_);refine dY (x:=rz z[i]) Ly (c9 ?_);have e:i<l.length:=R
  have r:(z[i]).1=l[i]:=by subst q;simp
  have E:0<=jx l[i] /\jx l[i] <=1:=SV;refine ec R (cO ?_);refine dY (x:=fO l[i]) (by simp[e]) (c9 ?_);refine fV 1000 1000 (by show(o.map hT).length+1<=1000;omega) c1 c1 c1 (c9 ?_);rw[r]at cV
  have t:(z.map rz).set i (iM (rz z[i]) 0 [c3.bool N])=(z.set i (l[i],N)).map rz:=by rw[sv];rfl
  refine⟨(f+jx l[i],z.set i (l[i],N),o++[(i:I)]),cV,by dsimp only;rw[kG];simp;omega,dZ (dT fj ⟨by rw[<-t];rfl,w5,dU⟩ d0)⟩
 .have:o.length=l.length:=R
  rw[this,Nat.sub_self,CW]at p;refine dH ?_;exact dd Z (by rw[<-p];rfl)
def aaN(f:I)(l)(h:CV l)(b:0<=f)(Q:1<=f+hU l)(a:f+hU l<=16):dX cR 210 [f,.dk (l.map fO)] (.bool N):=by refine d6 Tryz.func210 2 Z c2 (cO ?_);refine df (apA f l h b Q a) (c9 ?_);rfl
