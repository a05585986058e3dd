/- What is proved here: what functions of the program compute, and what follows; no condition beyond each theorem's own. -/
import Derived.Below
import Derived.Calls
import Derived.Conc.Beside
import Derived.Conc.CompanyDraw
import Derived.Conc.CrowdStepW
import Derived.Conc.CrowdTrace
import Derived.Conc.EventLaws2
import Derived.Laws.StructEq
import Derived.Test.YtfnijfdfhgpimaaGreatDoorProg
import Derived.WalkKit
set_option linter.all false
noncomputable section
set_option maxHeartbeats 0
open Array renaming getD->mJ,getElem?_append_left->ahY,getElem?_append_right->Uk,replicate->kM
open BitVec renaming ofInt->qL
open Bool renaming false->L,true->N
open ByteArray renaming empty->fB
open Go renaming Act->e8,Addr->g3,Event->hJ,Frame->g6,FuncId->im,Goroutine->dP,HappensBefore->HX,IntKind->pT,Oper->gL,Operand->fw,Program->en,ResultVar->xX,TypeId->eF,Value->dr,World->da,binOp->jA,fieldPlace->Vw,run_equalIn_bool->Vt,step->Um
open Go.BoundsCode renaming index->ahv
open Go.Conc renaming Deaf_append->Uj,getElem?_append_cases->af5,handedOver_app->af7,noRace_append->Ug
open Go.ConcR renaming WgAt->gF
open Go.Deferred renaming ofValue->sH
open Go.Event renaming mute->wb
open Go.Exit renaming inBlock->Nb
open Go.GStep renaming goes->MV
open Go.Instr renaming build->zN,buildSlice->IG,extract->NW,field->NV,fieldAt->FA,index->Fr,indexAt->qQ,loadAt->sG,slice->xZ,sliceAt->nf,sliceBound->B8,sliceBounds->p2,sureAddr->lU
open Go.MemAct renaming ofEvent->mD,touch?->lo
open Go.MemOp renaming ofEvents->g5
open Go.Op renaming eqFields->Vu,equal->Fz,equalIn->oh,intDiv->Oc,maxDepth->Vv
open Go.Proofs.Tryz renaming prog->cQ
open Go.Region renaming ready->mF,wanted->js
open Go.Region.linearise renaming go->Nh
open Go.Trace renaming g?->H0
open Go.Unsupported renaming noEntry->axZ
open Go.Value renaming pointer->IJ
open Go.World renaming cell?->ke
open List renaming range->iz,rec->U',replicate->eQ
open Nat renaming beq->d3,ble->hn,blt->xV,min->uR,strongRecOn->to
open Option renaming bind_some->ahQ,none->cL,some->U
open _root_ renaming Array->d',Bool->di,ByteArray->dG,Decidable->qK,False->dA,Fin->eP,Int->J,List->I,Nat->V,Option->dB,absurd->dN,false_implies->MW,imp_self->MX,rfl->Z,trivial->dM
namespace Go.Lk
def zt:=@Array.getElem?_eq_getElem
def kL:=@Array.getElem?_eq_some_iff
def BB:=@Array.getElem?_map
def ru:=@Array.getElem?_setIfInBounds_ne
def EN:=@Array.mem_of_getElem?
def lV:=@Bool.and_eq_true
def Cg:=@Bool.eq_iff_iff
def rG:=@Bool.false_eq_true
def nA:=@Classical.byContradiction
def zS:=@ByteArray.toList_eq
def v':=@Conc.Deaf_other
def uJ:=@Conc.Deaf_own
def rv:=@Conc.awake_of
def EJ:=@Conc.crowd_pick
def EW:=@Conc.enter_at
def xG:=@Conc.g?_old
def zs:=@Conc.mem_ofEvents
def wh:=@Conc.runT_crowd_go
def Ib:=@Conc.stepG_enter
def hj:=@Result.andThen_ok
def jz:=@Sem.events_bind
def hc:=@Sem.run_bind
def hU:=@Sem.run_pure
def fx:=@run_underlying
def of:=@List.all_eq_true
def zT:=@List.append_eq_nil_iff
def wH:=@List.getElem?_append_left
def x7:=@List.getElem?_append_right
def I0:=@List.getElem?_cons_succ
def u9:=@List.getElem?_cons_zero
def fq:=@List.getElem?_eq_getElem
def f_:=@List.getElem?_eq_some_iff
def ir:=@List.getElem?_map
def nF:=@List.length_cons
def B7:=@List.mapM_cons
def kS:=@List.map_cons
def iY:=@List.mem_append
def nG:=@List.mem_cons
def lX:=@List.mem_cons_of_mem
def mK:=@List.mem_cons_self
def is:=@List.mem_map
def jY:=@List.mem_of_getElem?
def tH:=@List.nodup_cons
def FB:=@Nat.add_assoc
def qR:=@Nat.add_mul
def rD:=@Nat.ble_eq_true_of_le
def gE:=@Nat.eq_of_beq_eq_true
def H3:=@Nat.eq_zero_or_pos
def tt:=@Nat.le_of_ble_eq_true
def tD:=@Nat.le_of_eq
def fi:=@Nat.le_refl
def fG:=@Nat.le_trans
def jr:=@Nat.lt_or_ge
def lp:=@Nat.mod_lt
def mh:=@Nat.mul_le_mul_right
def BD:=@Nat.pos_of_ne_zero
def mM:=@Nat.zero_add
def x3:=@Option.getD_some
def v_:=@Option.map_eq_some_iff
def jB:=@Option.map_some
def pV:=@Option.some.inj
def fC:=@Option.some.injEq
def jw:=@cond_false
def fF:=@cond_true
def FC:=@dif_pos
def qF:=@if_false
def cS:=@if_neg
def nz:=@if_true
section
variable {p:Prop}
def cV(h:p:=by kernel_rfl):p:=h
def R(h:p:=by omega):p:=h
def cZ(h:p:=by decide):p:=h
def dw(h:p:=by simp):p:=h
def hy(h:p:=by simp;omega):p:=h
def xw(h:p:=by rw [List.map_append];rfl):p:=h
def pm(h:p:=by simpa using Q):p:=h
def HC(h:p:=by obtain ⟨⟨d,rfl⟩,he⟩:=cP;exact ⟨h.zc dj fn pos he,⟨⟨hw.1.wg,hw.1.lc,hw.1.qA⟩,by first|trivial|exact i3.trans _ _ _ hw.2 (i3.draw _ _)⟩⟩):p:=h
def l_(h:p:=by simp only [];omega):p:=h
def sn(h:p:=by simpa using c5):p:=h
def HD(h:p:=by rw [List.length_take];omega):p:=h
def hh(h:p:=by cases h):p:=h
def iJ(h:p:=by simp [eR]):p:=h
def Bn(h:p:=by simp only [l',List.append_assoc];rfl):p:=h
def tj(h:p:=by show 0+List.length _<=1000100;omega):p:=h
def Bo(h:p:=by rw [<-zd];exact fun h=>k4 (congrArg (fun x:UInt8=>(x.toNat:Int)) h)):p:=h
def ma(h:p:=by simp [execOp,g4]):p:=h
def so(h:p:=by show cU.size-(j+1)<cU.size-j;omega):p:=h
def Mr(h:p:=by simp at he;subst he;exact ⟨fun x eE=>((Tv (stA Wg) rfl false).1 x eE).fit de.rd,(Tv (stA Wg) rfl false).2⟩):p:=h
def Tw(h:p:=by rw [IntKind.wrap_i64];omega):p:=h
def nu(h:p:=by rw [<-fL];rfl):p:=h
def ux(h:p:=by rw [Array.length_toList];exact oQ):p:=h
def Bp(h:p:=by dsimp only;omega):p:=h
def HE(h:p:=by obtain ⟨x,eE,rfl⟩:=Go.Conc.mem_ofEvents xx;exact dQ x eE a (Ep e)):p:=h
def f0(h:p:=by rfl):p:=h
def sq(h:p:=by intro e;cases e):p:=h
def xy(h:p:=by rw [<-Array.toList_inj];exact dt):p:=h
def Er(h:p:=by simp at he;rcases he with rfl|rfl<;>exact ⟨rfl,rfl⟩):p:=h
def HF(h:p:=by cases wr<;>cases Ms<;>simp [MemAct.ofEvent,MemAct.touch?] at eE):p:=h
def HG(h:p:=by simpa using eG):p:=h
def Tx(h:p:=by have uy:=kH (eE▸gW x);rw [uy];simp [convert,run_underlying (v4 cT c_),run_underlying (v4 cT eR),Conv.intToInt]):p:=h
def HH(h:p:=by dsimp only;rw [List.length_append,List.length_singleton];omega):p:=h
def xz(h:p:=by simpa using h):p:=h
def Bq(h:p:=by show 0+List.length _<=1000100;simp;omega):p:=h
def Mt(h:p:=by simp [IntKind.wrap,IntKind.bits,IntKind.signed]):p:=h
def ze(h:p:=by rw [<-Array.toList_inj];exact tk):p:=h
def Ty(h:p:=by simp [execOp, g4, resolve, dj, invoke, builtin, uz, uA, lM, Builtin.cap_, run_underlying mB, goInt] at sr):p:=h
def Tz(h:p:=by have Es:=afL w 9999 t e a mB;rw [<-dQ] at Es;simp [eqGuard,binOp,Op.equal,Op.maxDepth,Es]):p:=h
def TA(h:p:=by simp [execOp, g4, resolve, dj, invoke, builtin, uz, uA, lM, Builtin.cap_, run_underlying mB, goInt]):p:=h
def TB(h:p:=by show 0+13+w.op.2.1.toNat*3=_;omega):p:=h
def Mu(h:p:=by rw [gJ ee fun hb=>by cases hb with|own _ hb=>exact hb rfl];exact h):p:=h
def uB(h:p:=by simpa using c_):p:=h
def qB(h:p:=by simp at h):p:=h
def afM(h:p:=by rw [jU];intro h;exact TC _ (List.map_eq_nil_iff.1 h)):p:=h
def Mv(h:p:=by have:=h.fy;obtain ⟨s,c⟩:=d;simp only at this;subst this;rfl):p:=h
def xA(h:p:=by simpa using dU):p:=h
def HI(h:p:=by simpa using cK):p:=h
def HJ(h:p:=by intro x y w;simp [eqGuard,binOp,Op.intCmp]):p:=h
def zf(h:p:=by simpa using cW):p:=h
def TD(h:p:=by have e:s.data.toList.length=s.size:=Array.length_toList;rw [TE] at e;exact e.symm):p:=h
def Br(h:p:=by rw [<-zd];exact HK k4):p:=h
def v5(h:p:=by simpa using dv):p:=h
def zg(h:p:=by simpa using dI):p:=h
def zh(h:p:=by rw [c5];decide):p:=h
def TF(h:p:=by rw [mb eR,List.filterMap_append,List.map_append];simp [uC,c5];rfl):p:=h
def HL(h:p:=by simp [eqGuard,binOp,Op.intBits,pU]):p:=h
def TG(h:p:=by rw [gJ ee fun hb=>by cases hb with|win _ _ _ _ hb=>exact hb rfl];exact h):p:=h
def TH(h:p:=by rw [oQ];exact List.drop_eq_nil_of_le (Nat.le_of_eq Array.length_toList)):p:=h
def TI(h:p:=by rw [gJ ee fun hb=>by cases hb with|ptr _ _ _ hb=>exact hb rfl];exact h):p:=h
def zi(h:p:=by simpa using hb):p:=h
def Mw(h:p:=by rw [Nat.add_mul,Nat.one_mul]):p:=h
def HM(h:p:=by rw [List.length_set] at dU;exact dU):p:=h
def TJ(h:p:=by cases wr<;>simp [MemAct.ofEvent,MemAct.touch?] at eE<;>exact eE.symm):p:=h
def TK(h:p:=by intro x y w;simp [eqGuard,binOp,Op.intCmp];rw [Bool.eq_iff_iff];simp):p:=h
def xB(h:p:=by subst c0;exact dj):p:=h
def Et(h:p:=by simp [Builtin.zeroCells,v6]):p:=h
def v7(h:p:=by rw [e];simp):p:=h
def uD(h:p:=by simp [e]):p:=h
def xC(h:p:=by simp [gB];omega):p:=h
def xD(h:p:=by simp at c_;omega):p:=h
def TL(h:p:=by simp at eE;subst eE;rw [dt];exact ⟨rfl,by simp,by simp,by simp⟩):p:=h
def Mx(h:p:=by simp [cK]):p:=h
def afN(h:p:=by simp [fR];omega):p:=h
def My(h:p:=by rw [List.take_length];rfl):p:=h
def uE(h:p:=by simp [pn]):p:=h
def TM(h:p:=by intro x y w;simp [eqGuard,binOp,Op.shift,show ¬b<0 by omega]):p:=h
def Mz(h:p:=by show (n7.map f1).length+1<=1000;omega):p:=h
def Bs(h:p:=by have:=c8.fD;omega):p:=h
def TN(h:p:=by simp [getObj,Sem.events,Sem.runT,h,Obj.isChan,-Sem.runT_eq]):p:=h
def TO(h:p:=by obtain ⟨v,w',r,d,k⟩:=dQ c2 h₁;exact ⟨_,_,_,h.value r,d,k⟩):p:=h
def MA(h:p:=by simpa [List.mapM_cons,kI] using he):p:=h
def Eu(h:p:=by rw [h.len];exact cK):p:=h
def TP(h:p:=by obtain ⟨s,r,dv⟩:=Ev.1.lc;exact woken_recv_open x iK dv):p:=h
def MB(h:p:=by show l.length<=_;omega):p:=h
def afO(h:p:=by obtain ⟨w',r,d,k⟩:=dQ c2 h₁;exact ⟨_,_,_,h.skip r,d,k⟩):p:=h
def TQ(h:p:=by simp only [List.length_append];omega):p:=h
def afP(h:p:=by have:=(o.jH.lt j TR).2.1;rw [o.uF] at this;exact this):p:=h
def MC(h:p:=by show s.size+1-(i+1)<s.size+1-i;omega):p:=h
def MD(h:p:=by rintro rfl;simp [ev.one,cW] at h):p:=h
def Ew(h:p:=by simpa using eR):p:=h
def TS(h:p:=by rw [v.held];exact v.zj (by omega)):p:=h
def afQ(h:p:=by rw [Ex el];exact uG):p:=h
def Ey(h:p:=by rw [hb];rfl):p:=h
def ss(h:p:=by cases e):p:=h
def TT(h:p:=by simp at Bt;subst Bt;exact ways_recv_none dv Ez):p:=h
def TU(h:p:=by first|exact .pure _|exact TV _ _ _):p:=h
def TW(h:p:=by intro x y w;simp [eqGuard,binOp,Op.stringOp,afR]):p:=h
def TX(h:p:=by simpa using eE):p:=h
def zk(h:p:=by simpa using qC):p:=h
def ME(h:p:=by simp [eqGuard,binOp,Op.intArith]):p:=h
def MF(h:p:=by simp [zeroValue,typeInfo,zl,MG]):p:=h
def EA(h:p:=by simp [h]):p:=h
def TY(h:p:=by show (j:Int)+2<=cU.size;have:j+2<=cU.size:=q;omega):p:=h
def afS(h:p:=by rw [TZ.1];exact c0):p:=h
def T0(h:p:=by simp at eE;subst eE;rw [qD];exact Ne.symm de.e3):p:=h
def T1(h:p:=by rw [Nat.pow_succ];omega):p:=h
def T2(h:p:=by unfold hB;split<;>omega):p:=h
def HN(h:p:=by simp [World.frozen?,MH]):p:=h
def T3(h:p:=by show (0:Int) <=0;decide):p:=h
def MI(h:p:=by simpa using e):p:=h
def EB(h:p:=by decide+kernel):p:=h
def T4(h:p:=by rw [Deaf_other t cW _ lN,h.xE]):p:=h
def T5(h:p:=by rw [cW] at cK;exact (Option.some.inj cK).symm):p:=h
def T6(h:p:=by rw [List.forIn_nil];exact ed.at (.pure _)):p:=h
def T7(h:p:=by simp [eqGuard,binOp,Op.equal,Op.maxDepth,Es]):p:=h
def HO(h:p:=by subst e;simp at hb):p:=h
def T8(h:p:=by rw [List.length_drop,zm];exact Nat.le_refl _):p:=h
def uH(h:p:=by cases eE):p:=h
def T9(h:p:=by show List.length _+1<=100;simp at MJ⊢;omega):p:=h
def T_(h:p:=by exact dI):p:=h
def EC(h:p:=by rw [List.map_set]):p:=h
def T'(h:p:=by obtain ⟨⟨d,rfl⟩,_⟩:=cP;exact i3.draw _ _):p:=h
def Bu(h:p:=by simpa using c9):p:=h
def Ua(h:p:=by simpa using uI):p:=h
def MK(h:p:=by simp [List.mapM_cons,kI]):p:=h
def afT(h:p:=by rw [Nat.pow_succ] at h;omega):p:=h
def ED(h:p:=by rw [h];rfl):p:=h
def Ub(h:p:=by simpa using this):p:=h
def HP(h:p:=by simp [execOp,g4,lM]):p:=h
def afU(h:p:=by have:=c9.lt jV;omega):p:=h
def Bv(h:p:=by simpa using k):p:=h
def afV(h:p:=by simpa using g):p:=h
def ML(h:p:=by rw [List.length_map];omega):p:=h
def Uc(h:p:=by rw [c_];rfl):p:=h
def MM(h:p:=by unfold World.setCell;simp):p:=h
def MN(h:p:=by rintro rfl;simp [cW] at h):p:=h
def EE(h:p:=by unfold kJ;omega):p:=h
def HQ(h:p:=by simp [su] at h):p:=h
def Bw(h:p:=by rw [v8];rfl):p:=h
def HR(h:p:=by rw [afW];omega):p:=h
def afX(h:p:=by show (0:Int) <=T+1;omega):p:=h
def zn(h:p:=by simp at cY):p:=h
def afY(h:p:=by simpa using afZ):p:=h
def af0(h:p:=by simpa using cP):p:=h
def Ud(h:p:=by simpa using c'):p:=h
def Ue(h:p:=by simpa using holds):p:=h
def MO(h:p:=by rw [EF];exact cK):p:=h
def HS(h:p:=by have:=h.hi;omega):p:=h
def HT(h:p:=by simp [eE]):p:=h
def MP(h:p:=by rw [hb];simp):p:=h
def af1(h:p:=by simp [xF]):p:=h
def zo(h:p:=by cases q):p:=h
def Bx(h:p:=by rw [e]):p:=h
def af2(h:p:=by simp [Q]):p:=h
def g_(h:p:=by exact ⟨rfl,rfl⟩):p:=h
def af3(h:p:=by exact ⟨rfl,rfl,rfl⟩):p:=h
def ff(h:p:=by exact ⟨rfl,rfl,rfl,rfl,trivial⟩):p:=h
def dV(h:p:=by exact ⟨rfl,rfl,rfl,rfl⟩):p:=h
def eJ(h:p:=by exact ⟨rfl,rfl,rfl,trivial⟩):p:=h
def ez(h:p:=by exact ⟨rfl,trivial⟩):p:=h
def mc(h:p:=by exact ⟨rfl,rfl,rfl,rfl,rfl,rfl,trivial⟩):p:=h
def gO(h:p:=by exact ⟨rfl,rfl,rfl,rfl,rfl,trivial⟩):p:=h
def lO(h:p:=by exact ⟨rfl,rfl,trivial⟩):p:=h
def By(h:p:=by exact ⟨rfl,rfl,rfl,rfl,rfl,rfl,rfl,rfl,rfl,trivial⟩):p:=h
def lP(h:p:=by exact ⟨rfl,rfl,rfl,rfl,rfl,rfl,rfl,rfl,trivial⟩):p:=h
def v9(h:p:=by exact ⟨rfl,rfl,rfl,rfl,rfl,rfl,rfl,trivial⟩):p:=h
structure af4 (K:Prop):Prop where
 k:K
theorem eH{K G:Prop}(k:K)(h:af4 K->G:=by intro k;(conv=>whnf);(repeat((first|with_reducible refine po ?_|with_reducible refine zp ?_|refine Bz ?_|refine BA ?_|refine EG ?_|refine zq ?_|refine ea (by omega) ?_|refine kn (by omega) (by omega) ?_|refine d2 (by assumption) ?_|refine d2 rfl ?_|refine zr (by omega) (by omega) ?_|refine md (by rw [Uf];omega) ?_|refine df (by assumption) ?_|refine HU ?_|refine HV ?_|with_reducible refine MQ ?_);conv=>whnf));exact k.k):G:=h ⟨k⟩
end
inductive c3 where
 |int (k:pT) (n:J)
 |bool (b:di)
 |str (s:dG)
 |dm (l:I (I c3))
 |ix (c:I c3) (j:V)
 |fn (f:im) (cap:I c3)
 |km
 |agg (c:I c3)
 |dS (c:I c3)
 |mA
def Eo{a b c}(h:a\/b)(f:b->c):a\/c:=h.elim .inl λq=>.inr (f q)
abbrev eI:=V->V->dB dr
inductive e4(M:eI):c3->dr->Prop
 |int (k:pT) (n:J):e4 M (.int k n) (.int k n)
 |bool (b:di):e4 M (.bool b) (.bool b)
 |str (s:dG):e4 M (.str s) (.string s)
 |emp (a:dB g3) (cap:V):e4 M (.dm []) (.slice a 0 cap)
 |dm (l:I (I c3)) (b off cap cR:V) (val:V->V->dr) (dv:l.length<=cap)
   (c':∀(i:V) (e:I c3),l[i]?=U e->e.length=cR)
   (d6:∀(i j:V) (e:I c3) (d:c3),l[i]?=U e->e[j]?=U d->M b (off+i*cR+j)=U (val i j))
   (cP:∀(i j:V) (e:I c3) (d:c3),l[i]?=U e->e[j]?=U d->e4 M d (val i j)):
   e4 M (.dm l) (.slice (U ⟨b,off,cL⟩) l.length cap)
 |ix (c:I c3) (j b off:V) (val:V->dr)
   (d6:∀(i:V) (d:c3),c[i]?=U d->M b (off+i)=U (val i))
   (cP:∀(i:V) (d:c3),c[i]?=U d->e4 M d (val i)):e4 M (.ix c j) (.pointer (U ⟨b,off+j,cL⟩))
 |fn (f:im) (cap:I c3) (vs:d' dr) (dv:vs.size=cap.length)
   (cP:∀(i:V) (d:c3) (v:dr),cap[i]?=U d->vs[i]?=U v->e4 M d v):e4 M (.fn f cap) (.func (.func f) #[] vs)
 |km:e4 M .km (.pointer cL)
 |agg (c:I c3) (vs:d' dr) (dv:vs.size=c.length)
   (cP:∀(i:V) (d:c3) (v:dr),c[i]?=U d->vs[i]?=U v->e4 M d v):e4 M (.agg c) (.agg vs)
 |dS (c:I c3) (vs:d' dr) (dv:vs.size=c.length)
   (cP:∀(i:V) (d:c3) (v:dr),c[i]?=U d->vs[i]?=U v->e4 M d v):e4 M (.dS c) (.tuple vs)
 |mA (v:dr):e4 M .mA v
def gS(M a:eI):Prop:=∀(b o:V) (v:dr),M b o=U v->a b o=U v
def e4.mono{M m}(h:gS M m){d v}(cP:e4 M d v):e4 m d v:=by
 induction cP with
 |int k n=>exact .int k n|bool b=>exact .bool b|str s=>exact .str s|emp a c=>exact .emp a c|dm l b off cap cR val dv c' d6 _ g=>exact .dm l b off cap cR val dv c' (λi j e d Q c5=>h _ _ _ (d6 i j e d Q c5)) g|ix c j b off val d6 _ g=>exact .ix c j b off val (λi d Q=>h _ _ _ (d6 i d Q)) g|fn f cap vs dv _ g=>exact .fn f cap vs dv g|km=>exact .km|agg c vs dv _ g=>exact .agg c vs dv g|dS c vs dv _ g=>exact .dS c vs dv g|mA v=>exact .mA v
inductive dp where
 |d (x:c3)
 |eN
 |fd
 |agg (c:I dp)
 |dS (c:I dp)
 |own (b:V)
 |ptr (b i j:V)
 |win (b dz n:V) (c:dB V)
 |nil
 |fn (f:im) (cap:I dp)
 |dead
structure k6 where
 blk:V
 cR:V
 size:V
 len:V
abbrev gD:=V->dB (dB k6)
inductive d4 where
 |row (l:I (I c3)) (cR:V) (cN:di)
 |box (c:I dp) (cN:di)
def ha(k b:V):di:=bif hn 2000000 k&&d3 (k%8) 0 then d3 (b/8) (k/8) else d3 b k
def Ik(k):ha k k=N:=by unfold ha;simp_all
def ag2{k}(h:k<2000000)(b):ha k b=d3 b k:=by
 unfold ha
 cases a:hn 2000000 k with|true=>have:=tt a;omega|false=>rfl
structure tu(k:V):Prop where
 out:∀b,ha k b=d3 b k
def E7{k b}(h:ha k b=L):b≠k:=by rintro rfl;rw[Ik]at h;cases h
inductive dZ(M:eI)(D:gD):dp->dr->Prop
 |d (x:c3) (v:dr) (h:e4 M x v):dZ M D (.d x) v
 |eN:dZ M D .eN (.bool N)
 |fd:dZ M D .fd (.bool L)
 |agg (c:I dp) (vs:d' dr) (dv:vs.size=c.length)
   (cP:∀(i:V) (x:dp) (v:dr),c[i]?=U x->vs[i]?=U v->dZ M D x v):dZ M D (.agg c) (.agg vs)
 |dS (c:I dp) (vs:d' dr) (dv:vs.size=c.length)
   (cP:∀(i:V) (x:dp) (v:dr),c[i]?=U x->vs[i]?=U v->dZ M D x v):dZ M D (.dS c) (.tuple vs)
 |own (b:V) (cM:k6) (cap:V) (h:D b=U (U cM)) (c0:cM.len<=cap) (dj:cap*cM.cR<=cM.size):
   dZ M D (.own b) (.slice (U ⟨cM.blk,0,cL⟩) cM.len cap)
 |ib (b:V) (a:dB g3) (h:D b=U cL):dZ M D (.own b) (.slice a 0 0)
 |ju (b:V) (v:dr) (h:D b=cL):dZ M D (.own b) v
 |ptr (b i j:V) (cM:k6) (h:D b=U (U cM)):dZ M D (.ptr b i j) (.pointer (U ⟨cM.blk,i*cM.cR+j,cL⟩))
 |i6 (b i j:V) (v:dr) (h:D b=cL):dZ M D (.ptr b i j) v
 |win (b dz n:V) (c:dB V) (cM:k6) (k base:V) (h:D b=U (U cM)) (c0:n<=k) (dj:∀m,c=U m->k=m) (c_:(dz+k)*cM.cR<=cM.size)
   (hb:base=dz*cM.cR\/ (k=0/\0<dz)):dZ M D (.win b dz n c) (.slice (U ⟨cM.blk,base,cL⟩) n k)
 |jv (b dz n:V) (c:dB V) (v:dr) (h:D b=cL):dZ M D (.win b dz n c) v
 |nil (a:dB g3):dZ M D .nil (.slice a 0 0)
 |fn (f:im) (cap:I dp) (vs:d' dr) (dv:vs.size=cap.length)
   (cP:∀(i:V) (x:dp) (v:dr),cap[i]?=U x->vs[i]?=U v->dZ M D x v):dZ M D (.fn f cap) (.func (.func f) #[] vs)
 |dead (v:dr):dZ M D .dead v
inductive kN(b:V):dp->Prop
 |d (x:c3):kN b (.d x)
 |eN:kN b .eN
 |fd:kN b .fd
 |agg (c:I dp) (h:∀x∈c,kN b x):kN b (.agg c)
 |dS (c:I dp) (h:∀x∈c,kN b x):kN b (.dS c)
 |own (d7:V) (h:d7≠b):kN b (.own d7)
 |ptr (d7 i j:V) (h:d7≠b):kN b (.ptr d7 i j)
 |win (d7 dz n:V) (c:dB V) (h:d7≠b):kN b (.win d7 dz n c)
 |nil:kN b .nil
 |fn (f:im) (c:I dp) (h:∀x∈c,kN b x):kN b (.fn f c)
 |dead:kN b .dead
def dZ.mono{M g D}(h:gS M g){x v}(cP:dZ M D x v):dZ g D x v:=by
 induction cP with
 |d x v l=>exact .d x v (l.mono h)|eN=>exact .eN|fd=>exact .fd|agg c vs dv _ e=>exact .agg c vs dv e|dS c vs dv _ e=>exact .dS c vs dv e|own b cM cap h c0 dj=>exact .own b cM cap h c0 dj|ib b a h=>exact .ib b a h|ju b v h=>exact .ju b v h|ptr b i j cM h=>exact .ptr b i j cM h|i6 b i j v h=>exact .i6 b i j v h|win b dz n c cM k base h c0 dj c_ hb=>exact .win b dz n c cM k base h c0 dj c_ hb|jv b dz n c v h=>exact .jv b dz n c v h|nil a=>exact .nil a|fn f cap vs dv _ e=>exact .fn f cap vs dv e|dead v=>exact .dead v
def dZ.BR{M D ei}{S:V->Prop}(g:∀b,S b->ei b=D b){x v}(cP:dZ M D x v)(ee:∀b,¬S b->kN b x):dZ M ei x v:=by
 have gJ:∀ {b:V} {x:dp},(∀b,¬S b->kN b x)->(¬kN b x)->ei b=D b:=fun {b x} h Q=>nA λc0=>Q (h b λc'=>c0 (g b c'))
 induction cP with
 |d x v l=>exact .d x v l|eN=>exact .eN|fd=>exact .fd|agg c vs dv _ e=>exact .agg c vs dv λi x v Q c5=>e i x v Q c5 λb hb=>by cases ee b hb with|agg _ ee=>grind
 |dS c vs dv _ e=>exact .dS c vs dv λi x v Q c5=>e i x v Q c5 λb hb=>by cases ee b hb with|dS _ ee=>grind
 |own d7 cM cap h c0 dj=>exact .own d7 cM cap Mu c0 dj|ib d7 a h=>exact .ib d7 a Mu|ju d7 v h=>exact .ju d7 v Mu|ptr d7 i j cM h=>exact .ptr d7 i j cM TI|i6 d7 i j v h=>exact .i6 d7 i j v TI|win d7 dz n c cM k base h c0 dj c_ m=>exact .win d7 dz n c cM k base TG c0 dj c_ m|jv d7 dz n c v h=>exact .jv d7 dz n c v TG|nil a=>exact .nil a|fn f cap vs dv _ e=>exact .fn f cap vs dv λi x v Q c5=>e i x v Q c5 λb hb=>by cases ee b hb with|fn _ _ ee=>grind
 |dead v=>exact .dead v
def zD(b:V)(x:dp):Prop:=∀d7,ha b d7=N->kN d7 x
def dZ.uK{M D ei b}(c:∀a,ha b a=L->ei a=D a){x v}(cP:dZ M D x v)(f:zD b x):dZ M ei x v:=
 cP.BR (S:=λa=>ha b a=L) c λa hb=>f a zi
def ev(b:V):dp->dp
 | .own d7=>bif ha b d7 then .dead else .own d7
 | .ptr d7 i j=>bif ha b d7 then .dead else .ptr d7 i j
 | .win d7 dz n c=>bif ha b d7 then .dead else .win d7 dz n c
 | .d x=>.d x
 | .eN=>.eN
 | .fd=>.fd
 | .nil=>.nil
 | .agg c=>bif names b c then .dead else .agg c
 | .dS c=>bif parts b c then .dead else .dS c
 | .fn f c=>bif names b c then .dead else .fn f c
 | .dead=>.dead
 where
 names (b:V):I dp->di
  | []=>L
  |x::r=>bif one b x then N else names b r
 one (b:V):dp->di
  | .own d7=>ha b d7
  | .ptr d7 _ _=>ha b d7
  | .win d7 _ _ _=>ha b d7
  | .d _=>L
  | .eN=>L
  | .fd=>L
  | .nil=>L
  | .dead=>L
  | .agg _=>N
  | .dS _=>N
  | .fn _ _=>N
 part (b:V):dp->di
  | .agg c=>names b c
  |x=>one b x
 parts (b:V):I dp->di
  | []=>L
  |x::r=>bif part b x then N else parts b r
def U3{b x}(h:ev.one b x=L):zD b x:=by
 intro e1 cW
 cases x with|own d7=>exact .own d7 MD|ptr d7 i j=>exact .ptr d7 i j MD|win d7 dz n c=>exact .win d7 dz n c MD|d x=>exact .d x|eN=>exact .eN|fd=>exact .fd|nil=>exact .nil|dead=>exact .dead|agg c=>simp[ev.one]at h|dS c=>simp[ev.one]at h|fn f c=>simp[ev.one]at h
def Il{b}:∀ {c},ev.names b c=L->∀x∈c,zD b x
 | [],_,_,h=>hh
 |y::r,h,x,a=>by
  simp only[ev.names]at h
  cases Q:ev.one b y with
  |true=>simp_all
  |false=>
   simp[Q,jw]at h
   cases a with
   |head=>exact U3 Q
   |tail _ a=>exact Il h x a
def Np{b}:∀ {c},ev.parts b c=L->∀x∈c,zD b x
 | [],_,_,h=>hh
 |y::r,h,x,a=>by
  simp only[ev.parts]at h
  cases Q:ev.part b y with
  |true=>simp_all
  |false=>
   simp[Q,jw]at h
   cases a with
   |head=>
    cases y with
    |agg c=>exact λd7 hb=>.agg c λx a=>Il Q x a d7 hb
    |_=>exact U3 Q
   |tail _ a=>exact Np h x a
def Nq(b x):zD b (ev b x):=by
 intro e1 cW
 cases x with
 |own d7=>
  simp[ev]
  cases h:ha b d7 with|true=>exact .dead|false=>exact .own d7 MN
 |ptr d7 i j=>
  simp[ev]
  cases h:ha b d7 with|true=>exact .dead|false=>exact .ptr d7 i j MN
 |win d7 dz n c=>
  simp[ev]
  cases h:ha b d7 with|true=>exact .dead|false=>exact .win d7 dz n c MN
 |d x=>exact .d x|eN=>exact .eN|fd=>exact .fd|nil=>exact .nil|dead=>exact .dead
 |agg c=>
  simp[ev]
  cases h:ev.names b c with|true=>exact .dead|false=>exact .agg c λx a=>Il h x a e1 cW
 |dS c=>
  simp[ev]
  cases h:ev.parts b c with|true=>exact .dead|false=>exact .dS c λx a=>Np h x a e1 cW
 |fn f c=>
  simp[ev]
  cases h:ev.names b c with|true=>exact .dead|false=>exact .fn f c λx a=>Il h x a e1 cW
def dZ.ev {M:eI} {D:gD} {x:dp} {v:dr} (b:V) (h:dZ M D x v):dZ M D (ev b x) v:=by
 cases x with
 |own d7=>
  simp only [Lk.ev]
  cases ha b d7 with
  |true=>exact .dead v
  |false=>exact h
 |ptr d7 i j=>
  simp only [Lk.ev]
  cases ha b d7 with
  |true=>exact .dead v
  |false=>exact h
 |win d7 dz n c=>
  simp only [Lk.ev]
  cases ha b d7 with
  |true=>exact .dead v
  |false=>exact h
 |d x=>exact h
 |eN=>exact h
 |fd=>exact h
 |nil=>exact h
 |dead=>exact h
 |agg c=>
  simp only [Lk.ev]
  cases ev.names b c with
  |true=>exact .dead v
  |false=>exact h
 |dS c=>
  simp only [Lk.ev]
  cases ev.parts b c with
  |true=>exact .dead v
  |false=>exact h
 |fn f c=>
  simp only [Lk.ev]
  cases ev.names b c with
  |true=>exact .dead v
  |false=>exact h
inductive n_ where
 |int (k:pT)|bool|str|slice (e:eF)|arr (n:V) (e:eF)|struct (iA:I (V×eF))|ptr (e:eF)|other
structure ic where
 k:n_
 size:V
 bytes:V
 zero:I c3
abbrev fM:=eF->ic
def n_.known:n_->di
 | .other=>L
 |_=>N
def n_.agg:n_->di
 | .arr _ _=>N
 | .struct _=>N
 |_=>L
structure ft where
 dd:V->dp
 O:V->dB d4
def eS{α:Type}(f:V->α)(t:V)(v:α):V->α:=λs=>bif d3 s t then v else f s
structure gp where
 fj:dp
 wr:I (V×d4)
 f5:dB V
def na(v:dp)(K:dp->Prop):Prop:=
 match v with
 | .d x=>K (.d x)
 | .eN=>K .eN
 | .fd=>K .fd
 | .agg c=>K (.agg c)
 | .dS c=>K (.dS c)
 | .own b=>K (.own b)
 | .ptr b i j=>K (.ptr b i j)
 | .win b dz n c=>K (.win b dz n c)
 | .nil=>K .nil
 | .fn f c=>K (.fn f c)
 | .dead=>dA
def qJ(c:I dp)(K:I dp->Prop):Prop:=
 match c with
 | []=>K []
 |x::r=>na x λx=>qJ r λr=>K (x::r)
def wo:dr->dp
 | .int k n=>.d (.int k n)
 | .bool N=>.eN
 | .bool L=>.fd
 | .string s=>.d (.str s)
 | .slice cL 0 0=>.nil
 | .pointer cL=>.d .km
 | .agg cs=>.agg (cells cs.toList)
 |_=>.dead
 where
 one:dr->dp
  | .int k n=>.d (.int k n)
  | .bool N=>.eN
  | .bool L=>.fd
  | .string s=>.d (.str s)
  | .slice cL 0 0=>.nil
  | .pointer cL=>.d .km
  |_=>.dead
 cells:I dr->I dp
  | []=>[]
  |v::r=>one v::cells r
def i7(dd:V->dp):fw->dp
 | .tmp t=>dd t
 | .const v=>wo v
 | .global _=>.dead
 | .func f=>.d (.fn f [])
structure jI(b:di)(A B:Prop):Prop where
 out:match b with|true=>A|false=>B
def zE{b A B}(Q:b=N->A)(h:b=L->B):jI b A B:=by
 cases b with|true=>exact⟨Q Z⟩|false=>exact⟨h Z⟩
def sA{b A B}(h:b=N)(Q:A):jI b A B:=by subst h;exact⟨Q⟩
def wp{b A B}(h:b=L)(Q:B):jI b A B:=by subst h;exact⟨Q⟩
def pq{p}[qK p]{A B}(Q:p->A)(a:¬p->B):jI (decide p) A B:=zE (λh=>Q (of_decide_eq_true h)) (λh=>a (of_decide_eq_false h))
def Nr{p}[qK p]{A B}(Q:¬p->A)(a:p->B):jI (!decide p) A B:=
 zE (λh=>Q xz) (λh=>a xz)
structure E8(l:I (I c3))(i:V)(K:I c3->Prop):Prop where
 out:∃e,l[i]?=U e/\K e
def d2{l i K x}(h:l[i]?=U x)(k:K x):E8 l i K:=⟨⟨x,h,k⟩⟩
structure wq(k:pT)(n:J)(K:J->Prop):Prop where
 out:K (k.wrap n)
def md{k n K}(h:k.wrap n=n)(a:K n):wq k n K:=⟨by simp_all⟩
def zF{k n K}(h:K (k.wrap n)):wq k n K:=⟨h⟩
structure uP(i:J)(n:V)(K:V->Prop):Prop where
 out:0<=i/\i<n/\K i.toNat
def ea{i n:V}{K}(h:i<n)(c_:K i):uP (i) n K:=⟨⟨R,R,uB⟩⟩
def kn{i:J}{n:V}{K}(cW:0<=i)(h:i<n)(k:K i.toNat):uP i n K:=⟨⟨cW,h,k⟩⟩
structure wt(dz cK:dB J)(n:V)(K:V->V->Prop):Prop where
 out:0<=dz.getD 0/\dz.getD 0<=cK.getD n/\cK.getD n<=n/\K (dz.getD 0).toNat (cK.getD n).toNat
def oV{h n:V}{K}(c9:h<=n)(k:K 0 h):wt cL (U (h)) n K:=⟨⟨dw,dw,Bu,Bv⟩⟩
def pW{l n:V}{K}(c9:l<=n)(k:K l n):wt (U (l)) cL n K:=⟨⟨dw,Bu,dw,Bv⟩⟩
def tv{l h n:V}{K}(dv:l<=h)(c9:h<=n)(k:K l h):wt (U (l)) (U (h)) n K:=⟨⟨dw,v5,Bu,Bv⟩⟩
structure BS(q:di)(k:pT)(a b:J)(K:J->Prop):Prop where
 out:b≠0/\K (if q then k.wrap (a.tdiv b) else a.tmod b)
def zr{k a b K}(c:b≠0)(d:0<=a)(h:K (a%b)):BS L k a b K:=⟨⟨c,by grind⟩⟩
def ag3{k q a b K}(c:b≠0)(h:K (if q then k.wrap (a.tdiv b) else a.tmod b)):BS q k a b K:=⟨⟨c,h⟩⟩
structure sB(n bytes:V)(K:Prop):Prop where
 out:n*bytes<=35184372088832/\n<=35184372088832/\K
def Im{n bytes K}(h:n*bytes<=35184372088832)(Q:n<=35184372088832)(k:K):sB n bytes K:=⟨⟨h,Q,k⟩⟩
structure jZ(c:Prop)(K:Prop):Prop where
 out:c/\K
def fz{c K}(h:c)(k:K):jZ c K:=⟨⟨h,k⟩⟩
structure BT(dz cK:dB J)(n c:V)(K:V->V->Prop):Prop where
 out:0<=dz.getD 0/\dz.getD 0<=cK.getD n/\cK.getD n<=c/\K (dz.getD 0).toNat (cK.getD n).toNat
def BU{h n c:V}{K}(c9:h<=c)(k:K 0 h):BT cL (U (h)) n c K:=⟨⟨dw,dw,Bu,Bv⟩⟩
def uQ{l n c:V}{K}(c9:l<=n)(a:n<=c)(k:K l n):BT (U (l)) cL n c K:=⟨⟨dw,Bu,by simp_all,Bv⟩⟩
def U4{l h n c:V}{K}(dv:l<=h)(c9:h<=c)(k:K l h):BT (U (l)) (U (h)) n c K:=⟨⟨dw,v5,Bu,Bv⟩⟩
def U5(c:dB V)(l:V):dB V:=
 match c with
 |some c=>U (c-l)
 |none=>cL
structure ag4(p A B:Prop):Prop where
 yes:p->A
 no:¬p->B
def kf:pT->V
 | .i8=>0| .i16=>1| .i32=>2| .i64=>3| .u8=>4| .u16=>5| .u32=>6| .u64=>7
def pU(op:BinOp)(k:pT)(a b:J):J:=
 k.wrap ((match op with
  | .and=>qL k.bits a&&& qL k.bits b
  | .or=>qL k.bits a|||BitVec.ofInt k.bits b
  | .xor=>qL k.bits a^^^qL k.bits b
  |_=>qL k.bits a&&& ~~~ qL k.bits b).toNat:J)
def Ns(op:BinOp)(k:pT)(a b:J)(K:dp->Prop):Prop:=
 match op with
 | .add=>wq k (a+b) λn=>K (.d (.int k n))
 | .sub=>wq k (a-b) λn=>K (.d (.int k n))
 | .mul=>wq k (a*b) λn=>K (.d (.int k n))
 | .quo=>BS N k a b λn=>K (.d (.int k n))
 | .rem=>BS L k a b λn=>K (.d (.int k n))
 | .and=>K (.d (.int k (pU .and k a b)))
 | .or=>K (.d (.int k (pU .or k a b)))
 | .xor=>K (.d (.int k (pU .xor k a b)))
 | .andNot=>K (.d (.int k (pU .andNot k a b)))
 | .eql=>K (.d (.bool (decide (a=b))))
 | .neq=>K (.d (.bool (!decide (a=b))))
 | .lss=>K (.d (.bool (decide (a<b))))
 | .leq=>K (.d (.bool (decide (a<=b))))
 | .gtr=>K (.d (.bool (decide (b<a))))
 | .geq=>K (.d (.bool (decide (b<=a))))
 |_=>dA
def Nt(op:BinOp)(k:pT)(a b:J)(K:dp->Prop):Prop:=
 match op with
 | .shl=>jZ (0<=b) (wq k (a*2^(min b.toNat k.bits)) λn=>K (.d (.int k n)))
 | .shr=>jZ (0<=b) (K (.d (.int k (a.fdiv (2^(min b.toNat k.bits))))))
 |_=>dA
def BV(op:BinOp)(a b:di)(K:dp->Prop):Prop:=
 match op with
 | .eql=>K (.d (.bool (a==b)))
 | .neq=>K (.d (.bool (!(a==b))))
 |_=>dA
def Nu(op:BinOp)(a b:dG)(K:dp->Prop):Prop:=
 match op with
 | .add=>jZ (a.size+b.size<=9223372036854775807) (K (.d (.str (a++b))))
 | .eql=>K (.d (.bool (decide (a=b))))
 | .neq=>K (.d (.bool (!decide (a=b))))
 |_=>dA
def zG(v:dp)(K:di->Prop):Prop:=
 match v with
 | .d (.bool b)=>K b
 | .eN=>K N
 | .fd=>K L
 |_=>dA
def oW(T:fM)(n:V)(t:eF)(x y:I dp)(K:di->Prop):Prop:=
 match n with
 |0=>dA
 |n+1=>match (T t).k with
  | .int _=>match x with
   | [.d (.int k a)]=>match y with
    | [.d (.int fo b)]=>bif d3 (kf k) (kf fo) then K (decide (a=b)) else dA
    |_=>dA
   |_=>dA
  | .str=>match x with
   | [.d (.str a)]=>match y with
    | [.d (.str b)]=>K (decide (a=b))
    |_=>dA
   |_=>dA
  | .bool=>match x with
   | [u]=>match y with
    | [v]=>zG u λa=>zG v λb=>K (a==b)
    |_=>dA
   |_=>dA
  | .struct iA=>fields (λt x y K=>oW T n t x y K) iA x y K
  |_=>dA
 where
 fields (e:eF->I dp->I dp->(di->Prop)->Prop) (iA:I (V×eF)) (x y:I dp) (K:di->Prop):Prop:=
  match iA with
  | []=>K N
  |(o,t)::r=>bif hn (o+(T t).size) x.length&&hn (o+(T t).size) y.length then
    e t ((x.drop o).take (T t).size) ((y.drop o).take (T t).size) λb=>fields e r x y λc=>K (b&&c) else dA
def U6:BinOp->di
 | .shl=>N
 | .shr=>N
 |_=>L
def E9(T:fM)(t:eF)(op:BinOp)(x y:dp)(K:dp->Prop):Prop:=
 match x with
 | .d (.int k a)=>match y with
  | .d (.int fo b)=>bif U6 op then Nt op k a b K else bif d3 (kf k) (kf fo) then Ns op k a b K else dA
  |_=>dA
 | .d (.str a)=>match y with
  | .d (.str b)=>Nu op a b K
  |_=>dA
 | .d (.bool a)=>match (T t).k with
  | .bool=>zG y λb=>BV op a b K
  |_=>dA
 | .eN=>match (T t).k with
  | .bool=>zG y λb=>BV op N b K
  |_=>dA
 | .fd=>match (T t).k with
  | .bool=>zG y λb=>BV op L b K
  |_=>dA
 | .agg c=>match y with
  | .agg oU=>match op with
   | .eql=>bif (T t).k.agg then oW T 9999 t c oU λb=>K (.d (.bool b)) else dA
   | .neq=>bif (T t).k.agg then oW T 9999 t c oU λb=>K (.d (.bool (!b))) else dA
   |_=>dA
  |_=>dA
 |_=>dA
def xP(c:I dp)(j:V)(K:dp->Prop):Prop:=match c[j]? with|some x=>na x K|none=>dA
def getD(c:I c3)(j:V)(K:c3->Prop):Prop:=match c[j]? with|some x=>K x|none=>dA
def xQ(agg:di)(size:V)(c:I dp)(j:V)(K:dp->Prop):Prop:=
 bif agg then(bif hn (j+size) c.length then qJ ((c.drop j).take size) λc=>K (.agg c) else dA) else xP c j K
def In(agg:di)(size:V)(c:I c3)(j:V)(K:dp->Prop):Prop:=
 bif agg then(bif hn (j+size) c.length then qJ (((c.drop j).take size).map .d) λc=>K (.agg c) else dA) else getD c j λx=>K (.d x)
def E_(T:fM)(t:eF)(v:dp)(O:V->dB d4)(K:dp->Prop):Prop:=
 match v with
 | .ptr b i j=>match O b with
  |some (.box c _)=>jZ (i=0) (xQ (T t).k.agg (T t).size c j K)
  |some (.row l _ _)=>E8 l i λe=>In (T t).k.agg (T t).size e j K
  |none=>dA
 | .d (.ix e j)=>In (T t).k.agg (T t).size e j K
 |_=>dA
def wu(T:fM)(t:eF)(v:dp)(O:V->dB d4)(K:dp->Prop):Prop:=
 bif (T t).k.known then E_ T t v O K else dA
def xR(T:fM)(s:eF)(f:V)(K:V->eF->Prop):Prop:=
 match (T s).k with
 | .struct iA=>match iA[f]? with
  |some (o,t)=>K o t
  |none=>dA
 |_=>dA
def Nv(T:fM)(t:eF)(x i:dp)(O:V->dB d4)(K:dp->Prop):Prop:=
 match i with
 | .d (.int _ i)=>match (T t).k with
  | .slice iB=>match x with
   | .d (.dm l)=>uP i l.length λn=>E8 l n λe=>bif d3 e.length (T iB).size then K (.d (.ix e 0)) else dA
   | .own b=>match O b with
    |some (.row l cR _)=>bif d3 cR (T iB).size then uP i l.length λn=>K (.ptr b n 0) else dA
    |_=>dA
   | .win b dz n _=>match O b with
    |some (.row _ cR _)=>bif d3 cR (T iB).size then uP i n λm=>K (.ptr b (dz+m) 0) else dA
    |_=>dA
   |_=>dA
  | .arr n e=>match x with
   | .ptr b a j=>match O b with
    |some _=>uP i n λn=>K (.ptr b a (j+n*(T e).size))
    |none=>dA
   | .d (.ix c j)=>uP i n λn=>K (.d (.ix c (j+n*(T e).size)))
   |_=>dA
  |_=>dA
 |_=>dA
def Nw(T:fM)(t:eF)(x i:dp)(K:dp->Prop):Prop:=
 match i with
 | .d (.int _ i)=>match x with
  | .d (.str s)=>match (T t).k with
   | .str=>uP i s.size λn=>K (.d (.int .u8 (s.data.getD n 0).toNat))
   |_=>dA
  | .agg c=>match (T t).k with
   | .arr n e=>uP i n λn=>xQ (T e).k.agg (T e).size c (n*(T e).size) K
   |_=>dA
  |_=>dA
 |_=>dA
def conv(O:V->dB d4):dp->dB c3
 | .d x=>U x
 | .eN=>U (.bool N)
 | .fd=>U (.bool L)
 | .nil=>U (.dm [])
 | .own b=>match O b with
  |some (.row l _ _)=>U (.dm l)
  |_=>cL
 | .agg c=>(cells O c).map .agg
 | .fn f c=>(qM O c).map (.fn f)
 |_=>cL
 where
 one (O:V->dB d4):dp->dB c3
  | .d x=>U x
  | .eN=>U (.bool N)
  | .fd=>U (.bool L)
  | .nil=>U (.dm [])
  | .own b=>match O b with
   |some (.row l _ _)=>U (.dm l)
   |_=>cL
  |_=>cL
 cells (O:V->dB d4):I dp->dB (I c3)
  | []=>U []
  |x::r=>(one O x).bind λd=>(cells O r).map λdx=>d::dx
 nB:dp->dB c3
  | .d x=>U x
  | .eN=>U (.bool N)
  | .fd=>U (.bool L)
  | .nil=>U (.dm [])
  |_=>cL
 wv:I dp->dB (I c3)
  | []=>U []
  |x::r=>(nB x).bind λd=>(wv r).map λdx=>d::dx
 n' (O:V->dB d4):dp->dB c3
  | .d x=>U x
  | .eN=>U (.bool N)
  | .fd=>U (.bool L)
  | .ptr b i j=>match O b with
   |some (.box c N)=>bif d3 i 0 then(wv c).map λc=>.ix c j else cL
   |_=>cL
  |_=>cL
 qM (O:V->dB d4):I dp->dB (I c3)
  | []=>U []
  |x::r=>(n' O x).bind λd=>(qM O r).map λdx=>d::dx
def g8(O:V->dB d4):dp->I V
 | .own b=>one O (.own b)
 | .agg c=>cells O c
 |_=>[]
 where
 one (O:V->dB d4):dp->I V
  | .own b=>match O b with
   |some (.row _ _ L)=>[b]
   |_=>[]
  |_=>[]
 cells (O:V->dB d4):I dp->I V
  | []=>[]
  |x::r=>one O x++cells O r
def gh(O:V->dB d4):I V->I (V×d4)
 | []=>[]
 |b::r=>match O b with
  |some (.row l cR _)=>(b,.row l cR N)::gh O r
  |_=>gh O r
def zH(O:V->dB d4)(dC:fw->dp)(a:I fw)(K:I c3->I V->Prop):Prop:=
 match a with
 | []=>K [] []
 |x::r=>match conv O (dC x) with
  |some d=>zH O dC r λdx dW=>K (d::dx) (g8 O (dC x)++dW)
  |none=>dA
def lR:c3->dp
 | .agg c=>.agg (c.map .d)
 | .dS c=>.dS (c.map one)
 | .dm l=>.d (.dm l)
 | .int k n=>.d (.int k n)
 | .bool b=>.d (.bool b)
 | .str s=>.d (.str s)
 | .ix c j=>.d (.ix c j)
 | .fn f c=>.d (.fn f c)
 | .km=>.d .km
 | .mA=>.d .mA
 where
 one:c3->dp
  | .agg c=>.agg (c.map .d)
  |x=>.d x
def pX:c3->di
 | .int _ _=>N
 | .bool _=>N
 | .str _=>N
 | .dS c=>all c
 | .agg c=>all c
 |_=>L
 where
 one:c3->di
  | .int _ _=>N
  | .bool _=>N
  | .str _=>N
  |_=>L
 all:I c3->di
  | []=>N
  |x::r=>bif one x then all r else L
def Nx(T:fM)(t:eF)(v:dp)(O:V->dB d4)(K:dp->Prop):Prop:=
 match (T t).k with
 | .str=>match v with
  | .d (.str s)=>K (.d (.int .i64 s.size))
  |_=>dA
 | .slice _=>match v with
  | .d (.dm l)=>K (.d (.int .i64 l.length))
  | .nil=>K (.d (.int .i64 0))
  | .win b _ n _=>match O b with
   |some _=>K (.d (.int .i64 n))
   |none=>dA
  | .own b=>match O b with
   |some (.row l _ _)=>K (.d (.int .i64 l.length))
   |_=>dA
  |_=>dA
 |_=>dA
def xS(dC:fw->dp)(o:dB fw)(K:dB J->Prop):Prop:=
 match o with
 |none=>K cL
 |some x=>match dC x with
  | .d (.int _ n)=>K (U n)
  |_=>dA
def zI(dx:I c3):I (I c3):=dx.map λd=>[d]
def Ny(T:fM)(t:eF)(v:dp)(O:V->dB d4)(dz cK oa:dB J)(K:gp->Prop):Prop:=
 match oa with
 |none=>match v with
  | .d (.str s)=>match (T t).k with
   | .str=>wt dz cK s.size λl h=>K ⟨.d (.str (s.extract l h)),[],cL⟩
   |_=>dA
  | .d (.dm r)=>match (T t).k with
   | .slice iB=>jZ (∀e∈r,e.length=(T iB).size) (wt dz cK r.length λl h=>K ⟨.d (.dm ((r.take h).drop l)),[],cL⟩)
   |_=>dA
  | .own b=>match O b with
   |some (.row r cR _)=>match (T t).k with
    | .slice iB=>bif d3 cR (T iB).size then wt dz cK r.length λl h=>K ⟨.d (.dm ((r.take h).drop l)),[(b,.row r cR N)],cL⟩ else dA
    |_=>dA
   |_=>dA
  | .nil=>match (T t).k with
   | .slice _=>wt dz cK 0 λ_ _=>K ⟨.nil,[],cL⟩
   |_=>dA
  | .win b a n c=>match O b with
   |some (.row _ cR L)=>match (T t).k with
    | .slice iB=>bif d3 cR (T iB).size then BT dz cK n (c.getD n) λl h=>K ⟨.win b (a+l) (h-l) (U5 c l),[],cL⟩ else dA
    |_=>dA
   |_=>dA
  | .ptr b i j=>match O b with
   |some (.box c _)=>match (T t).k with
    | .arr n iB=>bif d3 i 0&&(d3 j 0&&(d3 (T iB).size 1&&d3 n c.length)) then(match conv.cells O c with
     |some dx=>wt dz cK c.length λl h=>K ⟨.d (.dm (((zI dx).take h).drop l)),gh O (g8.cells O c)++[(b,.box c N)],cL⟩
     |none=>dA) else dA
    |_=>dA
   |_=>dA
  |_=>dA
 |some m=>match v with
  | .win b a n c=>match O b with
   |some (.row _ cR L)=>match (T t).k with
    | .slice iB=>bif d3 cR (T iB).size then jZ (cK≠cL/\0<=m/\m<= (c.getD n:J)) (BT dz cK n m.toNat λl h=>K ⟨.win b (a+l) (h-l) (U (m.toNat-l)),[],cL⟩) else dA
    |_=>dA
   |_=>dA
  |v=>match (T t).k with
   | .slice _=>jZ (m=0/\cK=U 0/\dz=cL) (match v with
    | .d (.dm _)=>K ⟨.nil,[],cL⟩
    | .nil=>K ⟨.nil,[],cL⟩
    |_=>dA)
   |_=>dA
def iC{α:Type}(c:I α)(j:V):I α->I α
 | []=>c
 |x::r=>iC (c.set j x) (j+1) r
def BW{α:Type}(c:I α)(j:V)(l:I α):I α:=c.take j++(l++c.drop (j+l.length))
def cellsOf:dp->I dp
 | .agg c=>c
 |v=>[v]
def kp(b:V):I V->di
 | []=>L
 |x::r=>bif d3 b x then N else kp b r
def rz:c3->dp
 | .dm []=>.nil
 |x=>.d x
def pY(O:V->dB d4):dp->di
 | .d x=>one x
 | .eN=>N
 | .fd=>N
 | .own b=>match O b with
  |some _=>N
  |none=>L
 | .ptr b _ _=>match O b with
  |some _=>N
  |none=>L
 | .nil=>N
 | .fn _ _=>N
 |_=>L
 where
 one:c3->di
  | .int _ _=>N
  | .bool _=>N
  | .str _=>N
  | .dm _=>N
  | .ix _ _=>N
  | .fn _ _=>N
  | .km=>N
  | .agg _=>L
  | .dS _=>L
  | .mA=>L
def sC(O:V->dB d4):I dp->di
 | []=>N
 |x::r=>bif pY O x then sC O r else L
def BX(cR:V)(e:I c3):di:=d3 e.length cR&&e.all pY.one
def gZ(cR:V)(l:I (I c3)):di:=l.all (BX cR)
def BY(cR:V)(v:dp)(O:V->dB d4)(K:I (I c3)->Prop):Prop:=
 match v with
 | .d (.dm l)=>jZ (gZ cR l=N) (K l)
 | .nil=>K []
 | .own b=>match O b with
  |some (.row l a _)=>bif d3 a cR then jZ (gZ cR l=N) (K l) else dA
  |_=>dA
 | .win b dz n _=>match O b with
  |some (.row l a _)=>bif d3 a cR then jZ (dz+n<=l.length/\gZ cR ((l.drop dz).take n)=N) (K ((l.drop dz).take n)) else dA
  |_=>dA
 |_=>dA
def Nz(cR:V)(v:dp)(O:V->dB d4)(K:I (I c3)->Prop):Prop:=
 match v with
 | .d (.dm l)=>K l
 | .nil=>K []
 | .own b=>match O b with
  |some (.row l a _)=>bif d3 a cR then K l else dA
  |_=>dA
 | .win b dz n _=>match O b with
  |some (.row l a _)=>bif d3 a cR then jZ (dz+n<=l.length) (K ((l.drop dz).take n)) else dA
  |_=>dA
 |_=>dA
def U7(T:fM)(e:eF)(x y:dp)(O:V->dB d4)(K:gp->Prop):Prop:=
 match x with
 | .win b dz n _=>match O b with
  |some (.row r cR L)=>bif d3 cR (T e).size then Nz (T e).size y O λfT=>jZ (dz+n<=r.length/\gZ (T e).size (fT.take (uR fT.length n))=N)
    (K ⟨.d (.int .i64 (uR fT.length n)),[(b,.row (r.take dz++(fT.take (uR fT.length n)++r.drop (dz+uR fT.length n))) cR L)],cL⟩) else dA
  |_=>dA
 |_=>dA
def U8(T:fM)(e:eF)(x:dp)(O:V->dB d4)(K:gp->Prop):Prop:=
 match x with
 | .win b dz n _=>match O b with
  |some (.row r cR L)=>bif d3 cR (T e).size then jZ (dz+n<=r.length/\BX (T e).size (T e).zero=N)
    (K ⟨.dS [],[(b,.row (r.take dz++(eQ n (T e).zero++r.drop (dz+n))) cR L)],cL⟩) else dA
  |_=>dA
 |_=>dA
def Io(T:fM)(e:eF)(b dz n c:V)(fT:I (I c3))(O:V->dB d4)(dst:dB Tmp)(K:gp->Prop):Prop:=
 match O b with
 |some (.row r cR L)=>bif d3 cR (T e).size then ag4 (n+fT.length<=c)
   (jZ (dz+n+fT.length<=r.length) (K ⟨.win b dz (n+fT.length) (U c),[(b,.row (r.take (dz+n)++(fT++r.drop (dz+n+fT.length))) cR L)],cL⟩))
   (match dst with
    |some d=>jZ (dz+n<=r.length) (sB (n+fT.length) (T e).bytes (K ⟨.win d 0 (n+fT.length) cL,[(d,.row ((r.drop dz).take n++fT) cR L)],U d⟩))
    |none=>dA) else dA
 |_=>dA
def NA(T:fM)(e:eF)(b dz n c:V)(k:J)(O:V->dB d4)(dst:dB Tmp)(K:gp->Prop):Prop:=
 match O b with
 |some (.row r cR L)=>bif d3 cR (T e).size then jZ (0<=k/\c<n+k.toNat/\dz+n<=r.length)
   (match dst with
    |some d=>sB (n+k.toNat) (T e).bytes (K ⟨.win d 0 (n+k.toNat) cL,[(d,.row ((r.drop dz).take n++eQ k.toNat (T e).zero) cR L)],U d⟩)
    |none=>dA) else dA
 |_=>dA
def NB(T:fM)(e:eF)(k:J)(dst:dB Tmp)(K:gp->Prop):Prop:=
 jZ (0<k) (match dst with
  |some d=>sB k.toNat (T e).bytes (K ⟨.win d 0 k.toNat cL,[(d,.row (eQ k.toNat (T e).zero) (T e).size L)],U d⟩)
  |none=>dA)
def ww(O:V->dB d4)(dC:fw->dp)(off:V->dB (V×V))(c:I dp)(a:I (V×fw))(K:I dp->Prop):Prop:=
 match a with
 | []=>K c
 |(i,x)::r=>match off i with
  |some (o,s)=>na (dC x) λv=>bif d3 (cellsOf v).length s&&hn (o+s) c.length then(bif sC O (cellsOf v) then ww O dC off (BW c o (cellsOf v)) r K else dA) else dA
  |none=>dA
def BZ(T:fM)(e:eF)(n:V):I dp:=(iz (n*(T e).size)).map λk=>rz ((T e).zero.getD (k%(T e).size) .km)
def Ip(T:fM)(iA:I (V×eF))(i:V):dB (V×V):=match iA[i]? with|some (o,t)=>U (o,(T t).size)|none=>cL
open Go.Conc
structure e0(F:V->Prop)(w w':da):Prop where
 os:w'.os=w.os
 tape:w'.tape=w.tape
 output:w'.output=w.output
 size:w'.heap.size=w.heap.size
 block:∀c,¬F c->w'.heap[c]?=w.heap[c]?
theorem e0.refl(F w):e0 F w w:=⟨Z,Z,Z,Z,λ_ _=>Z⟩
theorem e0.trans{F a b c}(h:e0 F a b)(d:e0 F b c):e0 F a c:=
 ⟨d.os.trans h.os,d.tape.trans h.tape,d.output.trans h.output,d.size.trans h.size,λx e=>(d.block x e).trans (h.block x e)⟩
theorem e0.drawn(F w d):e0 F w {w with drawn:=d}:=⟨Z,Z,Z,Z,λ_ _=>Z⟩
structure oS(F:V->Prop)(w w':da):Prop where
 os:w'.os=w.os
 tape:w'.tape=w.tape
 output:w'.output=w.output
 size:w.heap.size<=w'.heap.size
 block:∀c,F c->w'.heap[c]?=w.heap[c]?
theorem oS.refl(F w):oS F w w:=⟨Z,Z,Z,fi _,λ_ _=>Z⟩
def jc(F:V->Prop)(e:hJ):Prop:=
 match e.loc with
 | .cell a=>e.sync=L/\ ¬F a.block
 | .obj r=>e.sync=L/\ ¬F r
 | .mark (.extern _)=>True
 | .mark .noRoom=>True
 |_=>dA
structure jd(F:V->Prop)(w w':da)(es:d' hJ):Prop where
 m_:oS F w w'
 dq:∀e∈es,jc F e
theorem jd.idle(F w):jd F w w #[]:=⟨.refl _ _,λe h=>by simp at h⟩
inductive iL(P:en)(main:di)(F:V->Prop)(dy:dP->da->Prop):dP->da->Prop
 |stop {g:dP} {w:da} (h:∀c2,e0 F w c2->dy g c2):iL P main F dy g w
 |step {g:dP} {w:da} (c':g.status=.running) (fr:da->dP×da×d' hJ)
   (h:∀c2,e0 F w c2->stepG P main g c2=.go (fr c2).1 (fr c2).2.1 (fr c2).2.2/\jd F c2 (fr c2).2.1 (fr c2).2.2)
   (k:∀c2,e0 F w c2->iL P main F dy (fr c2).1 (fr c2).2.1):iL P main F dy g w
section
variable {P:en} {main:di} {F:V->Prop} {dy:dP->da->Prop}
def BJ(P:en)(main:di)(g:dP)(w:da):dP×da×d' hJ:=
 match stepG P main g w with
 | .go g' w' es=>(g',w',es)
 |_=>(g,w,#[])
theorem iL.nx{g w}(s:g.status=.running)(h:∀c2,e0 F w c2->(stepG P main g c2).goes λg' w' es=>jd F c2 w' es/\iL P main F dy g' w'):iL P main F dy g w:=by
 refine .step s (BJ P main g) (λc2 a=>?_) (λc2 a=>?_)
 .have:=h c2 a;unfold BJ;revert this
  cases stepG P main g c2<;>simp[MV,MW,MX]
  simp_all
 .have:=h c2 a;unfold BJ;revert this
  cases stepG P main g c2<;>simp only[MV,MW,MX]
  simp_all
theorem iL.rely{g w c2}(h:iL P main F dy g w)(dQ:e0 F w c2):iL P main F dy g c2:=by
 cases h with|stop h=>exact .stop λa b=>h a (dQ.trans b)|step c' fr h k=>exact .step c' fr (λa b=>h a (dQ.trans b)) (λa b=>k a (dQ.trans b))
def BK(P:en)(main:di)(F:V->Prop)(dy:dP->da->Prop)(b:g6)(k:I Item)(cs:I g6):Exit->e8->da->Prop
 | .normal,a,w=>iL P main F dy (G (b.at a k) cs) w
 | .exit id,a,w=>∃fo,exitTo id k=U fo/\iL P main F dy (G (b.at a fo) cs) w
 | .ret,a,w=>∀todo,iL P main F dy (G {b.at a todo with mode:=.returning} cs) w
 |_,_,_=>dA
theorem BK.push{b x k cs e a w}(i:x.plain=N)(d:e≠.normal)(h:BK P main F dy b k cs e a w):BK P main F dy b (x::k) cs e a w:=by
 cases e with|normal=>simp_all|exit id=>have⟨fo,f,g⟩:=h;exact⟨fo,by cases x<;>simp_all [exitTo,Item.plain],g⟩|ret=>exact h|goto l=>exact h|panic c=>exact h|outgrown=>exact h
end
def jX(P:en)(main:di)(F:V->Prop)(fn:im)(c:Code)(db:Exit->e8->da->Prop)(a:e8)(w:da):Prop:=
 ∀(b:g6) (k:I Item) (cs:I g6) (dy:dP->da->Prop),b.fn=fn->b.kind≠.early->(∀e d8 w',db e d8 w'->BK P main F dy b k cs e d8 w')->iL P main F dy (G (b.at a (.code c::k)) cs) w
def m'(P:en)(main:di)(F:V->Prop)(fn:im)(ops:d' gL)(todo:I V)(db:Exit->e8->da->Prop)(a:e8)(w:da):Prop:=
 ∀(b:g6) (k:I Item) (cs:I g6) (dy:dP->da->Prop),b.fn=fn->b.kind≠.early->(∀e d8 w',db e d8 w'->BK P main F dy b k cs e d8 w')->iL P main F dy (G (b.at a (.inRegion ops todo::k)) cs) w
section rules
variable {P:en} {main:di} {F:V->Prop} {fn:im} {db:Exit->e8->da->Prop} {a:e8} {w:da}
theorem EU{c d}(j:∀e a w,db e a w->d e a w)(h:jX P main F fn c db a w):jX P main F fn c d a w:=
 λb k cs dy f i g=>h b k cs dy f i λe d8 w' q=>g e d8 w' (j e d8 w' q)
theorem ny{g g' dy}(b:g.status=.running)(s:∀w,stepG P main g w=.go g' w)(h:iL P main F dy g' w):iL P main F dy g w:=
 iL.nx b λc2 a=>by rw[s];exact⟨.idle _ _,h.rely a⟩
theorem agr(h:db .normal a w):jX P main F fn .skip db a w:=λb k cs dy _ _ c=>ny Z (λ_=>stepG_skip) (c _ _ _ h)
theorem ags{l}(h:db .normal a w):jX P main F fn (.label l) db a w:=λb k cs dy _ _ c=>ny Z (λ_=>stepG_label) (c _ _ _ h)
theorem agt(h:db .ret a w):jX P main F fn .ret db a w:=λb k cs dy _ _ c=>ny Z (λ_=>stepG_ret') (c _ _ _ h _)
theorem agu{id}(h:db (.exit id) a w):jX P main F fn (.exit id) db a w:=λb k cs dy _ _ d=>by
 have⟨fo,c,g⟩:=d _ _ _ h;exact ny Z (λ_=>stepG_exit c) g
theorem agv{x y}(h:jX P main F fn x (Exit.then (λd8 w'=>jX P main F fn y db d8 w') db) a w):jX P main F fn (.seq x y) db a w:=by
 intro b k cs dy d f c;refine ny Z (λ_=>stepG_seq) (h b (.code y::k) cs dy d f λe d8 w' q=>?_)
 cases e with|normal=>exact q b k cs dy d f c|exit id=>exact(c _ _ _ q).push Z dw|ret=>exact(c _ _ _ q).push (x:=.code y) Z dw|goto l=>exact c _ _ _ q|panic g=>exact c _ _ _ q|outgrown=>exact c _ _ _ q
theorem Uz{c x y t}(e:a.eval c=.bool t)(h:jX P main F fn (if t then x else y) db a w):jX P main F fn (.cond c x y) db a w:=
 λb k cs dy d f q=>ny Z (λ_=>stepG_cond e) (h b k cs dy d f q)
theorem UB{c x y}(b:a.eval c=.bool N)(h:jX P main F fn x db a w):jX P main F fn (.cond c x y) db a w:=Uz b h
theorem UC{c x y}(b:a.eval c=.bool L)(h:jX P main F fn y db a w):jX P main F fn (.cond c x y) db a w:=Uz b h
theorem agw{id c}(h:jX P main F fn c (Nb id db) a w):jX P main F fn (.block id c) db a w:=by
 intro b k cs dy j n d;refine ny Z (λ_=>stepG_block) (h b (.inBlock id::k) cs dy j n λe d8 w' q=>?_)
 cases e with
 |normal=>exact ny Z (λ_=>stepG_inBlock) (d _ _ _ q)
 |exit f=>
  by_cases i:f=id
  .simp[Nb,i,nz]at q;exact⟨k,by simp[exitTo,i],d _ _ _ q⟩
  .simp[Nb,i,qF]at q;have⟨fo,g,m⟩:=d _ _ _ q
   have:(id==f)=L:=by simp;exact λh=>i h.symm
   exact⟨fo,by simp[exitTo,this,g],m⟩
 |ret=>exact d _ _ _ q
 |goto l=>exact d _ _ _ q
 |panic o=>exact d _ _ _ q
 |outgrown=>exact d _ _ _ q
theorem agx{c}(dh:V->e8->da->Prop)(n)(f:dh n a w)(r:∀n a w,dh n a w->jX P main F fn c (Exit.then (λd8 w'=>∃m,m<n/\dh m d8 w') db) a w):jX P main F fn (.loop c) db a w:=by
 intro b k cs dy j o d
 have y:∀n a w,dh n a w->iL P main F dy (G (b.at a (.code c::.inLoop c::k)) cs) w:=by
  intro n
  induction n using to with
  |_ n t=>
   intro a w i;refine r n a w i b (.inLoop c::k) cs dy j o λe d8 w' q=>?_
   cases e with|normal=>have⟨m,s,g⟩:=q;exact ny Z (λ_=>stepG_inLoop) (t m s d8 w' g)|exit id=>exact(d _ _ _ q).push Z dw|ret=>exact(d _ _ _ q).push (x:=.inLoop c) Z dw|goto l=>exact d _ _ _ q|panic u=>exact d _ _ _ q|outgrown=>exact d _ _ _ q
 exact ny Z (λ_=>stepG_loop) (y n a w f)
theorem agy{c}(n:∀l a w,¬db (.goto l) a w)(h:jX P main F fn c db a w):jX P main F fn (.scope c) db a w:=by
 intro b k cs dy f i d;refine ny Z (λ_=>by rfl) (h b (.inScope c::k) cs dy f i λe d8 w' q=>?_)
 cases e with|normal=>exact ny Z (λ_=>by rfl) (d _ _ _ q)|exit id=>have⟨fo,j,g⟩:=d _ _ _ q;exact⟨fo,by assumption,g⟩|ret=>exact d _ _ _ q|goto l=>simp_all|panic m=>exact d _ _ _ q|outgrown=>exact d _ _ _ q
theorem Nc{ops}(h:db .normal a w):m' P main F fn ops [] db a w:=λb k cs dy _ _ c=>ny Z (λ_=>stepG_region_end) (c _ _ _ h)
theorem agA{id ops}(h:m' P main F fn ops (iz ops.size) db a w):jX P main F fn (.region id ops L) db a w:=
 λb k cs dy c e d=>ny Z (λ_=>stepG_region) (h b k cs dy c e d)
theorem agB{id ops}(h:∀t,m' P main F fn ops (Region.schedule (P.follows .mixedOrders) ops t) db a w):jX P main F fn (.region id ops N) db a w:=
 λb k cs dy d i f=>iL.nx Z λc2 c=>by
  rw[stepG_region_draw];exact⟨⟨⟨Z,Z,Z,fi _,λ_ _=>Z⟩,λe g=>by simp at g⟩,(h _ b k cs dy d i f).rely (c.trans (.drawn _ _ _))⟩
theorem UD{ops i rest o}(f:ops[i]?=U o)(hw:js o (yielded ops a.tmps)=L)(h:m' P main F fn ops rest db (a.put o.dst undef) w):m' P main F fn ops (i::rest) db a w:=
 λb k cs dy c e d=>ny Z (λ_=>stepG_unwanted f hw) (h b k cs dy c e d)
def uL(P:en)(F:V->Prop)(fn:Func)(tmps:d' dr)(v:dr)(w:da):Prop:=
 ∀c2,e0 F w c2->(results fn tmps).run P c2=.ok v c2/\ ∀e∈(results fn tmps).events P c2 #[],jc F e
def Nd(P:en)(F:V->Prop)(fn:Func)(dO:dr->da->Prop):Exit->e8->da->Prop
 | .normal,a,w| .ret,a,w=>a.defers=[] /\ ∃v,uL P F fn a.tmps v w/\dO v w
 |_,_,_=>dA
def g7(P:en)(main:di)(F:V->Prop)(f:im)(args:d' dr)(w:da)(dO:dr->da->Prop):Prop:=
 ∃fn c,P.funcs[f]?=U fn/\ (fn.name== "runtime.NumGoroutine")=L/\fn.body=U c/\
  ∀(cs:I g6) (dy:dP->da->Prop),(∀e d8 w',Nd P F fn dO e d8 w'->BK P main F dy (base f) [] cs e d8 w')->
   iL P main F dy (G ((base f).at {tmps:=args++kM (fn.ntmps-args.size) undef,defers:=[]} [.code c]) cs) w
theorem g7.mono{f args dO o}(h:g7 P main F f args w dO)(O:∀v w,dO v w->o v w):g7 P main F f args w o:=by have⟨fn,c,d,c0,b,hw⟩:=h;exact⟨fn,c,d,c0,b,λcs dy a=>hw cs dy λe d8 w' q=>a e d8 w' (by cases e<;>first|exact⟨q.1,q.2.choose,q.2.choose_spec.1,O _ _ q.2.choose_spec.2⟩|exact q)⟩
theorem g7.rely{f args dO c2}(h:g7 P main F f args w dO)(r:e0 F w c2):g7 P main F f args c2 dO:=by have⟨fn,c,d,c0,b,hw⟩:=h;exact⟨fn,c,d,c0,b,λcs dy a=>(hw cs dy a).rely r⟩
theorem xK{f fn c args dO}(d:P.funcs[f]?=U fn)(c0:(fn.name== "runtime.NumGoroutine")=L)(b:fn.body=U c)
  (h:jX P main F f c (Nd P F fn dO) {tmps:=args++kM (fn.ntmps-args.size) undef,defers:=[]} w):g7 P main F f args w dO:=⟨fn,c,d,c0,b,λcs dy a=>h (base f) [] cs dy Z (by simp[base]) a⟩
def agD(P:en)(main:di)(F:V->Prop)(o:gL)(a:e8)(w:da)(es:d' hJ)(dc:e8->da->Prop):Result Next->Prop
 | .ok (.value v) w'=>jd F w w' es/\dc (a.put o.dst v) w'
 | .ok .skip w'=>jd F w w' es/\dc (a.put o.dst undef) w'
 | .ok (.enter f vs) w'=>jd F w w' es/\g7 P main F f vs w' λv b=>dc (a.put o.dst v) b
 |_=>dA
def n9(P:en)(main:di)(F:V->Prop)(o:gL)(a:e8)(w:da)(dc:e8->da->Prop):Prop:=
 ∀c2,e0 F w c2->agD P main F o a c2 ((execOp a.eval o).events P c2 #[]) dc ((execOp a.eval o).run P c2)
theorem wl{o dc b}(c:∀a w,dc a w->b a w)(h:n9 P main F o a w dc):n9 P main F o a w b:=λc2 h₁=>by
 have:=h c2 h₁;revert this
 cases (execOp a.eval o).run P c2 with
 |ok n w'=>cases n<;>first|exact λq=>⟨q.1,c _ _ q.2⟩|exact λq=>⟨q.1,q.2.mono λ_ _ x=>c _ _ x⟩|exact id
 |halt x w'=>exact id
theorem agE{o dc}(h:∀c2,e0 F w c2->∃v w',(execOp a.eval o).run P c2=.ok (.value v) w'/\jd F c2 w' ((execOp a.eval o).events P c2 #[]) /\dc (a.put o.dst v) w'):n9 P main F o a w dc:=λc2 b=>by
 have⟨v,w',r,cP,c0⟩:=h c2 b;rw[r];exact⟨cP,c0⟩
theorem agF{o dc f vs}(h:∀c2,(execOp a.eval o).run P c2=.ok (.enter f vs) c2/\ (execOp a.eval o).events P c2 #[]=#[])(k:g7 P main F f vs w λv w'=>dc (a.put o.dst v) w'):n9 P main F o a w dc:=λc2 b=>by
 rw[(h c2).1,(h c2).2];exact⟨.idle _ _,k.rely b⟩
theorem EV{b:g6}{cs f todo c v}(c0:b.kind=.normal)(cP:a.defers=[])(h:P.funcs[b.fn]?=U f)(r:(results f a.tmps).run P w=.ok v w):
  stepG P main (G {b.at a todo with mode:=.returning} (c::cs)) w=.go (G (c.finish v) cs) w (seen P b.fn ((results f a.tmps).events P w #[])):=by
 simp[G,stepG,unwind,doReturn,Frame.at,c0,cP,h,r,GStep.after]
theorem UE{ops i rest o}(A:ops[i]?=U o)(hw:js o (yielded ops a.tmps)=N)(h:n9 P main F o a w λd8 w'=>m' P main F fn ops rest db d8 w'):m' P main F fn ops (i::rest) db a w:=by
 intro b k cs dy C u E
 have x:∀v,(b.at a (.inRegion ops (i::rest)::k)).finish v=b.at (a.put o.dst v) (.inRegion ops rest::k):=λv=>by rw[Frame.finish_at,A];rfl
 refine iL.nx Z λc2 z=>?_;have:=h c2 z;have H:∀e∈listed P b.fn a o c2,e∈(execOp a.eval o).events P c2 #[]:=λe p=>mem_seen p;generalize cX:(execOp a.eval o).run P c2=r at this
 match r,this with
 | .ok (.value v) w',⟨d,n⟩=>rw[stepG_value A hw u cX];exact⟨⟨d.m_,λe p=>d.dq e (H e p)⟩,n b k cs dy C u E⟩| .ok .skip w',⟨d,n⟩=>rw[stepG_none A hw u cX];exact⟨⟨d.m_,λe p=>d.dq e (H e p)⟩,n b k cs dy C u E⟩
 | .ok (.enter f vs) w',⟨d,B,c,cM,dh,y,K⟩=>
  rw[Ib A hw u cX,EW _ cM y]
  have j:∀(d8:e8) (g:da) (todo:I Item),(d8.defers=[] /\ ∃v,uL P F B d8.tmps v g/\m' P main F fn ops rest db (a.put o.dst v) g)->
    iL P main F dy (G {(base f).at d8 todo with mode:=.returning} (b.at a (.inRegion ops (i::rest)::k)::cs)) g:=by
   rintro d8 g todo ⟨cP,v,s,n⟩;refine iL.nx Z λt m=>?_;rw[EV (b:=base f) Z cP cM (s t m).1,x];exact⟨⟨.refl _ _,λe p=>(s t m).2 e (mem_seen p)⟩,(n b k cs dy C u E).rely m⟩
  refine⟨⟨d.m_,λe p=>d.dq e (H e p)⟩,K _ dy λe d8 g q=>?_⟩
  cases e with|normal=>exact ny Z (λ_=>stepG_end) (j d8 g [] q)|ret=>exact λtodo=>j d8 g todo q|exit id=>exact q.elim|goto l=>exact q.elim|panic M=>exact q.elim|outgrown=>exact q.elim
def wm(P:en)(main:di)(F:V->Prop)(ops:d' gL)(i:V)(K:e8->da->Prop)(a:e8)(w:da):Prop:=
 match ops[i]? with
 |none=>dA
 |some o=>if js o (yielded ops a.tmps) then n9 P main F o a w K else K (a.put o.dst undef) w
def Ic(P:en)(main:di)(F:V->Prop)(b:Region.Mode)(ops:d' gL)(db:Exit->e8->da->Prop):V->d' di->e8->da->Prop
 |0,listed,a,w=>mF b ops listed=[] /\db .normal a w
 |fuel+1,listed,a,w=>(mF b ops listed=[]->db .normal a w) /\ ∀i∈mF b ops listed,wm P main F ops i (Ic P main F b ops db fuel (listed.setIfInBounds i N)) a w
theorem agG{ops i K b}(c:∀a w,K a w->b a w)(h:wm P main F ops i K a w):wm P main F ops i b a w:=by
 unfold wm at*
 split
 .simp_all
 .rename_i o d;simp[d]at h;split
  .rename_i hw;rw[if_pos hw]at h;exact wl c h
  simp_all
theorem agH{ops i rest}(h:wm P main F ops i (λd8 w'=>m' P main F fn ops rest db d8 w') a w):m' P main F fn ops (i::rest) db a w:=by
 unfold wm at h;split at h
 .grind
 .rename_i o b;split at h
  .rename_i hw;exact UE b hw h
  .rename_i hw;exact UD b (by simp_all) h
theorem agI{m ops}:∀f t listed a w,Ic P main F m ops db f listed a w->m' P main F fn ops (Nh m ops f t listed []) db a w:=by
 intro f
 induction f with
 |zero=>intro t listed a w h;simpa[Nh]using Nc h.2
 |succ f d=>
  intro t listed a w h;have⟨b,c⟩:=h;simp only[Nh]
  change m' P main F fn ops (match (mF m ops listed)[t%(mF m ops listed).length]? with
   |some i=>Nh m ops f (t/(mF m ops listed).length) (listed.setIfInBounds i N) [i]|none=>[].reverse) db a w
  cases cK:(mF m ops listed)[t%(mF m ops listed).length]? with
  |none=>
   have n:mF m ops listed=[]:=by
    cases r:mF m ops listed with|nil=>rfl|cons x dD=>rw[r]at cK;have l:t%(x::dD).length<(x::dD).length:=lp _ dw;grind
   simpa using Nc (b n)
  |some i=>simp only[];rw[linearise_go_acc,List.reverse_singleton,List.singleton_append];exact agH (agG (λd8 w' x=>d _ _ d8 w' x) (c i (jY cK)))
theorem agK(m:P.follows .mixedOrders=N){id ops}(h:Ic P main F .any ops db ops.size (kM ops.size L) a w):jX P main F fn (.region id ops N) db a w:=by refine agB λt=>?_;rw[m];exact agI ops.size t _ a w h
end rules
open Go.RowKit
def fp(M:eI)(w:da):Prop:=∀(b o:V) (v:dr),M b o=U v->w.cell? ⟨b,o,cL⟩=U v
def uS(w:da)(M a:eI):Prop:=∀(b o:V) (v:dr),a b o=U v->M b o=U v\/w.heap.size<=b
def lS(M:eI)(dx:I c3)(vs:d' dr):Prop:=vs.size=dx.length/\ ∀(i:V) (d:c3) (v:dr),dx[i]?=U d->vs[i]?=U v->e4 M d v
def zJ(M:eI)(D:gD)(dD:I dp)(vs:d' dr):Prop:=vs.size=dD.length/\ ∀(i:V) (d:dp) (v:dr),dD[i]?=U d->vs[i]?=U v->dZ M D d v
structure lT(M:eI)(cs:d' dr)(l:I (I c3))(cR:V):Prop where
 len:∀(i:V) (e:I c3),l[i]?=U e->e.length=cR
 den:∀(i j:V) (e:I c3) (d:c3),l[i]?=U e->e[j]?=U d->∃v,cs[i*cR+j]?=U v/\e4 M d v
structure tw(M:eI)(D:gD)(cs:d' dr)(c:I dp):Prop where
 size:cs.size=c.length
 den:∀(j:V) (x:dp),c[j]?=U x->∃v,cs[j]?=U v/\dZ M D x v
def U9(M:eI)(blk:V)(cs:d' dr)(n:V)(cN:di):Prop:=
 (cN=N->∀(o:V) (v:dr),o<n->cs[o]?=U v->M blk o=U v) /\ (cN=L->∀o:V,M blk o=cL)
def jJ(M:eI)(D:gD)(w:da)(B:d4)(cM:k6):Prop:=
 ∃(cs:d' dr) (T:eF),w.heap[cM.blk]?=U (.cells cs T (0,0)) /\cs.size=cM.size/\
  match B with
  | .row l cR cN=>cR=cM.cR/\l.length=cM.len/\l.length*cR<=cM.size/\lT M cs l cR/\U9 M cM.blk cs (l.length*cR) cN
  | .box c cN=>cM.cR=c.length/\cM.size=c.length/\tw M D cs c/\U9 M cM.blk cs c.length cN
structure er(own:V->Prop)(M:eI)(D:gD)(O:V->dB d4)(w:da):Prop where
 fE:∀b,O b=cL↔D b=cL
 iX:∀b,D b=U cL->∃cR cN,O b=U (.row [] cR cN)
 at_:∀(b:V) (B:d4) (cM:k6),O b=U B->D b=U (U cM)->own cM.blk/\jJ M D w B cM
 inj:∀(b d7:V) (cM ek:k6),D b=U (U cM)->D d7=U (U ek)->cM.blk=ek.blk->b=d7
structure j0(own:V->Prop)(cO w:da):Prop where
 os:w.os=cO.os
 tape:w.tape=cO.tape
 output:w.output=cO.output
 size:cO.heap.size<=w.heap.size
 block:∀c,¬own c->w.heap[c]?=cO.heap[c]?
def jx(own:V->Prop)(M a:eI):Prop:=∀(b o:V) (v:dr),a b o=U v->M b o=U v\/own b
def nC(P:en)(f:im):Prop:=∃fn,P.funcs[f]?=U fn/\fn.body.isSome=N/\ (fn.name== "runtime.NumGoroutine")=L
structure jy where
 main:di
 F:V->Prop
def NC:I J:=[1,10,100,1000,10000,100000,1000000,10000000,100000000,1000000000,10000000000,100000000000,1000000000000,10000000000000,100000000000000,1000000000000000,10000000000000000,100000000000000000,1000000000000000000,10000000000000000000]
def E'(M:eI):Prop:=∀(o:V) (n:J),NC[o]?=U n->M 3 o=U (.int .u64 n)
structure gQ(cX:jy)(own:V->Prop)(M:eI):Prop where
 own:∀c,own c->¬cX.F c
 mem:∀(b o:V) (v:dr),M b o=U v->¬cX.F b
 xT:E' M
def pr(cX:jy)(own:V->Prop)(c:V):Prop:=own c\/cX.F c
structure ob(cX:jy)(n:V)(w w':da):Prop where
 os:w'.os=w.os
 tape:w'.tape=w.tape
 output:w'.output=w.output
 size:w.heap.size<=w'.heap.size
 block:∀k,k<n->¬cX.F k->w'.heap[k]?=w.heap[k]?
def uT(P:en)(cX:jy)(f:im)(vs:d' dr)(w:da)(cU:Ending->da->Prop):Prop:=g7 P cX.main cX.F f vs w λv w'=>cU (.returned v) w'
def uT.mono{P cX f vs w cU a}(h:uT P cX f vs w cU)(r:∀e w',cU e w'->a e w'):uT P cX f vs w a:=g7.mono h λ_ _ q=>r _ _ q
def h7(own:V->Prop)(M:eI)(e:hJ):Prop:=
 match e.loc with
 | .cell a=>e.sync=L/\ (own a.block\/ ∃o v,M a.block o=U v)
 | .mark (.extern _)=>True
 | .mark .noRoom=>True
 |_=>dA
def h7.hK{cX own M e}(f:gQ cX own M)(h:h7 own M e):jc cX.F e:=by
 unfold h7 at h;unfold jc;split at h
 .rename_i a;rw[a];exact⟨h.1,h.2.elim (f.own _) λ⟨o,v,cY⟩=>f.mem _ o v cY⟩
 .simp_all
 .simp_all
 simp_all
def d0(P:en)(f:im)(dx:I c3)(d:c3):Prop:=
 nC P f/\ ∀(cX:jy) (w:da) (M:eI) (vs:d' dr),gQ cX (λc=>w.heap.size<=c) M->fp M w->lS M dx vs->uT P cX f vs w λe w'=>
  ∃(v:dr) (a:eI),e=.returned v/\ob cX w.heap.size w w'/\gS M a/\fp a w'/\uS w M a/\e4 a d v
def kg(P:en)(f:im)(dx:I c3)(l:I (I c3))(cR:V):Prop:=
 nC P f/\ ∀(cX:jy) (w:da) (M:eI) (vs:d' dr),gQ cX (λc=>w.heap.size<=c) M->fp M w->lS M dx vs->uT P cX f vs w λe w'=>
  ∃(v:dr) (b:eI),e=.returned v/\ob cX w.heap.size w w'/\gS M b/\fp b w'/\uS w M b/\
   ((l=[] /\ ∃a,v=.slice a 0 0) \/ ∃(c cap:V) (cs:d' dr) (T:eF),w.heap.size<=c/\v=.slice (U ⟨c,0,cL⟩) l.length cap/\l.length<=cap/\
    cap*cR<=cs.size/\w'.heap[c]?=U (.cells cs T (0,0)) /\lT b cs l cR/\ ∀o,b c o=cL)
inductive iM where
 |d (x:c3)
 |row (l:I (I c3)) (cR:V)
def ND(w w':da)(b:eI)(l:I (I c3))(cR:V)(cM:dB k6)(v:dr):Prop:=
 match cM with
 |none=>l=[] /\ ∃a,v=.slice a 0 0
 |some cM=>w.heap.size<=cM.blk/\ ∃(cap:V) (cs:d' dr) (T:eF),v=.slice (U ⟨cM.blk,0,cL⟩) l.length cap/\cM.len=l.length/\cM.cR=cR/\cM.size=cs.size/\l.length<=cap/\
  cap*cR<=cs.size/\w'.heap[cM.blk]?=U (.cells cs T (0,0)) /\lT b cs l cR/\ ∀o,b cM.blk o=cL
def Fa(P:en)(f:im)(dx:I c3)(cs:I iM):Prop:=
 nC P f/\ ∀(cX:jy) (w:da) (M:eI) (vs:d' dr),gQ cX (λc=>w.heap.size<=c) M->fp M w->lS M dx vs->uT P cX f vs w λe w'=>
  ∃(us:d' dr) (a:eI) (ew:V->dB k6),e=.returned (.agg us) /\ob cX w.heap.size w w'/\gS M a/\fp a w'/\uS w M a/\us.size=cs.length/\
   (∀(i:V) (c:iM),cs[i]?=U c->∃u,us[i]?=U u/\match c with
    | .d x=>e4 a x u
    | .row l cR=>ND w w' a l cR (ew i) u) /\
   ∀(i j:V) (cM ek:k6),ew i=U cM->ew j=U ek->cM.blk=ek.blk->i=j
def Fb(P:en)(f:im)(dx:I c3)(cs:I iM)(kh:I c3):Prop:=
 nC P f/\ ∀(cX:jy) (w:da) (M:eI) (vs:d' dr),gQ cX (λc=>w.heap.size<=c) M->fp M w->lS M dx vs->uT P cX f vs w λe w'=>
  ∃(c:V) (us b:d' dr) (eV:eF) (a:eI) (ew:V->dB k6),e=.returned (.tuple (#[.pointer (U ⟨c,0,cL⟩)]++b)) /\w.heap.size<=c/\w'.heap[c]?=U (.cells us eV (0,0)) /\ (∀o,a c o=cL) /\
   ob cX w.heap.size w w'/\gS M a/\fp a w'/\uS w M a/\us.size=cs.length/\lS a kh b/\
   (∀(i:V) (c:iM),cs[i]?=U c->∃u,us[i]?=U u/\match c with
    | .d x=>e4 a x u
    | .row l cR=>ND w w' a l cR (ew i) u) /\
   (∀(i j:V) (cM ek:k6),ew i=U cM->ew j=U ek->cM.blk=ek.blk->i=j) /\ ∀(i:V) (cM:k6),ew i=U cM->cM.blk≠c
def mH(k:V):I iM->I dp
 | []=>[]
 | .d x::r=>.d x::mH k r
 | .row _ _::r=>.own k::mH (k+1) r
def hs(k:V):I iM->I (V×d4)
 | []=>[]
 | .d _::r=>hs k r
 | .row l cR::r=>(k,.row l cR L)::hs (k+1) r
def rA(k:dB V)(dd:V->dp):V->dp:=
 match k with
 |none=>dd
 |some b=>λt=>ev b (dd t)
def ht(b:V):d4->d4
 | .row l cR cN=>.row l cR cN
 | .box c cN=>.box (cells b c) cN
 where
 cells (b:V):I dp->I dp
  | []=>[]
  |x::r=>ev b x::cells b r
def hT(k:dB V)(O:V->dB d4):V->dB d4:=
 match k with
 |none=>O
 |some b=>λt=>match O t with
  |some B=>U (ht b B)
  |none=>cL
def gu(O:V->dB d4):I (V×d4)->V->dB d4
 | []=>O
 |(b,B)::r=>gu (eS O b (U B)) r
def gp.O(e:gp)(O:V->dB d4):V->dB d4:=gu (hT e.f5 O) e.wr
def pZ(f5:dB V)(b:V):Prop:=
 match f5 with
 |none=>True
 |some k=>ha k b=L
def tx{k b}(h:pZ (U k) b):b≠k:=E7 h
def rB(P:en)(f:im)(dD:I dp)(O:V->dB d4)(e:gp):Prop:=
 nC P f/\ ∀(cX:jy) (own:V->Prop) (M:eI) (D:gD) (w:da) (vs:d' dr),gQ cX own M->(∀c,w.heap.size<=c->own c)->fp M w->er own M D O w->zJ M D dD vs->
  uT P cX f vs w λk7 w'=>∃(v:dr) (a:eI) (ei:gD),k7=.returned v/\j0 (pr cX own) w w'/\gS M a/\fp a w'/\jx own M a/\
   er own a ei (e.O O) w'/\ (∀b,pZ e.f5 b->ei b=D b) /\dZ a ei e.fj v
structure rC(P:en)(f:im)(st:di)(dD:I dp)(O:V->dB d4)(dst:dB Tmp)(dx:I c3)(dW:I V)(K:gp->Prop):Prop where
 out:(∃d,d0 P f dx d/\bif pX d then K ⟨lR d,[],cL⟩ else K ⟨lR d,gh O dW,cL⟩) \/
 (∃l cR t,kg P f dx l cR/\dst=U t/\K ⟨.own t,gh O dW++[(t,.row l cR L)],U t⟩) \/
 (st=N/\ ∃e,rB P f dD O e/\K e) \/
 (∃cs t,Fa P f dx cs/\dst=U t/\ (hs 0 cs).length<=8/\K ⟨.agg (mH (2000000+8*t) cs),gh O dW++hs (2000000+8*t) cs,U (2000000+8*t)⟩) \/
 (∃cs kh t,Fb P f dx cs kh/\dst=U t/\ (hs 0 cs).length<=7/\K ⟨.dS (.ptr (2000000+8*t) 0 0::kh.map lR.one),gh O dW++(hs (2000000+8*t+1) cs++[(2000000+8*t,.box (mH (2000000+8*t+1) cs) L)]),U (2000000+8*t)⟩)
def df{P f st dD O dst dx dW K d}
  (h:d0 P f dx d)(k:bif pX d then K ⟨lR d,[],cL⟩ else K ⟨lR d,gh O dW,cL⟩):rC P f st dD O dst dx dW K:=⟨.inl ⟨d,h,k⟩⟩
def gT{P f st dD O t dx dW K l cR}
  (h:kg P f dx l cR)(k:K ⟨.own t,gh O dW++[(t,.row l cR L)],U t⟩):rC P f st dD O (U t) dx dW K:=⟨.inr (.inl ⟨l,cR,t,h,Z,k⟩)⟩
def Iq{P f dD O dst dx dW K e}
  (h:rB P f dD O e)(k:K e):rC P f N dD O dst dx dW K:=⟨.inr (.inr (.inl ⟨Z,e,h,k⟩))⟩
def Fc{P f st dD O t dx dW K cs}
  (h:Fa P f dx cs)(c0:(hs 0 cs).length<=8)(k:K ⟨.agg (mH (2000000+8*t) cs),gh O dW++hs (2000000+8*t) cs,U (2000000+8*t)⟩):rC P f st dD O (U t) dx dW K:=⟨.inr (.inr (.inr (.inl ⟨cs,t,h,Z,c0,k⟩)))⟩
def ag5{P f st dD O t dx dW K cs r}
  (h:Fb P f dx cs r)(c0:(hs 0 cs).length<=7)(k:K ⟨.dS (.ptr (2000000+8*t) 0 0::r.map lR.one),gh O dW++(hs (2000000+8*t+1) cs++[(2000000+8*t,.box (mH (2000000+8*t+1) cs) L)]),U (2000000+8*t)⟩):
  rC P f st dD O (U t) dx dW K:=⟨.inr (.inr (.inr (.inr ⟨cs,r,t,h,Z,c0,k⟩)))⟩
def NE(P:en)(f:im)(dD:I dp)(O:V->dB d4)(b:di):Prop:=
 (∃fn,P.funcs[f]?=U fn/\fn.body.isSome=L) /\ ∀(own:V->Prop) (M:eI) (D:gD) (w:da) (vs:d' dr),fp M w->er own M D O w->zJ M D dD vs->(callFunc f vs).run P w=.ok (.value (.bool b)) w/\ ∀e∈(callFunc f vs).events P w #[],h7 own M e
structure zK(P:en)(f:im)(dD:I dp)(O:V->dB d4)(K:gp->Prop):Prop where
 out:(∃e,rB P f dD O e/\K e) \/ ∃b,NE P f dD O b/\K ⟨.d (.bool b),[],cL⟩
def NF{P f dD O K e}(h:rB P f dD O e)(k:K e):zK P f dD O K:=⟨.inl ⟨e,h,k⟩⟩
def ag6{P f dD O K b}(h:NE P f dD O b)(k:K ⟨.d (.bool b),[],cL⟩):zK P f dD O K:=⟨.inr ⟨b,h,k⟩⟩
def U_:dp->dB (im×I c3)
 | .d (.fn f c)=>U (f,c)
 |_=>cL
def ag7:dp->di
 | .ptr _ _ _=>N
 | .win _ _ _ _=>N
 |_=>L
def ki(dC:fw->dp):I fw->I dp
 | []=>[]
 |x::r=>dC x::ki dC r
def NG:I dp->di
 | []=>L
 |x::r=>bif ag7 x then N else NG r
def val(K:gp->Prop)(v:dp):Prop:=K ⟨v,[],cL⟩
def NH(T:fM)(P:en)(o:gL)(c:Call)(dC:fw->dp)(O:V->dB d4)(K:gp->Prop):Prop:=
 match c.callee with
 | .builtin b=>match b with
  | .len=>match c.args.toList with
   | [x]=>match c.argTypes.toList with
    | [t]=>Nx T t (dC x) O (val K)
    |_=>dA
   |_=>dA
  | .min=>match c.args.toList with
   | [x,y]=>match dC x with
    | .d (.int k a)=>match dC y with
     | .d (.int fo b)=>bif d3 (kf k) (kf fo) then K ⟨.d (.int k (min a b)),[],cL⟩ else dA
     |_=>dA
    |_=>dA
   |_=>dA
  | .max=>match c.args.toList with
   | [x,y]=>match dC x with
    | .d (.int k a)=>match dC y with
     | .d (.int fo b)=>bif d3 (kf k) (kf fo) then K ⟨.d (.int k (max a b)),[],cL⟩ else dA
     |_=>dA
    |_=>dA
   |_=>dA
  | .append=>match c.args.toList with
   | [x,y]=>match c.argTypes.toList with
    | [t,t2]=>match (T t2).k with
     | .slice _=>match (T t).k with
      | .slice e=>BY (T e).size (dC y) O λfT=>match dC x with
       | .nil=>match o.dst with
        |some d=>sB fT.length (T e).bytes (K ⟨.own d,[(d,.row fT (T e).size L)],U d⟩)
        |none=>dA
       | .own b=>match O b with
        |some (.row l cR L)=>bif d3 cR (T e).size then sB (l.length+fT.length) (T e).bytes (K ⟨.own b,[(b,.row (l++fT) cR L)],U b⟩) else dA
        |_=>dA
       | .win b dz n (U c)=>Io T e b dz n c fT O o.dst K
       |_=>dA
      |_=>dA
     | .int _=>match (T t).k with
      | .slice e=>match dC x with
       | .win b dz n (U c)=>match dC y with
        | .d (.int _ k)=>NA T e b dz n c k O o.dst K
        |_=>dA
       | .nil=>match dC y with
        | .d (.int _ k)=>NB T e k o.dst K
        |_=>dA
       |_=>dA
      |_=>dA
     |_=>dA
    |_=>dA
   |_=>dA
  | .cap=>match c.args.toList with
   | [x]=>match c.argTypes.toList with
    | [t]=>match (T t).k with
     | .slice _=>match dC x with
      | .win b _ _ (U c)=>match O b with
       |some _=>K ⟨.d (.int .i64 c),[],cL⟩
       |none=>dA
      | .nil=>K ⟨.d (.int .i64 0),[],cL⟩
      |_=>dA
     |_=>dA
    |_=>dA
   |_=>dA
  | .copy=>match c.args.toList with
   | [x,y]=>match c.argTypes.toList with
    | [t,t2]=>match (T t).k with
     | .slice e=>U7 T e (dC x) (dC y) O K
     |_=>dA
    |_=>dA
   |_=>dA
  | .clear=>match c.args.toList with
   | [x]=>match c.argTypes.toList with
    | [t]=>match (T t).k with
     | .slice e=>U8 T e (dC x) O K
     |_=>dA
    |_=>dA
   |_=>dA
  |_=>dA
 | .value f=>match f with
  | .func f=>bif NG (ki dC c.args.toList) then zK P f (ki dC c.args.toList) O K else zH O dC c.args.toList λdx dW=>rC P f N (ki dC c.args.toList) O o.dst dx dW K
  | .tmp t=>match U_ (dC (.tmp t)) with
   |some (f,cs)=>zH O dC c.args.toList λdx dW=>rC P f L [] O o.dst (dx++cs) dW K
   |none=>dA
  |_=>dA
 |_=>dA
def Fe(c:I dp)(j:V)(v:dp)(K:I dp->Prop):Prop:=
 match v with
 | .agg l=>bif d3 l.length c.length then qJ l K else K (BW c j l)
 |v=>K (iC c j [v])
def wx:I (I c3)->dB (I J)
 | []=>U []
 |e::r=>match e with
  | [.int k n]=>bif d3 (kf k) 4 then(match wx r with
   |some dW=>U (n::dW)
   |none=>cL) else cL
  |_=>cL
def qN(dW:I J):dG:=dW.foldl (λr n=>r.push (UInt8.ofNat n.toNat)) fB
def uV(hD:BinOp)(K:gp->Prop)(r:di):Prop:=
 match hD with
 | .eql=>K ⟨.d (.bool r),[],cL⟩
 | .neq=>K ⟨.d (.bool (!r)),[],cL⟩
 |_=>dA
def Ff(hD:BinOp)(x y:dp)(O:V->dB d4)(K:gp->Prop):Prop:=
 match y with
 | .d .km=>match x with
  | .ptr b _ _=>match O b with
   |some _=>uV hD K L
   |none=>dA
  | .d .km=>uV hD K N
  |_=>dA
 |_=>dA
def hz(T:fM)(P:en)(o:gL)(dC:fw->dp)(O:V->dB d4)(K:gp->Prop):Prop:=
 match o.op with
 | .move x=>na (dC x) (val K)
 | .assign x=>na (dC x) (val K)
 | .pick c a b=>match dC c with
  | .eN=>na (dC a) (val K)
  | .fd=>na (dC b) (val K)
  | .d (.bool c)=>jI c (na (dC a) (val K)) (na (dC b) (val K))
  |_=>dA
 | .load t a=>wu T t (dC a) O (val K)
 | .nilCheck x=>match dC x with
  | .ptr b i j=>match O b with
   |some _=>K ⟨.ptr b i j,[],cL⟩
   |none=>dA
  | .d (.ix c j)=>K ⟨.d (.ix c j),[],cL⟩
  |_=>dA
 | .binOp op t x y _=>match (T t).k with
  | .ptr _=>Ff op (dC x) (dC y) O K
  |_=>E9 T t op (dC x) (dC y) (val K)
 | .unOp op _ x=>match op with
  | .not=>match dC x with
   | .d (.bool b)=>K ⟨.d (.bool (!b)),[],cL⟩
   | .eN=>K ⟨.fd,[],cL⟩
   | .fd=>K ⟨.eN,[],cL⟩
   |_=>dA
  | .xor=>match dC x with
   | .d (.int k n)=>K ⟨.d (.int k (pU .xor k (if k.signed then-1 else k.max) n)),[],cL⟩
   |_=>dA
  |_=>dA
 | .convert fT dst x=>match (T dst).k with
  | .int k=>match (T fT).k with
   | .int _=>match dC x with
    | .d (.int _ n)=>wq k n λn=>K ⟨.d (.int k n),[],cL⟩
    |_=>dA
   |_=>dA
  | .str=>match (T fT).k with
   | .slice e=>match (T e).k with
    | .int h=>bif d3 (kf h) 4 then BY 1 (dC x) O λl=>(match wx l with
     |some dW=>K ⟨.d (.str (qN dW)),[],cL⟩
     |none=>dA) else dA
    |_=>dA
   |_=>dA
  |_=>dA
 | .slice t x dz cK oa=>xS dC dz λdz=>xS dC cK λcK=>xS dC oa λoa=>Ny T t (dC x) O dz cK oa K
 | .fieldAddr s x f=>match dC x with
  | .ptr b i j=>match O b with
   |some _=>xR T s f λo _=>K ⟨.ptr b i (j+o),[],cL⟩
   |none=>dA
  | .d (.ix c j)=>xR T s f λo _=>K ⟨.d (.ix c (j+o)),[],cL⟩
  |_=>dA
 | .field s x f=>match dC x with
  | .agg c=>xR T s f λo t=>xQ (T t).k.agg (T t).size c o (val K)
  |_=>dA
 | .indexAddr t x i=>Nv T t (dC x) (dC i) O (val K)
 | .index t x i=>Nw T t (dC x) (dC i) (val K)
 | .extract x i=>match dC x with
  | .dS c=>xP c i (val K)
  |_=>dA
 | .build t g=>match (T t).k with
  | .struct iA=>ww O dC (Ip T iA) ((T t).zero.map rz) g.toList λc=>qJ c λc=>K ⟨.agg c,[],cL⟩
  | .arr _ e=>ww O dC (λi=>U (i*(T e).size,(T e).size)) ((T t).zero.map rz) g.toList λc=>K ⟨.agg c,[],cL⟩
  |_=>dA
 | .alloc t=>match o.dst with
  |some d=>bif (T t).k.known then qJ ((T t).zero.map rz) λc=>K ⟨.ptr d 0 0,[(d,.box c L)],U d⟩ else dA
  |none=>dA
 | .box _ x=>match o.dst with
  |some d=>na (dC x) λv=>bif sC O (cellsOf v) then qJ (ht.cells d (cellsOf v)) λc=>K ⟨.ptr d 0 0,[(d,.box c L)],U d⟩ else dA
  |none=>dA
 | .store t a x=>match dC a with
  | .ptr b i j=>match O b with
   |some (.box c L)=>na (dC x) λv=>jZ (i=0) (bif (T t).k.known&&d3 (cellsOf v).length (T t).size then(bif sC O (cellsOf v) then(bif hn (j+(T t).size) c.length then Fe c j v λc=>K ⟨.dead,[(b,.box c L)],cL⟩ else dA) else dA) else dA)
   |some (.row l cR L)=>na (dC x) λv=>match conv.cells O (cellsOf v) with
    |some dD=>bif (T t).k.known&&d3 (cellsOf v).length (T t).size&&!kp b (g8.cells O (cellsOf v)) then(bif sC O (cellsOf v) then E8 l i λe=>bif hn (j+(T t).size) e.length then K ⟨.dead,gh O (g8.cells O (cellsOf v))++[(b,.row (l.set i (iC e j dD)) cR L)],cL⟩ else dA else dA) else dA
    |none=>dA
   |_=>dA
  |_=>dA
 | .makeSlice t n c=>match o.dst with
  |some d=>match (T t).k with
   | .slice e=>match dC n with
    | .d (.int _ n)=>match dC c with
     | .d (.int _ c)=>jZ (0<=n/\n<=c) (sB c.toNat (T e).bytes (K ⟨.own d,[(d,.row (eQ n.toNat (T e).zero) (T e).size L)],U d⟩))
     |_=>dA
    |_=>dA
   |_=>dA
  |none=>dA
 | .buildSlice t n g=>match o.dst with
  |some d=>match (T t).k with
   | .slice e=>ww O dC (λi=>U (i*(T e).size,(T e).size)) (BZ T e n) g.toList λc=>jZ (n*(T e).size<=16777216) (match conv.cells O c with
    |some dD=>K ⟨.own d,gh O (g8.cells O c)++[(d,.row (chunk (T e).size n dD) (T e).size L)],U d⟩
    |none=>dA)
   |_=>dA
  |none=>dA
 | .makeFunc fn first cap=>match fn with
  | .func f=>bif d3 first.size 0 then(match nb O (ki dC cap.toList) with
   |some (cs,ws)=>K ⟨.d (.fn f cs),ws,cL⟩
   |none=>dA) else dA
  |_=>dA
 | .call c=>NH T P o c dC O K
 |_=>dA
 where
 chunk (cR:V):V->I c3->I (I c3)
  |0,_=>[]
  |n+1,dD=>dD.take cR::chunk cR n (dD.drop cR)
 nb (O:V->dB d4):I dp->dB (I c3×I (V×d4))
  | []=>U ([],[])
  | .ptr b i j::r=>match O b with
   |some (.box c _)=>bif d3 i 0 then(match conv.wv c with
    |some dx=>(match nb O r with
     |some (cs,ws)=>U (.ix dx j::cs,(b,.box c N)::ws)
     |none=>cL)
    |none=>cL) else cL
   |_=>cL
  |x::r=>match conv.nB x with
   |some d=>(match nb O r with
    |some (cs,ws)=>U (d::cs,ws)
    |none=>cL)
   |none=>cL
structure Ir(l:I (I c3))(K:di->Prop):Prop where
 out:∀r:di,(r=N->l=[])->K r
def oX{l K}(h:∀r,(r=N->l=[])->K r):Ir l K:=⟨h⟩
def Is:fw->di
 | .const (.slice cL 0 0)=>N
 |_=>L
def NI(x:dp)(O:V->dB d4)(K:di->Prop):Prop:=
 match x with
 | .d (.dm l)=>Ir l K
 | .nil=>Ir [] K
 | .own b=>match O b with
  |some (.row l _ _)=>Ir l K
  |_=>dA
 |_=>dA
def uW(T:fM)(P:en)(o:gL)(dC:fw->dp)(O:V->dB d4)(K:gp->Prop):Prop:=
 match o.op with
 | .binOp hD t x y z=>match (T t).k with
  | .slice _=>bif Is y then NI (dC x) O (uV hD K) else dA
  |_=>hz T P o dC O K
 |_=>hz T P o dC O K
def h0(dd:V->dp)(O:V->dB d4)(dst:dB Tmp)(e:gp)(K:ft->Prop):Prop:=
 match e with
 |⟨fj,wr,f5⟩=>match f5 with
  |none=>match wr with
   | []=>match dst with
    |none=>K ⟨dd,O⟩
    |some t=>K ⟨eS dd t fj,O⟩
   |(b,B)::r=>match dst with
    |none=>K ⟨dd,gu (eS O b (U B)) r⟩
    |some t=>K ⟨eS dd t fj,gu (eS O b (U B)) r⟩
  |some k=>bif hn 1000000 k&&hn k 1000003 then dA else match dst with
   |none=>K ⟨rA (U k) dd,gu (hT (U k) O) wr⟩
   |some t=>K ⟨eS (rA (U k) dd) t fj,gu (hT (U k) O) wr⟩
def ty(dd:V->dp)(dst:dB Tmp)(fj:dp):V->dp:=
 match dst with
 |none=>dd
 |some t=>eS dd t fj
def B0{dd O dst e K}(h:h0 dd O dst e K):
  (∀k,e.f5=U k->¬(1000000<=k/\k<1000004)) /\K ⟨ty (rA e.f5 dd) dst e.fj,e.O O⟩:=by
 have⟨v,w,l⟩:=e
 cases l with
 |none=>
  refine⟨λk h=>(by cases h),?_⟩
  cases dst<;>cases w<;>exact h
 |some k=>
  cases a:(hn 1000000 k&&hn k 1000003) with
  |true=>simp[h0,a]at h
  |false=>
   simp[h0,a,jw]at h;refine⟨λfo e=>?_,?_⟩
   .have:k=fo:=by simpa using e
    subst this;rintro⟨Q,b⟩;rw[rD Q,rD (show k<=1000003 by omega)]at a
    cases a
   .cases dst<;>exact h
def NJ(T:fM)(P:en)(all:d' gL)(o:gL)(a:ft->(ft->Prop)->Prop)(st:ft)(K:ft->Prop):Prop:=
 match st with
  |⟨dd,O⟩=>match o.guard with
   |none=>uW T P o (i7 dd) O λe=>h0 dd O o.dst e λst=>a st K
   |some (g,h8)=>match (all[g]?).bind (·.dst) with
    |none=>dA
    |some t=>match dd t with
     | .eN=>bif h8 then uW T P o (i7 dd) O λe=>h0 dd O o.dst e λst=>a st K else h0 dd O o.dst ⟨.dS [],[],cL⟩ λst=>a st K
     | .fd=>bif h8 then h0 dd O o.dst ⟨.dS [],[],cL⟩ λst=>a st K else uW T P o (i7 dd) O λe=>h0 dd O o.dst e λst=>a st K
     | .d (.bool b)=>jI b
      (bif h8 then uW T P o (i7 (eS dd t .eN)) O λe=>h0 (eS dd t .eN) O o.dst e λst=>a st K else h0 (eS dd t .eN) O o.dst ⟨.dS [],[],cL⟩ λst=>a st K)
      (bif h8 then h0 (eS dd t .fd) O o.dst ⟨.dS [],[],cL⟩ λst=>a st K else uW T P o (i7 (eS dd t .fd)) O λe=>h0 (eS dd t .fd) O o.dst e λst=>a st K)
     | .dS []=>h0 dd O o.dst ⟨.dS [],[],cL⟩ λst=>a st K
     |_=>dA
def wy(T:fM)(P:en)(all:d' gL)(l:I gL):ft->(ft->Prop)->Prop:=
 U' (motive:=λ_=>ft->(ft->Prop)->Prop) (λst K=>K st) (λo _ a=>NJ T P all o a) l
def ag8{T P a st K}:wy T P a [] st K=K st:=rfl
def ag9{T P a o r st K}:wy T P a (o::r) st K=NJ T P a o (wy T P a r) st K:=rfl
def aha(op:Op):I fw:=
 match op with
 | .move x=>[x]
 | .assign x=>[x]
 | .pick c a b=>[c,a,b]
 | .load _ a=>[a]
 | .nilCheck x=>[x]
 | .binOp _ _ x y _=>[x,y]
 | .unOp _ _ x=>[x]
 | .convert _ _ x=>[x]
 | .slice _ x dz cK oa=>x::(opt dz++(opt cK++opt oa))
 | .fieldAddr _ x _=>[x]
 | .field _ x _=>[x]
 | .indexAddr _ x i=>[x,i]
 | .index _ x i=>[x,i]
 | .extract x _=>[x]
 | .build _ d=>snd d.toList
 | .box _ x=>[x]
 | .store _ a x=>[a,x]
 | .makeSlice _ n c=>[n,c]
 | .buildSlice _ _ d=>snd d.toList
 | .makeFunc _ _ cap=>cap.toList
 | .call c=>match c.callee with
  | .value f=>f::c.args.toList
  |_=>c.args.toList
 |_=>[]
 where
 opt:dB fw->I fw
  |none=>[]
  |some x=>[x]
 snd:I (V×fw)->I fw
  | []=>[]
  |(_,x)::r=>x::snd r
def sD:I fw->I V
 | []=>[]
 | .tmp t::r=>t::sD r
 |_::r=>sD r
def nD(rd:I V)(dd:V->dp)(t:V):dp:=bif kp t rd then dd t else .dead
def p0(F:I V)(O:V->dB d4)(b:V):dB d4:=bif kp b F then O b else cL
def fW:dp->dB (I V)
 | .agg c=>cells c
 | .dS c=>parts c
 | .fn _ c=>cells c
 |x=>one x
 where
 one:dp->dB (I V)
  | .d _=>U []
  | .eN=>U []
  | .fd=>U []
  | .nil=>U []
  | .own b=>U [b]
  | .ptr b _ _=>U [b]
  | .win b _ _ _=>U [b]
  |_=>cL
 cells:I dp->dB (I V)
  | []=>U []
  |x::r=>match one x with
   |some a=>match cells r with
    |some b=>U (a++b)
    |none=>cL
   |none=>cL
 part:dp->dB (I V)
  | .agg c=>cells c
  |x=>one x
 parts:I dp->dB (I V)
  | []=>U []
  |x::r=>match part x with
   |some a=>match parts r with
    |some b=>U (a++b)
    |none=>cL
   |none=>cL
def oc:d4->dB (I V)
 | .row _ _ _=>U []
 | .box c _=>fW.cells c
def B1:I V->I V->di
 | [],_=>N
 |x::r,F=>bif kp x F then B1 r F else L
def uX:I V->I V->di
 | [],_=>N
 |x::r,F=>bif kp x F then L else uX r F
def jK(o:dB (I V))(F:I V):di:=
 match o with
 |some dW=>B1 dW F
 |none=>L
def Va(dd:V->dp):I V->dB (I V)
 | []=>U []
 |t::r=>match fW (dd t) with
  |some a=>match Va dd r with
   |some b=>U (a++b)
   |none=>cL
  |none=>cL
def It(O:V->dB d4):V->I V->I V->I V
 |0,_,seen=>seen
 |n+1,todo,seen=>match todo with
  | []=>seen
  |b::r=>bif kp b seen then It O n r seen else match O b with
   |some B=>match oc B with
    |some dW=>It O n (dW++r) (b::seen)
    |none=>[]
   |none=>It O n r (b::seen)
def qO(l:I V)(K:I V->Prop):Prop:=
 match l with
 | []=>K []
 |x::r=>qO r λr=>K (x::r)
def Fg(dd:V->dp)(rd F:I V):di:=
 match rd with
 | []=>N
 |t::r=>bif jK (fW (dd t)) F then Fg dd r F else L
def B2(O:V->dB d4)(F G:I V):di:=
 match G with
 | []=>N
 |b::r=>match O b with
  |some B=>bif jK (oc B) F then B2 O F r else L
  |none=>B2 O F r
def qP:I (V×d4)->I V
 | []=>[]
 |(b,_)::r=>b::qP r
def kO(e:gp):I V:=
 match e.f5 with
 |some k=>k::qP e.wr
 |none=>qP e.wr
def Fh(F:I V):I (V×d4)->di
 | []=>N
 |(b,B)::r=>bif kp b F&&jK (oc B) F then Fh F r else L
def NK(F:I V)(dst:dB Tmp)(fj:dp):di:=
 match dst with
 |none=>N
 |some _=>match fj with
  | .dead=>N
  |v=>jK (fW v) F
def Iu(F:I V)(dst:dB Tmp)(e:gp):di:=
 match e.f5 with
 |none=>Fh F e.wr&&NK F dst e.fj
 |some k=>(hn k 1999999||!d3 (k%8) 0)&&kp k (qP e.wr)&&Fh (k::F) e.wr&&NK (k::F) dst e.fj
structure oY where
 dst:dB Tmp
 rd:I V
 F:I V
 W:I V
 ew:di
 k:I V
 wd:di
def uY:Op->di
 | .move _=>N
 | .assign _=>N
 | .pick _ _ _=>N
 |_=>L
def p1:Op->di
 | .nilCheck _=>N
 | .fieldAddr _ _ _=>N
 |_=>L
def Vb:Op->di
 | .call c=>match c.callee with
  | .value (.func f)=>d3 f 70||d3 f 53
  |_=>L
 |_=>L
def rE(e:gp):I V:=
 match e.f5 with
 |some k=>[k]
 |none=>[]
def uZ(all:d' gL)(dst:dB Tmp):I gL->di
 | []=>L
 |o::r=>match o.guard with
  |some (g,_)=>match (all[g]?).bind (·.dst) with
   |some t=>match dst with
    |some d=>bif d3 t d then N else uZ all dst r
    |none=>L
   |none=>uZ all dst r
  |none=>uZ all dst r
def wz(g:di)(e:gp)(K:gp->Prop):Prop:=
 match g with
 |false=>K e
 |true=>match e with
  |⟨fj,wr,f5⟩=>match fj with
   | .d (.bool b)=>jI b (K ⟨.eN,wr,f5⟩) (K ⟨.fd,wr,f5⟩)
   |fj=>K ⟨fj,wr,f5⟩
def u0(op:Op)(dd:V->dp):I fw:=
 match op with
 | .pick c a b=>match i7 dd c with
  | .eN=>[c,a]
  | .fd=>[c,b]
  |_=>[c,a,b]
 |op=>aha op
def NL(ew:di)(dd:V->dp)(O:V->dB d4)(rd:I V)(K:I V->Prop)(a:Prop):Prop:=
 match Va dd rd with
 |some dW=>qO (bif ew then dW else It O 200 dW []) λF=>bif Fg dd rd F&&(bif ew then N else B2 O F F) then K F else a
 |none=>a
def wA(T:fM)(P:en)(o:gL)(g:di)(c1:I V)(dd:V->dp)(O:V->dB d4)(K:gp->oY->Prop):Prop:=
 qO (sD (u0 o.op dd)) λrd=>bif Vb o.op then hz T P o (i7 (nD rd dd)) O (λe=>qO (kO e) λW=>qO (c1++rd) λa=>wz g e λe=>K e ⟨o.dst,a,[],W,L,rE e,N⟩) else NL (uY o.op||p1 o.op) dd O rd (λF=>hz T P o (i7 (nD rd dd)) (p0 F O) λe=>
  bif Iu F o.dst e then qO (kO e) λW=>qO (c1++rd) λa=>wz g e λe=>K e ⟨o.dst,a,F,W,uY o.op,rE e,L⟩ else dA)
  (hz T P o (i7 (nD rd dd)) O λe=>qO (kO e) λW=>qO (c1++rd) λa=>wz g e λe=>K e ⟨o.dst,a,[],W,L,rE e,N⟩)
def Iv(d:dB Tmp)(l:I V):di:=
 match d with
 |some d=>!kp d l
 |none=>N
def Vc(d e:dB Tmp):di:=
 match d with
 |some d=>match e with
  |some e=>!d3 d e
  |none=>N
 |none=>N
def Fi(x y:oY):di:=!x.wd&&!y.wd&&(Iv x.dst y.rd&&Vc x.dst y.dst&&Iv y.dst x.rd&&uX x.W y.W&&uX (bif y.ew then x.k else x.W) y.F&&uX (bif x.ew then y.k else y.W) x.F)
def xU(e:Edge):di:=
 match e.ground with
 | .textOnly _=>L
 | .gcOnly _=>L
 |_=>N
def u1(a:I V):I Edge->V
 | []=>0
 |e::r=>bif xU e then Nat.lor (Nat.lor (2^e.on) (a.getD e.on 0)) (u1 a r) else u1 a r
def B3(i:V):I Edge->di
 | []=>N
 |e::r=>bif xU e then(bif xV e.on i then B3 i r else L) else B3 i r
def Iw(s:oY)(p:V):V->I oY->di
 |_,[]=>N
 |m,x::r=>bif Nat.testBit p m||Fi x s then Iw s p (m+1) r else L
def u2:I gL->I oY->V->I oY->I V->di
 | [],[],_,_,_=>N
 |o::r,s::q,i,done,a=>B3 i o.after.toList&&Iw s (u1 a o.after.toList) 0 done&&u2 r q (i+1) (done++[s]) (a++[u1 a o.after.toList])
 |_,_,_,_,_=>L
def tz(a:(V->dp)->(V->dB d4)->I oY->(ft->Prop)->Prop)(st:ft)(b:I oY)(K:ft->Prop):Prop:=
 match st with
 |⟨dd,O⟩=>a dd O b K
def NM(T:fM)(P:en)(all:d' gL)(o:gL)(a:(V->dp)->(V->dB d4)->I oY->(ft->Prop)->Prop)(dd:V->dp)(O:V->dB d4)(c:I oY)(K:ft->Prop):Prop:=
 match o.guard with
  |none=>wA T P o (uZ all o.dst all.toList) [] dd O λe s=>h0 dd O o.dst e λst=>tz a st (c++[s]) K
  |some (g,h8)=>match (all[g]?).bind (·.dst) with
   |none=>dA
   |some t=>match dd t with
    | .eN=>bif h8 then wA T P o (uZ all o.dst all.toList) [t] dd O λe s=>h0 dd O o.dst e λst=>tz a st (c++[s]) K else h0 dd O o.dst ⟨.dS [],[],cL⟩ λst=>tz a st (c++[⟨o.dst,[t],[],[],L,[],L⟩]) K
    | .fd=>bif h8 then h0 dd O o.dst ⟨.dS [],[],cL⟩ λst=>tz a st (c++[⟨o.dst,[t],[],[],L,[],L⟩]) K else wA T P o (uZ all o.dst all.toList) [t] dd O λe s=>h0 dd O o.dst e λst=>tz a st (c++[s]) K
    | .d (.bool b)=>jI b
     (bif h8 then wA T P o (uZ all o.dst all.toList) [t] dd O λe s=>h0 dd O o.dst e λst=>tz a st (c++[s]) K else h0 dd O o.dst ⟨.dS [],[],cL⟩ λst=>tz a st (c++[⟨o.dst,[t],[],[],L,[],L⟩]) K)
     (bif h8 then h0 dd O o.dst ⟨.dS [],[],cL⟩ λst=>tz a st (c++[⟨o.dst,[t],[],[],L,[],L⟩]) K else wA T P o (uZ all o.dst all.toList) [t] dd O λe s=>h0 dd O o.dst e λst=>tz a st (c++[s]) K)
    | .dS []=>h0 dd O o.dst ⟨.dS [],[],cL⟩ λst=>tz a st (c++[⟨o.dst,[t],[],[],L,[],L⟩]) K
    |_=>dA
def tA(T:fM)(P:en)(all:d' gL)(l:I gL):(V->dp)->(V->dB d4)->I oY->(ft->Prop)->Prop:=
 U' (motive:=λ_=>(V->dp)->(V->dB d4)->I oY->(ft->Prop)->Prop) (λdd O a K=>jZ (u2 all.toList a 0 [] []=N) (K ⟨dd,O⟩))
  (λo _ b=>NM T P all o b) l
def ahb{T P a o r dd O c K}:tA T P a (o::r) dd O c K=NM T P a o (tA T P a r) dd O c K:=rfl
def ahc{i st a K}:tz i st a K=i st.dd st.O a K:=rfl
inductive nc where
 |normal|exit (id:V)|ret
def rF(s st:V->dB d4):Prop:=s 1000000=st 1000000/\s 1000001=st 1000001/\s 1000002=st 1000002/\s 1000003=st 1000003
def B4(s st:ft):Prop:=(∀t,s.dd t=.dead\/s.dd t=st.dd t) /\ (∀b,s.O b=cL\/s.O b=st.O b) /\rF s.O st.O
def fk(l:I (V×dp))(h:I (V×d4)):ft:=⟨sE l,fH h⟩
 where
 sE (l:I (V×dp)) (s:V):dp:=
  match l with
  | []=>.dead
  |(t,v)::r=>bif d3 s t then v else sE r s
 fH (l:I (V×d4)) (s:V):dB d4:=
  match l with
  | []=>cL
  |(t,v)::r=>bif d3 s t then U v else fH r s
def zL(dd:V->dp):I (V×dp)->Prop
 | []=>True
 |(t,v)::r=>dd t=v/\zL dd r
def od(O:V->dB d4):I (V×d4)->Prop
 | []=>True
 |(t,v)::r=>O t=U v/\od O r
def ahd{dd l}(cT:zL dd l)(t):fk.sE l t=.dead\/fk.sE l t=dd t:=by
 induction l with
 |nil=>exact .inl Z
 |cons p r i=>
  have⟨s,v⟩:=p;simp[fk.sE]
  cases h:d3 t s with|true=>have:=gE h;subst this;exact .inr cT.1.symm|false=>exact i cT.2
def ahe{O h}(H:od O h)(b):fk.fH h b=cL\/fk.fH h b=O b:=by
 induction h with
 |nil=>exact .inl Z
 |cons p r i=>
  have⟨s,v⟩:=p;simp[fk.fH]
  cases a:d3 b s with|true=>have:=gE a;subst this;exact .inr H.1.symm|false=>exact i H.2
def dH{l h st}(cT:zL st.dd l)(c:od st.O h)(a:rF (fk.fH h) st.O):B4 (fk l h) st:=by
 refine⟨λt=>?_,λb=>?_,a⟩
 case refine_1=>clear a;exact ahd cT t
 case refine_2=>clear a cT;exact ahe c b
inductive Ix where
 |row (t b cR:V)
 |dm (t:V)
 |cell (jf j b cR:V)
 |wk (t:V) (y:dp)
 |B5 (jf j:V) (y:dp)
 |gh (b:V) (l:I (I c3)) (cR:V)
 |NN (t b:V) (l:I (I c3)) (cR:V)
 |je (jf j b:V) (l:I (I c3)) (cR:V)
structure zM(x y:dp):Prop where
 out:∀(M:eI) (D:gD) (v:dr),dZ M D x v->dZ M D y v
def Fj(x):zM x x:=⟨λ_ _ _ h=>h⟩
def Fl:zM .eN (.d (.bool N)):=⟨λ_ _ _ h=>by cases h;exact .d _ _ (.bool N)⟩
def Iy:zM .fd (.d (.bool L)):=⟨λ_ _ _ h=>by cases h;exact .d _ _ (.bool L)⟩
def u3(k:Ix)(st:ft):ft:=
 match k with
 | .row t b cR=>⟨eS (rA (U b) st.dd) t (.own b),eS (hT (U b) st.O) b (U (.row [] cR L))⟩
 | .dm t=>⟨eS st.dd t (.d (.dm [])),st.O⟩
 | .cell jf j b cR=>match st.O jf with
  |some (.box c _)=>⟨rA (U b) st.dd,eS (eS (hT (U b) st.O) b (U (.row [] cR L))) jf (U (.box ((ht.cells b c).set j (.own b)) L))⟩
  |_=>st
 | .wk t y=>⟨eS st.dd t y,st.O⟩
 | .B5 jf j y=>match st.O jf with
  |some (.box c _)=>⟨st.dd,eS st.O jf (U (.box (c.set j y) L))⟩
  |_=>st
 | .gh b l cR=>⟨st.dd,eS st.O b (U (.row l cR N))⟩
 | .NN t _ l _=>⟨eS st.dd t (.d (.dm l)),st.O⟩
 | .je jf j _ l _=>match st.O jf with
  |some (.box c _)=>⟨st.dd,eS st.O jf (U (.box (c.set j (.d (.dm l))) L))⟩
  |_=>st
def Fm(k:Ix)(st:ft):Prop:=
 match k with
 | .row t b _=>st.dd t=.nil/\ (hn 1000000 b&&hn b 1000003)=L
 | .dm t=>st.dd t=.nil
 | .cell jf j b _=>(match st.O jf with
  |some (.box c cN)=>c[j]?=U .nil/\cN=L
  |_=>dA) /\d3 jf b=L/\ (hn 1000000 b&&hn b 1000003)=L
 | .wk t y=>zM (st.dd t) y
 | .B5 jf j y=>match st.O jf with
  |some (.box c cN)=>(∃x,c[j]?=U x/\zM x y) /\cN=L
  |_=>dA
 | .gh b l cR=>∃cN,st.O b=U (.row l cR cN)
 | .NN t b l cR=>st.dd t=.own b/\st.O b=U (.row l cR N)
 | .je jf j b l cR=>st.O b=U (.row l cR N) /\match st.O jf with
  |some (.box c cN)=>c[j]?=U (.own b) /\cN=L
  |_=>dA
def Iz:I Ix->ft->ft
 | [],st=>st
 |k::r,st=>Iz r (u3 k st)
def IA:I Ix->ft->Prop
 | [],_=>True
 |k::r,st=>Fm k st/\IA r (u3 k st)
structure wB(s st:ft):Prop where
 out:∃dW,IA dW st/\B4 s (Iz dW st)
def dX{s st}(h:B4 s st):wB s st:=⟨⟨[],dM,h⟩⟩
def nd{s st}(k)(a:Fm k st)(h:B4 s (u3 k st)):wB s st:=⟨⟨[k],⟨a,dM⟩,h⟩⟩
def len{s st}(dW)(k:IA dW st)(h:B4 s (Iz dW st)):wB s st:=⟨⟨dW,k,h⟩⟩
structure Fo(body:ft->(nc->ft->Prop)->Prop)(st:ft)(db:nc->ft->Prop):Prop where
 out:∃(D:Type) (S:D->ft) (cU:D->Prop) (Vd:D->V),(∃i,cU i/\wB (S i) st) /\
  ∀i,cU i->body (S i) λe IB=>match e with
   | .normal=>∃j,cU j/\Vd j<Vd i/\wB (S j) IB
   |e=>db e IB
def eW {body:ft->(nc->ft->Prop)->Prop} {st:ft} {db:nc->ft->Prop} {D:Type} (l:D->I (V×dp)) (h:D->I (V×d4)) (cU:D->Prop) (a:D->V) (i:D)
  (cK:cU i) (cW:wB (fk (l i) (h i)) st)
  (r:∀ i,cU i->body (fk (l i) (h i)) fun e s=>match e with
   | .normal=>∃ j,cU j/\a j<a i/\wB (fk (l j) (h j)) s|e=>db e s):Fo body st db:=⟨⟨D,fun i=>fk (l i) (h i),cU,a,⟨i,cK,cW⟩,r⟩⟩
def IC(B:ft->(nc->ft->Prop)->Prop)(db:nc->ft->Prop)(e:nc)(st:ft):Prop:=
 match e with
 | .normal=>B st db
 | .exit i=>db (.exit i) st
 | .ret=>db .ret st
def ID(id:V)(db:nc->ft->Prop)(e:nc)(st:ft):Prop:=
 match e with
 | .exit i=>bif d3 i id then db .normal st else db (.exit i) st
 | .normal=>db .normal st
 | .ret=>db .ret st
def B6(c:fw)(A B:ft->(nc->ft->Prop)->Prop)(st:ft)(db:nc->ft->Prop):Prop:=
 match st with
 |⟨dd,O⟩=>match i7 dd c with
  | .eN=>A ⟨dd,O⟩ db
  | .fd=>B ⟨dd,O⟩ db
  | .d (.bool x)=>jI x (A ⟨dd,O⟩ db) (B ⟨dd,O⟩ db)
  |_=>dA
def NO(T:fM)(P:en)(ops:d' gL)(draw:di)(st:ft)(db:nc->ft->Prop):Prop:=
 bif draw then(match st with
  |⟨dd,O⟩=>tA T P ops ops.toList dd O [] (db .normal)) else wy T P ops ops.toList st (db .normal)
def k8(T:fM)(P:en)(c:Code):ft->(nc->ft->Prop)->Prop:=
 Code.rec (motive:=λ_=>ft->(nc->ft->Prop)->Prop)
  (skip:=λst db=>db .normal st)
  (region:=λ_ ops draw st db=>NO T P ops draw st db)
  (seq:=λ_ _ A B st db=>A st (IC B db))
  (cond:=λc _ _ A B st db=>B6 c A B st db)
  (block:=λid _ A st db=>A st (ID id db))
  (loop:=λ_ A st db=>Fo A st db)
  (rangeFunc:=λ_ _ _ _ _ _ _ _=>dA)
  (exit:=λid st db=>db (.exit id) st)
  (scope:=λ_ A st db=>A st db)
  (label:=λ_ st db=>db .normal st)
  (goto:=λ_ _ _=>dA)
  (ret:=λst db=>db .ret st)
  (refuse:=λ_ _ _=>dA) c
def ahf{T P id ops d st db}:k8 T P (.region id ops d) st db=NO T P ops d st db:=rfl
def ahg{T P a b st db}:k8 T P (.seq a b) st db=k8 T P a st (IC (k8 T P b) db):=rfl
def ahh{T P c a b st db}:k8 T P (.cond c a b) st db=B6 c (k8 T P a) (k8 T P b) st db:=rfl
def ahi{T P id a st db}:k8 T P (.block id a) st db=k8 T P a st (ID id db):=rfl
def ahj{T P a st db}:k8 T P (.scope a) st db=k8 T P a st db:=rfl
def ahk{T P a st db}:k8 T P (.loop a) st db=Fo (k8 T P a) st db:=rfl
def k9(args:I c3):V->dp:=go 0 args
 where
 go (n:V):I c3->V->dp
  | []=>λ_=>.dead
  |d::r=>eS (go (n+1) r) n (lR d)
def sF(T:fM)(dd:V->dp)(O:V->dB d4):xX->dp
 | .tmp t=>dd t
 | .cell a t=>match dd a with
  | .ptr b i j=>match O b with
   |some (.box c _)=>bif (T t).k.known&&d3 i 0 then(bif (T t).k.agg then(bif hn (j+(T t).size) c.length then .agg ((c.drop j).take (T t).size) else .dead) else(match c[j]? with|some x=>x|none=>.dead)) else .dead
   |_=>.dead
  |_=>.dead
def nE(T:fM)(dd:V->dp)(O:V->dB d4):I xX->dB (I c3)
 | []=>U []
 |r::q=>match conv O (sF T dd O r) with
  |some d=>match nE T dd O q with
   |some dx=>U (d::dx)
   |none=>cL
  |none=>cL
def ps:I c3->c3
 | [d]=>d
 |dx=>.dS dx
def NP(T:fM)(P:en)(fn:Func)(args:I c3)(d:c3):Prop:=
 match fn.body with
 |some c=>k8 T P c ⟨k9 args,λ_=>cL⟩ λe st=>match e with
  | .exit _=>dA
  |_=>(nE T st.dd st.O fn.results.toList).map ps=U d
 |none=>dA
def NQ(T:fM)(P:en)(fn:Func)(args:I c3)(l:I (I c3))(cR:V):Prop:=
 match fn.body with
 |some c=>k8 T P c ⟨k9 args,λ_=>cL⟩ λe st=>match e with
  | .exit _=>dA
  |_=>∃t,fn.results.toList=[.tmp t] /\ ((∃b,st.dd t=.own b/\st.O b=U (.row l cR L)) \/ (st.dd t=.nil/\l=[]))
 |none=>dA
def su(O:V->dB d4)(seen:I V):I dp->I iM->Prop
 | [],[]=>True
 |x::c,.d d::s=>conv.nB x=U d/\su O seen c s
 |x::c,.row l cR::s=>(∃b,x=.own b/\O b=U (.row l cR L) /\kp b seen=L/\su O (b::seen) c s) \/ (x=.nil/\l=[] /\su O seen c s)
 |_,_=>dA
def NR(T:fM)(P:en)(fn:Func)(args:I c3)(cs:I iM):Prop:=
 match fn.body with
 |some c=>k8 T P c ⟨k9 args,λ_=>cL⟩ λe st=>match e with
  | .exit _=>dA
  |_=>∃r c,fn.results.toList=[r] /\sF T st.dd st.O r=.agg c/\su st.O [] c cs
 |none=>dA
def IE:I dp->I V
 | []=>[]
 | .own b::r=>b::IE r
 |_::r=>IE r
def IF(T:fM)(dd:V->dp)(O:V->dB d4):I xX->I V
 | []=>[]
 |r::q=>g8 O (sF T dd O r)++IF T dd O q
def NS(T:fM)(P:en)(fn:Func)(args:I c3)(cs:I iM)(kh:I c3):Prop:=
 match fn.body with
 |some c=>k8 T P c ⟨k9 args,λ_=>cL⟩ λe st=>match e with
  | .exit _=>dA
  |_=>∃t r q b c,fn.results.toList=.tmp t::r::q/\st.dd t=.ptr b 0 0/\st.O b=U (.box c L) /\su st.O [] c cs/\nE T st.dd st.O (r::q)=U kh/\uX (IE c) (IF T st.dd st.O (r::q))=N
 |none=>dA
def u5:TypeDesc->n_->di
 | .int k,.int fo=>d3 (kf k) (kf fo)
 | .bool,.bool=>N
 | .string,.str=>N
 | .slice e,.slice a=>d3 e a
 | .array n e,.arr mI a=>d3 n mI&&d3 e a
 | .struct F,.struct iA=>F.toList.map (λf=>(f.offset,f.type))==iA&&F.toList.all (λf=>f.name != "_")
 | .pointer e,.ptr a=>d3 e a
 |_,_=>L
def B':dr->dB c3
 | .int k n=>U (.int k n)
 | .bool b=>U (.bool b)
 | .string s=>bif d3 s.size 0 then U (.str .empty) else cL
 | .slice cL 0 0=>U (.dm [])
 | .pointer cL=>U .km
 |_=>cL
def Ca:c3->c3->di
 | .int k n,.int fo mI=>d3 (kf k) (kf fo)&&n==mI
 | .bool b,.bool d7=>b==d7
 | .str _,.str s=>d3 s.size 0
 | .dm [],.dm []=>N
 | .km,.km=>N
 |_,_=>L
def p3:I dr->I c3->di
 | [],[]=>N
 |v::vs,d::dx=>(match B' v with|some a=>Ca a d|none=>L)&&p3 vs dx
 |_,_=>L
def N7(T:fM):n_->di
 | .slice e=>(T e).k.known
 | .arr _ e=>(T e).k.known
 | .struct iA=>iA.all λp=>(T p.2).k.known
 |_=>N
def Vn(P:en)(T:fM)(t:eF)(dh:ic):di:=
 match P.underlying t,P.info? t with
 |some d,U i=>u5 d dh.k&&d3 i.size dh.size&&d3 i.bytes dh.bytes&&(match i.zero with|some z=>p3 z.cells.toList dh.zero|none=>L)&&N7 T dh.k&&hn dh.bytes 1048576&&d3 dh.zero.length dh.size&&!(P.stoodInHeld t)&&!(P.eqGuardType P.depth t)&&(dh.k.agg||d3 dh.size 1)&&xV 0 dh.size
 |_,_=>L
inductive kQ where
 |leaf
 |node (t:eF) (dh:ic) (l r:kQ)
def kQ.get(t:eF):kQ->ic
 | .leaf=>⟨.other,0,0,[]⟩
 | .node a dh l r=>bif d3 t a then dh else bif xV t a then l.get t else r.get t
def kQ.all(p:eF->ic->di):kQ->di
 | .leaf=>N
 | .node t dh l r=>p t dh&&(l.all p&&r.all p)
theorem kQ.N8{p t}:∀ {x},x.all p=N->(kQ.get t x).k.known=N->p t (kQ.get t x)=N
 | .leaf,_,h=>by simp[kQ.get,n_.known]at h
 | .node b dh l r,h,k=>by
  simp[kQ.all,lV]at h;simp[kQ.get]at k⊢
  cases c:d3 t b with
  |true=>simp_all
  |false=>
   simp[c,jw]at k⊢
   cases a:xV t b with
   |true=>simp[a,fF]at k⊢;exact kQ.N8 h.2.1 k
   |false=>simp[a,jw]at k⊢;exact kQ.N8 h.2.2 k
def jL(P:en)(T:fM):Prop:=∀t,(T t).k.known=N->Vn P T t (T t)=N
theorem Ft {k fo} (h:d3 (kf k) (kf fo)=N):k=fo:=by
 have:=gE h
 cases k<;>cases fo<;>first|rfl|simp [kf] at this
structure ahz(P:en)(T:fM)(t:eF):Prop where
 desc:∃d i,P.underlying t=U d/\P.info? t=U i/\u5 d (T t).k=N/\i.size=(T t).size/\i.bytes=(T t).bytes/\
  (∃z,i.zero=U z/\p3 z.cells.toList (T t).zero=N) /\N7 T (T t).k=N/\ (T t).bytes<=1048576/\ (T t).zero.length=(T t).size/\P.stoodInHeld t=L/\P.eqGuardType P.depth t=L/\ ((T t).k.agg=L->(T t).size=1) /\0<(T t).size
theorem lW{P T}(cT:jL P T){t}(k:(T t).k.known=N):ahz P T t:=by
 have h:=cT t k;unfold Vn at h
 cases u:P.underlying t with
 |none=>simp_all
 |some d=>
  cases cK:P.info? t with
  |none=>simp_all
  |some i=>simp only[u,cK,lV]at h;have⟨⟨⟨⟨⟨⟨⟨⟨⟨⟨Q,a⟩,b⟩,e⟩,du⟩,dY⟩,c⟩,f⟩,j⟩,l⟩,m⟩:=h;refine⟨d,i,by omega,by omega,Q,gE a,gE b,?_,du,tt dY,gE c,by simp_all,by simp_all,λg=>by simp_all,by simp_all⟩;grind
section
variable {P:en} {T:fM} (cT:jL P T) {t:eF} (w:da)
include cT
theorem kR{e}(h:(T t).k=.slice e):P.underlying t=U (.slice e) /\ (T e).k.known=N:=by
 have⟨d,i,u,_,k,_,_,_,a,_⟩:=(lW cT (t:=t) ED).desc;rw[h]at k a
 cases d<;>simp[u5]at k
 subst k;exact⟨u,by assumption⟩
theorem Cb{n e}(h:(T t).k=.arr n e):P.underlying t=U (.array n e) /\ (T e).k.known=N:=by
 have⟨d,i,u,_,k,_,_,_,a,_⟩:=(lW cT (t:=t) (by rw[h];rfl)).desc;rw[h]at k a
 cases d<;>simp[u5]at k
 obtain⟨rfl,rfl⟩:=k;exact⟨u,by assumption⟩
theorem Cc{iA:I (V×eF)}(h:(T t).k=.struct iA):
 ∃F,P.underlying t=U (.struct F)/\F.toList.map (λf=>(f.offset,f.type))=iA/\ (∀p∈iA,(T p.2).k.known=N)/\ ∀f∈F.toList,f.name≠ "_":=by
 obtain⟨d,i,a,_,c_,_,_,_,he,_⟩:=(lW cT (t:=t) (by rw[h];rfl)).desc;rw[h]at c_ he
 cases d<;>simp[u5]at c_
 rename_i F;refine⟨F,a,c_.1,?_,?_⟩
 .simp only[N7,of]at he;exact he
 .intro f ee;obtain⟨i,cK,rfl⟩:=List.getElem_of_mem ee
  simpa using c_.2 i (by simpa using cK)
theorem v4 {k} (h:(T t).k=.int k):P.underlying t=U (.int k):=by
 obtain ⟨d,i,a,_,c_,_⟩:=(lW cT (t:=t) ED).desc;rw [h] at c_
 cases d<;>simp[u5]at c_
 rename_i fo;rw [a,Ft (k:=fo) (fo:=k) uB]
theorem x0 (h:(T t).k=.bool):P.underlying t=U .bool:=by
 obtain ⟨d,i,a,_,c_,_⟩:=(lW cT (t:=t) ED).desc;rw [h] at c_
 cases d<;>simp[u5]at c_
 exact a
theorem x1(h:(T t).k.known=N)(a:(T t).k.agg=L):(T t).size=1:=by have⟨d,i,_,_,_,_,_,_,_,_,_,_,_,Q,_⟩:=(lW cT h).desc;exact Q a
theorem p4(h:(T t).k.known=N):0<(T t).size:=by have⟨d,i,_,_,_,_,_,_,_,_,_,_,_,_,Q⟩:=(lW cT h).desc;exact Q
theorem Fu(h:(T t).k.known=N):(T t).zero.length=(T t).size:=by have⟨d,i,_,_,_,_,_,_,_,_,Q,_⟩:=(lW cT h).desc;exact Q
theorem wC (h:(T t).k=.str):P.underlying t=U .string:=by
 obtain ⟨d,i,a,_,c_,_⟩:=(lW cT (t:=t) (by rw [h];rfl)).desc;rw [h] at c_
 cases d<;>simp [u5] at c_
 exact a
theorem Cd (h:(T t).k.known=N):(isAgg t).run P w=.ok (T t).k.agg w:=by
 obtain ⟨d,i,a,_,c_,_⟩:=(lW cT h).desc;simp only [isAgg,hc,fx a,hj];generalize (T t).k=k at c_
 cases d<;>cases k<;>simp_all [u5,n_.agg]
theorem iE (h:(T t).k.known=N):(sizeOf t).run P w=.ok (T t).size w:=by
 obtain ⟨d,i,_,cK,_,c',_⟩:=(lW cT h).desc;simp [sizeOf,typeInfo,cK,c']
theorem N_ (h:(T t).k.known=N):∃ z,(zeroValue t).run P w=.ok z w/\p3 z.cells.toList (T t).zero=N:=by
 obtain ⟨d,i,_,cK,_,_,_,⟨z,a,dj⟩,_⟩:=(lW cT h).desc;exact ⟨z,by simp [zeroValue,typeInfo,cK,a],dj⟩
end
theorem tl{t u i a}(h:touchAt (t++u) i=U a):(i<t.size/\touchAt t i=U a) \/ (t.size<=i/\ ∃o∈u,(t++u)[i]?=U o/\o.act.touch? =U a):=by
 have⟨x,d,c⟩:=touch_of h;rcases af5 d with⟨cK,b⟩|⟨cK,e⟩
 .exact .inl ⟨cK,by rwa[touchAt_of b]⟩
 grind
theorem HW{s t u}(h:¬Race s t)(p:∀o∈u,o.act.touch? =cL):¬Race s (t++u):=by
 rintro⟨i,j,c,⟨a,b,d,f,g⟩,n,m⟩
 have old:∀ {k:V} {x:Touch},touchAt (t++u) k=U x->touchAt t k=U x:=by
  intro k x l;rcases tl l with⟨_,e⟩|⟨_,o,q,_,e⟩
  .exact e
  .simp_all
 exact h ⟨i,j,c,⟨a,b,old d,old f,g⟩,λe=>n (hb_app u e),λe=>m (hb_app u e)⟩
def sv(B:V->Prop)(l:Loc):Prop:=∃a,l=.cell a/\B a.block
def tm(B:V->Prop)(l:Loc):Prop:=sv B l\/ ∃r,l=.obj r/\B r
def EH(t:Trace):Prop:=∀i a,t.act? i≠U (.mark (.release a))
theorem EH.app{t u}(h:EH t)(e:∀p∈u,∀a,p.act≠.mark (.release a)):EH (t++u):=by
 intro i a cK;have⟨p,c,b⟩:=v_.1 cK;rcases af5 c with⟨_,o⟩|⟨_,d⟩
 .exact h i a (by rw[act?_of o,b])
 simp_all
structure kK(c4:V->Prop)(d:V)(t:Trace):Prop where
 clean:∀MR,¬Race MR t
 known:∀i a,touchAt t i=U a->a.loc.isMemory=N->Knows t 0 i\/ (tm c4 a.loc/\a.kind=.atomic)
 over:t.HandedOver
 norel:EH t
 hears:Deaf t 0=d
structure af6(c4:V->Prop)(op:MemOp):Prop where
 g:op.g=0
 touch:∀x,op.act.touch? =U x->tm c4 x.loc->x.kind≠.plain
 norel:∀a,op.act≠.mark (.release a)
theorem kK.app0{c4 d j t u}(h:kK c4 d t)(c:∀o∈u,af6 c4 o)(cP:Deaf (t++u) 0=j):kK c4 j (t++u):=by
 refine⟨λs=>Ug (h.clean s) (λo v=>(c o v).g) λi a f o v b l g=>?_,λi a f q=>?_,af7 h.over λo v=>.inl (c o v).g,h.norel.app λo v=>(c o v).norel,cP⟩
 .rcases h.known i a f g.2.1 with m|⟨r,n⟩
  .exact m
  .have p:=(c o v).touch b l (g.1▸r);have⟨_,_,_,k⟩:=g;simp_all
 .rcases tl f with⟨_,e⟩|⟨_,o,v,cK,e⟩
  .exact(h.known i a e q).imp (·.app u) id
  .have:=knows_own cK;rw[(c o v).g]at this;simp_all
theorem kK.mute{c4 d t u}(h:kK c4 d t){g}(f:g≠0)(b:∀o∈u,o.g=g/\o.act.touch? =cL/\ ∀a,o.act≠.mark (.release a)):kK c4 d (t++u):=by
 refine⟨λs=>HW (h.clean s) λo j=>(b o j).2.1,λi a c m=>?_,af7 h.over λo j=>.inr (b o j).2.1,h.norel.app λo j=>(b o j).2.2,(v' t f u λo j=>(b o j).1).trans h.hears⟩;rcases tl c with⟨_,e⟩|⟨_,o,j,_,e⟩
 .exact(h.known i a e m).imp (·.app u) id
 simp_all
structure n8(c4:V->Prop)(Wg:V)(Rd:V->Prop)(a:Touch):Prop where
 old:tm c4 a.loc->a.kind≠.plain
 wg:sv (·=Wg) a.loc->a.kind≠.plain
 rd:a.write=N->¬sv Rd a.loc
def wa(c4:V->Prop)(Wg:V)(Rd:V->Prop)(a:Touch):Prop:=(sv (·=Wg) a.loc/\a.kind=.atomic) \/ (sv Rd a.loc/\a.write=L/\a.kind=.plain) \/ ((∃r,a.loc=.obj r/\c4 r) /\a.kind=.atomic)
structure hr(c4:V->Prop)(Wg:V)(Rd:V->Prop)(c:V)(eU d1:V)(t:Trace):Prop where
 apart:∀l,sv Rd l->¬tm c4 l
 clean:∀MR,¬Race MR t
 all:∀i a,touchAt t i=U a->a.loc.isMemory=N->(Knows t 0 i/\Knows t c i) \/ (tm c4 a.loc/\a.kind=.atomic) \/ (t.g? i=U 0/\n8 c4 Wg Rd a) \/ (t.g? i=U c/\wa c4 Wg Rd a)
 over:∀i g,t.g? i=U g->g≠0->g≠c->t.counts i->∃j,t.g? j=U 0/\HX t i j
 norel:EH t
 xE:Deaf t 0=eU
 rs:Deaf t c=d1
section
variable {c4:V->Prop} {Wg:V} {Rd:V->Prop} {c eU d1 HY HZ:V} {t u:Trace}
theorem Uh{t:Trace}{i g}(h:t.g? i=U g):i<t.size:=have⟨_,z,_⟩:=v_.1 h;lt_size_of_getElem? z
theorem MS(h:∀i g,t.g? i=U g->g≠0->g≠c->t.counts i->∃j,t.g? j=U 0/\HX t i j)(s:∀o∈u,o.g=0\/o.g=c\/o.act.touch? =cL):
  ∀i g,(t++u).g? i=U g->g≠0->g≠c->(t++u).counts i->∃j,(t++u).g? j=U 0/\HX (t++u) i j:=by
 intro i g d a n b;have⟨x,p,r,q⟩:=id b;rcases tl p with⟨cK,e⟩|⟨_,o,y,cK,e⟩
 .have⟨j,f,k⟩:=h i g (by rwa[<-xG (u:=u) cK]) a n ((counts_old cK).1 b);exact⟨j,by rwa[xG (l f)],hb_app u k⟩
 .have m:o.g=g:=by simpa[H0,cK]using d
  grind
 where
 l {t:Trace} {i g:V} (h:t.g? i=U g):i<t.size:=by have⟨z,v,_⟩:=v_.1 h;grind
theorem MT{i a}(cK:i<t.size)(h:(Knows t 0 i/\Knows t c i) \/ (tm c4 a.loc/\a.kind=.atomic) \/ (t.g? i=U 0/\n8 c4 Wg Rd a) \/ (t.g? i=U c/\wa c4 Wg Rd a)):
  (Knows (t++u) 0 i/\Knows (t++u) c i) \/ (tm c4 a.loc/\a.kind=.atomic) \/ ((t++u).g? i=U 0/\n8 c4 Wg Rd a) \/ ((t++u).g? i=U c/\wa c4 Wg Rd a):=by
 rw[xG cK];exact h.imp (λx=>⟨x.1.app u,x.2.app u⟩) id
theorem Ui{i o}(h:t[i]?=U o):t.g? i=U o.g:=by simp[H0,h]
theorem MU{i g}(h:t.g? i=U g):Knows t g i:=by have⟨z,a,e⟩:=v_.1 h;have:=knows_own a;simp_all
theorem hr.app0(h:hr c4 Wg Rd c eU d1 t)(v:c≠0)(g:∀o∈u,o.g=0)(n:∀o∈u,∀x,o.act.touch? =U x->n8 c4 Wg Rd x)(w:∀o∈u,∀a,o.act≠.mark (.release a))(cP:Deaf (t++u) 0=HY):hr c4 Wg Rd c HY d1 (t++u):=by
 refine⟨h.apart,λs=>Ug (h.clean s) g λi a d o B b r j=>?_,λi a d m=>?_,MS h.over λo B=>.inl (g o B),h.norel.app w,cP,(v' t (Ne.symm v) u g).trans h.rs⟩
 .have f:=n o B b r;have⟨l,m,hw,k⟩:=j;rcases h.all i a d m with x|⟨x,y⟩|⟨x,_⟩|⟨x,y|⟨y,p,A⟩|⟨⟨q,y⟩,p⟩⟩
  .exact x.1
  .rw[y]at k;rcases k with z|z|⟨_,z,_⟩
   .cases z
   .exact dN z (f.old (l▸x))
   .cases z
  .exact MU x
  .rw[y.2]at k;rcases k with z|z|⟨_,z,_⟩
   .cases z
   .exact dN z (f.wg (l▸y.1))
   .cases z
  .rcases hw with z|z
   .simp_all
   .exact dN (l▸y) (f.rd z)
  .rw[p]at k;rcases k with z|z|⟨_,z,_⟩
   .cases z
   .exact dN z (f.old (.inr ⟨q,l▸y.1,y.2⟩))
   .cases z
 .rcases tl d with⟨cK,e⟩|⟨_,o,B,cK,e⟩
  .exact MT cK (h.all i a e m)
  .exact .inr (.inr (.inl ⟨by rw[Ui cK,g o B],n o B a e⟩))
theorem hr.H1(h:hr c4 Wg Rd c eU d1 t)(v:c≠0)(g:∀o∈u,o.g=c)(p:∀o∈u,∀x,o.act.touch? =U x->wa c4 Wg Rd x)(w:∀o∈u,∀a,o.act≠.mark (.release a))(cP:Deaf (t++u) c=HZ):hr c4 Wg Rd c eU HZ (t++u):=by
 refine⟨h.apart,λs=>Ug (h.clean s) g λi a f o A b r j=>?_,λi a f m=>?_,MS h.over λo A=>.inr (.inl (g o A)),h.norel.app w,(v' t v u g).trans h.xE,cP⟩
 .have n:=p o A b r;have⟨l,m,hw,k⟩:=j;rcases h.all i a f m with x|⟨x,y⟩|⟨x,y⟩|⟨x,_⟩
  .exact x.2
  .rcases n with⟨z,d⟩|⟨z,_⟩|⟨z,d⟩
   .simp_all
   .exact dN (l▸x) (h.apart _ z)
   simp_all
  .rcases n with⟨z,d⟩|⟨z,d,_⟩|⟨⟨q,z⟩,d⟩
   .rw[d]at k;rcases k with q|q|⟨_,_,q⟩
    .exact dN q (y.wg (l▸z))
    .cases q
    .cases q
   .rcases hw with q|q
    .exact dN (l▸z) (y.rd q)
    simp_all
   .rw[d]at k;rcases k with e|e|⟨_,_,e⟩
    .exact dN e (y.old (.inr ⟨q,l.trans z.1,z.2⟩))
    .cases e
    .cases e
  .exact MU x
 .rcases tl f with⟨cK,e⟩|⟨_,o,A,cK,e⟩
  .exact MT cK (h.all i a e m)
  .exact .inr (.inr (.inr ⟨by rw[Ui cK,g o A],p o A a e⟩))
theorem hr.idle(h:hr c4 Wg Rd c eU d1 t)(b:∀o∈u,o.act.touch? =cL)(r:∀o∈u,∀a,o.act≠.mark (.release a))(cW:Deaf (t++u) 0=HY)(f:Deaf (t++u) c=HZ):hr c4 Wg Rd c HY HZ (t++u):=by
 refine⟨h.apart,λs=>HW (h.clean s) b,λi a d m=>?_,MS h.over λo g=>.inr (.inr (b o g)),h.norel.app r,cW,f⟩;rcases tl d with⟨cK,e⟩|⟨_,o,g,cK,e⟩
 .exact MT cK (h.all i a e m)
 simp_all
theorem hr.af8(h:kK c4 0 t)(E:c≠0)(d:Deaf t c=0)(q:∀l,sv Rd l->¬tm c4 l){x y}(m:x.g=0/\x.act=.go c)(v:y.g=c/\y.act=.start):hr c4 Wg Rd c 0 0 (t++#[x,y]):=by
 have b:∀o∈#[x,y],o.act.touch? =cL/\o.act≠.mark .disable/\o.act≠.mark .enable/\ ∀a,o.act≠.mark (.release a):=by
  intro o p;simp at p;rcases p with rfl|rfl
  .rw[m.2];exact⟨Z,dw,dw,dw⟩
  .rw[v.2];exact⟨Z,dw,dw,dw⟩
 have w:∀g,Deaf (t++#[x,y]) g=Deaf t g:=by
  intro g
  have f:deafStep g (Deaf t g) x=Deaf t g:=by simp[deafStep,m.2]
  have:=Uj t g [x,y];rw[this];simp[deafStep,m.2,v.2]
 refine⟨q,λs=>HW (h.clean s) λo p=>(b o p).1,λi a B A=>?_,λi g F r G n=>?_,h.norel.app λo p=>(b o p).2.2.2,(w 0).trans h.hears,(w c).trans d⟩
 .rcases tl B with⟨cK,e⟩|⟨_,o,p,_,e⟩
  .rcases h.known i a e A with k|k
   .exact .inl ⟨k.app _,ConcN.fork_knows m v h.hears d k⟩
   simp_all
  grind
 .have⟨iK,f,A,k⟩:=id n;rcases tl f with⟨cK,e⟩|⟨_,o,p,_,e⟩
  .have⟨j,z,C⟩:=h.over i g (by rwa[<-xG (u:=#[x,y]) cK]) r ((counts_old cK).1 n);exact⟨j,by rwa[xG (Uh z)],hb_app _ C⟩
  grind
theorem hr.acquire{a r}(h:hr c4 Wg Rd c 0 d1 t)(dc:c≠0)(s:ConcN.RelBy a t c r){x}(q:x.g=0/\x.act=.mark (.acquire a)):kK (λb=>c4 b\/b=Wg) 0 (t++#[x]):=by
 have m:(t++#[x])[t.size]?=U x:=by rw[Uk (fi _)];simp
 have B:∀o∈#[x],o.act.touch? =cL/\o.g=0/\ ∀b,o.act≠.mark (.release b):=by intro o p;simp at p;subst p;rw[q.2];exact⟨Z,q.1,dw⟩
 have d:=lt_of_act? s.act;have f:(t++#[x]).heard t.size:=⟨0,by simp[H0,m,q.1],by rw[deaf_old (fi _)];exact h.xE⟩;have E:=h.norel.app (u:=#[x]) λo p=>(B o p).2.2;have v:HX (t++#[x]) r t.size:=.single (.inr ⟨.marked d (.inr (by rw[act?_old d];exact s.act)) (by rw[act?_of m,q.2]) (λk _ _=>E k a),(heard_old d).2 s.heard,f⟩)
 have cU:∀i,i<=r->t.g? i=U c->HX (t++#[x]) i t.size:=by
  intro i cK dh;rcases jr i r with l|A
  .exact .trans (.single (.inl ⟨l,c,by rwa[xG (Nat.lt_trans l d)],by rw[xG d];exact s.g⟩)) v
  .grind
 have P:(t++#[x]).g? t.size=U 0:=by simp[H0,m,q.1]
 refine⟨λF=>HW (h.clean F) λo p=>(B o p).1,λi b H cX=>?_,λi g dh cM n=>?_,E,?_⟩
 .rcases tl H with⟨cK,e⟩|⟨_,o,p,_,e⟩
  .rcases h.all i b e cX with⟨k,_⟩|⟨k,fo⟩|⟨k,_⟩|⟨k,fo⟩
   .exact .inl (k.app _)
   .rcases k with⟨eb,D,G⟩|k
    .exact .inr ⟨.inl ⟨eb,D,.inl G⟩,fo⟩
    .exact .inr ⟨.inr (k.imp λ_ h=>⟨h.1,.inl h.2⟩),fo⟩
   .exact .inl ((MU k).app _)
   .rcases jr r i with l|A
    .have K:=s.after i l k;rcases fo with⟨⟨eb,D,G⟩,C⟩|⟨_,_,C⟩|⟨k1,eK⟩
     .exact .inr ⟨.inl ⟨eb,D,.inr G⟩,C⟩
     .exact dN ⟨b,e,cX,.inl (by grind)⟩ K
     .exact .inr ⟨.inr (k1.imp λ_ h=>⟨h.1,.inl h.2⟩),eK⟩
    .exact .inl ⟨t.size,x,m,q.1,.inr (cU i A k)⟩
  simp_all
 .have⟨z,db,cX,S⟩:=id n;rcases tl db with⟨cK,e⟩|⟨_,o,p,_,e⟩
  .have w:t.g? i=U g:=by rwa[<-xG (u:=#[x]) cK]
   by_cases y:g=c
   .subst y;have O:=Nat.le_of_not_lt λl=>s.after i l w ((counts_old cK).1 n);grind
   .have⟨j,M,H⟩:=h.over i g w cM y ((counts_old cK).1 n);exact⟨j,by rwa[xG (Uh M)],hb_app _ H⟩
  simp_all
 .have:=Uj t 0 [x];rw[show(t++#[x])=t++[x].toArray from Z,this];simp[deafStep,q.2,h.xE]
end
section
open Go.ConcN (sumTo upd sumTo_upd upd_ne upd_same)
inductive dR(P:en)(main:di)(cU:da->da->Prop)(c3:da->da->d' hJ->Prop)(dy:dP->da->Prop):dP->da->Prop
 |stop {g:dP} {w:da} (h:∀c2,cU w c2->dy g c2):dR P main cU c3 dy g w
 |step {g:dP} {w:da} (c':g.status=.running) (fr:da->dP×da×d' hJ)
   (h:∀c2,cU w c2->stepG P main g c2=.go (fr c2).1 (fr c2).2.1 (fr c2).2.2/\c3 c2 (fr c2).2.1 (fr c2).2.2)
   (k:∀c2,cU w c2->dR P main cU c3 dy (fr c2).1 (fr c2).2.1):dR P main cU c3 dy g w
section
variable {P:en} {main:di} {cU:da->da->Prop} {c3:da->da->d' hJ->Prop} {dy:dP->da->Prop}
theorem dR.rely(f:∀a b c,cU a b->cU b c->cU a c){g w c2}(h:dR P main cU c3 dy g w)(dQ:cU w c2):dR P main cU c3 dy g c2:=by
 cases h with|stop h=>exact .stop λd e=>h d (f _ _ _ dQ e)|step c' fr h k=>exact .step c' fr (λd e=>h d (f _ _ _ dQ e)) (λd e=>k d (f _ _ _ dQ e))
theorem dR.running(gJ:∀g w,dy g w->g.status=.running)(dQ:∀w,cU w w){g w}(h:dR P main cU c3 dy g w):g.status=.running:=by
 cases h with|stop h=>exact gJ _ _ (h w (dQ w))|step c' fr h k=>exact c'
theorem dR.mono{d e f}(c:∀a b,d a b->cU a b)(i:∀a b es,c3 a b es->e a b es)(gJ:∀g w,dy g w->f g w){g w}(h:dR P main cU c3 dy g w):dR P main d e f g w:=by
 induction h with
 |stop h=>exact .stop λc2 h₁=>gJ _ _ (h c2 (c _ _ h₁))|step c' fr h _ j=>exact .step c' fr (λc2 h₁=>⟨(h c2 (c _ _ h₁)).1,i _ _ _ (h c2 (c _ _ h₁)).2⟩) λc2 h₁=>j c2 (c _ _ h₁)
theorem dR.bind{a}(dQ:∀w,cU w w){g w}(h:dR P main cU c3 a g w)(k:∀g w,a g w->dR P main cU c3 dy g w):dR P main cU c3 dy g w:=by
 induction h with
 | @stop g w h=>simp_all|step c' fr h _ b=>exact .step c' fr h b
theorem dR.sw:∀ {n g w},Goes P main cU c3 dy n g w->dR P main cU c3 dy g w:=by
 intro n
 induction n with
 |zero=>exact λh=>.stop h
 |succ n i=>
  intro g w h;rcases h with h|⟨s,h⟩
  .exact .stop h
  let fr:da->dP×da×d' hJ:=λw=>match stepG P main g w with
   | .go g' w' es=>(g',w',es)|_=>(g,w,#[])
  refine .step s fr (λc2 a=>?_) (λc2 a=>?_)
  .have:=h c2 a;simp[fr];revert this
   cases stepG P main g c2<;>simp[MV,MW,MX]
   simp_all
  .have:=h c2 a;simp[fr];revert this
   cases stepG P main g c2<;>simp[MV,MW,MX]
   simp_all
end
def fa(P:en)(dO:dr->da->Prop)(m:Machine)(t:Trace):Prop:=
 ∃dc a o w' b,runNT P (dc+1) m t=(.ended o w',b) /\runN P dc m=.next a/\step P a=.ended o w'/\Conc.Good P dO a o w' b
theorem fa.step{P dO m a t ops}(h:stepT P m=(.next a,ops))(k:fa P dO a (t++ops)):fa P dO m t:=by
 have⟨dc,l,o,w',c,Q,b,d,e⟩:=k
 have s:Um P m=.next a:=by unfold Um;rw[h]
 refine⟨dc+1,l,o,w',c,?_,?_,d,e⟩
 .rwa[show dc+2=(dc+1)+1 from Z,runNT,h]
 .rwa[runN,s]
structure e5(P:en)(c:V)(c1:d' dP)(T:Trace)(q:V->V):Prop where
 old:∀i g,0<i->i≠c->c1[i]?=U g->QuitsD P (q i) (Deaf T i) g
 above:∀j,c1.size<=j->Deaf T j=0
theorem lN{g fn pos es}:∀o∈g5 g fn pos es,o.g=g:=λo a=>by
 obtain⟨e,_,rfl⟩:=zs a;rfl
theorem H2{q i k n}(a:i<n)(b:q i=k+1):sumTo n (upd q i k)<sumTo n q:=by
 have h:sumTo n (upd q i k)+(k+1)=sumTo n q+k:=by have:=sumTo_upd q k id a;simpa[b]using this
 omega
section
variable {P:en} {c:V} {c1:d' dP} {T:Trace} {q:V->V}
theorem e5.own(h:e5 P c c1 T q){k}(g:k=0\/k=c)(l:k<c1.size){x iK w'}(fn pos es):
  e5 P c ((c1.map (woken P x iK w')).setIfInBounds k iK) (T++g5 k fn pos es) q:=by
 refine⟨λj y a d f=>?_,λj a=>?_⟩
 .have n:k≠j:=by rcases g with rfl|rfl<;>omega
  rw[ru n,BB]at f;obtain⟨z,i,rfl⟩:=v_.1 f;have e:=h.old j z a d i;rwa[woken_quitsD e,v' T n _ lN]
 .have b:c1.size<=j:=by simpa using a
  rw[v' T (g':=k) R _ lN];exact h.above j b
theorem e5.slip(h:e5 P c c1 T q){i k g g' w}(m:i<c1.size)(fn pos){es}(n:QuitsD P k (deafBehind (Deaf T i) es) g'):
  e5 P c ((c1.map (woken P g g' w)).setIfInBounds i g') (T++g5 i fn pos es) (upd q i k):=by
 refine⟨λj x dU d a=>?_,λj dU=>?_⟩
 .by_cases b:i=j
  .subst b;rw[Array.getElem?_setIfInBounds_self_of_lt (by simp_all)]at a;obtain rfl:=pV a;rwa[upd_same,uJ]
  .rw[ru b,BB]at a;obtain⟨y,e,rfl⟩:=v_.1 a;have f:=h.old j y dU d e;rwa[woken_quitsD f,upd_ne q k (Ne.symm b),v' T b _ lN]
 .have l:c1.size<=j:=by simpa using dU
  rw[v' T (g':=i) R _ lN];exact h.above j l
structure EI(P:en)(eX:da->Prop)(b:dP):Prop where
 awake:awake b
 rest:b.status≠.running
 woken:∀x iK w',eX w'->woken P x iK w' b=b
theorem nv{k j}(h:k≠j){x iK y w'}(a:c1[j]?=U y)(hw:woken P x iK w' y=y):((c1.map (woken P x iK w')).setIfInBounds k iK)[j]?=U y:=by simp_all
theorem i4{k}(h:k<c1.size){x iK w'}:((c1.map (woken P x iK w')).setIfInBounds k iK)[k]?=U iK:=by simp_all
theorem e5.BC(h:e5 P c c1 T q){a}(cW:c1[0]?=U a)(j:awake a)(k:0<c->∃b,c1[c]?=U b/\awake b):∀g∈c1,awake g:=by
 intro g f;obtain⟨i,cK,rfl⟩:=Array.mem_iff_getElem.1 f;have d:=zt cK;rcases H3 i with rfl|O
 .simp_all
 .by_cases e:i=c
  .grind
  .exact rv ((h.old i _ O e d).status.elim .inl λx=>.inr (.inr x))
theorem e5.H4(h:e5 P c c1 T q){i g}(O:0<i)(f:i≠c)(cK:c1[i]?=U g)(d:g.status=.running):
  ∃k g' es,q i=k+1/\ (∀e∈es,wb e=N) /\ (∀w,stepG P L g w=.go g' w es) /\QuitsD P k (deafBehind (Deaf T i) es) g':=by
 have b:=h.old i g O f cK
 cases a:q i with
 |zero=>rw[a]at b;rw[b.1]at d;cases d
 |succ k=>
  rw[a]at b;rcases b with⟨l,_⟩|⟨_,g',es,m,s,j⟩
  .simp_all
  grind
end
structure wc(c:V)(cM:Trace->Prop)(eX:da->Prop):Prop where
 mute:∀T i fn pos es,cM T->i≠0->i≠c->(∀e∈es,wb e=N)->cM (T++g5 i fn pos es)
 draw:∀w d,eX w->eX (w.at d)
def tn(k:V)(cM:Trace->Prop)(eX:da->Prop)(c3:da->da->d' hJ->Prop):Prop:=
 ∀T fn pos es w w',cM T->eX w->c3 w w' es->cM (T++g5 k fn pos es) /\eX w'
structure me(cU:da->da->Prop):Prop where
 refl:∀w,cU w w
 trans:∀a b c,cU a b->cU b c->cU a c
 draw:∀w d,cU w (w.at d)
section
variable {P:en} {c:V} {cM:Trace->Prop} {eX:da->Prop} {cU jW:da->da->Prop} {c3 rx:da->da->d' hJ->Prop} {dy qE:dP->da->Prop} {dO:dr->da->Prop}
theorem uK(j:wc c cM eX){we:da->Prop}(m:∀w d,we w->we (w.at d)){a b}(dt:awake a/\∀x iK w',eX w'->woken P x iK w' a=a)(hb:0<c->awake b/\∀x iK w',eX w'->woken P x iK w' b=b)(dQ:a.status=.running\/0<c/\b.status=.running)
  (o:∀M T c1 w sl q,a.status=.running->stepT P M=runT P (crowd c1 w sl) 0->c1[0]?=U a->(0<c->c1[c]?=U b)->e5 P c c1 T q->cM T->eX w->we w->fa P dO M T)
  (p:0<c->∀M T c1 w sl q,b.status=.running->stepT P M=runT P (crowd c1 w sl) c->c1[0]?=U a->c1[c]?=U b->e5 P c c1 T q->cM T->eX w->we w->fa P dO M T):
  ∀c1 w sl T q,c1[0]?=U a->(0<c->c1[c]?=U b)->e5 P c c1 T q->cM T->eX w->we w->fa P dO (crowd c1 w sl) T:=by
 have r:∀n c1 w sl T q,sumTo c1.size q<=n->c1[0]?=U a->(0<c->c1[c]?=U b)->e5 P c c1 T q->cM T->eX w->we w->fa P dO (crowd c1 w sl) T:=by
  intro n
  induction n using to with
  |_ n s=>
   intro c1 w sl T q c0 cW O e cT hw cY;have⟨i,x,d,v,cK,f,g⟩:=EJ (P:=P) (w:=w) (sl:=sl) (e.BC cW dt.1 λh=>⟨b,O h,(hb h).1⟩) (dQ.elim (λh=>⟨0,a,cW,h⟩) λh=>⟨c,b,O h.1,h.2⟩);have hw:=j.draw w d hw;have cY:=m w d cY
   by_cases Q:i=0
   .subst Q;rw[cW]at cK;cases cK;exact o _ _ _ _ _ _ f g cW O e cT hw cY
   by_cases c5:i=c
   .subst c5;have dj:=BD Q;rw[O dj]at cK;cases cK;exact p dj _ _ _ _ _ _ f g cW (O dj) e cT hw cY
   have⟨k,g',es,t,d6,c',u⟩:=e.H4 R c5 cK f;have l:=(kL.1 cK).1;refine fa.step (g.trans (wh cK (by rw[show(i==0)=L by simp;omega];exact c' _))) (s (sumTo c1.size (upd q i k)) ?_ _ _ _ _ (upd q i k) ?_ (nv Q cW (dt.2 _ _ _ hw)) (λdj=>nv c5 (O dj) ((hb dj).2 _ _ _ hw)) (e.slip l _ _ u) (j.mute _ _ _ _ _ cT Q c5 d6) hw cY)
   .have:=H2 l t;omega
   .simp
 exact λc1 w sl T q=>r _ c1 w sl T q (fi _)
theorem H5{g:dP}(h:g.status=.running):awake g/\∀x iK w',eX w'->woken P x iK w' g=g:=⟨rv (.inl h),λ_ _ _ _=>woken_run h⟩
theorem tp{mf}(n:wc c cM eX)(j:me cU)(o:tn 0 cM eX c3)(gJ:∀g w,dy g w->g.status=.running)
  (p:∀M T g c1 w sl q,stepT P M=runT P (crowd c1 w sl) 0->c1[0]?=U g->e5 P c c1 T q->(0<c->c1[c]?=U mf/\EI P eX mf)->cM T->eX w->dy g w->fa P dO M T)
  {a w}(h:dR P N cU c3 dy a w):
  ∀c1 sl T q,c1[0]?=U a->e5 P c c1 T q->(0<c->c1[c]?=U mf/\EI P eX mf)->cM T->eX w->fa P dO (crowd c1 w sl) T:=by
 have main:∀g b,g.status=.running->(∀M T c1 w sl q,cU b w->stepT P M=runT P (crowd c1 w sl) 0->c1[0]?=U g->e5 P c c1 T q->(0<c->c1[c]?=U mf/\EI P eX mf)->cM T->eX w->fa P dO M T)->∀c1 sl T q,c1[0]?=U g->e5 P c c1 T q->(0<c->c1[c]?=U mf/\EI P eX mf)->cM T->eX b->fa P dO (crowd c1 b sl) T:=λg b dQ k c1 sl T q cW e O cT hw=>uK (we:=cU b) n (λw d h=>j.trans _ _ _ h (j.draw _ _)) (H5 dQ) (λdj=>⟨(O dj).2.awake,(O dj).2.woken⟩) (.inl dQ) (λM T c1 w sl q _ f cW r e cT hw cY=>k M T c1 w sl q cY f cW e (λdj=>⟨r dj,(O dj).2⟩) cT hw) (λdj _ _ _ _ _ _ h=>dN h (O dj).2.rest) c1 b sl T q cW (λdj=>(O dj).1) e cT hw (j.refl _)
 induction h with
 | @stop g b h=>exact main g b (gJ _ _ (h _ (j.refl _))) λM T c1 w sl q cY f cW e O cT hw=>p M T g c1 w sl q f cW e O cT hw (h w cY)
 | @step g b dQ fr h _ s=>
  exact main g b dQ λM T c1 w sl q cY f cW e O cT hw=>by
   have⟨t,cP⟩:=h w cY;have l:=(kL.1 cW).1;have⟨u,m⟩:=o T g.frame.fn g.frame.place _ _ _ cT hw cP;exact fa.step (f.trans (wh (i:=0) cW t)) (s w cY _ _ _ q (i4 l) (e.own (.inl Z) l _ _ _) (λdj=>⟨nv R (O dj).1 ((O dj).2.woken _ _ _ m),(O dj).2⟩) u m)
theorem Un{a}(dt:EI P eX a)(dj:0<c)(p:wc c cM eX)(m:me jW)(r:tn c cM eX rx)(gJ:∀g w,qE g w->g.status=.running)
  (s:∀M T b c1 w sl q,stepT P M=runT P (crowd c1 w sl) c->c1[0]?=U a->c1[c]?=U b->e5 P c c1 T q->cM T->eX w->qE b w->fa P dO M T)
  {b w}(h:dR P L jW rx qE b w):
  ∀c1 sl T q,c1[0]?=U a->c1[c]?=U b->e5 P c c1 T q->cM T->eX w->fa P dO (crowd c1 w sl) T:=by
 have main:∀g e,g.status=.running->(∀M T c1 w sl q,jW e w->stepT P M=runT P (crowd c1 w sl) c->c1[0]?=U a->c1[c]?=U g->e5 P c c1 T q->cM T->eX w->fa P dO M T)->∀c1 sl T q,c1[0]?=U a->c1[c]?=U g->e5 P c c1 T q->cM T->eX e->fa P dO (crowd c1 e sl) T:=λg e dQ k c1 sl T q cW f j cT hw=>uK (we:=jW e) p (λw d h=>m.trans _ _ _ h (m.draw _ _)) ⟨dt.awake,dt.woken⟩ (λ_=>H5 dQ) (.inr ⟨dj,dQ⟩) (λ_ _ _ _ _ _ h=>dN h dt.rest) (λ_ M T c1 w sl q _ l cW f j cT hw cY=>k M T c1 w sl q cY l cW f j cT hw) c1 e sl T q cW (λ_=>f) j cT hw (m.refl _)
 induction h with
 | @stop g e h=>exact main g e (gJ _ _ (h _ (m.refl _))) λM T c1 w sl q cY l cW f j cT hw=>s M T g c1 w sl q l cW f j cT hw (h w cY)
 | @step g e dQ fr h _ t=>
  exact main g e dQ λM T c1 w sl q cY l cW f j cT hw=>by
   have⟨v,cP⟩:=h w cY;have n:=(kL.1 f).1;have⟨u,o⟩:=r T g.frame.fn g.frame.place _ _ _ cT hw cP;exact fa.step (l.trans (wh (i:=c) f (by rwa[show(c==0)=L by simp;omega]))) (t w cY _ _ _ q (nv R cW (dt.woken _ _ _ o)) (i4 n) (j.own (.inr Z) n _ _ _) u o)
theorem EK(dj:0<c)(z:wc c cM eX)(o:me cU)(p:me jW)(A:tn 0 cM eX c3)(B:tn c cM eX rx)
  (C:∀w w' es,eX w->rx w w' es->cU w w')(D:∀w w' es,eX w->c3 w w' es->jW w w')
  (gJ:∀g w,dy g w->g.status=.running)(y:∀g w,qE g w->g.status=.running)
  (E:∀M T a b c1 w sl q,stepT P M=runT P (crowd c1 w sl) 0->c1[0]?=U a->c1[c]?=U b->e5 P c c1 T q->cM T->eX w->dy a w->dR P L jW rx qE b w->fa P dO M T)
  (F:∀M T a b c1 w sl q,stepT P M=runT P (crowd c1 w sl) c->c1[0]?=U a->c1[c]?=U b->e5 P c c1 T q->cM T->eX w->dR P N cU c3 dy a w->qE b w->fa P dO M T)
  {a w}(h:dR P N cU c3 dy a w):
  ∀ {b} (c1) (sl) (T) (q),dR P L jW rx qE b w->c1[0]?=U a->c1[c]?=U b->e5 P c c1 T q->cM T->eX w->fa P dO (crowd c1 w sl) T:=by
 have main:∀g l,dR P N cU c3 dy g l->
   (∀w b c1 sl M T q,cU l w->stepT P M=runT P (crowd c1 w sl) 0->dR P L jW rx qE b w->c1[0]?=U g->c1[c]?=U b->e5 P c c1 T q->cM T->eX w->fa P dO M T)->
   ∀ {b w},dR P L jW rx qE b w->∀c1 sl T q,cU l w->c1[0]?=U g->c1[c]?=U b->e5 P c c1 T q->cM T->eX w->fa P dO (crowd c1 w sl) T:=by
  intro g l n t b w hb;have dQ:=n.running gJ o.refl
  have go:∀b f,dR P L jW rx qE b f->(∀M T c1 w sl q,cU l w->jW f w->stepT P M=runT P (crowd c1 w sl) c->c1[0]?=U g->c1[c]?=U b->e5 P c c1 T q->cM T->eX w->fa P dO M T)->∀c1 sl T q,cU l f->c1[0]?=U g->c1[c]?=U b->e5 P c c1 T q->cM T->eX f->fa P dO (crowd c1 f sl) T:=λb f hb k c1 sl T q cY cW n e cT hw=>uK (we:=λw=>cU l w/\jW f w) z (λw d h=>⟨o.trans _ _ _ h.1 (o.draw _ _),p.trans _ _ _ h.2 (p.draw _ _)⟩) (H5 dQ) (λ_=>H5 (hb.running y p.refl)) (.inl dQ) (λM T c1 w sl q _ m cW n e cT hw cY=>t w b c1 sl M T q cY.1 m (hb.rely p.trans cY.2) cW (n dj) e cT hw) (λ_ M T c1 w sl q _ m cW n e cT hw cY=>k M T c1 w sl q cY.1 cY.2 m cW n e cT hw) c1 f sl T q cW (λ_=>n) e cT hw ⟨cY,p.refl _⟩
  induction hb with
  | @stop b f hb=>exact go b f (.stop hb) λM T c1 w sl q cY s m cW j e cT hw=>F M T g b c1 w sl q m cW j e cT hw (n.rely o.trans cY) (hb _ s)
  | @step b f G fr hb c_ u=>
   exact go b f (.step G fr hb c_) λM T c1 w sl q cY s m cW j e cT hw=>by
    have⟨I,cP⟩:=hb _ s;have r:=(kL.1 j).1;have⟨v,x⟩:=B T b.frame.fn b.frame.place _ _ _ cT hw cP;exact fa.step (m.trans (wh (i:=c) j (by rwa[show(c==0)=L by simp;omega]))) (u _ s _ _ _ q (o.trans _ _ _ cY (C _ _ _ hw cP)) (nv R cW (woken_run dQ)) (i4 r) (e.own (.inr Z) r _ _ _) v x)
 induction h with
 | @stop g l h=>exact λc1 sl T q hb cW j e cT hw=>main g l (.stop h) (λc2 b c1 sl M T q cY m hb cW j e cT hw=>E M T g b c1 c2 sl q m cW j e cT hw (h c2 cY) hb) hb c1 sl T q (o.refl _) cW j e cT hw
 | @step g l H fr h k u=>
  exact λc1 sl T q hb cW j e cT hw=>main g l (.step H fr h k) (λc2 b c1 sl M T q cY m hb cW j e cT hw=>by
   have⟨t,cP⟩:=h _ cY;have r:=(kL.1 cW).1;have⟨v,x⟩:=A T g.frame.fn g.frame.place _ _ _ cT hw cP
   exact fa.step (m.trans (wh (i:=0) cW t)) (u _ cY _ _ _ q (hb.rely p.trans (D _ _ _ hw cP)) (i4 r) (nv R j (woken_run (hb.running y p.refl))) (e.own (.inl Z) r _ _ _) v x)) hb c1 sl T q (o.refl _) cW j e cT hw
end
end
def ed{α:Type}(s:Sem α):Prop:=∀(P:en) (w:da) (es:d' hJ),s.events P w es=es
section
variable {α xY:Type}
theorem ed.bind{s:Sem α}{f:α->Sem xY}(h:ed s)(k:∀a,ed (f a)):ed (s>>=f):=λP w es=>by
 rw[jz,h P w es]
 cases s.run P w with|ok a w'=>exact k a P w' es|halt x w'=>rfl
theorem ed.map{s:Sem α}(f:α->xY)(h:ed s):ed (Functor.map f s):=λP w es=>by rw[Sem.events_map];exact h P w es
theorem ed.pure(a:α):ed (Pure.pure a:Sem α):=λ_ _ _=>Z
theorem ed.stuck (s:String):ed (stuck s:Sem α):=fun _ _ _=>Z
theorem ed.unsupported (u:Unsupported):ed (unsupported u:Sem α):=fun _ _ _=>Z
theorem ed.goPanic (v:dr):ed (goPanic v:Sem α):=fun _ _ _=>Z
theorem ed.ite{c:Prop}[qK c]{x y:Sem α}(h:ed x)(k:ed y):ed (if c then x else y):=by split<;>assumption
theorem ed.underlying (t:eF):ed (underlying t):=fun P w es=>events_underlying P w es t
theorem ed.sizeOf (t:eF):ed (sizeOf t):=fun P w es=>events_sizeOf P w es t
theorem ed.isAgg (t:eF):ed (isAgg t):=fun P w es=>events_isAgg P w es t
theorem ed.zeroValue (t:eF):ed (zeroValue t):=fun P w es=>events_zeroValue P w es t
theorem ed.newObj (o:Obj):ed (newObj o):=fun _ _ _=>Z
theorem ed.program:ed program:=fun _ _ _=>Z
theorem ed.choose (q:Question):ed (choose q):=fun P w es=>events_choose P w es q
theorem ed.newRow (t:eF) (c:d' dr):ed (newRow t c):=.bind (.newObj _) fun _=>.pure _
theorem ed.newVar (t:eF) (v:dr):ed (newVar t v):=.newRow _ _
theorem ed.Ve{f:α->Sem xY}(h:∀x,ed (f x)):∀l:I α,ed (l.mapM f)
 | []=>by rw[List.mapM_nil];exact .pure _|x::r=>by rw[B7];exact .bind (h x) λ_=>.bind (ed.Ve h r) λ_=>.pure _
theorem ed.ahm{f:α->Sem xY}(h:∀x,ed (f x))(l:d' α):ed (l.mapM f):=by rw[Array.mapM_eq_mapM_toList];exact .map _ (.Ve h _)
theorem ed.asIntOf (v:dr):ed (asIntOf v):=by
 unfold Go.asIntOf;split<;>first|exact .pure _|exact .stuck _|exact .unsupported _
end
theorem ahn{own:V->Prop}{M:eI}{P:en}{w:da}{α:Type}{s:Sem α}(h:ed s):∀e∈s.events P w #[],h7 own M e:=λe a=>by rw[h P w #[]]at a;simp at a
theorem Fp{own:V->Prop}{M:eI}{P:en}{w:da}{o:gL}{f:fw->dr}{s:Sem dr}(a:execOp f o=(do pure (Next.value (<-s))))(h:ed s):∀e∈(execOp f o).events P w #[],h7 own M e:=by rw[a];exact ahn (.bind h λ_=>.pure _)
theorem Vf(t:eF)(a:d' (V×dr)):ed (zN t a):=by
 unfold zN;refine .bind (.zeroValue _) λz=>.bind (.underlying _) λu=>?_;split
 .refine .bind (.ahm (λf=>.bind (.sizeOf _) λ_=>.pure _) _) λp=>?_;split
  .exact .pure _
  .exact .stuck _
 .refine .bind (.sizeOf _) λs=>?_;split
  .exact .pure _
  .exact .stuck _
 .exact .stuck _
theorem ed.elemOf (t:eF):ed (elemOf t):=by
 unfold Go.elemOf
 refine .bind (.underlying _) fun u=>?_
 split<;>first|exact .pure _|exact .stuck _
theorem ed.runtimePanic {α:Type} (e:RuntimeError):ed (runtimePanic e:Sem α):=by
 unfold Go.runtimePanic
 refine .bind .program fun p=>?_
 cases e<;>first|exact .goPanic _|exact .bind (.elemOf _) fun _=>.bind (.newVar _ _) fun _=>.goPanic _
theorem ed.boundsPanic {α:Type} (k:pT) (x y:J) (c:BoundsCode):ed (boundsPanic k x y c:Sem α):=by
 unfold Go.boundsPanic;dsimp only
 split
 ·exact .bind (.map _ (.choose _)) fun s=>.runtimePanic _
 ·exact .bind (.pure _) fun s=>.runtimePanic _
theorem ed.asBool (v:dr):ed (asBool v):=by unfold Go.asBool;split<;>first|exact .pure _|exact .stuck _
theorem ed.asAgg (v:dr):ed (asAgg v):=by unfold Go.asAgg;split<;>first|exact .pure _|exact .stuck _
theorem ed.asAddr (v:dr):ed (asAddr v):=by unfold Go.asAddr;split<;>first|exact .pure _|exact .stuck _|exact .runtimePanic _
theorem ed.sureAddr(v:dr):ed (lU v):=by unfold lU;split<;>first|exact .pure _|exact .stuck _
theorem ed.part (t:eF) (cs:d' dr) (o:V):ed (part t cs o):=by
 unfold Go.part
 refine .bind (.isAgg _) fun b=>?_
 split
 ·exact .bind (.sizeOf _) fun _=>.pure _
 ·split<;>first|exact .pure _|exact .stuck _
theorem ahp(t:eF)(n:V)(p:d' (V×dr)):ed (IG t n p):=by
 unfold IG;refine .bind (.underlying _) λu=>?_;split
 .rename_i e;refine .bind (.sizeOf _) λs=>?_
  dsimp only
  have k:∀d (z:d' dr),ed (match Instr.fill (λi=>U (i*s,s)) ((Array.range (n*s)).map (λx=>z[x%z.size]!)) p.toList with
    |some c=>do let a <-newRow e c;Pure.pure (Value.slice (U a) n n)|_=>stuck d):=λd z=>by
   split
   .exact .bind (.newRow _ _) λ_=>.pure _
   .exact .stuck _
  split
  .refine .bind (.unsupported _) λ_=>?_;split
   .omega
   .exact .bind (.zeroValue _) λ_=>.bind (.pure _) (k _)
  .split
   .exact .bind (.pure _) (k _)
   .exact .bind (.zeroValue _) λ_=>.bind (.pure _) (k _)
 .exact .stuck _
theorem TV(x:dr)(y:V)(c:BoundsCode):ed (B8 x y c):=by
 unfold B8;refine .bind (.asIntOf _) λp=>?_;split;split
 .exact .pure _
 .exact .boundsPanic _ _ _ _
theorem Fq(b:di)(l c:V)(x y z:dB dr):ed (p2 b l c x y z):=by
 unfold p2
 rcases x with _|x<;>rcases y with _|y<;>rcases z with _|z<;>dsimp only<;>
  exact .bind TU λ_=>.bind (by first|exact .pure _|exact .stuck _|exact TV _ _ _) λ_=>.bind TU λ_=>.pure _
theorem ahq(t:eF)(x:dr)(a b c:dB dr):ed (xZ t x a b c):=by
 unfold xZ;refine .bind (.underlying _) λu=>?_;split
 .dsimp only
  split
  .exact .bind (.stuck _) λ_=>.bind (Fq _ _ _ _ _ _) λp=>.pure _
  .exact .bind (Fq _ _ _ _ _ _) λp=>.pure _
 .exact .bind (Fq _ _ _ _ _ _) λp=>.bind (.sizeOf _) λ_=>.pure _
 .refine .bind (.asAddr _) λa=>.bind (.underlying _) λv=>?_;split
  .exact .bind (Fq _ _ _ _ _ _) λp=>.bind (.sizeOf _) λ_=>.pure _
  .exact .stuck _
 .exact .stuck _
theorem IH(t:eF)(x:dr)(a b c:dB dr):ed (nf t x a b c):=by
 unfold nf;refine .bind (.underlying _) λu=>?_;split
 .exact .bind (.sureAddr _) λ_=>.bind (Fq _ _ _ _ _ _) λp=>.bind (.sizeOf _) λ_=>.pure _
 .exact ahq _ _ _ _ _
theorem ahr(t:eF)(x:dr)(f:V):ed (NV t x f):=by
 unfold NV;refine .bind (.underlying _) λu=>?_;split
 .split
  .exact .bind (.asAgg _) λ_=>.part _ _ _
  .exact .stuck _
 .exact .stuck _
theorem ahs(t:eF)(x i:dr):ed (Fr t x i):=by
 unfold Fr;refine .bind (.asIntOf _) λp=>?_;split;refine .bind (.underlying _) λu=>?_;split
 .split
  .exact .bind (.sizeOf _) λ_=>.part _ _ _
  .exact .boundsPanic _ _ _ _
 .split<;>first|exact .pure _|exact .boundsPanic _ _ _ _
 .exact .stuck _
theorem aht(t:dr)(i:V):ed (NW t i):=by
 unfold NW;split
 .split<;>first|exact .pure _|exact .stuck _
 .exact .stuck _
theorem II(t:eF)(x i:dr):ed (qQ t x i):=by
 unfold qQ;refine .bind (.asIntOf _) λp=>?_
 have⟨k,i⟩:=p;dsimp only
 refine .bind (.underlying _) λu=>?_
 have e:∀d (q:dB g3×V×eF),ed (do
  let ahu <-underlying t
  match q.1 with
  |some a=>
   if 0<=i/\i<↑q.2.1 then do
    let s <-sizeOf q.2.2
    Pure.pure (IJ (U (a.add (i.toNat*s))))
   else
    if(decide (q.2.1<=1)&&match ahu with|TypeDesc.array len l=>N|x=>L)=N then
     unsupported (axZ d)
    else boundsPanic k i (↑q.2.1) ahv
  |none=>boundsPanic k i 0 ahv):=λd q=>by
  refine .bind (.underlying _) λv=>?_;split
  .split
   .exact .bind (.sizeOf _) λ_=>.pure _
   .split<;>(split<;>first|exact .unsupported _|exact .boundsPanic _ _ _ _)
  .exact .boundsPanic _ _ _ _
 split
 .exact .bind (.sureAddr _) λ_=>.bind (.pure _) (e _)
 .exact .bind (.pure _) (e _)
 .exact .bind (.stuck _) (e _)
def dO(own:V->Prop)(M:eI)(D:gD)(O:V->dB d4)(w:da)(e:gp)(v:dr)(w':da):Prop:=
 ∃(a:eI) (ei:gD),j0 own w w'/\gS M a/\fp a w'/\jx own M a/\er own a ei (e.O O) w'/\ (∀b,pZ e.f5 b->ei b=D b) /\dZ a ei e.fj v
def IP(cX:jy)(own:V->Prop)(M:eI)(D:gD)(O:V->dB d4)(w:da)(e:gp)(v:dr)(w':da):Prop:=
 ∃(a:eI) (ei:gD),j0 (pr cX own) w w'/\gS M a/\fp a w'/\jx own M a/\er own a ei (e.O O) w'/\ (∀b,pZ e.f5 b->ei b=D b) /\dZ a ei e.fj v
def hE(P:en)(o:gL)(dC:fw->dp)(O:V->dB d4)(e:gp):Prop:=
 ∀(cX:jy) (own:V->Prop) (M:eI) (D:gD) (a:e8) (w:da),gQ cX own M->(∀c,w.heap.size<=c->own c)->fp M w->er own M D O w->(∀x,dZ M D (dC x) (a.eval x))->
  n9 P cX.main cX.F o a w (λd8 w'=>∃v,d8=a.put o.dst v/\IP cX own M D O w e v w')
theorem gS.refl(M):gS M M:=λ_ _ _ h=>h
theorem gS.trans{M b a}(h:gS M b)(c:gS b a):gS M a:=λ_ _ _ k=>c _ _ _ (h _ _ _ k)
theorem jx.refl(own M):jx own M M:=λ_ _ _ h=>.inl h
theorem jx.trans{own M c a}(h:jx own M c)(d:jx own c a):jx own M a:=λb o v k=>(d b o v k).elim (h b o v) .inr
theorem j0.refl(own w):j0 own w w:=⟨Z,Z,Z,fi _,λ_ _=>Z⟩
theorem j0.trans{own a b c}(h:j0 own a b)(d:j0 own b c):j0 own a c:=
 ⟨d.os.trans h.os,d.tape.trans h.tape,d.output.trans h.output,fG h.size d.size,λx e=>(d.block x e).trans (h.block x e)⟩
theorem Vo{own M D O w a v}(h:fp M w)(c9:er own M D O w)(cP:dZ M D a v):dO own M D O w ⟨a,[],cL⟩ v w:=
 ⟨M,D,.refl _ _,.refl _,h,.refl _ _,c9,λ_ _=>Z,cP⟩
theorem j0.mono{own o w w'}(h:j0 own w w')(b:∀c,own c->o c):j0 o w w':=
 ⟨h.os,h.tape,h.output,h.size,λc a=>h.block c λq=>a (b c q)⟩
theorem ahA{cX}(own){w c2}(h:e0 cX.F w c2):j0 (pr cX own) w c2:=⟨h.os,h.tape,h.output,tD h.size.symm,λc a=>h.block c λq=>a (.inr q)⟩
theorem N'{F w c2}(h:e0 F w c2){a}(b:¬F a.block):c2.cell? a=w.cell? a:=by unfold ke;rw[h.block _ b]
theorem tE{cX own M w c2}(f:gQ cX own M)(h:e0 cX.F w c2)(a:fp M w):fp M c2:=λb o v cY=>by
 rw[N' h (f.mem b o v cY)];exact a b o v cY
theorem Ce{cX own M D O w c2}(f:gQ cX own M)(h:e0 cX.F w c2)(c9:er own M D O w):er own M D O c2:=
 ⟨c9.fE,c9.iX,λb B cM a d=>by
  have⟨q,cs,T,c,e⟩:=c9.at_ b B cM a d
  exact⟨q,cs,T,by rwa[h.block _ (f.own _ q)],e⟩,c9.inj⟩
theorem Vp{cX own M w w'}(f:gQ cX own M)(h:j0 own w w'):oS cX.F w w':=⟨h.os,h.tape,h.output,h.size,λc a=>h.block c λq=>f.own c q a⟩
theorem Oa{cX own M D O w c2 w' e v}(h:e0 cX.F w c2)(p:dO own M D O c2 e v w'):IP cX own M D O w e v w':=by have⟨a,ei,f,q⟩:=p;exact⟨a,ei,(ahA own h).trans (f.mono λc q=>.inl q),q⟩
theorem Ob{P o dC O e}
  (h:∀(own M D) (a:e8) (w),(∀c,w.heap.size<=c->own c)->fp M w->er own M D O w->(∀x,dZ M D (dC x) (a.eval x))->
   (∃v w',(execOp a.eval o).run P w=.ok (.value v) w'/\dO own M D O w e v w'/\ ∀e∈(execOp a.eval o).events P w #[],h7 own M e) \/
   ∃w',(execOp a.eval o).run P w=.ok .skip w'/\dO own M D O w e undef w'/\ ∀e∈(execOp a.eval o).events P w #[],h7 own M e):hE P o dC O e:=by
 intro cX own M D a w f m l c9 j c2 b;have g:∀c,c2.heap.size<=c->own c:=λc k=>m c (by rwa[b.size]at k);rcases h own M D a c2 g (tE f b l) (Ce f b c9) j with⟨v,w',r,p,d⟩|⟨w',r,p,d⟩
 .rw[r];exact⟨⟨Vp f p.choose_spec.choose_spec.1,λx i=>(d x i).hK f⟩,v,Z,Oa b p⟩
 .rw[r];exact⟨⟨Vp f p.choose_spec.choose_spec.1,λx i=>(d x i).hK f⟩,undef,Z,Oa b p⟩
theorem u6{P o dC O c}
  (h:∀(own M D) (a:e8) (w),fp M w->er own M D O w->(∀x,dZ M D (dC x) (a.eval x))->∃v,(execOp a.eval o).run P w=.ok (.value v) w/\ (∀e∈(execOp a.eval o).events P w #[],h7 own M e) /\dZ M D c v):
  hE P o dC O ⟨c,[],cL⟩:=Ob λown M D a w _ d c9 b=>by
 have⟨v,r,f,cP⟩:=h own M D a w d c9 b;exact .inl ⟨v,w,r,Vo d c9 cP,f⟩
theorem ahB{own M a e}(c0:jx own M a)(h:h7 own a e):h7 own M e:=by
 unfold h7 at*
 split at h
 .exact⟨h.1,h.2.elim .inl λ⟨o,v,cY⟩=>(c0 _ _ v cY).elim (λq=>.inr ⟨o,v,q⟩) .inl⟩
 .trivial
 .trivial
 omega
theorem zQ{P o dC O c}(f:∀(own M) (a:e8) (w),∀e∈(execOp a.eval o).events P w #[],h7 own M e)
  (h:∀(own M D) (a:e8) (w),fp M w->er own M D O w->(∀x,dZ M D (dC x) (a.eval x))->∃v,(execOp a.eval o).run P w=.ok (.value v) w/\dZ M D c v):
  hE P o dC O ⟨c,[],cL⟩:=u6 λown M D a w d c9 b=>by
 have⟨v,r,cP⟩:=h own M D a w d c9 b;grind
theorem tF{own M es}(h:es=#[]):∀e∈es,h7 own M e:=λe a=>by simp_all
theorem tG{v K}(h:na v K):K v/\v≠.dead:=by cases v<;>simp_all [na]
theorem wD{b A B}(h:jI b A B):(b=N/\A) \/ (b=L/\B):=by have h:=h.out;grind
theorem Fv{k n K}(h:wq k n K):K (k.wrap n):=h.out
theorem k_{c K}(h:jZ c K):c/\K:=h.out
theorem Fw{l i K}(h:E8 l i K):∃e,l[i]?=U e/\K e:=h.out
theorem zR{i n K}(h:uP i n K):0<=i/\i<n/\K i.toNat:=h.out
theorem Cf{n b K}(h:sB n b K):n*b<=35184372088832/\n<=35184372088832/\K:=h.out
theorem Vq{dz cK n c K}(h:BT dz cK n c K):0<=dz.getD 0/\dz.getD 0<=cK.getD n/\cK.getD n<=c/\K (dz.getD 0).toNat (cK.getD n).toNat:=h.out
theorem Fx{dz cK n K}(h:wt dz cK n K):
  0<=dz.getD 0/\dz.getD 0<=cK.getD n/\cK.getD n<=n/\K (dz.getD 0).toNat (cK.getD n).toNat:=h.out
theorem Vr{q k a b K}(h:BS q k a b K):b≠0/\K (if q then k.wrap (a.tdiv b) else a.tmod b):=h.out
theorem u7{v K}(h:zG v K):∃b,K b/\ ∀M D u,dZ M D v u->u=.bool b:=by
 unfold zG at h;split at h
 .rename_i b;refine⟨b,h,λM D u cP=>?_⟩
  cases cP with|d _ _ cP=>cases cP;rfl
 .exact⟨N,h,λM D u cP=>by cases cP;rfl⟩
 .exact⟨L,h,λM D u cP=>by cases cP;rfl⟩
 simp_all
theorem kH{M D k n v}(h:dZ M D (.d (.int k n)) v):v=.int k n:=by
 cases h with|d _ _ h=>cases h;rfl
theorem sI{M D s v}(h:dZ M D (.d (.str s)) v):v=.string s:=by
 cases h with|d _ _ h=>cases h;rfl
theorem og{M D s v}(h:dZ M D (.d (.bool s)) v):v=.bool s:=by
 cases h with|d _ _ h=>cases h;rfl
section
variable {P:en}
theorem ahC{op:BinOp}{k:pT}{a b:J}{K:dp->Prop}(h:Ns op k a b K)(t:eF):
  ∃d:c3,K (.d d) /\ (∀(x y:fw) (w:da),(do eqGuard op t x y (.int k a) (.int k b);jA op t (.int k a) (.int k b):Sem dr).run P w=.ok (match d with| .int k n=>.int k n| .bool b=>.bool b|_=>undef) w) /\ ((∃n,d=.int k n) \/ ∃b,d=.bool b):=by
 unfold Ns at h
 cases op<;>simp only at h
 case add=>exact⟨_,Fv h,ME,.inl ⟨_,Z⟩⟩
 case sub=>exact⟨_,Fv h,ME,.inl ⟨_,Z⟩⟩
 case mul=>exact⟨_,Fv h,ME,.inl ⟨_,Z⟩⟩
 case quo=>have⟨Q,c5⟩:=Vr h;exact⟨_,c5,by simp[eqGuard,jA,Oc,Q],.inl ⟨_,Z⟩⟩
 case rem=>have⟨Q,c5⟩:=Vr h;exact⟨_,c5,by simp[eqGuard,jA,Oc,Q],.inl ⟨_,Z⟩⟩
 case and=>exact⟨_,h,HL,.inl ⟨_,Z⟩⟩
 case or=>exact⟨_,h,HL,.inl ⟨_,Z⟩⟩
 case xor=>exact⟨_,h,HL,.inl ⟨_,Z⟩⟩
 case andNot=>exact⟨_,h,HL,.inl ⟨_,Z⟩⟩
 case eql=>exact⟨_,h,TK,.inr ⟨_,Z⟩⟩
 case neq=>exact⟨_,h,TK,.inr ⟨_,Z⟩⟩
 case lss=>exact⟨_,h,HJ,.inr ⟨_,Z⟩⟩
 case leq=>exact⟨_,h,HJ,.inr ⟨_,Z⟩⟩
 case gtr=>exact⟨_,h,HJ,.inr ⟨_,Z⟩⟩
 case geq=>exact⟨_,h,HJ,.inr ⟨_,Z⟩⟩
theorem ahD{op k fo a b K}(h:Nt op k a b K)(t):
  ∃n,K (.d (.int k n)) /\ ∀x y w,(do eqGuard op t x y (.int k a) (.int fo b);jA op t (.int k a) (.int fo b):Sem dr).run P w=.ok (.int k n) w:=by
 unfold Nt at h
 cases op<;>simp_all
 case shl=>have⟨Q,c5⟩:=k_ h;exact⟨_,Fv c5,TM⟩
 case shr=>have⟨Q,c5⟩:=k_ h;exact⟨_,c5,TM⟩
theorem ahE{op:BinOp}{a b:dG}{K:dp->Prop}(h:Nu op a b K)(t:eF):
  ∃d:c3,K (.d d) /\ (∀(x y:fw) (w:da),(do eqGuard op t x y (.string a) (.string b);jA op t (.string a) (.string b):Sem dr).run P w=.ok (match d with| .str s=>.string s| .bool b=>.bool b|_=>undef) w) /\ ((∃n,d=.str n) \/ ∃b,d=.bool b):=by
 have afR:(a.toList==b.toList)=decide (a=b):=by rw[zS,zS,Cg];have⟨⟨x⟩⟩:=a;have⟨⟨y⟩⟩:=b;simp
 unfold Nu at h
 cases op<;>simp only at h
 case add=>have⟨Q,c5⟩:=k_ h;exact⟨_,c5,by intro x y w;simp[eqGuard,jA,Op.stringOp];omega,.inl ⟨_,Z⟩⟩
 case eql=>exact⟨_,h,TW,.inr ⟨_,Z⟩⟩
 case neq=>exact⟨_,h,TW,.inr ⟨_,Z⟩⟩
theorem IQ{o a b K}(h:BV o a b K):
  ∃r,K (.d (.bool r)) /\ (o=.eql/\r=(a==b) \/o=.neq/\r=!(a==b)):=by
 unfold BV at h;grind
variable {T:fM} (cT:jL P T)
theorem IR{M D}{x:I dp}{vs:d' dr}(l:vs.size=x.length)(cP:∀(i:V) (a v),x[i]?=U a->vs[i]?=U v->dZ M D a v)(o n)(h:o+n<=x.length):
  (vs.extract o (o+n)).size=((x.drop o).take n).length/\ ∀(i:V) (a) (v),((x.drop o).take n)[i]?=U a->(vs.extract o (o+n))[i]?=U v->dZ M D a v:=by
 grind
include cT in
theorem IS:∀ (n) (t) (x y) (K),oW T n t x y K->
  (T t).k.known=N/\ ∃ b,K b/\ ∀ (M) (D) (vs us),vs.size=x.length->us.size=y.length->(∀ (i:V) (a) (v),x[i]?=U a->vs[i]?=U v->dZ M D a v)->
   (∀ (i:V) (a) (v),y[i]?=U a->us[i]?=U v->dZ M D a v)->∀ (d) (w),n<=d->
   (oh (d+1) t (if (T t).k.agg then .agg vs else vs.getD 0 undef) (if (T t).k.agg then .agg us else us.getD 0 undef)).run P w=.ok b w
 |0,t,x,y,K,h=>by simp [oW] at h
 |n+1,t,x,y,K,h=>by
  simp only [oW] at h
  split at h
  ·rename_i k c_;refine ⟨by rw [c_];rfl,?_⟩;have o:=v4 cT c_
   split at h
   ·rename_i k1 a
    split at h
    ·rename_i eK b
     cases hb:d3 (kf k1) (kf eK) with
     |false=>simp [hb] at h
     |true=>
      simp only [hb,fF] at h;have:=Ft hb;subst this;refine ⟨_,h,fun M D vs us dv j cP l d w _=>?_⟩;have u:=kH (cP 0 _ (vs.getD 0 undef) Z (by simp [mJ,dv]));have z:=kH (l 0 _ (us.getD 0 undef) Z (by simp [mJ,j]));simp only [c_,n_.agg,rG,qF];rw [u,z,run_equalIn_int w d t k1 k a b o];rfl
    ·exact h.elim
   ·exact h.elim
  ·rename_i c_;refine ⟨by rw [c_];rfl,?_⟩;have o:=wC cT c_
   split at h
   ·rename_i a
    split at h
    ·rename_i b;refine ⟨_,h,fun M D vs us dv j cP l d w _=>?_⟩;have u:=sI (cP 0 _ (vs.getD 0 undef) Z (by simp [mJ,dv]));have z:=sI (l 0 _ (us.getD 0 undef) Z (by simp [mJ,j]));simp only [c_,n_.agg,rG,qF];rw [u,z,run_equalIn_string w d t a b o]
     congr 1
     rw [zS,zS,Cg];obtain ⟨⟨x⟩⟩:=a;obtain ⟨⟨y⟩⟩:=b;simp
    ·exact h.elim
   ·exact h.elim
  ·rename_i c_;refine ⟨by rw [c_];rfl,?_⟩;have o:=x0 cT c_
   split at h
   ·rename_i a
    split at h
    ·rename_i b;obtain ⟨p,h,O⟩:=u7 h;obtain ⟨q,h,H⟩:=u7 h;refine ⟨_,h,fun M D vs us dv j cP l d w _=>?_⟩;have u:=O M D _ (cP 0 _ (vs.getD 0 undef) Z (by simp [mJ,dv]));have z:=H M D _ (l 0 _ (us.getD 0 undef) Z (by simp [mJ,j]));simp only [c_,n_.agg,rG,qF];rw [u,z,Vt w d t p q o]
    ·exact h.elim
   ·exact h.elim
  ·rename_i iA c_;refine ⟨by rw [c_];rfl,?_⟩;obtain ⟨F,o,J,ag,R⟩:=Cc cT c_
   have S:P.stoodInHeld t=L:=by
    obtain ⟨_,_,_,_,_,_,_,_,_,_,_,h,_⟩:=(lW cT (t:=t) (by rw [c_];rfl)).desc;exact h
   have C:P.fieldsOf t=F:=by simp [Program.fieldsOf,o]
   have W:∀ (G:I Field) (K:di->Prop),oW.fields T (fun t x y K=>oW T n t x y K) (G.map fun f=>(f.offset,f.type)) x y K->(∀ f∈G,f.name≠ "_")->
     ∃ b,K b/\ ∀ (M:eI) (D:gD) (vs us:d' dr),vs.size=x.length->us.size=y.length->(∀ (i:V) (a:dp) (v:dr),x[i]?=U a->vs[i]?=U v->dZ M D a v)->
      (∀ (i:V) (a:dp) (v:dr),y[i]?=U a->us[i]?=U v->dZ M D a v)->∀ (d:V) (w:da),n<=d->(Vu (d+1) vs us G).run P w=.ok b w:=by
    intro G
    induction G with
    |nil=>
     intro K h _;exact ⟨N,h,fun M D vs us _ _ _ _ d w _=>by simp [Vu]⟩
    |cons f G X=>
     intro K h c0;simp only [kS,oW.fields] at h
     cases hb:(hn (f.offset+(T f.type).size) x.length&&hn (f.offset+(T f.type).size) y.length) with
     |false=>simp [hb] at h
     |true=>
      simp only [hb,fF] at h;simp only [lV,Nat.ble_eq] at hb;obtain ⟨A,b,h,Y⟩:=IS n _ _ _ _ h;obtain ⟨c,h,aa⟩:=X _ h (fun g ab=>c0 g (lX _ ab));refine ⟨_,h,fun M D vs us dv j cP l d w B=>?_⟩;obtain ⟨s1,d1⟩:=IR dv cP f.offset (T f.type).size hb.1;obtain ⟨s2,ac⟩:=IR j l f.offset (T f.type).size hb.2;have r:=Y M D _ _ s1 s2 d1 ac d w B;have ad:=aa M D vs us dv j cP l d w B
      have E:∀ (s:d' dr) (m:V),s.size=m->f.offset+(T f.type).size<=m->((T f.type).k.agg=L->(T f.type).size=1)->
        (part f.type s f.offset).run P w=.ok (if (T f.type).k.agg then .agg (s.extract f.offset (f.offset+(T f.type).size)) else (s.extract f.offset (f.offset+(T f.type).size)).getD 0 undef) w:=by
       intro s m ah ai Q;simp only [part,hc,Cd cT w A,hj]
       cases ae:(T f.type).k.agg with
       |true=>simp [iE cT w A]
       |false=>
        have:=Q ae;simp only [rG,qF]
        have af:f.offset<s.size:=by omega
        simp [zt af,this,mJ,show min (f.offset+1) s.size-f.offset=1 by omega]
      have one:(T f.type).k.agg=L->(T f.type).size=1:=x1 cT A;simp only [Vu,ne_eq,c0 f (mK ..),not_false_eq_true,nz,hc,E vs _ dv hb.1 one,E us _ j hb.2 one,hj,r]
      cases b with
      |false=>simp
      |true=>simp [ad]
   obtain ⟨b,h,hb⟩:=W F.toList K (by rw [J];exact h) R;refine ⟨b,h,fun M D vs us dv j cP l d w B=>?_⟩;obtain ⟨d,rfl⟩:∃ e,d=e+1:=⟨d-1,by omega⟩;have:=hb M D vs us dv j cP l d w (by omega);simp only [c_,n_.agg,nz];rw [run_equalIn_struct w (d+1) t vs us (by rw [C];exact o) S,C];exact this
  ·exact h.elim
end
theorem mL(b o i):(⟨b,o,cL⟩:g3).add i=⟨b,o+i,cL⟩:=by unfold Addr.add;simp_all
theorem sJ{w:da}{b cs T cN}(h:w.heap[b]?=U (.cells cs T cN))(o):w.cell? ⟨b,o,cL⟩=cs[o]?:=by simp[ke,h]
theorem x2{M D c v}(h:dZ M D (.agg c) v):∃vs,v=.agg vs/\vs.size=c.length/\ ∀(i:V) (x) (u),c[i]?=U x->vs[i]?=U u->dZ M D x u:=by
 cases h with|agg _ vs dv cP=>grind
theorem ahG{M D c v}(h:dZ M D (.dS c) v):∃vs,v=.tuple vs/\vs.size=c.length/\ ∀(i:V) (x) (u),c[i]?=U x->vs[i]?=U u->dZ M D x u:=by
 cases h with|dS _ vs dv cP=>grind
theorem Fy{c K}:qJ c K->K c:=by
 induction c generalizing K with
 |nil=>exact id|cons x r i=>intro h;simp[qJ]at h;have:=(tG h).1;grind
def ahH(M:eI)(D:gD)(c:I dp)(f:V->dB dr):Prop:=∀(i:V) (x:dp),c[i]?=U x->∃v,f i=U v/\dZ M D x v
theorem Ch{a s c j K}(h:xQ a s c j K)(Q:a=L->s=1):
  ∃d,K d/\j+s<=c.length/\ ∀M D f,ahH M D c f->
   ∃g,(∀i,i<s->f (j+i)=U (g i)) /\dZ M D d (if a then .agg ((iz s).map g).toArray else g 0):=by
 unfold xQ at h
 cases a with
 |true=>
  simp only[fF]at h
  cases e:hn (j+s) c.length with
  |false=>simp_all
  |true=>
   simp[e,fF]at h;have l:=tt e;refine⟨_,Fy h,l,λM D f b=>?_⟩
   have n:∀i,i<s->∃v,f (j+i)=U v/\dZ M D (c[j+i]?.getD .dead) v:=λi cK=>by
    have t:j+i<c.length:=R;have⟨v,Q,m⟩:=b (j+i) c[j+i] (fq t);simp_all
   refine⟨λi=>(f (j+i)).getD undef,λi cK=>?_,?_⟩
   .grind
   .refine .agg _ _ hy λi x v k cY=>?_;grind
 |false=>
  simp at h;unfold xP at h;split at h
  .rename_i x k;refine⟨x,(tG h).1,?_,λM D f b=>?_⟩
   .grind
   .have⟨v,o,uI⟩:=b j x k;refine⟨λ_=>v,λi cK=>?_,Ua⟩;simp_all
  simp_all
theorem Ci{a s c j K}(h:In a s c j K)(Q:a=L->s=1):
  ∃e,K e/\j+s<=c.length/\ ∀(M) (D) (f:V->dB dr),(∀i x,c[i]?=U x->∃v,f i=U v/\e4 M x v)->
   ∃g,(∀i,i<s->f (j+i)=U (g i)) /\dZ M D e (if a then .agg ((iz s).map g).toArray else g 0):=by
 have n:xQ a s (c.map .d) j K:=by
  unfold In at h;unfold xQ
  cases a with
  |true=>simp_all
  |false=>
   simp at h⊢;unfold getD at h;simp[xP];split at h
   .rename_i x b;simpa[b,na]using h
   simp_all
 have⟨e,k,dv,cP⟩:=Ch n Q;refine⟨e,k,v5,λM D f o=>cP M D f λi x b=>?_⟩;rw[ir]at b
 cases l:c[i]? with
 |none=>simp_all
 |some d=>simp[l,jB,fC]at b;subst b;have⟨v,p,m⟩:=o i d l;exact⟨v,p,.d _ _ m⟩
section
variable {P:en} {T:fM} (cT:jL P T)
include cT
theorem Cj{t}(k:(T t).k.known=N)(w b o g)(h:∀i,i<(T t).size->w.cell? ⟨b,o+i,cL⟩=U (g i)):
  (loadVar t ⟨b,o,cL⟩).run P w=.ok (if(T t).k.agg then .agg ((iz (T t).size).map g).toArray else g 0) w:=by
 simp[loadVar,hc,Cd cT w k,hj]
 cases a:(T t).k.agg with|true=>simp[nz,hc,iE cT w k,hj];rw[run_loadCells w ⟨b,o,cL⟩ (T t).size g (λj c=>by rw[mL];grind)];rfl|false=>have Q:=x1 cT k a;simp_all
theorem ahI{t x O K}(h:wu T t x O K):
  ∃fj,K fj/\ ∀own M D w v,fp M w->er own M D O w->dZ M D x v->∃r,(sG t v).run P w=.ok r w/\dZ M D fj r:=by
 unfold wu at h
 have c_:(T t).k.known=N:=by
  cases n:(T t).k.known with|true=>rfl|false=>simp_all
 simp[c_,fF]at h;have Q:=x1 cT c_;unfold E_ at h;split at h
 .rename_i b i j;split at h
  .rename_i c cN hb;have⟨q,c5⟩:=k_ h;subst q;have⟨fj,k,dv,cP⟩:=Ch c5 Q;refine⟨fj,k,λown M D w v dt c9 cY=>?_⟩
   cases cY with
   |ptr _ _ _ cM a=>
    have⟨_,cs,eV,o,s,p,u,y,_⟩:=c9.at_ b _ cM hb a;have⟨g,n,m⟩:=cP M D (λi=>cs[i]?) (λi x f=>y.den i x f);refine⟨_,?_,m⟩;simp
    exact Cj cT c_ w _ _ g λi cK=>by rw[sJ o];simp_all
   |i6 _ _ _ _ a=>rw[(c9.fE b).2 a]at hb;cases hb
  .rename_i l cR cN hb;have⟨e,he,h⟩:=Fw h;have⟨fj,k,dv,cP⟩:=Ci h Q;refine⟨fj,k,λown M D w v dt c9 cY=>?_⟩
   cases cY with
   |ptr _ _ _ cM a=>
    have⟨_,cs,eV,o,s,p,u,B,z,_⟩:=c9.at_ b _ cM hb a;have⟨g,n,m⟩:=cP M D (λj=>cs[i*cR+j]?) (λj x f=>z.den i j e x he f);refine⟨_,?_,m⟩;simp[sG,lU,hc,hU,hj];subst p
    exact Cj cT c_ w _ _ g λi cK=>by rw[sJ o];grind
   |i6 _ _ _ _ a=>rw[(c9.fE b).2 a]at hb;cases hb
  simp_all
 .rename_i e j;have⟨fj,k,dv,cP⟩:=Ci h Q;refine⟨fj,k,λown M D w v dt c9 cY=>?_⟩
  cases cY with
  |d _ _ cY=>
   cases cY with
   |ix _ _ b off val d6 A=>
    have⟨g,n,m⟩:=cP M D (λi=>w.cell? ⟨b,off+i,cL⟩) (λi x f=>⟨val i,dt _ _ _ (d6 i x f),A i x f⟩);refine⟨_,?_,m⟩;simp[sG,lU,hc,hU,hj]
    exact Cj cT c_ w _ _ g λi cK=>by grind
 simp_all
theorem ahJ{t op x y K}(h:E9 T t op x y K):
  ∃fj,K fj/\ ∀M D v u,dZ M D x v->dZ M D y u->∀X Y w,∃r,(do eqGuard op t X Y v u;jA op t v u:Sem dr).run P w=.ok r w/\dZ M D fj r:=by
 have l:∀(a b:di) (r:di),(T t).k=.bool->(op=.eql/\r=(a==b) \/op=.neq/\r=!(a==b))->∀(X Y:fw) (w:da),(do eqGuard op t X Y (.bool a) (.bool b);jA op t (.bool a) (.bool b):Sem dr).run P w=.ok (.bool r) w:=by
  intro a b r c_ dQ X Y w;have e:=x0 cT c_;rcases dQ with⟨rfl,rfl⟩|⟨rfl,rfl⟩
  .simp[eqGuard,jA,Fz,Vv,Vt w 9999 t a b e]
  .simp[eqGuard,jA,Fz,Vv,Vt w 9999 t a b e]
 unfold E9 at h;split at h
 .rename_i k a;split at h
  .rename_i fo b
   cases c':U6 op with
   |true=>simp[c',fF]at h;have⟨n,f,dQ⟩:=ahD (P:=P) (fo:=fo) h t;refine⟨_,f,λM D v u cY e X Y w=>?_⟩;rw[kH cY,kH e];exact⟨_,dQ X Y w,.d _ _ (.int _ _)⟩
   |false=>
    simp only[c',jw]at h
    cases o:d3 (kf k) (kf fo) with
    |false=>simp_all
    |true=>
     simp[o,fF]at h;have:=Ft o;subst this;have⟨d,f,dQ,cP⟩:=ahC (P:=P) h t;refine⟨_,f,λM D v u cY e X Y w=>?_⟩;rw[kH cY,kH e];refine⟨_,dQ X Y w,?_⟩;rcases cP with⟨n,rfl⟩|⟨b,rfl⟩
     .exact .d _ _ (.int _ _)
     .exact .d _ _ (.bool _)
  simp_all
 .rename_i a;split at h
  .rename_i b;have⟨d,f,dQ,cP⟩:=ahE (P:=P) h t;refine⟨_,f,λM D v u cY e X Y w=>?_⟩;rw[sI cY,sI e];refine⟨_,dQ X Y w,?_⟩;rcases cP with⟨n,rfl⟩|⟨b,rfl⟩
   .exact .d _ _ (.str _)
   .exact .d _ _ (.bool _)
  simp_all
 .rename_i a;split at h
  .rename_i i;have⟨b,h,j⟩:=u7 h;have⟨r,f,dQ⟩:=IQ h;refine⟨_,f,λM D v u cY e X Y w=>?_⟩;rw[og cY,j M D u e];exact⟨_,l a b r i dQ X Y w,.d _ _ (.bool _)⟩
  simp_all
 .split at h
  .rename_i i;have⟨b,h,j⟩:=u7 h;have⟨r,f,dQ⟩:=IQ h;refine⟨_,f,λM D v u cY e X Y w=>?_⟩
   cases cY with
   |eN=>rw[j M D u e];exact⟨_,l N b r i dQ X Y w,.d _ _ (.bool _)⟩
  simp_all
 .split at h
  .rename_i i;have⟨b,h,j⟩:=u7 h;have⟨r,f,dQ⟩:=IQ h;refine⟨_,f,λM D v u cY e X Y w=>?_⟩
   cases cY with
   |fd=>rw[j M D u e];exact⟨_,l L b r i dQ X Y w,.d _ _ (.bool _)⟩
  simp_all
 .rename_i c;split at h
  .rename_i oU
   have fin:∀(m:di->Prop),(bif (T t).k.agg then oW T 9999 t c oU m else dA)->∃b,m b/\ ∀(M:eI) (D:gD) (v u:dr),dZ M D (.agg c) v->dZ M D (.agg oU) u->∀(X Y:fw) (w:da),
     ((eqGuard op t X Y v u).run P w=.ok () w/\ ∃vs us,v=.agg vs/\u=.agg us/\ (oh 10000 t (.agg vs) (.agg us)).run P w=.ok b w):=by
    intro m h
    have p:(T t).k.agg=N:=by
     cases g:(T t).k.agg with
     |true=>rfl
     |false=>simp_all
    simp[p,fF]at h;have⟨c_,b,f,cP⟩:=IS cT _ _ _ _ _ h;refine⟨b,f,λM D v u cY e X Y w=>?_⟩;obtain⟨vs,rfl,s1,d1⟩:=x2 cY;obtain⟨us,rfl,s2,q⟩:=x2 e;have:=cP M D vs us s1 s2 d1 q 9999 w (fi _);simp[p,nz]at this;have⟨_,_,_,_,_,_,_,_,_,_,_,_,g,_⟩:=(lW cT c_).desc;exact⟨run_eqGuard_agg w op t X Y vs us g,vs,us,Z,Z,this⟩
   split at h
   .have⟨b,f,cP⟩:=fin _ h;refine⟨_,f,λM D v u cY e X Y w=>?_⟩;obtain⟨g,vs,us,rfl,rfl,he⟩:=cP M D v u cY e X Y w;exact⟨_,by rw[hc,g,hj,run_eql_struct,he];rfl,.d _ _ (.bool _)⟩
   .have⟨b,f,cP⟩:=fin _ h;refine⟨_,f,λM D v u cY e X Y w=>?_⟩;obtain⟨g,vs,us,rfl,rfl,he⟩:=cP M D v u cY e X Y w;exact⟨_,by rw[hc,g,hj,run_neq_struct,he];rfl,.d _ _ (.bool _)⟩
   simp_all
  simp_all
 simp_all
end
section
variable {P:en} {T:fM} (cT:jL P T)
include cT
theorem Od{s f K}(h:xR T s f K):
  ∃(F:d' Field) (l:Field),P.underlying s=U (.struct F) /\F[f]?=U l/\ (T l.type).k.known=N/\K l.offset l.type:=by
 unfold xR at h;split at h
 .rename_i a k;have⟨F,u,b,n,_⟩:=Cc cT k;grind
 simp_all
theorem ahK{b o f}(z:(T f.type).k.known=N)(w):(Vw ⟨b,o,cL⟩ f).run P w=.ok ⟨b,o+f.offset,cL⟩ w:=by have:=p4 cT z;simp only[Vw,hc,iE cT w z,hj];rw[cS R,hU,mL]
theorem Vx{s f F l}(u:P.underlying s=U (.struct F))(h:F[f]?=U l)(z:(T l.type).k.known=N)(b o w):
  (FA s (.pointer (U ⟨b,o,cL⟩)) f).run P w=.ok (.pointer (U ⟨b,o+l.offset,cL⟩)) w:=by
 simp[FA,fx u,h,lU,ahK cT z]
theorem ahL{t x i O K}(h:Nv T t x i O K):
 ∃fj,K fj/\ ∀own M D w v u,er own M D O w->dZ M D x v->dZ M D i u->∃r,(qQ t v u).run P w=.ok r w/\dZ M D fj r:=by
 unfold Nv at h;split at h
 .rename_i I n;split at h
  .rename_i iB c_;have⟨g,o⟩:=kR cT c_;split at h
   .rename_i l;have⟨cW,Q,h⟩:=zR h;have⟨e,he,h⟩:=Fw h
    cases c':d3 e.length (T iB).size with
    |false=>simp_all
    |true=>
     simp[c',fF]at h;have p:=gE c';refine⟨_,h,λown M D w v u c9 cY cK=>?_⟩;rw[kH cK]
     cases cY with
     |d _ _ cY=>
      cases cY with
      |emp a c=>simp_all
      |dm _ b off cap cR val dv c' d6 cP=>
       have z:=c' _ _ he;refine⟨.pointer (U ⟨b,off+n.toNat*cR+0,cL⟩),?_,.d _ _ (.ix _ _ _ _ (val n.toNat) (λj d dU=>?_) λj d dU=>?_)⟩
       .simp[qQ,asIntOf,fx g,cW,Q,iE cT w o,mL,<-p,z]
       .grind
       grind
   .rename_i b;split at h
    .rename_i l cR cN hb
     cases c':d3 cR (T iB).size with
     |false=>simp_all
     |true=>
      simp[c',fF]at h;have p:=gE c';have⟨cW,Q,h⟩:=zR h;refine⟨_,h,λown M D w v u c9 cY cK=>?_⟩;rw[kH cK]
      cases cY with
      |own _ cM cap f c0 dj=>have⟨_,cs,eV,A,C,q,s,E,F,_⟩:=c9.at_ b _ cM hb f;refine⟨.pointer (U ⟨cM.blk,n.toNat*cM.cR+0,cL⟩),?_,.ptr b n.toNat 0 cM f⟩;simp[qQ,asIntOf,fx g,cW,<-s,Q,iE cT w o,mL,<-q,<-p]
      |ib _ a f=>have⟨J,S,V⟩:=c9.iX b f;grind
      |ju _ _ f=>rw[(c9.fE b).2 f]at hb;cases hb
    simp_all
   .rename_i b dz m e3;split at h
    .rename_i l cR cN hb
     cases c':d3 cR (T iB).size with
     |false=>simp_all
     |true=>
      simp[c',fF]at h;have p:=gE c';have⟨cW,Q,h⟩:=zR h;refine⟨_,h,λown M D w v u c9 cY cK=>?_⟩;rw[kH cK]
      cases cY with
      |win _ _ _ _ cM k base f c0 dj c_ G=>have⟨_,cs,eV,A,C,q,s,E,F,_⟩:=c9.at_ b _ cM hb f;have H:=G.resolve_right λh=>R;subst H;refine⟨.pointer (U ⟨cM.blk,(dz+n.toNat)*cM.cR+0,cL⟩),?_,.ptr b (dz+n.toNat) 0 cM f⟩;simp[qQ,asIntOf,fx g,cW,Q,iE cT w o,mL,<-q,<-p,qR]
      |jv _ _ _ _ _ f=>rw[(c9.fE b).2 f]at hb;cases hb
    simp_all
   simp_all
  .rename_i m e c_;have⟨g,o⟩:=Cb cT c_;split at h
   .rename_i b y j;split at h
    .rename_i B hb;have⟨cW,Q,h⟩:=zR h;refine⟨_,h,λown M D w v u c9 cY cK=>?_⟩;rw[kH cK]
     cases cY with
     |ptr _ _ _ cM f=>refine⟨.pointer (U ⟨cM.blk,y*cM.cR+(j+n.toNat*(T e).size),cL⟩),?_,.ptr b y _ cM f⟩;simp[qQ,asIntOf,fx g,cW,Q,iE cT w o,mL,lU,FB]
     |i6 _ _ _ _ f=>rw[(c9.fE b).2 f]at hb;cases hb
    simp_all
   .rename_i c j;have⟨cW,Q,h⟩:=zR h;refine⟨_,h,λown M D w v u c9 cY cK=>?_⟩;rw[kH cK]
    cases cY with
    |d _ _ cY=>
     cases cY with
     |ix _ _ b off val d6 cP=>refine⟨.pointer (U ⟨b,off+(j+n.toNat*(T e).size),cL⟩),?_,.d _ _ (.ix _ _ _ _ val d6 cP)⟩;simp[qQ,asIntOf,fx g,cW,Q,iE cT w o,mL,lU,FB]
   simp_all
  simp_all
 simp_all
theorem ahM{t x i K}(h:Nw T t x i K):
  ∃b,K b/\ ∀M D w v u,dZ M D x v->dZ M D i u->∃r,(Fr t v u).run P w=.ok r w/\dZ M D b r:=by
 unfold Nw at h;split at h
 .rename_i C n;split at h
  .rename_i s;split at h
   .rename_i j;have z:=wC cT j;have⟨cW,Q,h⟩:=zR h;refine⟨_,h,λM D w v u cY cK=>?_⟩;rw[kH cK,sI cY];have pn:n.toNat<s.size:=R;refine⟨.int .u8 ((s.data.getD n.toNat 0).toNat),?_,.d _ _ (.int _ _)⟩
    have e:s[n.toNat]?=U (s.data.getD n.toNat 0):=by rw[getElem?_pos s n.toNat pn];simp only[mJ,show n.toNat<s.data.size from pn,FC];rfl
    simp[Fr,asIntOf,fx z,cW,e]
   simp_all
  .rename_i c;split at h
   .rename_i m e j;have⟨l,a⟩:=Cb cT j;have⟨cW,Q,h⟩:=zR h;have⟨b,k,B,cP⟩:=Ch h (x1 cT a);refine⟨b,k,λM D w v u cY cK=>?_⟩;rw[kH cK];obtain⟨vs,rfl,y,f⟩:=x2 cY
    have⟨g,q,d⟩:=cP M D (λi=>vs[i]?) (λi x o=>by
     have pn:i<vs.size:=by rw[y];exact(f_.1 o).1
     exact⟨vs[i],uE,f i x _ o uE⟩)
    refine⟨_,?_,d⟩;simp[Fr,asIntOf,hc,hU,hj,fx l,cW,Q,and_self,nz,iE cT w a,part,Cd cT w a]
    cases A:(T e).k.agg with
    |true=>
     simp[nz,hc,iE cT w a,hj,hU]
     congr 2
     grind
    |false=>have:=q 0 (by have:=p4 cT a;omega);simp_all
   simp_all
  simp_all
 simp_all
omit cT in
theorem rH{x:J}{y:V}{c k}(w)(cW:0<=x)(Q:x<=y):(B8 (.int k x) y c).run P w=.ok x.toNat w:=by simp[B8,asIntOf,cW,Q]
omit cT in
theorem IT{Oe}{len cap:V}{dz cK:dB J}{k1 eK}(w)(cW:0<=dz.getD 0)(Q:dz.getD 0<=cK.getD len)(a:cK.getD len<=len)(c:len<=cap):
  (p2 Oe len cap (dz.map (.int k1)) (cK.map (.int eK)) cL).run P w=.ok ((dz.getD 0).toNat,(cK.getD len).toNat,cap) w:=by
 cases dz with
 |none=>
  cases cK with|none=>rfl|some h=>simp at cW Q a;simp[p2,rH (P:=P) w (x:=h) (y:=cap) (k:=eK) Q R]
 |some l=>
  cases cK with|none=>simp at cW Q a;simp[p2,rH (P:=P) w (x:=l) (y:=len) (k:=k1) cW R]|some h=>simp at cW Q a;simp[p2,rH (P:=P) w (x:=h) (y:=cap) (k:=eK) R R,rH (P:=P) w (x:=l) (y:=h.toNat) (k:=k1) cW R]
end
def d4.cN:d4->di
 | .row _ _ cN=>cN
 | .box _ cN=>cN
def lT.mono{M a}(h:gS M a){cs l cR}(r:lT M cs l cR):lT a cs l cR:=
 ⟨r.len,λi j e d Q c=>let ⟨v,f,b⟩:=r.den i j e d Q c;⟨v,f,b.mono h⟩⟩
def tw.mono{M a}(h:gS M a){D cs c}(r:tw M D cs c):tw a D cs c:=
 ⟨r.size,λj x Q=>let ⟨v,b,e⟩:=r.den j x Q;⟨v,b,e.mono h⟩⟩
def ahN(b x):ev b x=x\/ev b x=.dead:=by
 cases x with|own d7=>simp[ev];grind|ptr d7 i j=>simp[ev];grind|win d7 dz n c=>simp[ev];grind|agg c=>simp[ev];grind|dS c=>simp[ev];grind|fn f c=>simp[ev];grind|d x=>exact .inl Z|eN=>exact .inl Z|fd=>exact .inl Z|nil=>exact .inl Z|dead=>exact .inl Z
def FD(b c)(j:V):(ht.cells b c)[j]?=(c[j]?).map (ev b):=by
 induction c generalizing j with
 |nil=>rfl
 |cons x r i=>
  cases j with|zero=>rfl|succ j=>simpa[ht.cells]using i j
def FE(b c):(ht.cells b c).length=c.length:=by
 induction c with
 |nil=>rfl|cons x r i=>simp[ht.cells,i]
def tw.kill{M D ei b}(h:∀a,ha b a=L->ei a=D a){cs c}(r:tw M D cs c):tw M ei cs (ht.cells b c):=by
 refine⟨by rw[FE];exact r.size,λj x Q=>?_⟩;rw[FD]at Q
 cases d:c[j]? with|none=>simp_all|some y=>simp[d,jB,fC]at Q;subst Q;have⟨v,f,e⟩:=r.den j y d;exact⟨v,f,(e.ev b).uK h (Nq b y)⟩
def jJ.k'{M a D w w' B cM}(h:jJ M D w B cM)(c':gS M a)(hw:w'.heap[cM.blk]?=w.heap[cM.blk]?)(ee:B.cN=L->∀o,a cM.blk o=cL):jJ a D w' B cM:=by
 have⟨cs,T,Q,c5,i⟩:=h;refine⟨cs,T,hw.trans Q,c5,?_⟩
 cases B with|row l cR cN=>have⟨b,fh,d,j,e⟩:=i;exact⟨b,fh,d,j.mono c',λf o v g cY=>c' _ _ _ (e.1 f o v g cY),ee⟩|box c cN=>have⟨b,fh,d,e⟩:=i;exact⟨b,fh,d.mono c',λf o v g cY=>c' _ _ _ (e.1 f o v g cY),ee⟩
def jJ.kill{M D ei w B cM b}(d:∀d7,ha b d7=L->ei d7=D d7)(h:jJ M D w B cM):jJ M ei w (ht b B) cM:=by
 have⟨cs,T,Q,c5,a⟩:=h;refine⟨cs,T,Q,c5,?_⟩
 cases B with|row l cR cN=>exact a|box c cN=>have⟨f,fh,e,g⟩:=a;exact⟨by rwa[FE],by rwa[FE],e.kill d,by rwa[FE]⟩
def gP{α}(f t)(v:α):eS f t v t=v:=by simp[eS]
def gq{α}(f){t s}(v:α)(h:s≠t):eS f t v s=f s:=by
 have:d3 s t=L:=by
  cases b:d3 s t with|false=>rfl|true=>simp_all
 simp[eS,this]
def Of(k O b):hT k O b=cL↔O b=cL:=by
 cases k with|none=>rfl|some k=>simp[hT];grind
def FF{k O b B}(h:hT (U k) O b=U B):∃a,O b=U a/\B=ht k a:=by simp[hT]at h;grind
def er.new{own M k D O w w'}(h:er own M D O w)(b B cM)(x:gS M k)
  (C:own cM.blk)(A:jJ k (eS D b (U (U cM))) w' B cM)
  (t:∀a ek,a≠b->D a=U (U ek)->ek.blk≠cM.blk/\w'.heap[ek.blk]?=w.heap[ek.blk]? /\ ∀gG,O a=U gG->gG.cN=L->∀o,k ek.blk o=cL):
  er own k (eS D b (U (U cM))) (eS (hT (U b) O) b (U B)) w':=by
 have n:∀a,a≠b->eS D b (U (U cM)) a=D a:=λa c=>gq _ _ c;refine⟨λa=>?_,λa f=>?_,λa gG ek g d=>?_,λp q E F Q l v=>?_⟩
 .by_cases c:a=b
  .subst c;simp[gP]
  .rw[gq _ _ c,gq _ _ c,Of];exact h.fE a
 .by_cases c:a=b
  .subst c;rw[gP]at f;cases f
  .rw[gq _ _ c]at f;have⟨cR,cN,e⟩:=h.iX a f;exact⟨cR,cN,by rw[gq _ _ c];simp[hT,e,ht]⟩
 .by_cases c:a=b
  .subst c;rw[gP]at g d;simp_all
  .rw[gq _ _ c]at g d;obtain⟨m,r,rfl⟩:=FF g;have⟨y,z⟩:=h.at_ a m ek r d;have⟨_,s,u⟩:=t a ek c d;exact⟨y,jJ.kill (λa c=>n a (E7 c)) (z.k' x s (u m r))⟩
 .by_cases i:p=b
  .subst i;rw[gP]at Q;grind
  .rw[gq _ _ i]at Q
   by_cases j:q=b
   .subst j;rw[gP]at l;grind
   .rw[gq _ _ j]at l;exact h.inj p q E F Q l v
def er.Ck{own M D O w}(h:er own M D O w)(b cR cN):
  er own M (eS D b (U cL)) (eS (hT (U b) O) b (U (.row [] cR cN))) w:=by
 have n:∀a,a≠b->eS D b (U cL) a=D a:=λa c=>gq _ _ c;refine⟨λa=>?_,λa d=>?_,λa gG ek B cM=>?_,λg i p q Q f l=>?_⟩
 .by_cases c:a=b
  .subst c;simp[gP]
  .rw[gq _ _ c,gq _ _ c,Of];exact h.fE a
 .by_cases c:a=b
  .subst c;exact⟨cR,cN,gP _ _ _⟩
  .rw[gq _ _ c]at d;have⟨cR,cN,e⟩:=h.iX a d;exact⟨cR,cN,by rw[gq _ _ c];simp[hT,e,ht]⟩
 .by_cases c:a=b
  .subst c;rw[gP]at cM;cases cM
  .rw[gq _ _ c]at B cM;obtain⟨j,k,rfl⟩:=FF B;have⟨o,m⟩:=h.at_ a j ek k cM;exact⟨o,jJ.kill (λa c=>n a (E7 c)) m⟩
 .have r:g≠b:=by rintro rfl;rw[gP]at Q;cases Q
  have fh:i≠b:=by rintro rfl;rw[gP]at f;cases f
  rw[gq _ _ r]at Q;rw[gq _ _ fh]at f;exact h.inj g i p q Q f l
def er.set{own M i D O w w'}(h:er own M D O w)(b B)(j:O b≠cL)(s:gS M i)
  (cY:D b=U cL->∃cR cN,B=.row [] cR cN)
  (q:∀cM,D b=U (U cM)->jJ i D w' B cM)
  (t:∀a ek,a≠b->D a=U (U ek)->w'.heap[ek.blk]?=w.heap[ek.blk]? /\ ∀gG,O a=U gG->gG.cN=L->∀o,i ek.blk o=cL):
  er own i D (eS O b (U B)) w':=by
 refine⟨λa=>?_,λa g=>?_,λa gG ek c d=>?_,h.inj⟩
 .by_cases f:a=b
  .subst f;rw[gP];exact⟨sq,λe=>dN ((h.fE a).2 e) j⟩
  .rw[gq _ _ f];exact h.fE a
 .by_cases f:a=b
  .subst f;obtain⟨cR,cN,rfl⟩:=cY g;exact⟨cR,cN,gP _ _ _⟩
  .rw[gq _ _ f];exact h.iX a g
 .by_cases f:a=b
  .subst f;rw[gP]at c;cases c
   refine⟨?_,q ek d⟩
   cases l:O a with|none=>simp_all|some k=>exact(h.at_ a k ek l d).1
  .rw[gq _ _ f]at c;have⟨r,u⟩:=h.at_ a gG ek c d;have⟨m,n⟩:=t a ek f d;exact⟨r,u.k' s m (n gG c)⟩
def er.k'{own M a D O w w'}(h:er own M D O w)(s:gS M a)
  (t:∀b ek,D b=U (U ek)->w'.heap[ek.blk]?=w.heap[ek.blk]? /\ ∀gG,O b=U gG->gG.cN=L->∀o,a ek.blk o=cL):er own a D O w':=
 ⟨h.fE,h.iX,λb gG ek B cM=>⟨(h.at_ b gG ek B cM).1,(h.at_ b gG ek B cM).2.k' s (t b ek cM).1 ((t b ek cM).2 gG B)⟩,h.inj⟩
def er.closed{own M D O w}(h:er own M D O w){b cM}(d:D b=U (U cM)):∀B,O b=U B->B.cN=L->∀o,M cM.blk o=cL:=by
 intro B e ee;have⟨_,cs,T,_,_,a⟩:=h.at_ b B cM e d
 cases B with|row l cR cN=>exact a.2.2.2.2.2 ee|box c cN=>exact a.2.2.2.2 ee
def er.lt{own M D O w}(h:er own M D O w){b cM}(c:D b=U (U cM)):cM.blk<w.heap.size:=by
 cases a:O b with|none=>rw[(h.fE b).1 a]at c;cases c|some B=>have⟨_,cs,T,Q,_⟩:=h.at_ b B cM a c;grind
def wE(M:eI)(blk n:V)(cs:d' dr):eI:=λb o=>if b=blk then(if o<n then cs[o]? else M b o) else M b o
def freeze{own M D O w}(dt:fp M w)(h:er own M D O w){b B gG}(hb:O b=U B)
 (t:(∃l cR cN,B=.row l cR cN/\gG=.row l cR N) \/(∃c cN,B=.box c cN/\gG=.box c N)):
 ∃i,gS M i/\fp i w/\jx own M i/\er own i D (eS O b (U gG)) w:=by
 have j:O b≠cL:=MP
 cases d:D b with
 |none=>exact dN ((h.fE b).2 d) j
 |some y=>
  cases y with
  |none=>refine⟨M,.refl M,dt,.refl _ _,h.set b gG j (.refl M) (λ_=>?_) (λcM K=>by simp_all) (λd7 ek _ a=>⟨Z,h.closed a⟩)⟩;have⟨cR,cN,e⟩:=h.iX b d;grind
  |some cM=>
   have⟨P,cs,eV,u,z,x⟩:=h.at_ b B cM hb d
   cases m:B.cN with
   |true=>
    have:gG=B:=by rcases t with⟨l,cR,cN,f,g⟩|⟨c,cN,f,g⟩<;>subst f<;>simp[d4.cN]at m<;>subst m<;>exact g
    subst this;refine⟨M,.refl M,dt,.refl _ _,h.set b gG j (.refl M) (λe=>by simp_all) (λek a=>(h.at_ b gG ek hb a).2) (λd7 ek _ a=>⟨Z,h.closed a⟩)⟩
   |false=>
    have Q:=h.closed d B hb m
    let n:=match B with| .row l cR _=>l.length*cR| .box c _=>c.length
    have c0:n<=cs.size:=by
     cases B with
     |row l cR cN=>grind
     |box c cN=>grind
    have k:gS M (wE M cM.blk n cs):=by
     intro d7 o v cY;unfold wE
     by_cases p:d7=cM.blk
     .simp_all
     .simp_all
    have A:fp (wE M cM.blk n cs) w:=by
     intro d7 o v cY;unfold wE at cY
     by_cases p:d7=cM.blk
     .subst p;rw[if_pos Z]at cY;split at cY
      .rwa[sJ u]
      simp_all
     .rw[cS p]at cY;exact dt _ _ _ cY
    refine⟨wE M cM.blk n cs,k,A,?_,h.set b gG j k (λe=>by simp_all) (λek a=>?_) (λd7 ek C a=>⟨Z,λE F G o=>?_⟩)⟩
    .intro d7 o v cY;unfold wE at cY;grind
    .rw[d]at a;cases a
     refine⟨cs,eV,u,z,?_⟩;rcases t with⟨l,cR,cN,f,g⟩|⟨c,cN,f,g⟩
     .subst f g;have⟨q,fh,r,H,I⟩:=x;exact⟨q,fh,r,H.mono k,λ_ o v s cY=>by simp[wE,n,if_pos,s];exact cY,λe=>ss⟩
     .subst f g;have⟨q,fh,r,I⟩:=x;exact⟨q,fh,r.mono k,λ_ o v s cY=>by simp[wE,n,if_pos,s];exact cY,λe=>ss⟩
    .have J:=λe=>C (h.inj d7 b ek cM a d e);simp[wE,cS J];exact h.closed a E F G o
def o1(O a:V->dB d4):Prop:=∀b,a b=O b\/ ∃l cR cN,O b=U (.row l cR cN) /\a b=U (.row l cR N)
theorem o1.refl(O):o1 O O:=λ_=>.inl Z
theorem o1.step{ho O}(h:o1 ho O){b l cR cN}(c:ho b=U (.row l cR cN)):o1 ho (eS O b (U (.row l cR N))):=by
 intro a
 by_cases e:a=b
 .subst e;rw[gP];simp_all
 .rw[gq _ _ e];exact h a
theorem wF{own D w ho}:∀dW M O,fp M w->er own M D O w->o1 ho O->
  ∃a,gS M a/\fp a w/\jx own M a/\er own a D (gu O (gh ho dW)) w/\o1 ho (gu O (gh ho dW)) /\
   (∀b l cR cN,(b∈dW\/O b=U (.row l cR N))->ho b=U (.row l cR cN)->gu O (gh ho dW) b=U (.row l cR N))
 | [],M,O,dt,c9,dv=>⟨M,.refl M,dt,.refl _ _,c9,dv,λb l cR cN h _=>by
   rcases h with h|h
   .cases h
   .exact h⟩
 |b::dW,M,O,dt,c9,dv=>by
  have go:∀(f:V->dB d4) (d:eI),gS M d->fp d w->jx own M d->er own d D f w->o1 ho f->(∀b l cR,O b=U (.row l cR N)->f b=U (.row l cR N))->
    (∀l cR cN,ho b=U (.row l cR cN)->f b=U (.row l cR N))->gu O (gh ho (b::dW))=gu f (gh ho dW)->
    ∃a,gS M a/\fp a w/\jx own M a/\er own a D (gu O (gh ho (b::dW))) w/\o1 ho (gu O (gh ho (b::dW))) /\
     (∀c l cR cN,(c∈b::dW\/O c=U (.row l cR N))->ho c=U (.row l cR cN)->gu O (gh ho (b::dW)) c=U (.row l cR N)):=by
   intro f d s1 i fA Q eB k1 eK e;have⟨a,s2,fh,m,c5,el,n⟩:=wF (ho:=ho) dW d f i Q eB;rw[e];refine⟨a,s1.trans s2,fh,fA.trans m,c5,el,λc l cR cN dj o=>?_⟩;rcases dj with dj|dj
   .grind
   .grind
  cases cW:ho b with
  |none=>exact go O M (.refl M) dt (.refl _ _) c9 dv (λ_ _ _ h=>h) (λl cR cN e=>by simp_all) (by simp[gh,cW])
  |some B=>
   cases B with
   |box c cN=>exact go O M (.refl M) dt (.refl _ _) c9 dv (λ_ _ _ h=>h) (λl cR cN e=>by simp_all) (by simp[gh,cW])
   |row l cR cN=>
    have hb:∃g,O b=U (.row l cR g):=by
     rcases dv b with e|⟨j,k,g,p,q⟩
     .simp_all
     .simp_all
    have⟨g,hb⟩:=hb;have⟨d,s1,i,fA,Q⟩:=freeze dt c9 hb (gG:=.row l cR N) (.inl ⟨_,_,_,Z,Z⟩);refine go (eS O b (U (.row l cR N))) d s1 i fA Q (dv.step cW) (λc j k e=>?_) (λj k g e=>by rw[cW]at e;cases e;exact gP _ _ _) (by simp[gh,cW,gu])
    by_cases dj:c=b
    .subst dj;rw[hb]at e;cases e;exact gP _ _ _
    .rwa[gq _ _ dj]
theorem Og{O p}(h:o1 O p)(x):conv.one p x=conv.one O x:=by
 cases x with
 |own b=>
  simp[conv.one];rcases h b with e|⟨l,cR,cN,c,a⟩
  .rw[e]
  grind
 |_=>rfl
theorem IU{O p}(h:o1 O p):∀c,conv.cells p c=conv.cells O c
 | []=>rfl|x::r=>by simp[conv.cells,Og h,IU h r]
theorem ahO{O a}(h:o1 O a)(x):conv.n' a x=conv.n' O x:=by
 cases x with
 |ptr b i j=>
  simp[conv.n'];rcases h b with e|⟨l,cR,cN,c,d⟩
  .rw[e]
  grind
 |_=>rfl
theorem Vy{O p}(h:o1 O p):∀c,conv.qM p c=conv.qM O c
 | []=>rfl|x::r=>by simp[conv.qM,ahO h,Vy h r]
theorem Ex{O a}(h:o1 O a)(x):conv a x=conv O x:=by
 cases x with
 |own b=>
  simp[conv];rcases h b with e|⟨l,cR,cN,d,g⟩
  .rw[e]
  grind
 |agg c=>simp[conv,IU h]|fn f c=>simp[conv,Vy h]|_=>rfl
theorem IV{own M D O w}(c9:er own M D O w){b l cR v}(hb:O b=U (.row l cR N))(cP:dZ M D (.own b) v):e4 M (.dm l) v:=by
 cases cP with
 |own _ cM cap c c0 dj=>
  have⟨_,cs,eV,n,o,p,fh,q,f,h⟩:=c9.at_ b _ cM hb c;rw[<-fh];refine .dm l cM.blk 0 cap cR (λi j=>(cs[i*cR+j]?).getD undef) R f.len (λi j e d Q c5=>?_) λi j e d Q c5=>?_
  .have⟨v,g,k⟩:=f.den i j e d Q c5
   have m:i*cR+j<l.length*cR:=by
    have cK:=(f_.1 Q).1;have dU:=(f_.1 c5).1;rw[f.len i e Q]at dU
    calc i*cR+j<i*cR+cR:=R
     _=(i+1)*cR:=Mw
     _<=l.length*cR:=mh _ cK
   simp[mM,g,x3];exact h.1 Z _ _ m g
  .have⟨v,g,k⟩:=f.den i j e d Q c5;simp_all
 |ib _ a c=>
  have⟨r,s,e⟩:=c9.iX b c;rw[hb]at e;cases e
  exact .emp _ _
 |ju _ _ c=>rw[(c9.fE b).2 c]at hb;cases hb
theorem Vz{M D x d v}(h:conv.nB x=U d)(cP:dZ M D x v):e4 M d v:=by
 cases x<;>simp[conv.nB,fC]at h<;>first|(subst h;cases cP)|cases h
 case d cP=>exact cP
 case eN=>exact .bool _
 case fd=>exact .bool _
 case nil a=>exact .emp _ _
theorem ahP{c dx}(h:conv.wv c=U dx):dx.length=c.length/\ ∀(i:V) (d),dx[i]?=U d->∃x,c[i]?=U x/\conv.nB x=U d:=by
 induction c generalizing dx with
 |nil=>simp[conv.wv,fC]at h;grind
 |cons x r b=>
  simp[conv.wv]at h
  cases Q:conv.nB x with
  |none=>simp_all
  |some eU=>
   cases a:conv.wv r with
   |none=>simp_all
   |some s=>grind
section
variable {own:V->Prop} {M:eI} {D:gD} {O:V->dB d4} {w:da} (c9:er own M D O w)
include c9
theorem wG{x d v}(h:conv.one O x=U d)(a:g8.one O x=[])(cP:dZ M D x v):e4 M d v:=by
 cases x with
 |own b=>
  simp[conv.one]at h
  cases hb:O b with
  |none=>simp_all
  |some B=>
   cases B with
   |box c cN=>simp_all
   |row l cR cN=>
    simp[hb,fC]at h;subst h
    cases cN with
    |false=>simp[g8.one,hb]at a
    |true=>exact IV c9 hb cP
 |d x=>simp[conv.one,fC]at h;subst h;cases cP with|d _ _ cP=>exact cP
 |eN=>simp[conv.one,fC]at h;subst h;cases cP;exact .bool _
 |fd=>simp[conv.one,fC]at h;subst h;cases cP;exact .bool _
 |nil=>simp[conv.one,fC]at h;subst h;cases cP;exact .emp _ _
 |agg c=>simp[conv.one]at h
 |dS c=>simp[conv.one]at h
 |ptr b i j=>simp[conv.one]at h
 |win b dz n c=>simp[conv.one]at h
 |fn f c=>simp[conv.one]at h
 |dead=>simp[conv.one]at h
omit c9 in
theorem Cm{c dx}(h:conv.cells O c=U dx):dx.length=c.length/\ ∀(i:V) (d),dx[i]?=U d->∃x,c[i]?=U x/\conv.one O x=U d/\ (g8.cells O c=[]->g8.one O x=[]):=by
 induction c generalizing dx with
 |nil=>simp[conv.cells,fC]at h;grind
 |cons x r b=>
  simp[conv.cells]at h
  cases Q:conv.one O x with
  |none=>simp_all
  |some eU=>
   cases a:conv.cells O r with
   |none=>simp_all
   |some s=>
    simp[Q,a,ahQ,jB,fC]at h;subst h;have⟨j,e⟩:=b a;refine⟨by simp[j],λi d cK=>?_⟩
    cases i with
    |zero=>simp only[u9,fC]at cK⊢;subst cK;exact⟨x,Z,Q,λo=>by simp[g8.cells,zT]at o;exact o.1⟩
    |succ i=>have⟨y,dI,g,f⟩:=e i d HI;exact⟨y,zg,g,λo=>by simp[g8.cells,zT]at o;grind⟩
theorem VA{x d v}(h:conv.n' O x=U d)(cP:dZ M D x v):e4 M d v:=by
 cases x with
 |ptr b i j=>
  simp[conv.n']at h
  cases hb:O b with
  |none=>simp_all
  |some B=>
   cases B with
   |row l cR cN=>simp_all
   |box c cN=>
    cases cN with
    |false=>simp_all
    |true=>
     simp[hb]at h
     cases cK:d3 i 0 with
     |false=>simp_all
     |true=>
      have:=gE cK;subst this
      cases g:conv.wv c with
      |none=>simp_all
      |some dx=>
       simp[cK,g,fF,jB,fC]at h;subst h
       cases cP with
       |ptr _ _ _ cM e=>
        have⟨_,cs,eV,r,s,t,fh,m,q⟩:=c9.at_ b _ cM hb e;have⟨dI,o⟩:=ahP g;rw[show 0*cM.cR+j=0+j by omega];refine .ix _ _ _ _ (λk=>(cs[k]?).getD undef) (λk d c_=>?_) λk d c_=>?_
        .have⟨x,Q,c5⟩:=o k d c_;have⟨v,a,p⟩:=m.den k x Q;simp[mM,a,x3];exact q.1 Z _ _ (f_.1 Q).1 a
        .have⟨x,Q,c5⟩:=o k d c_;have⟨v,a,p⟩:=m.den k x Q;simpa[a]using Vz c5 p
       |i6 _ _ _ _ e=>rw[(c9.fE b).2 e]at hb;cases hb
 |d x=>simp[conv.n',fC]at h;subst h;cases cP with|d _ _ cP=>exact cP
 |eN=>simp[conv.n',fC]at h;subst h;cases cP;exact .bool _
 |fd=>simp[conv.n',fC]at h;subst h;cases cP;exact .bool _
 |nil=>simp[conv.n']at h
 |win b dz n c=>simp[conv.n']at h
 |agg c=>simp[conv.n']at h
 |dS c=>simp[conv.n']at h
 |own b=>simp[conv.n']at h
 |fn f c=>simp[conv.n']at h
 |dead=>simp[conv.n']at h
theorem ahR{c dx}(h:conv.qM O c=U dx):dx.length=c.length/\ ∀(i:V) (d),dx[i]?=U d->∃x,c[i]?=U x/\ ∀v,dZ M D x v->e4 M d v:=by
 induction c generalizing dx with
 |nil=>simp[conv.qM,fC]at h;grind
 |cons x r b=>
  simp[conv.qM]at h
  cases Q:conv.n' O x with
  |none=>simp_all
  |some eU=>
   cases a:conv.qM O r with
   |none=>simp_all
   |some s=>
    simp[Q,a,ahQ,jB,fC]at h;subst h;have⟨f,e⟩:=b a;refine⟨by simp[f],λi d cK=>?_⟩
    cases i with
    |zero=>simp only[u9,fC]at cK⊢;subst cK;exact⟨x,Z,λv cY=>VA c9 Q cY⟩
    |succ i=>simp_all
theorem FG{x d v}(h:conv O x=U d)(m:g8 O x=[])(cP:dZ M D x v):e4 M d v:=by
 cases x with
 |own b=>exact wG c9 (x:=.own b) h (by assumption) cP
 |d x=>exact wG c9 (x:=.d x) h Z cP
 |eN=>exact wG c9 (x:=.eN) h Z cP
 |fd=>exact wG c9 (x:=.fd) h Z cP
 |nil=>exact wG c9 (x:=.nil) h Z cP
 |agg c=>
  simp only[conv]at h
  cases dj:conv.cells O c with
  |none=>simp_all
  |some dx=>simp[dj,jB,fC]at h;subst h;obtain⟨vs,rfl,c',a⟩:=x2 cP;have⟨g,e⟩:=Cm dj;exact .agg _ _ R λi d v Q c5=>have⟨x,dI,k,l⟩:=e i d Q;wG c9 k (l (by assumption)) (a i x v dI c5)
 |fn f c=>
  simp only[conv]at h
  cases dj:conv.qM O c with
  |none=>simp_all
  |some dx=>
   simp[dj,jB,fC]at h;subst h;have⟨g,e⟩:=ahR c9 dj
   cases cP with
   |fn _ _ vs dv a=>refine .fn _ _ _ R λi d v Q c5=>?_;grind
 |dS c=>simp[conv]at h
 |ptr b i j=>simp[conv]at h
 |win b dz n c=>simp[conv]at h
 |dead=>simp[conv]at h
end
theorem VB{M D}{c:I c3}{vs:d' dr}(cP:∀(i:V) (d v),c[i]?=U d->vs[i]?=U v->e4 M d v):
  ∀(i:V) (x) (v),(c.map .d)[i]?=U x->vs[i]?=U v->dZ M D x v:=by
 intro i x v Q a;rw[ir]at Q
 cases h:c[i]? with|none=>simp_all|some d=>simp[h,jB,fC]at Q;subst Q;exact .d _ _ (cP i d v h a)
theorem VC{M D d v}(h:e4 M d v):dZ M D (lR.one d) v:=by
 cases d with
 |agg c=>
  cases h with|agg _ vs dv cP=>exact .agg _ _ v5 (VB cP)
 |int k n=>exact .d _ _ h|bool b=>exact .d _ _ h|str s=>exact .d _ _ h|dm l=>exact .d _ _ h|ix c j=>exact .d _ _ h|fn f c=>exact .d _ _ h|km=>exact .d _ _ h|mA=>exact .d _ _ h|dS c=>exact .d _ _ h
theorem FH{M D d v}(h:e4 M d v):dZ M D (lR d) v:=by
 cases d with
 |agg c=>
  cases h with|agg _ vs dv cP=>exact .agg _ _ v5 (VB cP)
 |dS c=>
  cases h with
  |dS _ vs dv cP=>
   refine .dS _ _ v5 λi x v Q c5=>?_;rw[ir]at Q
   cases dj:c[i]? with|none=>simp_all|some d=>simp[dj,jB,fC]at Q;subst Q;exact VC (cP i d v dj c5)
 |int k n=>exact .d _ _ h|bool b=>exact .d _ _ h|str s=>exact .d _ _ h|dm l=>exact .d _ _ h|ix c j=>exact .d _ _ h|fn f c=>exact .d _ _ h|km=>exact .d _ _ h|mA=>exact .d _ _ h
theorem ahS{M e d v}(c':pX d=N)(h:e4 M d v):e4 e d v:=by
 have one:∀(d:c3) (v:dr),pX.one d=N->e4 M d v->e4 e d v:=by
  intro d v c' h
  cases h<;>simp[pX.one]at c'
  .exact .int _ _
  .exact .bool _
  .exact .str _
 have all:∀(c:I c3),pX.all c=N->∀d∈c,pX.one d=N:=by
  intro c
  induction c with
  |nil=>simp_all|cons x r g=>intro h d cP;simp[pX.all]at h;grind
 cases h with|int k n=>exact .int _ _|bool b=>exact .bool _|str s=>exact .str _|agg c vs dv cP=>exact .agg c vs dv λi d v Q c5=>one d v (all c c' d (jY Q)) (cP i d v Q c5)|dS c vs dv cP=>exact .dS c vs dv λi d v Q c5=>one d v (all c c' d (jY Q)) (cP i d v Q c5)|emp a c=>simp[pX]at c'|dm l b off cap cR val dv Q c5 m=>simp[pX]at c'|ix c j b off val Q c5=>simp[pX]at c'|fn f c vs dv cP=>simp[pX]at c'|km=>simp[pX]at c'|mA v=>simp[pX]at c'
section
variable {P:en}
theorem VD{f}(h:nC P f)(vs w):(callFunc f vs).run P w=.ok (.enter f vs) w:=by
 have⟨fn,Q,a,eG⟩:=h
 have b:fn.body≠cL:=by grind
 have du:=HG;simp[callFunc,Q,b,du]
theorem VE{o c f}(d:o.op=.call c)(b:c.callee=.value (.func f))(h:nC P f)(a:e8)(w):
  (execOp a.eval o).run P w=.ok (.enter f (c.args.map a.eval)) w:=by
 simp[execOp,d,resolve,b,Act.eval,sH,invoke,VD h]
theorem ahT{o c f t vs}(d:o.op=.call c)(b:c.callee=.value (.tmp t))(h:nC P f)(a:e8)(w)(e:a.eval (.tmp t)=.func (.func f) #[] vs):
  (execOp a.eval o).run P w=.ok (.enter f (c.args.map a.eval++vs)) w:=by
 simp[execOp,d,resolve,b,e,sH,invoke,VD h]
theorem Oi{O dC}:∀ {l K},zH O dC l K->
  ∃dx dW,K dx dW/\dx.length=l.length/\ (∀(i:V) (x) (d),l[i]?=U x->dx[i]?=U d->conv O (dC x)=U d/\ ∀b∈g8 O (dC x),b∈dW)
 | [],K,h=>⟨[],[],h,Z,λi x d Q=>by simp at Q⟩
 |x::r,K,h=>by
  simp[zH]at h
  cases c:conv O (dC x) with|none=>simp_all|some d=>simp[c]at h;have⟨dx,dW,a,e,cP⟩:=Oi h;grind
theorem x4{ho a}{dW:I V}(ee:∀b l cR cN,b∈dW->ho b=U (.row l cR cN)->a b=U (.row l cR N))(dv:o1 ho a)(x)(f:∀b∈g8 ho x,b∈dW):g8 a x=[]:=by
 have one:∀y:dp,(∀b∈g8.one ho y,b∈dW)->g8.one a y=[]:=by
  intro y g
  cases y with
  |own b=>
   simp[g8.one]at g⊢
   cases hb:ho b with
   |none=>
    rcases dv b with e|⟨l,cR,cN,i,d⟩
    .rw[e,hb]
    simp_all
   |some B=>
    cases B with
    |box c cN=>
     rcases dv b with e|⟨l,cR,cN,i,d⟩
     .rw[e,hb]
     simp_all
    |row l cR cN=>
     cases cN with
     |true=>
      rcases dv b with e|⟨l,cR,cN,i,d⟩
      .rw[e,hb]
      .rw[d]
     |false=>rw[ee b l cR L (g b (by simp[hb])) hb]
  |_=>rfl
 have cells:∀c:I dp,(∀b∈g8.cells ho c,b∈dW)->g8.cells a c=[]:=by
  intro c
  induction c with
  |nil=>intro _;rfl|cons y r j=>intro h;simp[g8.cells,iY]at h⊢;simp_all
 cases x with|own b=>exact one (.own b) f|agg c=>exact cells c f|_=>rfl
theorem ahU{own M c D O h w}{dC:fw->dp}{a:e8}{l:I fw}{dx}{dW:I V}
  (s:gS M c)(Q:er own c D h w)(j:o1 O h)(n:∀b l cR cN,b∈dW->O b=U (.row l cR cN)->h b=U (.row l cR N))(g:∀x,dZ M D (dC x) (a.eval x))
  (e:dx.length=l.length)(cP:∀(i:V) (x d),l[i]?=U x->dx[i]?=U d->conv O (dC x)=U d/\ ∀b∈g8 O (dC x),b∈dW):
  lS c dx ((l.map a.eval).toArray):=by
 refine⟨by simp[e],λi d v o f=>?_⟩;simp only[List.getElem?_toArray,ir]at f
 cases k:l[i]? with|none=>simp_all|some x=>simp[k,jB,fC]at f;subst f;have⟨dI,m⟩:=cP i x d k o;exact FG Q (by rwa[Ex j]) (x4 n j _ m) ((g x).mono s)
theorem x5{cX own w w'}(h:ob cX w.heap.size w w')(o:∀c,w.heap.size<=c->own c):j0 (pr cX own) w w':=
 ⟨h.os,h.tape,h.output,h.size,λc b=>h.block c (by
  rcases jr c w.heap.size with a|a
  .exact a
  .exact dN (.inl (o c a)) b) λq=>b (.inr q)⟩
theorem zU{own w M a}(h:uS w M a)(d:∀c,w.heap.size<=c->own c):jx own M a:=
 λb o v cY=>Eo (h b o v cY) (d b)
theorem er.ju{own M D O w}(h:er own M D O w){b cM}(c:D b=U (U cM)):own cM.blk:=by
 cases a:O b with|none=>rw[(h.fE b).1 a]at c;cases c|some B=>exact(h.at_ b B cM a c).1
theorem er.behind{cX own M a D O w w'}(h:er own M D O w)(b:∀c,own c->¬cX.F c)(d:ob cX w.heap.size w w')(s:gS M a)(g:uS w M a):er own a D O w':=
 h.k' s λi ek cM=>⟨d.block _ (h.lt cM) (b _ (h.ju cM)),λgG B f o=>by
  cases cY:a ek.blk o with
  |none=>rfl
  |some v=>
   rcases g _ _ _ cY with e|e
   .rw[h.closed cM gG B f o]at e;cases e
   .have:=h.lt cM;omega⟩
theorem gQ.new{cX own M a}(h:gQ cX own M)(s:gS M a)(c0:jx own M a):gQ cX own a:=
 ⟨h.own,λb o v cY=>(c0 b o v cY).elim (h.mem b o v) (h.own b),λo n cY=>s _ _ _ (h.xT o n cY)⟩
theorem gQ.low{cX own o M}(h:gQ cX own M)(b:∀c,o c->own c):gQ cX o M:=⟨λc a=>h.own c (b c a),h.mem,h.xT⟩
theorem IW{O}(dW):∀p∈gh O dW,∃l cR cN,p.2=.row l cR cN:=by
 induction dW with
 |nil=>intro p O;cases O|cons b r i=>intro p h;simp[gh]at h;grind
theorem FI(k):∀ws O,(∀p∈ws,∃l cR cN,p.2=.row l cR cN)->gu (hT k O) ws=hT k (gu O ws)
 | [],_,_=>rfl
 |(b,B)::r,O,h=>by
  have⟨l,cR,cN,e⟩:=h (b,B) (mK ..);have e:=e;subst e;simp[gu];rw[<-FI k r _ λp O=>h p (lX _ O)]
  congr 1
  cases k with
  |none=>rfl
  |some k=>
   funext c
   by_cases a:c=b
   .subst a;simp[hT,gP,ht]
   .rw[gq _ _ a];simp[hT];rw[gq _ _ a]
theorem zV(O):∀x y,gu O (x++y)=gu (gu O x) y
 | [],_=>rfl|(b,B)::r,y=>by simp;exact zV _ r y
theorem Oj{k b}(d:2000000<=k)(a:k%8=0)(e:b/8=k/8){c}(h:ha b c=N):ha k c=N:=by
 unfold ha at h⊢;rw[rD d,a]
 cases q:hn 2000000 b&&d3 (b%8) 0 with|true=>simp_all|false=>simp_all
theorem VF{k b}(F:∀c,ha b c=N->ha k c=N){x}(h:ev.one k x=L):ev.one b x=L:=by
 have e:∀c,ha k c=L->ha b c=L:=λc a=>by
  grind
 cases x<;>simp[ev.one]at h⊢<;>first|exact e _ h|exact h
theorem IX{k b}(F:∀c,ha b c=N->ha k c=N):∀ {c},ev.names k c=L->ev.names b c=L
 | [],_=>rfl
 |x::r,h=>by
  simp only[ev.names]at h⊢
  cases Q:ev.one k x with|true=>simp_all|false=>rw[Q]at h;rw[VF F Q];exact IX F h
theorem VG{k b}(F:∀c,ha b c=N->ha k c=N):∀ {c},ev.parts k c=L->ev.parts b c=L
 | [],_=>rfl
 |x::r,h=>by
  simp only[ev.parts]at h⊢
  cases Q:ev.part k x with
  |true=>simp_all
  |false=>
   rw[Q]at h
   have:ev.part b x=L:=by cases x<;>simp[ev.part]at Q⊢<;>first|exact IX F Q|exact VF F Q
   rw[this];exact VG F h
theorem ahW{k b}(a:∀c,ha b c=N->ha k c=N)(x):ev b (ev k x)=ev k x:=by
 have d:∀c,ha k c=L->ha b c=L:=λc dj=>by
  grind
 cases x with|own c=>simp[ev];grind|ptr c i j=>simp[ev];grind|win c dz n q=>simp[ev];grind|agg c=>simp[ev];cases h:ev.names k c<;>simp[ev,IX a,h]|dS c=>simp[ev];cases h:ev.parts k c<;>simp[ev,VG a,h]|fn f c=>simp[ev];cases h:ev.names k c<;>simp[ev,IX a,h]|_=>rfl
theorem VH{k b}(c_:2000000<=k)(a:k%8=0)(hb:b/8=k/8)(B):ht b (ht k B)=ht k B:=by
 cases B with
 |row l cR cN=>rfl
 |box c cN=>
  simp only[ht]
  congr 1
  induction c with
  |nil=>rfl
  |cons x r d=>simp[ht.cells,d,ahW (λc=>Oj c_ a hb)]
theorem er.VI{own M D O w}(h:er own M D O w)(k):er own M D (hT (U k) O) w:=by
 refine⟨λb=>by rw[Of];exact h.fE b,λb f=>?_,λb B cM d g=>?_,h.inj⟩
 .have⟨cR,cN,e⟩:=h.iX b f;exact⟨cR,cN,by simp[hT,e,ht]⟩
 .obtain⟨a,c,rfl⟩:=FF d;exact⟨(h.at_ b a cM c g).1,jJ.kill (λ_ _=>Z) (h.at_ b a cM c g).2⟩
def ng(a:I (V×d4)):I V:=a.map (·.1)
theorem Ok{b c B r}:c∈ng ((b,B)::r)↔c=b\/c∈ng r:=by simp[ng]
theorem Cn{c r}:c∈ng r↔∃B,(c,B)∈r:=by simp[ng]
theorem er.Ol{own:V->Prop}{M:eI}{w:da}{k:V}(K:2000000<=k)(lc:V->dB k6):∀(o:I (V×d4)) (D:gD) (O:V->dB d4),er own M D O w->
  (∀b B,O b=U B->∀f,f/8=k/8->ht f B=B)->
  (∀p∈o,p.1/8=k/8)->(ng o).Nodup->
  (∀p∈o,∃l cR,p.2=.row l cR L/\match lc p.1 with
   |none=>l=[]
   |some cM=>own cM.blk/\jJ M D w p.2 cM)->
  (∀p∈o,∀cM,lc p.1=U cM->∀f ek,D f=U (U ek)->ek.blk=cM.blk->f=p.1)->
  (∀p∈o,∀q∈o,∀cM ek,lc p.1=U cM->lc q.1=U ek->cM.blk=ek.blk->p.1=q.1)->
  er own M (λb=>if b∈ng o then U (lc b) else D b) (gu O o) w
 | [],D,O,h,_,_,_,_,_,_=>by
  assumption
 |(b,B)::r,D,O,h,T,m,u,F,s,i=>by
  have cX:=m (b,B) (mK ..);have⟨l,cR,J,n⟩:=F (b,B) (mK ..);have J:=J;subst J;simp[ng,kS,tH]at u
  have z:hT (U b) O=O:=by
   funext c;simp[hT]
   cases g:O c with
   |none=>rfl
   |some C=>grind
  have Q:er own M (eS D b (U (lc b))) (eS O b (U (.row l cR L))) w:=by
   cases t:lc b with
   |none=>simp[t]at n;subst n;have:=h.Ck b cR L;grind
   |some cM=>
    simp[t]at n
    have:=h.new b (.row l cR L) cM (.refl M) n.1 (by
      have⟨cs,eV,v,j,R⟩:=n.2
      exact⟨cs,eV,v,j,R⟩) λf ek A d=>⟨λy=>A (s _ (mK ..) cM t f ek d y),Z,h.closed d⟩
    grind
  have P:=er.Ol K lc r _ _ Q (λc C x f dh=>?_) (λp O=>m p (lX _ O)) u.2 (λp O=>?_) (λp O cM S f ek d y=>?_)
   λp O q dc=>i p (lX _ O) q (lX _ dc)
  .have e:(λc=>if c∈ng ((b,d4.row l cR L)::r) then U (lc c) else D c)=λc=>if c∈ng r then U (lc c) else eS D b (U (lc b)) c:=by
    funext c
    by_cases g:c∈ng r
    .rw[if_pos (Ok.2 (.inr g)),if_pos g]
    .by_cases a:c=b
     .subst a;rw[if_pos (Ok.2 (.inl Z)),cS g,gP]
     .rw[cS (λh=>(Ok.1 h).elim a g),cS g,gq _ _ a]
   rwa[e]
  .by_cases a:c=b
   .subst a;rw[gP]at x;cases x;rfl
   .rw[gq _ _ a]at x;grind
  .have⟨db,E,v,j⟩:=F p (lX _ O);refine⟨db,E,v,?_⟩
   cases t:lc p.1 with
   |none=>grind
   |some cM=>simp[t]at j;refine⟨j.1,?_⟩;rw[v]at j⊢;have⟨cs,eV,dI,G,H⟩:=j.2;exact⟨cs,eV,dI,G,H⟩
  .by_cases a:f=b
   .subst a;rw[gP]at d;simp at d;exact i _ (mK ..) p (lX _ O) ek cM d S y
   .rw[gq _ _ a]at d;grind
theorem VJ(cs a b):(hs a cs).length=(hs b cs).length:=by
 induction cs generalizing a b with
 |nil=>rfl
 |cons c r e=>cases c with|d x=>exact e a b|row l cR=>simp[hs,nF,e (a+1) (b+1)]
def qS(ew:V->dB k6)(i k:V):I iM->V->dB k6
 | []=>λ_=>cL
 | .d _::r=>qS ew (i+1) k r
 | .row _ _::r=>λb=>if b=k then ew i else qS ew (i+1) (k+1) r b
def x6(cs:I iM)(j:V):V:=(hs 0 (cs.take j)).length
theorem Co(ew):∀cs i k p,p∈hs k cs->k<=p.1/\p.1<k+(hs 0 cs).length/\
  ∃j l cR,cs[j]?=U (.row l cR) /\p.2=.row l cR L/\qS ew i k cs p.1=ew (i+j) /\p.1=k+x6 cs j
 | [],i,k,p,h=>by cases h
 | .d x::r,i,k,p,h=>by
  have⟨Q,a,j,l,cR,e,c,du,dY⟩:=Co ew r (i+1) k p h;exact⟨Q,a,j+1,l,cR,by simp_all,c,by rw[show i+(j+1)=i+1+j by omega];exact du,dY⟩
 | .row e_ s::r,i,k,p,h=>by
  simp[hs,nG]at h
  have b:(hs 0 (.row e_ s::r)).length=(hs 0 r).length+1:=by simp[hs,nF,VJ r (0+1) 0]
  rcases h with rfl|h
  .exact⟨fi _,by omega,0,e_,s,Z,Z,by simp[qS],by rfl⟩
  .have⟨Q,a,j,l,cR,e,c,du,dY⟩:=Co ew r (i+1) (k+1) p h;refine⟨by omega,by omega,j+1,l,cR,by simp_all,c,?_,?_⟩
   .simp[qS];grind
   .have:x6 (.row e_ s::r) (j+1)=x6 r j+1:=by simp[x6,List.take_succ_cons,hs,nF,VJ _ (0+1) 0]
    omega
theorem IY:∀cs k,(ng (hs k cs)).Nodup
 | [],k=>by simp[hs,ng]| .d x::r,k=>IY r k
 | .row e_ s::r,k=>by
  simp only[hs,ng,kS,tH];refine⟨λh=>?_,IY r (k+1)⟩;have⟨p,O,e⟩:=is.1 h;have:=(Co (λ_=>cL) r 0 (k+1) p O).1;omega
theorem IZ(ew):∀cs i k j x,(mH k cs)[j]?=U x->(∃d,cs[j]?=U (.d d) /\x=.d d) \/
  ∃l cR b,cs[j]?=U (.row l cR) /\x=.own b/\ (b,d4.row l cR L)∈hs k cs/\qS ew i k cs b=ew (i+j)
 | [],i,k,j,x,h=>by simp[mH]at h
 | .d y::r,i,k,0,x,h=>by
  simp[mH,u9,fC]at h;simp_all
 | .d y::r,i,k,j+1,x,h=>by
  simp[mH,I0]at h;rcases IZ ew r (i+1) k j x h with⟨d,Q,a⟩|⟨l,cR,b,Q,a,e,f⟩
  .simp_all
  .exact .inr ⟨l,cR,b,by simp_all,a,e,by rwa[show i+(j+1)=i+1+j by omega]⟩
 | .row e_ s::r,i,k,0,x,h=>by
  simp[mH,u9,fC]at h;exact .inr ⟨e_,s,k,Z,h.symm,by simp[hs],by simp[qS]⟩
 | .row e_ s::r,i,k,j+1,x,h=>by
  simp[mH,I0]at h;rcases IZ ew r (i+1) (k+1) j x h with⟨d,Q,a⟩|⟨l,cR,b,Q,a,e,f⟩
  .simp_all
  .have c:=(Co ew r (i+1) (k+1) _ e).1;refine .inr ⟨l,cR,b,by simp_all,a,lX _ e,?_⟩;simp[qS];grind
theorem I1(k cs):(mH k cs).length=cs.length:=by
 induction cs generalizing k with
 |nil=>rfl|cons c r i=>cases c<;>simp[mH,i]
theorem VK{k}:∀o O,(∀b B,O b=U B->ht k B=B)->(∀p∈o,ht k p.2=p.2)->∀b B,gu O o b=U B->ht k B=B
 | [],O,h,_,b,B,d=>h b B d
 |(c,C)::r,O,h,g,b,B,d=>by
  refine VK r (eS O c (U C)) (λf gG a=>?_) (λp O=>g p (.tail _ O)) b B d
  by_cases e:f=c
  .subst e;rw[gP]at a;simp_all
  .rw[gq _ _ e]at a;grind
theorem VL{f st dD O dst l dx cs dW dC K}
  (h:rC P f st dD O dst (dx++cs) dW K)(aX:dx.length=l.length)(cP:∀(i:V) (x d),l[i]?=U x->dx[i]?=U d->conv O (dC x)=U d/\ ∀b∈g8 O (dC x),b∈dW)
  (aY:st=N->dD=ki dC l/\cs=[]):
  ∃e,K e/\nC P f/\ ∀(cX) (own) (M) (D) (a:e8) (w) (vs),gQ cX own M->(∀c,w.heap.size<=c->own c)->fp M w->er own M D O w->(∀x,dZ M D (dC x) (a.eval x))->lS M cs vs->
   uT P cX f ((l.map a.eval).toArray++vs) w λk7 w'=>∃v,k7=.returned v/\IP cX own M D O w e v w':=by
 have cU:∀(own:V->Prop) (M:eI) (D:gD) (a:e8) (w:da) (vs:d' dr),fp M w->er own M D O w->(∀x,dZ M D (dC x) (a.eval x))->lS M cs vs->
   ∃T,gS M T/\fp T w/\jx own M T/\er own T D (gu O (gh O dW)) w/\lS T (dx++cs) ((l.map a.eval).toArray++vs):=by
  intro own M D a w vs dt c9 H F;have⟨T,s1,ah,de,Q,eB,aZ⟩:=wF (ho:=O) dW M O dt c9 (.refl O);have A:=ahU (a:=a) s1 Q eB (λb l cR cN E e=>aZ b l cR cN (.inl E) e) H aX cP;refine⟨T,s1,ah,de,Q,by simp[A.1,F.1],λi d v al ar=>?_⟩
  by_cases cK:i<dx.length
  .rw[wH cK]at al;rw[ahY (by simp_all)]at ar;exact A.2 i d v al ar
  .rw[x7 R]at al;rw[Uk (by simp;omega)]at ar;exact(F.2 _ d v al (by simp_all)).mono s1
 have h:=h.out;rcases h with⟨d,c8,ab⟩|⟨aw,cR,t,aR,aS,ab⟩|⟨ax,e,aT,ab⟩|⟨s,t,gJ,aS,a0,ab⟩|⟨s,aU,t,gJ,aS,a0,ab⟩
 .cases aH:pX d with
  |true=>simp[aH,fF]at ab;exact⟨_,ab,c8.1,λcX own M D a w vs S G dt c9 H F=>have⟨T,s1,ah,de,Q,A⟩:=cU own M D a w vs dt c9 H F;(c8.2 cX w T _ ((S.new s1 de).low G) ah A).mono λk7 w' Y=>have⟨v,ac,e,E,s2,fh,ae,aI⟩:=Y;⟨v,e,M,D,x5 E G,.refl M,λb o v h=>fh _ _ _ (s2 _ _ _ (s1 _ _ _ h)),.refl _ _,c9.behind S.own E (.refl M) (λ_ _ _ h=>.inl h),λ_ _=>Z,FH (ahS aH aI)⟩⟩
  |false=>simp[aH,jw]at ab;exact⟨_,ab,c8.1,λcX own M D a w vs S G dt c9 H F=>have⟨T,s1,ah,de,Q,A⟩:=cU own M D a w vs dt c9 H F;(c8.2 cX w T _ ((S.new s1 de).low G) ah A).mono λk7 w' Y=>have⟨v,ac,e,E,s2,fh,ae,aI⟩:=Y;⟨v,e,ac,D,x5 E G,s1.trans s2,fh,de.trans (zU ae G),Q.behind S.own E s2 ae,λ_ _=>Z,FH aI⟩⟩
 .refine⟨_,ab,aR.1,λcX own M D a w vs S G dt c9 H F=>have⟨T,s1,ah,de,Q,A⟩:=cU own M D a w vs dt c9 H F;(aR.2 cX w T _ ((S.new s1 de).low G) ah A).mono λk7 w' Y=>?_⟩;have⟨v,ac,e,E,s2,fh,ae,g⟩:=Y;have c5:=Q.behind S.own E s2 ae
  have ay:(⟨.own t,gh O dW++[(t,.row aw cR L)],U t⟩:gp).O O=eS (hT (U t) (gu O (gh O dW))) t (U (.row aw cR L)):=by simp[gp.O,zV,gu,FI (U t) _ O (IW dW)]
  rcases g with⟨rfl,eb,rfl⟩|⟨c,cap,C,eV,dI,rfl,dh,am,ai,W,a1⟩
  .refine⟨_,e,ac,eS D t (U cL),x5 E G,s1.trans s2,fh,de.trans (zU ae G),?_,λb E=>gq _ _ λe=>tx E e,.ib t eb (gP _ _ _)⟩;rw[ay];exact c5.Ck t cR L
  .let cM:k6:=⟨c,cR,C.size,aw.length⟩
   refine⟨_,e,ac,eS D t (U (U cM)),x5 E G,s1.trans s2,fh,de.trans (zU ae G),?_,λb E=>gq _ _ λe=>tx E e,.own t cM cap (gP _ _ _) dh am⟩;rw[ay];refine c5.new t (.row aw cR L) cM (.refl _) (G c dI) ⟨C,eV,ai,Z,Z,Z,fG (mh _ dh) am,W,(by simp_all),λ_=>a1⟩ λd7 ek a2 m=>⟨?_,Z,c5.closed m⟩;have:=Q.lt m;grind
 .obtain⟨rfl,rfl⟩:=aY ax;refine⟨e,ab,aT.1,λcX own M D a w vs S G dt c9 H F=>?_⟩
  have a3:vs=#[]:=by have:=F.1;simpa using this
  subst a3
  have a4:zJ M D (ki dC l) ((l.map a.eval).toArray++#[]):=by
   have az:∀l:I fw,(ki dC l).length=l.length/\ ∀(i:V) (x:dp) (v:dr),(ki dC l)[i]?=U x->(l.map a.eval)[i]?=U v->dZ M D x v:=by
    intro l
    induction l with
    |nil=>exact⟨Z,λi x v h=>by simp_all⟩
    |cons y r aV=>
     refine⟨by simp[ki,aV.1],λi x v al ar=>?_⟩
     cases i with
     |zero=>simp[ki,kS,u9,fC]at al ar;grind
     |succ i=>exact aV.2 i x v (by assumption) (by simp_all)
   exact⟨by simp_all,λi x v al ar=>(az l).2 i x v al (by simp_all)⟩
  exact(aT.2 cX own M D w _ S G dt c9 a4).mono λk7 w' Y=>have⟨v,ac,ei,al,ar,a5,a6,a7,a8,a9,a_⟩:=Y;⟨v,al,ac,ei,ar,a5,a6,a7,a8,a9,a_⟩
 .have az:∀n:V,∃k:V,k=2000000+8*n/\k%8=0/\2000000<=k:=λn=>⟨_,Z,R,R⟩;have⟨k,aJ,aA,c_⟩:=az t
  have ab:K ⟨.agg (mH k s),gh O dW++hs k s,U k⟩:=by rwa[aJ]
  refine⟨_,ab,gJ.1,λcX own M D a w vs S G dt c9 H F=>have⟨T,s1,ah,de,Q,A⟩:=cU own M D a w vs dt c9 H F;(gJ.2 cX w T _ ((S.new s1 de).low G) ah A).mono λk7 w' Y=>?_⟩;have⟨us,ac,ew,e,E,s2,fh,ae,a',z,aK⟩:=Y;have c5:=Q.behind S.own E s2 ae;have db:∀b,k<=b->b<k+8->b/8=k/8:=λb af aj=>R
  have ay:(⟨.agg (mH k s),gh O dW++hs k s,U k⟩:gp).O O=gu (hT (U k) (gu O (gh O dW))) (hs k s):=by simp[gp.O,zV,FI (U k) _ O (IW dW)]
  have ax:∀b B,hT (U k) (gu O (gh O dW)) b=U B->∀d7,d7/8=k/8->ht d7 B=B:=λb B ag d7 aL=>by
   obtain⟨aM,_,rfl⟩:=FF ag;exact VH c_ aA aL aM
  have g:∀p∈hs k s,k<=p.1/\p.1<k+8/\ ∃j l cR,s[j]?=U (.row l cR) /\p.2=.row l cR L/\qS ew 0 k s p.1=ew j/\p.1=k+x6 s j:=λp O=>by
   have⟨af,aj,j,l,cR,ad,aa,J,an⟩:=Co ew s 0 k p O;exact⟨af,R,j,l,cR,ad,aa,by simpa using J,an⟩
  have aN:=er.Ol c_ (qS ew 0 k s) (hs k s) D _ (c5.VI k) ax (λp O=>db _ (g p O).1 (g p O).2.1) (IY s k) (λp O=>by
    have⟨af,aj,j,l,cR,ad,aa,J,an⟩:=g p O;refine⟨l,cR,aa,?_⟩;rw[J,aa];have⟨u,dI,dh⟩:=z j _ ad;simp only at dh
    cases X:ew j with
    |none=>rw[X]at dh;exact dh.1
    |some cM=>
     rw[X]at dh;have⟨fV,cap,C,eV,gY,ao,av,ap,aB,aC,aD,aE,aF⟩:=dh
     exact⟨G _ fV,C,eV,aD,ap.symm,av.symm,ao.symm,by rw[ap];exact fG (mh _ aB) aC,aE,(by intro e;cases e),λ_=>aF⟩)
   (λp O cM ak d7 ek m he=>by
    have⟨af,aj,j,l,cR,ad,aa,J,an⟩:=g p O;rw[J]at ak;have⟨u,dI,dh⟩:=z j _ ad;simp[ak]at dh;have:=dh.1;have:=Q.lt m
    omega)
   (λp O q Y cM ek ak m he=>by
    have⟨_,_,j,l,cR,ad,aa,J,an⟩:=g p O;have⟨_,_,aO,aw,ba,bb,bc,aP,bd⟩:=g q Y;rw[J]at ak;rw[aP]at m;have:=aK j aO cM ek ak m he;subst this
    omega)
  refine⟨_,e,ac,_,x5 E G,s1.trans s2,fh,de.trans (zU ae G),by rwa[ay],λb E=>?_,?_⟩
  .by_cases dc:b∈ng (hs k s)
   .have⟨B,ag⟩:=Cn.1 dc;have⟨af,aj,_⟩:=g _ ag;have aQ:=db b af aj;have:=Oj c_ aA aQ (Ik b);have E:ha k b=L:=E;rw[this]at E;cases E
   .simp[cS dc]
  .refine .agg _ us (by rwa[I1]) λj x u au aq=>?_;rcases IZ ew s 0 k j x au with⟨d,dI,rfl⟩|⟨l,cR,b,dI,rfl,dh,am⟩
   .have⟨p5,ai,W⟩:=z j _ dI;rw[aq]at ai;cases ai
    exact .d _ _ W
   .have⟨p5,ai,W⟩:=z j _ dI;rw[aq]at ai;cases ai
    have dc:=Cn.2 ⟨_,dh⟩;simp at am
    cases X:ew j with
    |none=>simp[X]at W;obtain⟨_,eb,rfl⟩:=W;exact .ib b eb (by simp[if_pos dc,am,X])
    |some cM=>simp[X]at W;obtain⟨fV,cap,C,eV,rfl,ao,av,ap,aB,aC,aD,aE,aF⟩:=W;rw[<-ao];exact .own b cM cap (by simp[if_pos dc,am,X]) (by rwa[ao]) (by rwa[av,ap])
 .have az:∀n:V,∃k:V,k=2000000+8*n/\k%8=0/\2000000<=k:=λn=>⟨_,Z,R,R⟩;have⟨k,aJ,aA,c_⟩:=az t
  have ab:K ⟨.dS (.ptr k 0 0::aU.map lR.one),gh O dW++(hs (k+1) s++[(k,.box (mH (k+1) s) L)]),U k⟩:=by rwa[aJ]
  refine⟨_,ab,gJ.1,λcX own M D a w vs S G dt c9 H F=>have⟨T,s1,ah,de,Q,A⟩:=cU own M D a w vs dt c9 H F;(gJ.2 cX w T _ ((S.new s1 de).low G) ah A).mono λk7 w' Y=>?_⟩;have⟨e3,us,bn,be,ac,ew,e,bf,bg,bh,E,s2,fh,ae,a',aW,z,aK,bi⟩:=Y;have c5:=Q.behind S.own E s2 ae;have db:∀b,k+1<=b->b<k+8->b/8=k/8:=λb af aj=>R
  have ay:(⟨.dS (.ptr k 0 0::aU.map lR.one),gh O dW++(hs (k+1) s++[(k,.box (mH (k+1) s) L)]),U k⟩:gp).O O=eS (gu (hT (U k) (gu O (gh O dW))) (hs (k+1) s)) k (U (.box (mH (k+1) s) L)):=by simp[gp.O,zV,gu,FI (U k) _ O (IW dW)]
  have ax:∀b B,hT (U k) (gu O (gh O dW)) b=U B->∀d7,d7/8=k/8->ht d7 B=B:=λb B ag d7 aL=>by
   obtain⟨aM,_,rfl⟩:=FF ag;exact VH c_ aA aL aM
  have g:∀p∈hs (k+1) s,k+1<=p.1/\p.1<k+8/\ ∃j l cR,s[j]?=U (.row l cR) /\p.2=.row l cR L/\qS ew 0 (k+1) s p.1=ew j/\p.1=k+1+x6 s j:=λp O=>by
   have⟨af,aj,j,l,cR,ad,aa,J,an⟩:=Co ew s 0 (k+1) p O;exact⟨af,R,j,l,cR,ad,aa,by simpa using J,an⟩
  have aN:=er.Ol c_ (qS ew 0 (k+1) s) (hs (k+1) s) D _ (c5.VI k) ax (λp O=>db _ (g p O).1 (g p O).2.1) (IY s (k+1)) (λp O=>by
    have⟨af,aj,j,l,cR,ad,aa,J,an⟩:=g p O;refine⟨l,cR,aa,?_⟩;rw[J,aa];have⟨u,dI,dh⟩:=z j _ ad;simp only at dh
    cases X:ew j with
    |none=>rw[X]at dh;exact dh.1
    |some cM=>
     rw[X]at dh;have⟨fV,cap,C,eV,gY,ao,av,ap,aB,aC,aD,aE,aF⟩:=dh
     exact⟨G _ fV,C,eV,aD,ap.symm,av.symm,ao.symm,by rw[ap];exact fG (mh _ aB) aC,aE,(by intro e;cases e),λ_=>aF⟩)
   (λp O cM ak d7 ek m he=>by
    have⟨af,aj,j,l,cR,ad,aa,J,an⟩:=g p O;rw[J]at ak;have⟨u,dI,dh⟩:=z j _ ad;simp[ak]at dh;have:=dh.1;have:=Q.lt m
    omega)
   (λp O q Y cM ek ak m he=>by
    have⟨_,_,j,l,cR,ad,aa,J,an⟩:=g p O;have⟨_,_,aO,aw,ba,bb,bc,aP,bd⟩:=g q Y;rw[J]at ak;rw[aP]at m;have:=aK j aO cM ek ak m he;subst this
    omega)
  have bj:k∉ng (hs (k+1) s):=λdc=>by
   have⟨B,ag⟩:=Cn.1 dc;have:=(g _ ag).1;simp only at this;omega
  have bk:hT (U k) (gu (hT (U k) (gu O (gh O dW))) (hs (k+1) s))=gu (hT (U k) (gu O (gh O dW))) (hs (k+1) s):=by
   have hw:=VK (k:=k) (hs (k+1) s) (hT (U k) (gu O (gh O dW))) (λb B ag=>ax b B ag k Z) (λp O=>by
    have⟨_,_,j,l,cR,_,aa,_⟩:=g p O
    rw[aa];rfl)
   funext b;simp[hT]
   cases dj:gu (hT (U k) (gu O (gh O dW))) (hs (k+1) s) b with
   |none=>simp[hT]at dj;rw[dj]
   |some B=>have:=hw b B dj;simp[hT]at dj;rw[dj];simp[this]
  have bl:jJ ac (eS (λb=>if b∈ng (hs (k+1) s) then U (qS ew 0 (k+1) s b) else D b) k (U (U ⟨e3,us.size,us.size,1⟩))) w' (.box (mH (k+1) s) L) ⟨e3,us.size,us.size,1⟩:=by
   refine⟨us,be,bg,Z,by rwa[I1],by rwa[I1],⟨by rwa[I1],λj x au=>?_⟩,(by intro e;cases e),λ_=>bh⟩;rcases IZ ew s 0 (k+1) j x au with⟨d,dI,rfl⟩|⟨l,cR,b,dI,rfl,dh,am⟩
   .have⟨p5,ai,W⟩:=z j _ dI;exact⟨p5,ai,.d _ _ W⟩
   .have⟨p5,ai,W⟩:=z j _ dI;have dc:=Cn.2 ⟨_,dh⟩;have aG:b≠k:=λe=>bj (e▸dc);simp at am;refine⟨p5,ai,?_⟩
    cases X:ew j with
    |none=>simp[X]at W;obtain⟨_,eb,rfl⟩:=W;exact .ib b eb (by rw[gq _ _ aG];simp[if_pos dc,am,X])
    |some cM=>simp[X]at W;obtain⟨fV,cap,C,eV,rfl,ao,av,ap,aB,aC,aD,aE,aF⟩:=W;rw[<-ao];exact .own b cM cap (by rw[gq _ _ aG];simp[if_pos dc,am,X]) (by rwa[ao]) (by rwa[av,ap])
  have bo:=aN.new k (.box (mH (k+1) s) L) ⟨e3,us.size,us.size,1⟩ (.refl ac) (G e3 bf) bl λd7 ek a2 m=>⟨?_,Z,aN.closed m⟩
  .refine⟨_,e,ac,_,x5 E G,s1.trans s2,fh,de.trans (zU ae G),by rwa[ay,<-bk],λb E=>?_,?_⟩
   .have E:ha k b=L:=E;have aG:=E7 E;rw[gq _ _ aG]
    by_cases dc:b∈ng (hs (k+1) s)
    .have⟨B,ag⟩:=Cn.1 dc;have⟨af,aj,_⟩:=g _ ag;have aQ:=db b af aj;have:=Oj c_ aA aQ (Ik b);rw[this]at E;cases E
    .simp[cS dc]
   .refine .dS _ _ (by simp[aW.1];omega) λj x u au aq=>?_
    cases j with
    |zero=>
     simp at au
     have aq:IJ (U ⟨e3,0,cL⟩)=u:=by rw[ahY dw]at aq;simpa using aq
     subst au aq;have:=dZ.ptr (M:=ac) k 0 0 ⟨e3,us.size,us.size,1⟩ (gP (λb=>if b∈ng (hs (k+1) s) then U (qS ew 0 (k+1) s b) else D b) k (U (U ⟨e3,us.size,us.size,1⟩)));simpa using this
    |succ j=>simp at au;obtain⟨d,bm,rfl⟩:=au;refine VC (aW.2 j d u bm ?_);rw[Uk dw]at aq;simpa using aq
  .by_cases dc:d7∈ng (hs (k+1) s)
   .have⟨B,ag⟩:=Cn.1 dc;have⟨_,_,j,l,cR,ad,aa,J,an⟩:=g _ ag;simp only[if_pos dc]at m;simp only at J;rw[J]at m;simp at m;exact bi j ek m
   .simp[cS dc]at m;have:=Q.lt m;show ek.blk≠e3;omega
end
abbrev ep:c3:=.dm []
abbrev gr:c3:=.int .i64 0
abbrev hG:c3:=.bool L
abbrev vj:c3:=.str .empty
abbrev jD:c3:=.int .u8 0
abbrev nh:c3:=.int .u64 0
def lY(n:V):ic:=⟨.slice n,1,24,[ep]⟩
def p_(n:V):ic:=⟨.ptr n,1,8,[.km]⟩
def oy(k:pT)(n:V):ic:=⟨.int k,1,n,[.int k 0]⟩
def gi(t:V)(dh:ic):kQ:=.node t dh .leaf .leaf
def mT(t:V)(dh:ic)(l:kQ):kQ:=.node t dh l .leaf
def CP:ic:=⟨.struct [(0,3),(1,3)],2,16,[gr,gr]⟩
def Gd:ic:=⟨.struct [(0,3),(1,3),(2,9)],3,32,[gr,gr,vj]⟩
def Pr:ic:=⟨.str,1,16,[vj]⟩
def XM:ic:=⟨.struct [(0,34),(1,41)],2,48,[ep,ep]⟩
def XN:ic:=⟨.struct [(0,40),(4,43),(6,44),(7,3)],8,160,[ep,ep,ep,ep,ep,ep,.km,gr]⟩
def XO:ic:=⟨.struct [(0,118),(1,3)],2,32,[ep,gr]⟩
def XP:ic:=⟨.struct [(0,121)],1,24,[ep]⟩
def XQ:ic:=⟨.struct [(0,120),(2,123),(3,124),(4,125)],5,104,[ep,gr,ep,ep,ep]⟩
def XR:ic:=⟨.struct [(0,127),(5,43),(7,3)],8,160,[ep,gr,ep,ep,ep,ep,ep,gr]⟩
def XS:ic:=⟨.struct [(0,47),(1,139)],4,40,[gr,gr,gr,vj]⟩
def XT:ic:=⟨.struct [(0,3),(1,116),(4,141),(8,3),(9,3),(10,3)],11,104,[gr,gr,gr,vj,gr,gr,gr,vj,gr,gr,gr]⟩
def XU:ic:=⟨.struct [(0,124)],1,24,[ep]⟩
def XV:ic:=⟨.struct [(0,3),(1,3),(2,158),(3,159)],4,64,[gr,gr,ep,ep]⟩
def XW:ic:=⟨.struct [(0,96),(1,4),(2,162)],3,56,[ep,hG,ep]⟩
def XX:ic:=⟨.struct [(0,166),(1,3),(2,4)],3,40,[ep,gr,hG]⟩
def XY:ic:=⟨.struct [(0,43),(2,3),(3,170)],4,80,[ep,ep,gr,ep]⟩
def XZ:ic:=⟨.struct [(0,168),(3,169),(4,172),(8,173)],9,168,[ep,gr,hG,ep,ep,ep,gr,ep,ep]⟩
def X0:ic:=⟨.struct [(0,157),(1,129),(9,161),(13,165),(64,175),(73,3),(74,136)],75,1400,[ep,ep,gr,ep,ep,ep,ep,ep,gr,gr,gr,ep,ep,ep,hG,ep,ep,hG,ep,ep,hG,ep,ep,hG,ep,ep,hG,ep,ep,hG,ep,ep,hG,ep,ep,hG,ep,ep,hG,ep,ep,hG,ep,ep,hG,ep,ep,hG,ep,ep,hG,ep,ep,hG,ep,ep,hG,ep,ep,hG,ep,ep,hG,ep,ep,gr,hG,ep,ep,ep,gr,ep,ep,gr,ep]⟩
def X1:ic:=⟨.struct [(0,3),(1,3),(2,4)],3,24,[gr,gr,hG]⟩
def X2:ic:=⟨.struct [(0,3),(1,9)],2,24,[gr,vj]⟩
def X3:ic:=⟨.struct [(0,39),(1,3),(2,3),(3,4),(4,4),(5,3),(6,3),(7,141)],11,104,[ep,gr,gr,hG,hG,gr,gr,gr,gr,gr,vj]⟩
def X4:ic:=⟨.struct [(0,3),(1,3),(2,3),(3,9),(4,3)],5,48,[gr,gr,gr,vj,gr]⟩
def X5:ic:=⟨.struct [(0,3),(1,3),(2,3),(3,9)],4,40,[gr,gr,gr,vj]⟩
def X6:ic:=⟨.struct [(0,3),(1,3),(2,96)],3,40,[gr,gr,ep]⟩
def X7:ic:=⟨.struct [(0,3),(1,3),(2,3)],3,24,[gr,gr,gr]⟩
def X8:ic:=⟨.struct [(0,3),(1,4)],2,16,[gr,hG]⟩
def X9:ic:=⟨.struct [(0,5),(1,5)],2,2,[jD,jD]⟩
def X_:ic:=⟨.struct [(0,4),(1,191)],3,32,[hG,gr,vj]⟩
def aka:kQ:=.node 12 (oy .u64 8) (.node 6 (oy .u8 1) (.node 4 ⟨.bool,1,1,[hG]⟩ (mT 3 (oy .i64 8) (gi 2 (oy .i64 8))) (gi 5 (oy .u8 1))) (.node 10 Pr (gi 9 Pr) (gi 11 Pr))) (.node 21 (oy .i32 4) (.node 16 (p_ 438) (gi 15 (p_ 435)) (gi 17 (p_ 445))) (.node 30 ⟨.arr 4 3,4,32,[gr,gr,gr,gr]⟩ (gi 26 (lY 5)) (gi 33 (lY 35))))
def akb:kQ:=.node 44 (p_ 177) (.node 40 ⟨.arr 4 39,4,96,[ep,ep,ep,ep]⟩ (.node 38 (p_ 46) (gi 35 (oy .u16 2)) (gi 39 (lY 116))) (.node 42 XM (gi 41 (lY 191)) (gi 43 XM))) (.node 50 (p_ 52) (.node 46 XN (gi 45 XN) (gi 47 (oy .i64 8))) (.node 62 (oy .u32 4) (gi 59 (oy .u64 8)) (gi 74 (p_ 64))))
def akc:kQ:=.node 118 (lY 180) (.node 105 (p_ 61) (.node 96 (lY 3) (mT 84 (oy .i64 8) (gi 82 (p_ 62))) (gi 101 (p_ 5))) (.node 115 Gd (gi 107 (p_ 59)) (gi 116 Gd))) (.node 122 XP (.node 120 XO (gi 119 XO) (gi 121 (lY 183))) (.node 124 (lY 139) (gi 123 XP) (gi 125 (lY 187))))
def akd:kQ:=.node 140 XS (.node 133 (lY 39) (.node 128 XR (gi 127 XQ) (gi 129 XR)) (.node 138 Gd (gi 136 (lY 143)) (gi 139 Gd))) (.node 144 XU (.node 142 XT (gi 141 XS) (gi 143 XT)) (.node 157 (lY 196) (gi 145 XU) (gi 158 (lY 308))))
def ake:kQ:=.node 168 XX (.node 164 XW (.node 162 (lY 315) (mT 161 XV (gi 160 XV)) (gi 163 XW)) (.node 166 (lY 278) (gi 165 ⟨.arr 17 164,51,952,[ep,hG,ep,ep,hG,ep,ep,hG,ep,ep,hG,ep,ep,hG,ep,ep,hG,ep,ep,hG,ep,ep,hG,ep,ep,hG,ep,ep,hG,ep,ep,hG,ep,ep,hG,ep,ep,hG,ep,ep,hG,ep,ep,hG,ep,ep,hG,ep,ep,hG,ep]⟩) (gi 167 XX))) (.node 172 XY (.node 170 (lY 264) (gi 169 (lY 173)) (gi 171 XY)) (.node 174 XZ (gi 173 (lY 211)) (gi 175 XZ)))
def akf:kQ:=.node 190 X2 (.node 182 CP (.node 179 X1 (gi 177 X0) (gi 180 X1)) (.node 186 CP (gi 183 CP) (gi 187 CP))) (.node 205 (p_ 196) (.node 195 X3 (gi 191 X2) (gi 196 X3)) (.node 211 X4 (gi 210 X4) (gi 215 (lY 351))))
def akg:kQ:=.node 303 CP (.node 278 X6 (.node 264 X5 (mT 263 X5 (gi 220 (lY 4))) (gi 277 X6)) (.node 287 (p_ 278) (gi 279 ⟨.arr 24 5,24,24,[jD,jD,jD,jD,jD,jD,jD,jD,jD,jD,jD,jD,jD,jD,jD,jD,jD,jD,jD,jD,jD,jD,jD,jD]⟩) (gi 302 CP))) (.node 315 X8 (.node 308 X7 (gi 307 X7) (gi 314 X8)) (.node 342 X9 (gi 341 ⟨.arr 256 5,256,256,eQ 256 jD⟩) (gi 343 X9)))
def akh:kQ:=.node 413 (oy .i64 8) (.node 356 ⟨.arr 65 5,65,65,eQ 65 jD⟩ (.node 351 X_ (gi 350 X_) (gi 355 ⟨.arr 20 59,20,160,[nh,nh,nh,nh,nh,nh,nh,nh,nh,nh,nh,nh,nh,nh,nh,nh,nh,nh,nh,nh]⟩)) (.node 410 ⟨.arr 32 5,32,32,eQ 32 jD⟩ (gi 377 (lY 170)) (gi 411 ⟨.arr 64 5,64,64,eQ 64 jD⟩))) (.node 439 (oy .u8 1) (.node 425 (p_ 3) (gi 422 (oy .u64 8)) (gi 430 (p_ 422))) (.node 442 (oy .i32 4) (gi 440 (oy .u8 1)) (gi 443 (oy .i32 4))))
def eN:kQ:=.node 159 (lY 303) (.node 76 (oy .u64 8) (.node 34 (lY 9) aka akb) (.node 126 XQ akc akd)) (.node 219 Gd (.node 176 X0 ake akf) (.node 344 ⟨.arr 16 343,32,32,eQ 32 jD⟩ akg akh))
def T:fM:=λt=>eN.get t
def sQ:jL cQ T:=λ_ k=>kQ.N8 cV k
section
open Go.ConcN (sumTo upd sumTo_upd upd_ne upd_same RelBy WgLive AsideCell)
open Go.ConcR (KK wgBlock WgAt stA smA rd wr mk DC0)
def mC(K:Touch->Prop)(e:hJ):Prop:=(∀x,(mD e).touch? =U x->K x) /\e.loc≠.mark .disable/\e.loc≠.mark .enable/\ ∀a,e.loc≠.mark (.release a)
theorem Ep{e m}(h:mD e=.mark m):e.loc=.mark m:=by
 have⟨l,w,s⟩:=e
 cases l<;>cases w<;>cases s<;>simp_all [mD]
theorem MY{K g fn pos es}(h:∀e∈es,mC K e):∀o∈g5 g fn pos es,∀a,o.act≠.mark (.release a):=by intro o c a e;obtain⟨x,b,rfl⟩:=zs c;exact(h x b).2.2.2 a (Ep e)
theorem EL{K g fn pos es}(h:∀e∈es,mC K e):∀o∈g5 g fn pos es,∀x,o.act.touch? =U x->K x:=by intro o c x a;obtain⟨y,b,rfl⟩:=zs c;exact(h y b).1 x a
theorem EM{K es}(h:∀e∈es,mC K e)(d):deafBehind d es=d:=deafBehind_still (λe a=>⟨(h e a).2.1,(h e a).2.2.1⟩) d
section
variable {c4:V->Prop} {Wg:V} {Rd:V->Prop} {c eU d1:V} {t:Trace}
theorem hr.m9(h:hr c4 Wg Rd c eU d1 t)(b:c≠0)(fn pos){es}(a:∀e∈es,mC (n8 c4 Wg Rd) e):hr c4 Wg Rd c eU d1 (t++g5 0 fn pos es):=
 h.app0 b lN (EL a) (MY a) (by rw[uJ,EM a,h.xE])
theorem hr.zc(h:hr c4 Wg Rd c eU d1 t)(b:c≠0)(fn pos){es}(a:∀e∈es,mC (wa c4 Wg Rd) e):hr c4 Wg Rd c eU d1 (t++g5 c fn pos es):=
 h.H1 b lN (EL a) (MY a) (by rw[uJ,EM a,h.rs])
theorem zu{g fn pos es}(m:∀e∈es,wb e=N):∀o∈g5 g fn pos es,o.act.touch? =cL/\ ∀a,o.act≠.mark (.release a):=by intro o d;obtain⟨e,h,rfl⟩:=zs d;refine⟨touch_mute (m e h),λa b=>?_⟩;have Q:=Ep b;have c:=m e h;have⟨l,w,s⟩:=e;simp only at Q;subst Q;simp[wb]at c
theorem hr.xH(h:hr c4 Wg Rd c eU d1 t){i}(cW:i≠0)(cK:i≠c)(fn pos){es}(m:∀e∈es,wb e=N):hr c4 Wg Rd c eU d1 (t++g5 i fn pos es):=
 h.idle (λo a=>(zu m o a).1) (λo a=>(zu m o a).2) T4 (by rw[v' t cK _ lN,h.rs])
theorem hr.Uo(h:hr c4 Wg Rd c eU d1 t)(cW:c≠0)(fn pos){es}(m:∀e∈es,wb e=N):hr c4 Wg Rd c eU (deafBehind d1 es) (t++g5 c fn pos es):=
 h.idle (λo a=>(zu m o a).1) (λo a=>(zu m o a).2) T4 (by rw[uJ,h.rs])
structure hR(c4:V->Prop)(Wg:V)(Rd:V->Prop)(c:V)(eU d1:V)(t:Trace):Prop where
 h6:hr c4 Wg Rd c eU d1 t
 rel:∃r,RelBy (stA Wg) t c r
theorem MZ{a k r}(h:RelBy a t k r)(i fn pos){es}(d6:∀e∈es,wb e=N):RelBy a (t++g5 i fn pos es) k r:=by
 by_cases cK:i=k
 .subst cK;exact h.appOwn fn pos es λj e he=>.inl (touch_mute (d6 e (EN he)))
 .exact h.appOther lN cK
theorem hR.m9(h:hR c4 Wg Rd c eU d1 t)(a:c≠0)(fn pos){es}(b:∀e∈es,mC (n8 c4 Wg Rd) e):hR c4 Wg Rd c eU d1 (t++g5 0 fn pos es):=
 ⟨h.h6.m9 a fn pos b,h.rel.imp λr d=>d.appOther lN (Ne.symm a)⟩
theorem hR.book(h:hR c4 Wg Rd c eU d1 t)(b:c≠0)(fn pos){es}(d:∀o∈g5 0 fn pos es,∀x,o.act.touch? =U x->n8 c4 Wg Rd x)(dQ:∀e∈es,∀a,e.loc≠.mark (.release a)):hR c4 Wg Rd c (deafBehind eU es) d1 (t++g5 0 fn pos es):=
 ⟨h.h6.app0 b lN d (λo xx a e=>HE) (by rw[uJ,h.h6.xE]),h.rel.imp λr dQ=>dQ.appOther lN (Ne.symm b)⟩
theorem hr.book(h:hr c4 Wg Rd c eU d1 t)(b:c≠0)(fn pos){es}(d:∀o∈g5 0 fn pos es,∀x,o.act.touch? =U x->n8 c4 Wg Rd x)(dQ:∀e∈es,∀a,e.loc≠.mark (.release a)):hr c4 Wg Rd c (deafBehind eU es) d1 (t++g5 0 fn pos es):=
 h.app0 b lN d (λo xx a e=>HE) (by rw[uJ,h.xE])
theorem hR.xH(h:hR c4 Wg Rd c eU d1 t){i}(cW:i≠0)(cK:i≠c)(fn pos){es}(m:∀e∈es,wb e=N):hR c4 Wg Rd c eU d1 (t++g5 i fn pos es):=
 ⟨h.h6.xH cW cK fn pos m,h.rel.imp λr a=>MZ a i fn pos m⟩
def ln(c4:V->Prop)(Wg:V)(Rd:V->Prop)(c:V)(eU:V)(t:Trace):Prop:=∃d1,hR c4 Wg Rd c eU d1 t
theorem ln.mute(h:ln c4 Wg Rd c eU t)(a:c≠0){i}(cW:i≠0)(fn pos){es}(m:∀e∈es,wb e=N):ln c4 Wg Rd c eU (t++g5 i fn pos es):=by
 have⟨d1,h⟩:=h
 by_cases cK:i=c
 .subst cK;exact⟨_,h.h6.Uo a fn pos m,h.rel.imp λr b=>MZ b i fn pos m⟩
 .exact⟨d1,h.xH cW cK fn pos m⟩
end
def BE(Wg:V)(x:Touch):Prop:=sv (·=Wg) x.loc/\x.kind≠.plain
theorem BE.fit{c4 Wg Rd}(cU:¬Rd Wg){x}(h:BE Wg x):n8 c4 Wg Rd x:=
 ⟨λ_=>h.2,λ_=>h.2,λ_ ⟨a,e,r⟩=>by obtain⟨⟨b,c,io⟩,_⟩:=h;simp_all⟩
def hS(Wg:V)(w w':da)(es:d' hJ):Prop:=w'=w/\ ∀e∈es,mC (BE Wg) e
theorem Tv{Wg}(a)(d:a.block=Wg)(b):mC (BE Wg) ⟨.cell a,b,N⟩:=
 ⟨λx c=>by
  cases b<;>simp[mD,lo]at c<;>subst c<;>exact⟨⟨a,Z,d⟩,dw⟩,dw,dw,dw⟩
theorem M0{Wg g fn pos}:∀op∈g5 g fn pos (semEvents (smA Wg)),∀x,op.act.touch? =U x->sv (·=Wg) x.loc/\x.kind=.atomic:=by
 intro op b x a;obtain⟨e,he,rfl⟩:=zs b;simp[semEvents]at he;rcases he with rfl|rfl|rfl|rfl
 .cases a
 .simp[mD,lo]at a;subst a;exact⟨⟨_,Z,Z⟩,Z⟩
 .simp[mD,lo]at a;subst a;exact⟨⟨_,Z,Z⟩,Z⟩
 .cases a
theorem Up{Wg}:∀e∈semEvents (smA Wg),∀a,e.loc≠.mark (.release a):=by intro e he a;simp[semEvents]at he;grind
theorem EO{g fn pos m}{K:Touch->Prop}(b:(MemAct.mark m).touch? =cL):∀o∈g5 g fn pos #[mk m],∀x,o.act.touch? =U x->K x:=by intro o c x a;obtain⟨e,h,rfl⟩:=zs c;simp[mk]at h;subst h;simp[mD]at a;simp_all
theorem EP{m}(b:∀a,m≠.release a):∀e∈#[mk m],∀a,e.loc≠.mark (.release a):=by intro e h a;simp[mk]at h;simp_all
section
variable (P:en) (dn:eF) (Wg:V) (cU:da->da->Prop) (eP:dP->da->Prop)
def Uq(g:dP)(w:da):Prop:=g.status=.running/\ ∃g',stepG P N g w=.go g' w #[mk (.acquire (stA Wg))] /\eP g' w
def BF(g:dP)(w:da):Prop:=g.status=.running/\ ∃g',stepG P N g w=.go g' w #[mk .enable] /\dR P N cU (hS Wg) (Uq P Wg eP) g' w
def M1(g:dP)(w:da):Prop:=g.status=.running/\ (gF dn Wg w 0 0->∃g',stepG P N g w=.go g' w #[rd (stA Wg)] /\dR P N cU (hS Wg) (BF P Wg cU eP) g' w)
def xI(g:dP)(w:da):Prop:=
 g.status=.running/\g.offers=cL/\ ((∃st,gF dn Wg w st 0)->stepG P N g w=.go {g with status:=.blocked} w #[]) /\
  (gF dn Wg w 0 1->∃g',stepG P N g w=.go g' (w.setCell (smA Wg) (.int .u32 0)) (semEvents (smA Wg)) /\dR P N cU (hS Wg) (M1 P dn Wg cU eP) g' (w.setCell (smA Wg) (.int .u32 0)))
def M2(gC:dP->da->Prop)(g:dP)(w:da):Prop:=
 g.status=.running/\
  (gF dn Wg w KK 0->∃g',stepG P N g w=.go g' (w.setCell (stA Wg) (.int .u64 (KK+1))) #[rd (stA Wg),wr (stA Wg)] /\dR P N cU (hS Wg) (xI P dn Wg cU eP) g' (w.setCell (stA Wg) (.int .u64 (KK+1)))) /\
  (gF dn Wg w 0 0->∃g',stepG P N g w=.go g' w #[rd (stA Wg)] /\dR P N cU (hS Wg) gC g' w)
def sx(gC:dP->da->Prop)(g:dP)(w:da):Prop:=
 g.status=.running/\
  (gF dn Wg w KK 0->∃g',stepG P N g w=.go g' w #[rd (stA Wg)] /\dR P N cU (hS Wg) (M2 P dn Wg cU eP gC) g' w) /\
  (gF dn Wg w 0 0->∃g',stepG P N g w=.go g' w #[rd (stA Wg)] /\dR P N cU (hS Wg) (BF P Wg cU eP) g' w)
def H6(gC:dP->da->Prop)(g:dP)(w:da):Prop:=g.status=.running/\ ∃g',stepG P N g w=.go g' w #[mk .disable] /\dR P N cU (hS Wg) gC g' w
end
section
variable {P:en} {dn:eF} {Wg c:V} {c4 Rd:V->Prop} {cU:da->da->Prop} {eP:dP->da->Prop} {dO:dr->da->Prop}
theorem kc{eU eX}(a:c≠0)(W:∀w d,eX w->eX (w.at d)):wc 0 (ln c4 Wg Rd c eU) eX:=⟨λT i fn pos es h cW _ m=>h.mute a cW fn pos m,W⟩
theorem zv{eU eX}(f:c≠0)(cU:¬Rd Wg):tn 0 (ln c4 Wg Rd c eU) eX (hS Wg):=λT fn pos es w w' h hw cP=>by
 obtain⟨rfl,b⟩:=cP;exact⟨h.imp λd1 h=>h.m9 f fn pos λe d=>⟨λx a=>((b e d).1 x a).fit cU,(b e d).2⟩,hw⟩
variable (P dn Wg c c4 Rd cU eP dO) in
structure xJ:Prop where
 e3:c≠0
 rd:¬Rd Wg
 mE:me cU
 set:∀w x,(∃st kd,gF dn Wg w st kd)->cU w (w.setCell (stA Wg) (.int .u64 x))
 Ur:∀w x,(∃st kd,gF dn Wg w st kd)->cU w (w.setCell (smA Wg) (.int .u32 x))
 fin:∀c1 sl T q g w,c1[0]?=U g->e5 P 0 c1 T q->kK (λb=>c4 b\/b=Wg) 0 T->eP g w->fa P dO (crowd c1 w sl) T
theorem oR{M T c1 w w' sl g g' es}(s:stepT P M=runT P (crowd c1 w sl) 0)(cW:c1[0]?=U g)(h:stepG P N g w=.go g' w' es)
  (k:fa P dO (crowd ((c1.map (woken P g g' w')).setIfInBounds 0 g') w' sl) (T++g5 0 g.frame.fn g.frame.place es)):fa P dO M T:=
 fa.step (s.trans (wh (P:=P) (sl:=sl) (i:=0) cW (show stepG P (0==0) g w=_ from h))) k
theorem iy{c1:d' dP}{g}(cW:c1[0]?=U g):0<c1.size:=(kL.1 cW).1
theorem EQ(g fn pos e):g5 g fn pos #[e]=#[{g,fn,pos,act:=.ofEvent e}]:=by simp[g5]
theorem agb (de:xJ P dn Wg c c4 Rd cU eP dO) {a} {w} (h:dR P N cU (hS Wg) (Uq P Wg eP) a w) (c1) (sl) (T) (q) (cW:c1[0]?=U a) (O:e5 P 0 c1 T q) (cT:ln c4 Wg Rd c 0 T):fa P dO (crowd c1 w sl) T:=by refine tp (mf:=default) (c:=0) (cM:=ln c4 Wg Rd c 0) (eX:=fun _=>True) (kc de.e3 fun _ _ h=>h) de.mE (zv de.e3 de.rd) (fun _ _ h=>h.1) (fun M T g c1 w sl q s cW O _ cT _ d=>have⟨_,g',o,f⟩:=d;have⟨d1,cT⟩:=cT;have⟨r,b⟩:=cT.rel;oR s cW o (de.fin _ _ _ q g' w (i4 (iy cW)) (O.own (.inl Z) (iy cW) _ _ _) ?_ f)) h c1 sl T q cW O (fun h=>dN h R) cT dM;rw [EQ];exact cT.h6.acquire de.e3 b g_
theorem Us (de:xJ P dn Wg c c4 Rd cU eP dO) {a} {w} (h:dR P N cU (hS Wg) (BF P Wg cU eP) a w) (c1) (sl) (T) (q) (cW:c1[0]?=U a) (O:e5 P 0 c1 T q) (cT:ln c4 Wg Rd c 1 T):fa P dO (crowd c1 w sl) T:=by exact tp (mf:=default) (c:=0) (cM:=ln c4 Wg Rd c 1) (eX:=fun _=>True) (kc de.e3 fun _ _ h=>h) de.mE (zv de.e3 de.rd) (fun _ _ h=>h.1) (fun M T g c1 w sl q s cW O _ cT _ b=>have⟨_,g',o,f⟩:=b;have⟨d1,cT⟩:=cT;oR s cW o (agb de f _ _ _ q (i4 (iy cW)) (O.own (.inl Z) (iy cW) _ _ _) ⟨d1,cT.book de.e3 _ _ (es:=#[mk .enable]) (EO Z) (EP dw)⟩)) h c1 sl T q cW O (fun h=>dN h R) cT dM
theorem agc (de:xJ P dn Wg c c4 Rd cU eP dO) {a} {w} (h:dR P N cU (hS Wg) (M1 P dn Wg cU eP) a w) (c1) (sl) (T) (q) (cW:c1[0]?=U a) (b:e5 P 0 c1 T q) (cT:ln c4 Wg Rd c 1 T) (hw:gF dn Wg w 0 0):fa P dO (crowd c1 w sl) T:=by exact tp (mf:=default) (c:=0) (cM:=ln c4 Wg Rd c 1) (eX:=fun w=>gF dn Wg w 0 0) (kc de.e3 fun _ _ h=>h) de.mE (zv de.e3 de.rd) (fun _ _ h=>h.1) (fun M T g c1 w sl q d cW b _ cT hw c'=>have⟨_,c'⟩:=c';have⟨g',f,ee⟩:=c' hw;oR d cW f (Us de ee _ _ _ q (i4 (iy cW)) (b.own (.inl Z) (iy cW) _ _ _) (cT.imp fun d1 h=>h.m9 de.e3 _ _ fun e he=>Mr))) h c1 sl T q cW b (fun h=>dN h R) cT hw
theorem agd (de:xJ P dn Wg c c4 Rd cU eP dO) {a} {w} (h:dR P N cU (hS Wg) (xI P dn Wg cU eP) a w) (c1) (sl) (T) (q) (cW:c1[0]?=U a) (b:e5 P 0 c1 T q) (cT:ln c4 Wg Rd c 1 T) (hw:gF dn Wg w 0 1):fa P dO (crowd c1 w sl) T:=by
 refine tp (mf:=default) (c:=0) (cM:=ln c4 Wg Rd c 1) (eX:=fun w=>gF dn Wg w 0 1) (kc de.e3 fun _ _ h=>h) de.mE (zv de.e3 de.rd) (fun _ _ h=>h.1) (fun M T g c1 w sl q f cW b _ cT hw c'=>have⟨_,_,_,c'⟩:=c';have⟨g',i,ee⟩:=c' hw;oR f cW i (agc de ee _ _ _ q (i4 (iy cW)) (b.own (.inl Z) (iy cW) _ _ _) (cT.imp fun d1 h=>?_) (hw.setSm 0))) h c1 sl T q cW b (fun h=>dN h R) cT hw;have:=h.book de.e3 g.frame.fn g.frame.place (es:=semEvents (smA Wg)) (fun op d x e=>BE.fit de.rd ⟨(M0 op d x e).1,by rw [(M0 op d x e).2];simp⟩) Up
 assumption
variable {gC:dP->da->Prop}
theorem M3 (de:xJ P dn Wg c c4 Rd cU eP dO) {a} {w} (h:dR P N cU (hS Wg) (sx P dn Wg cU eP gC) a w) (c1) (sl) (T) (q) (cW:c1[0]?=U a) (b:e5 P 0 c1 T q) (cT:ln c4 Wg Rd c 1 T) (hw:gF dn Wg w 0 0):fa P dO (crowd c1 w sl) T:=by exact tp (mf:=default) (c:=0) (cM:=ln c4 Wg Rd c 1) (eX:=fun w=>gF dn Wg w 0 0) (kc de.e3 fun _ _ h=>h) de.mE (zv de.e3 de.rd) (fun _ _ h=>h.1) (fun M T g c1 w sl q d cW b _ cT hw c'=>have⟨_,_,c'⟩:=c';have⟨g',f,ee⟩:=c' hw;oR d cW f (Us de ee _ _ _ q (i4 (iy cW)) (b.own (.inl Z) (iy cW) _ _ _) (cT.imp fun d1 h=>h.m9 de.e3 _ _ fun e he=>Mr))) h c1 sl T q cW b (fun h=>dN h R) cT hw
theorem age (de:xJ P dn Wg c c4 Rd cU eP dO) (d:∀ g w,gC g w->dR P N cU (hS Wg) (sx P dn Wg cU eP gC) g w) {a} {w} (h:dR P N cU (hS Wg) (M2 P dn Wg cU eP gC) a w) (c1) (sl) (T) (q) (cW:c1[0]?=U a) (b:e5 P 0 c1 T q) (cT:ln c4 Wg Rd c 1 T) (hw:gF dn Wg w 0 0):fa P dO (crowd c1 w sl) T:=by exact tp (mf:=default) (c:=0) (cM:=ln c4 Wg Rd c 1) (eX:=fun w=>gF dn Wg w 0 0) (kc de.e3 fun _ _ h=>h) de.mE (zv de.e3 de.rd) (fun _ _ h=>h.1) (fun M T g c1 w sl q f cW b _ cT hw c'=>have⟨_,_,c'⟩:=c';have⟨g',i,ee⟩:=c' hw;oR f cW i (M3 de (ee.bind de.mE.refl d) _ _ _ q (i4 (iy cW)) (b.own (.inl Z) (iy cW) _ _ _) (cT.imp fun d1 h=>h.m9 de.e3 _ _ fun e he=>Mr) hw)) h c1 sl T q cW b (fun h=>dN h R) cT hw
theorem Ut (de:xJ P dn Wg c c4 Rd cU eP dO) (d:∀ g w,gC g w->dR P N cU (hS Wg) (sx P dn Wg cU eP gC) g w) {a} {w} (h:dR P N cU (hS Wg) (H6 P Wg cU gC) a w) (c1) (sl) (T) (q) (cW:c1[0]?=U a) (b:e5 P 0 c1 T q) (cT:ln c4 Wg Rd c 0 T) (hw:gF dn Wg w 0 0):fa P dO (crowd c1 w sl) T:=by exact tp (mf:=default) (c:=0) (cM:=ln c4 Wg Rd c 0) (eX:=fun w=>gF dn Wg w 0 0) (kc de.e3 fun _ _ h=>h) de.mE (zv de.e3 de.rd) (fun _ _ h=>h.1) (fun M T g c1 w sl q e cW b _ cT hw c'=>have⟨_,g',f,ee⟩:=c';oR e cW f (M3 de (ee.bind de.mE.refl d) _ _ _ q (i4 (iy cW)) (b.own (.inl Z) (iy cW) _ _ _) (cT.imp fun d1 h=>h.book de.e3 _ _ (es:=#[mk .disable]) (EO Z) (EP dw)) hw)) h c1 sl T q cW b (fun h=>dN h R) cT hw
