/- What is proved here: what functions of the program compute, and what follows; no condition beyond each theorem's own. -/
import Derived.Below
import Derived.Calls
import Derived.Conc.Beside
import Derived.Conc.CompanyDraw
import Derived.Conc.CrowdStepW
import Derived.Conc.CrowdTrace
import Derived.Conc.EventLaws2
import Derived.Laws.StructEq
import Derived.Test.YtfnijfdfhgpimaaGreatDoorProg
import Derived.WalkKit
set_option linter.all false
noncomputable section
set_option maxHeartbeats 0
open Array renaming getD->my,getElem?_append_left->agF,getElem?_append_right->Th,replicate->kx
open BitVec renaming ofInt->qv
open Bool renaming false->L,true->N
open ByteArray renaming empty->fI
open Go renaming Act->e7,Addr->gP,Event->hB,Frame->gS,FuncId->ig,Goroutine->dN,HappensBefore->G',IntKind->pK,Oper->gC,Operand->fu,Program->el,ResultVar->xs,Trace->j1,TypeId->eH,Value->dp,World->c',binOp->jo,fieldPlace->Ux,run_equalIn_bool->Uu,step->Tj
open Go.BoundsCode renaming index->aga
open Go.Conc renaming Deaf_append->Tg,getElem?_append_cases->aeL,handedOver_app->aeN,noRace_append->Td
open Go.ConcR renaming WgAt->gu
open Go.Deferred renaming ofValue->sd
open Go.Event renaming mute->vK
open Go.Exit renaming inBlock->Mc
open Go.GStep renaming goes->LW
open Go.Instr renaming build->zc,buildSlice->HV,extract->MX,field->MW,fieldAt->EG,index->Ev,indexAt->qA,loadAt->sc,slice->xu,sliceAt->m1,sliceBound->Bs,sliceBounds->pT,sureAddr->lA
open Go.MemAct renaming ofEvent->mq,touch?->k6
open Go.MemOp renaming ofEvents->gR
open Go.Op renaming eqFields->Uv,equal->EF,equalIn->n2,intDiv->Ng,maxDepth->Uw
open Go.Proofs.Tryz renaming prog->cR
open Go.Region renaming ready->ms,wanted->jf
open Go.Region.linearise renaming go->Mh
open Go.Trace renaming g?->Hc
open Go.Unsupported renaming noEntry->av8
open Go.Value renaming pointer->HY
open Go.World renaming cell?->j3
open List renaming getElem?_cons_succ->UL,range->iB,rec->T9,replicate->eL
open Nat renaming beq->d2,ble->hn,blt->xq,min->ut,strongRecOn->s6
open Option renaming bind_some->agy,none->cM,some->U
open _root_ renaming Array->ea,Bool->dh,ByteArray->dS,Decidable->qu,False->dA,Fin->eK,Int->I,List->J,Nat->V,Option->dB,absurd->dQ,false_implies->LX,imp_self->LY,rfl->Z,trivial->dU
namespace Go.Lk
def yU:=@Array.getElem?_eq_getElem
def kv:=@Array.getElem?_eq_some_iff
def AW:=@Array.getElem?_map
def q8:=@Array.getElem?_setIfInBounds_ne
def DU:=@Array.mem_of_getElem?
def lB:=@Bool.and_eq_true
def BC:=@Bool.eq_iff_iff
def rh:=@Bool.false_eq_true
def lv:=@Classical.byContradiction
def zi:=@ByteArray.toList_eq
def vI:=@Conc.Deaf_other
def uj:=@Conc.Deaf_own
def q9:=@Conc.awake_of
def DQ:=@Conc.crowd_pick
def D4:=@Conc.enter_at
def xc:=@Conc.g?_old
def yT:=@Conc.mem_ofEvents
def vN:=@Conc.runT_crowd_go
def Hp:=@Conc.stepG_enter
def g7:=@Result.andThen_ok
def jn:=@Sem.events_bind
def g2:=@Sem.run_bind
def hM:=@Sem.run_pure
def fv:=@run_underlying
def n0:=@List.all_eq_true
def zj:=@List.append_eq_nil_iff
def v':=@List.getElem?_append_left
def xD:=@List.getElem?_append_right
def uL:=@List.getElem?_cons_zero
def fe:=@List.getElem?_eq_getElem
def fM:=@List.getElem?_eq_some_iff
def iO:=@List.getElem?_map
def pW:=@List.length_cons
def Br:=@List.mapM_cons
def kD:=@List.map_cons
def h3:=@List.mem_append
def m3:=@List.mem_cons
def lD:=@List.mem_cons_of_mem
def mz:=@List.mem_cons_self
def h4:=@List.mem_map
def jg:=@List.mem_of_getElem?
def tm:=@List.nodup_cons
def EH:=@Nat.add_assoc
def qD:=@Nat.add_mul
def r_:=@Nat.ble_eq_true_of_le
def gs:=@Nat.eq_of_beq_eq_true
def Hf:=@Nat.eq_zero_or_pos
def ta:=@Nat.le_of_ble_eq_true
def xy:=@Nat.le_of_eq
def fB:=@Nat.le_refl
def fJ:=@Nat.le_trans
def jd:=@Nat.lt_or_ge
def mu:=@Nat.mod_lt
def l4:=@Nat.mul_le_mul_right
def AY:=@Nat.pos_of_ne_zero
def np:=@Nat.zero_add
def v9:=@Option.getD_some
def vH:=@Option.map_eq_some_iff
def jp:=@Option.map_some
def pM:=@Option.some.inj
def fx:=@Option.some.injEq
def jk:=@cond_false
def fE:=@cond_true
def EI:=@dif_pos
def qp:=@if_false
def cT:=@if_neg
def ni:=@if_true
section
variable {p:Prop}
def c2(h:p:=by kernel_rfl):p:=h
def R(h:p:=by omega):p:=h
def c1(h:p:=by decide):p:=h
def dt(h:p:=by simp):p:=h
def hd(h:p:=by simp;omega):p:=h
def w5(h:p:=by rw [List.map_append];rfl):p:=h
def o_(h:p:=by simpa using Q):p:=h
def GQ(h:p:=by obtain ⟨⟨d,rfl⟩,he⟩:=cP;exact ⟨h.yE dg fn pos he,⟨⟨hw.1.wg,hw.1.lc,hw.1.qk⟩,by first|trivial|exact iT.trans _ _ _ hw.2 (iT.draw _ _)⟩⟩):p:=h
def lV(h:p:=by simp only [];omega):p:=h
def rV(h:p:=by simpa using c5):p:=h
def GR(h:p:=by rw [List.length_take];omega):p:=h
def g0(h:p:=by cases h):p:=h
def iy(h:p:=by simp [eM]):p:=h
def Lr(h:p:=by simp only [nP,List.append_assoc];rfl):p:=h
def sZ(h:p:=by show 0+List.length _<=1000100;omega):p:=h
def lW(h:p:=by simp [execOp,gQ]):p:=h
def Ls(h:p:=by simp at he;subst he;exact ⟨fun x eC=>((So (stA Wg) rfl false).1 x eC).fit dc.rd,(So (stA Wg) rfl false).2⟩):p:=h
def Sp(h:p:=by rw [IntKind.wrap_i64];omega):p:=h
def oA(h:p:=by rw [<-fX];rfl):p:=h
def AJ(h:p:=by dsimp only;omega):p:=h
def GS(h:p:=by obtain ⟨x,eC,rfl⟩:=Go.Conc.mem_ofEvents w6;exact dI x eC a (Du e)):p:=h
def f0(h:p:=by rfl):p:=h
def rW(h:p:=by intro e;cases e):p:=h
def w7(h:p:=by rw [<-Array.toList_inj];exact dq):p:=h
def Dv(h:p:=by simp at he;rcases he with rfl|rfl<;>exact ⟨rfl,rfl⟩):p:=h
def GT(h:p:=by cases wr<;>cases Lt<;>simp [MemAct.ofEvent,MemAct.touch?] at eC):p:=h
def GU(h:p:=by simpa using eS):p:=h
def Sq(h:p:=by have t':=kr (eC▸gL x);rw [t'];simp [convert,run_underlying (vB cS c6),run_underlying (vB cS eM),Conv.intToInt]):p:=h
def GV(h:p:=by dsimp only;rw [List.length_append,List.length_singleton];omega):p:=h
def AK(h:p:=by simpa using h):p:=h
def AL(h:p:=by show 0+List.length _<=1000100;simp;omega):p:=h
def Lu(h:p:=by simp [IntKind.wrap,IntKind.bits,IntKind.signed]):p:=h
def yF(h:p:=by rw [<-Array.toList_inj];exact s0):p:=h
def Sr(h:p:=by simp [execOp, gQ, resolve, dg, invoke, builtin, ua, ub, lp, Builtin.cap_, run_underlying mn, goInt] at rX):p:=h
def Ss(h:p:=by have Dw:=aet w 9999 t e a mn;rw [<-dI] at Dw;simp [eqGuard,binOp,Op.equal,Op.maxDepth,Dw]):p:=h
def Su(h:p:=by simp [execOp, gQ, resolve, dg, invoke, builtin, ua, ub, lp, Builtin.cap_, run_underlying mn, goInt]):p:=h
def Sv(h:p:=by show 0+13+w.op.2.1.toNat*3=_;omega):p:=h
def Lv(h:p:=by rw [gB ee fun hb=>by cases hb with|own _ hb=>exact hb rfl];exact h):p:=h
def uc(h:p:=by simpa using c6):p:=h
def ql(h:p:=by simp at h):p:=h
def aeu(h:p:=by rw [jI];intro h;exact Sw _ (List.map_eq_nil_iff.1 h)):p:=h
def Lw(h:p:=by have:=h.fz;obtain ⟨s,c⟩:=d;simp only at this;subst this;rfl):p:=h
def w8(h:p:=by simpa using dL):p:=h
def GW(h:p:=by simpa using cK):p:=h
def GX(h:p:=by intro x y w;simp [eqGuard,binOp,Op.intCmp]):p:=h
def yG(h:p:=by simpa using cW):p:=h
def Sx(h:p:=by have e:s.data.toList.length=s.size:=Array.length_toList;rw [Sy] at e;exact e.symm):p:=h
def vC(h:p:=by simpa using dw):p:=h
def yH(h:p:=by simpa using dG):p:=h
def yI(h:p:=by rw [c5];decide):p:=h
def Sz(h:p:=by rw [lX eM,List.filterMap_append,List.map_append];simp [ud,c5];rfl):p:=h
def GY(h:p:=by simp [eqGuard,binOp,Op.intBits,pL]):p:=h
def SA(h:p:=by rw [gB ee fun hb=>by cases hb with|win _ _ _ _ hb=>exact hb rfl];exact h):p:=h
def SB(h:p:=by rw [gB ee fun hb=>by cases hb with|ptr _ _ _ hb=>exact hb rfl];exact h):p:=h
def yJ(h:p:=by simpa using hb):p:=h
def Lx(h:p:=by rw [Nat.add_mul,Nat.one_mul]):p:=h
def GZ(h:p:=by rw [List.length_set] at dL;exact dL):p:=h
def SC(h:p:=by cases wr<;>simp [MemAct.ofEvent,MemAct.touch?] at eC<;>exact eC.symm):p:=h
def SD(h:p:=by intro x y w;simp [eqGuard,binOp,Op.intCmp];rw [Bool.eq_iff_iff];simp):p:=h
def w9(h:p:=by subst cY;exact dg):p:=h
def Dx(h:p:=by simp [Builtin.zeroCells,vD]):p:=h
def vE(h:p:=by rw [e];simp):p:=h
def ue(h:p:=by simp [e]):p:=h
def w_(h:p:=by simp [gp];omega):p:=h
def AM(h:p:=by simp at c6;omega):p:=h
def SE(h:p:=by simp at eC;subst eC;rw [dq];exact ⟨rfl,by simp,by simp,by simp⟩):p:=h
def Ly(h:p:=by simp [cK]):p:=h
def aev(h:p:=by simp [fQ];omega):p:=h
def Lz(h:p:=by rw [List.take_length];rfl):p:=h
def uf(h:p:=by simp [o']):p:=h
def SF(h:p:=by intro x y w;simp [eqGuard,binOp,Op.shift,show ¬b<0 by omega]):p:=h
def LA(h:p:=by show (nQ.map f1).length+1<=1000;omega):p:=h
def AN(h:p:=by have:=c8.fA;omega):p:=h
def SG(h:p:=by simp [getObj,Sem.events,Sem.runT,h,Obj.isChan,-Sem.runT_eq]):p:=h
def SH(h:p:=by obtain ⟨v,w',r,d,k⟩:=dI c0 h₁;exact ⟨_,_,_,h.value r,d,k⟩):p:=h
def LB(h:p:=by simpa [List.mapM_cons,ks] using he):p:=h
def Dy(h:p:=by rw [h.len];exact cK):p:=h
def SI(h:p:=by obtain ⟨s,r,dw⟩:=Dz.1.lc;exact woken_recv_open x iz dw):p:=h
def LC(h:p:=by show l.length<=_;omega):p:=h
def aew(h:p:=by obtain ⟨w',r,d,k⟩:=dI c0 h₁;exact ⟨_,_,_,h.skip r,d,k⟩):p:=h
def SJ(h:p:=by simp only [List.length_append];omega):p:=h
def SK(h:p:=by have:=(o.hf.lt j DC).2.1;rw [o.rY] at this;exact this):p:=h
def LD(h:p:=by rintro rfl;simp [eu.one,cW] at h):p:=h
def DD(h:p:=by simpa using eM):p:=h
def SL(h:p:=by rw [v.held];exact v.yK (by omega)):p:=h
def aex(h:p:=by rw [DF eo];exact ug):p:=h
def DG(h:p:=by rw [hb];rfl):p:=h
def rZ(h:p:=by cases e):p:=h
def SM(h:p:=by simp at AO;subst AO;exact ways_recv_none dw DH):p:=h
def SN(h:p:=by first|exact .pure _|exact SO _ _ _):p:=h
def SP(h:p:=by intro x y w;simp [eqGuard,binOp,Op.stringOp,aey]):p:=h
def SQ(h:p:=by simpa using eC):p:=h
def yL(h:p:=by simpa using qm):p:=h
def LF(h:p:=by simp [eqGuard,binOp,Op.intArith]):p:=h
def LG(h:p:=by simp [zeroValue,typeInfo,yM,LH]):p:=h
def DI(h:p:=by simp [h]):p:=h
def aez(h:p:=by rw [SR.1];exact cY):p:=h
def SS(h:p:=by simp at eC;subst eC;rw [qn];exact Ne.symm dc.eT):p:=h
def SU(h:p:=by rw [Nat.pow_succ];omega):p:=h
def SV(h:p:=by unfold jx;split<;>omega):p:=h
def G0(h:p:=by simp [World.frozen?,LI]):p:=h
def SW(h:p:=by show (0:Int) <=0;decide):p:=h
def LJ(h:p:=by simpa using e):p:=h
def DJ(h:p:=by decide+kernel):p:=h
def SX(h:p:=by rw [Deaf_other t cW _ lq,h.xa]):p:=h
def SY(h:p:=by rw [cW] at cK;exact (Option.some.inj cK).symm):p:=h
def SZ(h:p:=by rw [List.forIn_nil];exact ed.at (.pure _)):p:=h
def S0(h:p:=by simp [eqGuard,binOp,Op.equal,Op.maxDepth,Dw]):p:=h
def G1(h:p:=by subst e;simp at hb):p:=h
def S1(h:p:=by rw [List.length_drop,yN];exact Nat.le_refl _):p:=h
def uh(h:p:=by cases eC):p:=h
def S2(h:p:=by show List.length _+1<=100;simp at LK⊢;omega):p:=h
def S3(h:p:=by exact dG):p:=h
def DK(h:p:=by rw [List.map_set]):p:=h
def S4(h:p:=by obtain ⟨⟨d,rfl⟩,_⟩:=cP;exact iT.draw _ _):p:=h
def AP(h:p:=by simpa using c_):p:=h
def S5(h:p:=by simpa using ui):p:=h
def LL(h:p:=by simp [List.mapM_cons,ks]):p:=h
def aeA(h:p:=by rw [Nat.pow_succ] at h;omega):p:=h
def G2(h:p:=by rw [h];rfl):p:=h
def S6(h:p:=by simpa using this):p:=h
def G3(h:p:=by simp [execOp,gQ,lp]):p:=h
def aeB(h:p:=by have:=c_.lt jJ;omega):p:=h
def AQ(h:p:=by simpa using k):p:=h
def aeC(h:p:=by simpa using g):p:=h
def S7(h:p:=by rw [List.length_map];omega):p:=h
def S8(h:p:=by rw [c6];rfl):p:=h
def LM(h:p:=by unfold World.setCell;simp):p:=h
def LN(h:p:=by rintro rfl;simp [cW] at h):p:=h
def DL(h:p:=by unfold kt;omega):p:=h
def G4(h:p:=by simp [r1] at h):p:=h
def AR(h:p:=by rw [vF];rfl):p:=h
def G5(h:p:=by rw [aeD];omega):p:=h
def aeE(h:p:=by show (0:Int) <=T+1;omega):p:=h
def yO(h:p:=by simp at cU):p:=h
def aeF(h:p:=by simpa using aeG):p:=h
def aeH(h:p:=by simpa using cP):p:=h
def S9(h:p:=by simpa using c7):p:=h
def S_(h:p:=by simpa using holds):p:=h
def LO(h:p:=by rw [DM];exact cK):p:=h
def G6(h:p:=by have:=h.g6;omega):p:=h
def G7(h:p:=by simp [eC]):p:=h
def LP(h:p:=by rw [hb];simp):p:=h
def aeI(h:p:=by simp [xb]):p:=h
def yP(h:p:=by cases q):p:=h
def AS(h:p:=by rw [e]):p:=h
def aeJ(h:p:=by simp [Q]):p:=h
def hg(h:p:=by exact ⟨rfl,rfl⟩):p:=h
def S'(h:p:=by exact ⟨rfl,rfl,rfl⟩):p:=h
def fj(h:p:=by exact ⟨rfl,rfl,rfl,rfl,trivial⟩):p:=h
def d0(h:p:=by exact ⟨rfl,rfl,rfl,rfl⟩):p:=h
def eJ(h:p:=by exact ⟨rfl,rfl,rfl,trivial⟩):p:=h
def eN(h:p:=by exact ⟨rfl,trivial⟩):p:=h
def mS(h:p:=by exact ⟨rfl,rfl,rfl,rfl,rfl,rfl,trivial⟩):p:=h
def ih(h:p:=by exact ⟨rfl,rfl,rfl,rfl,rfl,trivial⟩):p:=h
def lr(h:p:=by exact ⟨rfl,rfl,trivial⟩):p:=h
def yQ(h:p:=by exact ⟨rfl,rfl,rfl,rfl,rfl,rfl,rfl,rfl,rfl,trivial⟩):p:=h
def lY(h:p:=by exact ⟨rfl,rfl,rfl,rfl,rfl,rfl,rfl,rfl,trivial⟩):p:=h
def vG(h:p:=by exact ⟨rfl,rfl,rfl,rfl,rfl,rfl,rfl,trivial⟩):p:=h
def Ta(h:p:=by exact ⟨rfl,rfl,rfl,rfl,rfl,rfl,rfl,rfl,rfl,rfl,rfl,rfl,trivial⟩):p:=h
structure aeK (K:Prop):Prop where
 k:K
theorem e'{K G:Prop}(k:K)(h:aeK K->G:=by intro k;(conv=>whnf);(repeat((first|with_reducible refine pa ?_|with_reducible refine yR ?_|refine AT ?_|refine AU ?_|refine DN ?_|refine yS ?_|refine ec (by omega) ?_|refine kb (by omega) (by omega) ?_|refine dY (by assumption) ?_|refine dY rfl ?_|refine AV (by omega) (by omega) ?_|refine lZ (by rw [Tc];omega) ?_|refine df (by assumption) ?_|refine G8 ?_|refine G9 ?_|with_reducible refine LQ ?_);conv=>whnf));exact k.k):G:=h ⟨k⟩
end
inductive c3 where
 |int (k:pK) (n:I)
 |bool (b:dh)
 |str (s:dS)
 |dk (l:J (J c3))
 |ip (c:J c3) (j:V)
 |fn (f:ig) (cap:J c3)
 |ka
 |agg (c:J c3)
 |dP (c:J c3)
 |mm
def Ds{a b c}(h:a\/b)(f:b->c):a\/c:=h.elim .inl λq=>.inr (f q)
abbrev eE:=V->V->dB dp
inductive e1(M:eE):c3->dp->Prop
 |int (k:pK) (n:I):e1 M (.int k n) (.int k n)
 |bool (b:dh):e1 M (.bool b) (.bool b)
 |str (s:dS):e1 M (.str s) (.string s)
 |emp (a:dB gP) (cap:V):e1 M (.dk []) (.slice a 0 cap)
 |dk (l:J (J c3)) (b off cap cQ:V) (val:V->V->dp) (dw:l.length<=cap)
   (c7:∀(i:V) (e:J c3),l[i]?=U e->e.length=cQ)
   (d8:∀(i j:V) (e:J c3) (d:c3),l[i]?=U e->e[j]?=U d->M b (off+i*cQ+j)=U (val i j))
   (cP:∀(i j:V) (e:J c3) (d:c3),l[i]?=U e->e[j]?=U d->e1 M d (val i j)):
   e1 M (.dk l) (.slice (U ⟨b,off,cM⟩) l.length cap)
 |ip (c:J c3) (j b off:V) (val:V->dp)
   (d8:∀(i:V) (d:c3),c[i]?=U d->M b (off+i)=U (val i))
   (cP:∀(i:V) (d:c3),c[i]?=U d->e1 M d (val i)):e1 M (.ip c j) (.pointer (U ⟨b,off+j,cM⟩))
 |fn (f:ig) (cap:J c3) (vs:ea dp) (dw:vs.size=cap.length)
   (cP:∀(i:V) (d:c3) (v:dp),cap[i]?=U d->vs[i]?=U v->e1 M d v):e1 M (.fn f cap) (.func (.func f) #[] vs)
 |ka:e1 M .ka (.pointer cM)
 |agg (c:J c3) (vs:ea dp) (dw:vs.size=c.length)
   (cP:∀(i:V) (d:c3) (v:dp),c[i]?=U d->vs[i]?=U v->e1 M d v):e1 M (.agg c) (.agg vs)
 |dP (c:J c3) (vs:ea dp) (dw:vs.size=c.length)
   (cP:∀(i:V) (d:c3) (v:dp),c[i]?=U d->vs[i]?=U v->e1 M d v):e1 M (.dP c) (.tuple vs)
 |mm (v:dp):e1 M .mm v
def gJ(M a:eE):Prop:=∀(b o:V) (v:dp),M b o=U v->a b o=U v
def e1.mono{M m}(h:gJ M m){d v}(cP:e1 M d v):e1 m d v:=by
 induction cP with
 |int k n=>exact .int k n|bool b=>exact .bool b|str s=>exact .str s|emp a c=>exact .emp a c|dk l b off cap cQ val dw c7 d8 _ g=>exact .dk l b off cap cQ val dw c7 (λi j e d Q c5=>h _ _ _ (d8 i j e d Q c5)) g|ip c j b off val d8 _ g=>exact .ip c j b off val (λi d Q=>h _ _ _ (d8 i d Q)) g|fn f cap vs dw _ g=>exact .fn f cap vs dw g|ka=>exact .ka|agg c vs dw _ g=>exact .agg c vs dw g|dP c vs dw _ g=>exact .dP c vs dw g|mm v=>exact .mm v
inductive dn where
 |d (x:c3)
 |e4
 |fd
 |agg (c:J dn)
 |dP (c:J dn)
 |own (b:V)
 |ptr (b i j:V)
 |win (b dy n:V) (c:dB V)
 |nil
 |fn (f:ig) (cap:J dn)
 |dead
structure kR where
 blk:V
 cQ:V
 size:V
 len:V
abbrev gr:=V->dB (dB kR)
inductive d4 where
 |row (l:J (J c3)) (cQ:V) (cN:dh)
 |box (c:J dn) (cN:dh)
def g1(k b:V):dh:=bif hn 2000000 k&&d2 (k%8) 0 then d2 (b/8) (k/8) else d2 b k
def Hx(k):g1 k k=N:=by unfold g1;simp_all
def afH{k}(h:k<2000000)(b):g1 k b=d2 b k:=by
 unfold g1
 cases a:hn 2000000 k with|true=>have:=ta a;omega|false=>rfl
structure tb(k:V):Prop where
 out:∀b,g1 k b=d2 b k
def Ed{k b}(h:g1 k b=L):b≠k:=by rintro rfl;rw[Hx]at h;cases h
inductive dV(M:eE)(D:gr):dn->dp->Prop
 |d (x:c3) (v:dp) (h:e1 M x v):dV M D (.d x) v
 |e4:dV M D .e4 (.bool N)
 |fd:dV M D .fd (.bool L)
 |agg (c:J dn) (vs:ea dp) (dw:vs.size=c.length)
   (cP:∀(i:V) (x:dn) (v:dp),c[i]?=U x->vs[i]?=U v->dV M D x v):dV M D (.agg c) (.agg vs)
 |dP (c:J dn) (vs:ea dp) (dw:vs.size=c.length)
   (cP:∀(i:V) (x:dn) (v:dp),c[i]?=U x->vs[i]?=U v->dV M D x v):dV M D (.dP c) (.tuple vs)
 |own (b:V) (cL:kR) (cap:V) (h:D b=U (U cL)) (cY:cL.len<=cap) (dg:cap*cL.cQ<=cL.size):
   dV M D (.own b) (.slice (U ⟨cL.blk,0,cM⟩) cL.len cap)
 |h7 (b:V) (a:dB gP) (h:D b=U cM):dV M D (.own b) (.slice a 0 0)
 |ji (b:V) (v:dp) (h:D b=cM):dV M D (.own b) v
 |ptr (b i j:V) (cL:kR) (h:D b=U (U cL)):dV M D (.ptr b i j) (.pointer (U ⟨cL.blk,i*cL.cQ+j,cM⟩))
 |iV (b i j:V) (v:dp) (h:D b=cM):dV M D (.ptr b i j) v
 |win (b dy n:V) (c:dB V) (cL:kR) (k base:V) (h:D b=U (U cL)) (cY:n<=k) (dg:∀m,c=U m->k=m) (c6:(dy+k)*cL.cQ<=cL.size)
   (hb:base=dy*cL.cQ\/ (k=0/\0<dy)):dV M D (.win b dy n c) (.slice (U ⟨cL.blk,base,cM⟩) n k)
 |jj (b dy n:V) (c:dB V) (v:dp) (h:D b=cM):dV M D (.win b dy n c) v
 |nil (a:dB gP):dV M D .nil (.slice a 0 0)
 |fn (f:ig) (cap:J dn) (vs:ea dp) (dw:vs.size=cap.length)
   (cP:∀(i:V) (x:dn) (v:dp),cap[i]?=U x->vs[i]?=U v->dV M D x v):dV M D (.fn f cap) (.func (.func f) #[] vs)
 |dead (v:dp):dV M D .dead v
inductive ky(b:V):dn->Prop
 |d (x:c3):ky b (.d x)
 |e4:ky b .e4
 |fd:ky b .fd
 |agg (c:J dn) (h:∀x∈c,ky b x):ky b (.agg c)
 |dP (c:J dn) (h:∀x∈c,ky b x):ky b (.dP c)
 |own (d7:V) (h:d7≠b):ky b (.own d7)
 |ptr (d7 i j:V) (h:d7≠b):ky b (.ptr d7 i j)
 |win (d7 dy n:V) (c:dB V) (h:d7≠b):ky b (.win d7 dy n c)
 |nil:ky b .nil
 |fn (f:ig) (c:J dn) (h:∀x∈c,ky b x):ky b (.fn f c)
 |dead:ky b .dead
def dV.mono{M g D}(h:gJ M g){x v}(cP:dV M D x v):dV g D x v:=by
 induction cP with
 |d x v l=>exact .d x v (l.mono h)|e4=>exact .e4|fd=>exact .fd|agg c vs dw _ e=>exact .agg c vs dw e|dP c vs dw _ e=>exact .dP c vs dw e|own b cL cap h cY dg=>exact .own b cL cap h cY dg|h7 b a h=>exact .h7 b a h|ji b v h=>exact .ji b v h|ptr b i j cL h=>exact .ptr b i j cL h|iV b i j v h=>exact .iV b i j v h|win b dy n c cL k base h cY dg c6 hb=>exact .win b dy n c cL k base h cY dg c6 hb|jj b dy n c v h=>exact .jj b dy n c v h|nil a=>exact .nil a|fn f cap vs dw _ e=>exact .fn f cap vs dw e|dead v=>exact .dead v
def dV.Ba{M D eg}{S:V->Prop}(g:∀b,S b->eg b=D b){x v}(cP:dV M D x v)(ee:∀b,¬S b->ky b x):dV M eg x v:=by
 have gB:∀ {b:V} {x:dn},(∀b,¬S b->ky b x)->(¬ky b x)->eg b=D b:=fun {b x} h Q=>lv λcY=>Q (h b λc7=>cY (g b c7))
 induction cP with
 |d x v l=>exact .d x v l|e4=>exact .e4|fd=>exact .fd|agg c vs dw _ e=>exact .agg c vs dw λi x v Q c5=>e i x v Q c5 λb hb=>by cases ee b hb with|agg _ ee=>grind
 |dP c vs dw _ e=>exact .dP c vs dw λi x v Q c5=>e i x v Q c5 λb hb=>by cases ee b hb with|dP _ ee=>grind
 |own d7 cL cap h cY dg=>exact .own d7 cL cap Lv cY dg|h7 d7 a h=>exact .h7 d7 a Lv|ji d7 v h=>exact .ji d7 v Lv|ptr d7 i j cL h=>exact .ptr d7 i j cL SB|iV d7 i j v h=>exact .iV d7 i j v SB|win d7 dy n c cL k base h cY dg c6 m=>exact .win d7 dy n c cL k base SA cY dg c6 m|jj d7 dy n c v h=>exact .jj d7 dy n c v SA|nil a=>exact .nil a|fn f cap vs dw _ e=>exact .fn f cap vs dw λi x v Q c5=>e i x v Q c5 λb hb=>by cases ee b hb with|fn _ _ ee=>grind
 |dead v=>exact .dead v
def y4(b:V)(x:dn):Prop:=∀d7,g1 b d7=N->ky d7 x
def dV.uk{M D eg b}(c:∀a,g1 b a=L->eg a=D a){x v}(cP:dV M D x v)(f:y4 b x):dV M eg x v:=
 cP.Ba (S:=λa=>g1 b a=L) c λa hb=>f a yJ
def eu(b:V):dn->dn
 | .own d7=>bif g1 b d7 then .dead else .own d7
 | .ptr d7 i j=>bif g1 b d7 then .dead else .ptr d7 i j
 | .win d7 dy n c=>bif g1 b d7 then .dead else .win d7 dy n c
 | .d x=>.d x
 | .e4=>.e4
 | .fd=>.fd
 | .nil=>.nil
 | .agg c=>bif names b c then .dead else .agg c
 | .dP c=>bif parts b c then .dead else .dP c
 | .fn f c=>bif names b c then .dead else .fn f c
 | .dead=>.dead
 where
 names (b:V):J dn->dh
  | []=>L
  |x::r=>bif one b x then N else names b r
 one (b:V):dn->dh
  | .own d7=>g1 b d7
  | .ptr d7 _ _=>g1 b d7
  | .win d7 _ _ _=>g1 b d7
  | .d _=>L
  | .e4=>L
  | .fd=>L
  | .nil=>L
  | .dead=>L
  | .agg _=>N
  | .dP _=>N
  | .fn _ _=>N
 part (b:V):dn->dh
  | .agg c=>names b c
  |x=>one b x
 parts (b:V):J dn->dh
  | []=>L
  |x::r=>bif part b x then N else parts b r
def T1{b x}(h:eu.one b x=L):y4 b x:=by
 intro e8 cW
 cases x with|own d7=>exact .own d7 LD|ptr d7 i j=>exact .ptr d7 i j LD|win d7 dy n c=>exact .win d7 dy n c LD|d x=>exact .d x|e4=>exact .e4|fd=>exact .fd|nil=>exact .nil|dead=>exact .dead|agg c=>simp[eu.one]at h|dP c=>simp[eu.one]at h|fn f c=>simp[eu.one]at h
def Hz{b}:∀ {c},eu.names b c=L->∀x∈c,y4 b x
 | [],_,_,h=>g0
 |y::r,h,x,a=>by
  simp only[eu.names]at h
  cases Q:eu.one b y with
  |true=>simp_all
  |false=>
   simp[Q,jk]at h
   cases a with
   |head=>exact T1 Q
   |tail _ a=>exact Hz h x a
def Mo{b}:∀ {c},eu.parts b c=L->∀x∈c,y4 b x
 | [],_,_,h=>g0
 |y::r,h,x,a=>by
  simp only[eu.parts]at h
  cases Q:eu.part b y with
  |true=>simp_all
  |false=>
   simp[Q,jk]at h
   cases a with
   |head=>
    cases y with
    |agg c=>exact λd7 hb=>.agg c λx a=>Hz Q x a d7 hb
    |_=>exact T1 Q
   |tail _ a=>exact Mo h x a
def Mp(b x):y4 b (eu b x):=by
 intro e8 cW
 cases x with
 |own d7=>
  simp[eu]
  cases h:g1 b d7 with|true=>exact .dead|false=>exact .own d7 LN
 |ptr d7 i j=>
  simp[eu]
  cases h:g1 b d7 with|true=>exact .dead|false=>exact .ptr d7 i j LN
 |win d7 dy n c=>
  simp[eu]
  cases h:g1 b d7 with|true=>exact .dead|false=>exact .win d7 dy n c LN
 |d x=>exact .d x|e4=>exact .e4|fd=>exact .fd|nil=>exact .nil|dead=>exact .dead
 |agg c=>
  simp[eu]
  cases h:eu.names b c with|true=>exact .dead|false=>exact .agg c λx a=>Hz h x a e8 cW
 |dP c=>
  simp[eu]
  cases h:eu.parts b c with|true=>exact .dead|false=>exact .dP c λx a=>Mo h x a e8 cW
 |fn f c=>
  simp[eu]
  cases h:eu.names b c with|true=>exact .dead|false=>exact .fn f c λx a=>Hz h x a e8 cW
def dV.eu {M:eE} {D:gr} {x:dn} {v:dp} (b:V) (h:dV M D x v):dV M D (eu b x) v:=by
 cases x with
 |own d7=>
  simp only [Lk.eu]
  cases g1 b d7 with
  |true=>exact .dead v
  |false=>exact h
 |ptr d7 i j=>
  simp only [Lk.eu]
  cases g1 b d7 with
  |true=>exact .dead v
  |false=>exact h
 |win d7 dy n c=>
  simp only [Lk.eu]
  cases g1 b d7 with
  |true=>exact .dead v
  |false=>exact h
 |d x=>exact h
 |e4=>exact h
 |fd=>exact h
 |nil=>exact h
 |dead=>exact h
 |agg c=>
  simp only [Lk.eu]
  cases eu.names b c with
  |true=>exact .dead v
  |false=>exact h
 |dP c=>
  simp only [Lk.eu]
  cases eu.parts b c with
  |true=>exact .dead v
  |false=>exact h
 |fn f c=>
  simp only [Lk.eu]
  cases eu.names b c with
  |true=>exact .dead v
  |false=>exact h
inductive nU where
 |int (k:pK)|bool|str|slice (e:eH)|arr (n:V) (e:eH)|struct (ir:J (V×eH))|ptr (e:eH)|other
structure h8 where
 k:nU
 size:V
 bytes:V
 zero:J c3
abbrev fL:=eH->h8
def nU.known:nU->dh
 | .other=>L
 |_=>N
def nU.agg:nU->dh
 | .arr _ _=>N
 | .struct _=>N
 |_=>L
structure fs where
 db:V->dn
 O:V->dB d4
def eO{α:Type}(f:V->α)(t:V)(v:α):V->α:=λs=>bif d2 s t then v else f s
structure ge where
 fl:dn
 wr:J (V×d4)
 f2:dB V
def mY(v:dn)(K:dn->Prop):Prop:=
 match v with
 | .d x=>K (.d x)
 | .e4=>K .e4
 | .fd=>K .fd
 | .agg c=>K (.agg c)
 | .dP c=>K (.dP c)
 | .own b=>K (.own b)
 | .ptr b i j=>K (.ptr b i j)
 | .win b dy n c=>K (.win b dy n c)
 | .nil=>K .nil
 | .fn f c=>K (.fn f c)
 | .dead=>dA
def qt(c:J dn)(K:J dn->Prop):Prop:=
 match c with
 | []=>K []
 |x::r=>mY x λx=>qt r λr=>K (x::r)
def vT:dp->dn
 | .int k n=>.d (.int k n)
 | .bool N=>.e4
 | .bool L=>.fd
 | .string s=>.d (.str s)
 | .slice cM 0 0=>.nil
 | .pointer cM=>.d .ka
 | .agg cs=>.agg (cells cs.toList)
 |_=>.dead
 where
 one:dp->dn
  | .int k n=>.d (.int k n)
  | .bool N=>.e4
  | .bool L=>.fd
  | .string s=>.d (.str s)
  | .slice cM 0 0=>.nil
  | .pointer cM=>.d .ka
  |_=>.dead
 cells:J dp->J dn
  | []=>[]
  |v::r=>one v::cells r
def iW(db:V->dn):fu->dn
 | .tmp t=>db t
 | .const v=>vT v
 | .global _=>.dead
 | .func f=>.d (.fn f [])
structure jy(b:dh)(A B:Prop):Prop where
 out:match b with|true=>A|false=>B
def y5{b A B}(Q:b=N->A)(h:b=L->B):jy b A B:=by
 cases b with|true=>exact⟨Q Z⟩|false=>exact⟨h Z⟩
def r7{b A B}(h:b=N)(Q:A):jy b A B:=by subst h;exact⟨Q⟩
def vU{b A B}(h:b=L)(Q:B):jy b A B:=by subst h;exact⟨Q⟩
def pc{p}[qu p]{A B}(Q:p->A)(a:¬p->B):jy (decide p) A B:=y5 (λh=>Q (of_decide_eq_true h)) (λh=>a (of_decide_eq_false h))
def Mq{p}[qu p]{A B}(Q:¬p->A)(a:p->B):jy (!decide p) A B:=
 y5 (λh=>Q AK) (λh=>a AK)
structure Ee(l:J (J c3))(i:V)(K:J c3->Prop):Prop where
 out:∃e,l[i]?=U e/\K e
def dY{l i K x}(h:l[i]?=U x)(k:K x):Ee l i K:=⟨⟨x,h,k⟩⟩
structure vV(k:pK)(n:I)(K:I->Prop):Prop where
 out:K (k.wrap n)
def lZ{k n K}(h:k.wrap n=n)(a:K n):vV k n K:=⟨by simp_all⟩
def y6{k n K}(h:K (k.wrap n)):vV k n K:=⟨h⟩
structure uq(i:I)(n:V)(K:V->Prop):Prop where
 out:0<=i/\i<n/\K i.toNat
def ec{i n:V}{K}(h:i<n)(c6:K i):uq (i) n K:=⟨⟨R,R,uc⟩⟩
def kb{i:I}{n:V}{K}(cW:0<=i)(h:i<n)(k:K i.toNat):uq i n K:=⟨⟨cW,h,k⟩⟩
structure vW(dy cK:dB I)(n:V)(K:V->V->Prop):Prop where
 out:0<=dy.getD 0/\dy.getD 0<=cK.getD n/\cK.getD n<=n/\K (dy.getD 0).toNat (cK.getD n).toNat
def oE{h n:V}{K}(c_:h<=n)(k:K 0 h):vW cM (U (h)) n K:=⟨⟨dt,dt,AP,AQ⟩⟩
def pd{l n:V}{K}(c_:l<=n)(k:K l n):vW (U (l)) cM n K:=⟨⟨dt,AP,dt,AQ⟩⟩
def Mr{l h n:V}{K}(dw:l<=h)(c_:h<=n)(k:K l h):vW (U (l)) (U (h)) n K:=⟨⟨dt,vC,AP,AQ⟩⟩
structure Bb(q:dh)(k:pK)(a b:I)(K:I->Prop):Prop where
 out:b≠0/\K (if q then k.wrap (a.tdiv b) else a.tmod b)
def AV{k a b K}(c:b≠0)(d:0<=a)(h:K (a%b)):Bb L k a b K:=⟨⟨c,by grind⟩⟩
def afI{k q a b K}(c:b≠0)(h:K (if q then k.wrap (a.tdiv b) else a.tmod b)):Bb q k a b K:=⟨⟨c,h⟩⟩
structure r8(n bytes:V)(K:Prop):Prop where
 out:n*bytes<=35184372088832/\n<=35184372088832/\K
def HA{n bytes K}(h:n*bytes<=35184372088832)(Q:n<=35184372088832)(k:K):r8 n bytes K:=⟨⟨h,Q,k⟩⟩
structure jL(c:Prop)(K:Prop):Prop where
 out:c/\K
def fC{c K}(h:c)(k:K):jL c K:=⟨⟨h,k⟩⟩
structure Bc(dy cK:dB I)(n c:V)(K:V->V->Prop):Prop where
 out:0<=dy.getD 0/\dy.getD 0<=cK.getD n/\cK.getD n<=c/\K (dy.getD 0).toNat (cK.getD n).toNat
def Bd{h n c:V}{K}(c_:h<=c)(k:K 0 h):Bc cM (U (h)) n c K:=⟨⟨dt,dt,AP,AQ⟩⟩
def ur{l n c:V}{K}(c_:l<=n)(a:n<=c)(k:K l n):Bc (U (l)) cM n c K:=⟨⟨dt,AP,by simp_all,AQ⟩⟩
def T2{l h n c:V}{K}(dw:l<=h)(c_:h<=c)(k:K l h):Bc (U (l)) (U (h)) n c K:=⟨⟨dt,vC,AP,AQ⟩⟩
def T3(c:dB V)(l:V):dB V:=
 match c with
 |some c=>U (c-l)
 |none=>cM
structure afJ(p A B:Prop):Prop where
 yes:p->A
 no:¬p->B
def j4:pK->V
 | .i8=>0| .i16=>1| .i32=>2| .i64=>3| .u8=>4| .u16=>5| .u32=>6| .u64=>7
def pL(op:BinOp)(k:pK)(a b:I):I:=
 k.wrap ((match op with
  | .and=>qv k.bits a&&& qv k.bits b
  | .or=>qv k.bits a|||BitVec.ofInt k.bits b
  | .xor=>qv k.bits a^^^qv k.bits b
  |_=>qv k.bits a&&& ~~~ qv k.bits b).toNat:I)
def Ms(op:BinOp)(k:pK)(a b:I)(K:dn->Prop):Prop:=
 match op with
 | .add=>vV k (a+b) λn=>K (.d (.int k n))
 | .sub=>vV k (a-b) λn=>K (.d (.int k n))
 | .mul=>vV k (a*b) λn=>K (.d (.int k n))
 | .quo=>Bb N k a b λn=>K (.d (.int k n))
 | .rem=>Bb L k a b λn=>K (.d (.int k n))
 | .and=>K (.d (.int k (pL .and k a b)))
 | .or=>K (.d (.int k (pL .or k a b)))
 | .xor=>K (.d (.int k (pL .xor k a b)))
 | .andNot=>K (.d (.int k (pL .andNot k a b)))
 | .eql=>K (.d (.bool (decide (a=b))))
 | .neq=>K (.d (.bool (!decide (a=b))))
 | .lss=>K (.d (.bool (decide (a<b))))
 | .leq=>K (.d (.bool (decide (a<=b))))
 | .gtr=>K (.d (.bool (decide (b<a))))
 | .geq=>K (.d (.bool (decide (b<=a))))
 |_=>dA
def Mt(op:BinOp)(k:pK)(a b:I)(K:dn->Prop):Prop:=
 match op with
 | .shl=>jL (0<=b) (vV k (a*2^(min b.toNat k.bits)) λn=>K (.d (.int k n)))
 | .shr=>jL (0<=b) (K (.d (.int k (a.fdiv (2^(min b.toNat k.bits))))))
 |_=>dA
def Be(op:BinOp)(a b:dh)(K:dn->Prop):Prop:=
 match op with
 | .eql=>K (.d (.bool (a==b)))
 | .neq=>K (.d (.bool (!(a==b))))
 |_=>dA
def Mu(op:BinOp)(a b:dS)(K:dn->Prop):Prop:=
 match op with
 | .add=>jL (a.size+b.size<=9223372036854775807) (K (.d (.str (a++b))))
 | .eql=>K (.d (.bool (decide (a=b))))
 | .neq=>K (.d (.bool (!decide (a=b))))
 |_=>dA
def y7(v:dn)(K:dh->Prop):Prop:=
 match v with
 | .d (.bool b)=>K b
 | .e4=>K N
 | .fd=>K L
 |_=>dA
def oF(T:fL)(n:V)(t:eH)(x y:J dn)(K:dh->Prop):Prop:=
 match n with
 |0=>dA
 |n+1=>match (T t).k with
  | .int _=>match x with
   | [.d (.int k a)]=>match y with
    | [.d (.int fr b)]=>bif d2 (j4 k) (j4 fr) then K (decide (a=b)) else dA
    |_=>dA
   |_=>dA
  | .str=>match x with
   | [.d (.str a)]=>match y with
    | [.d (.str b)]=>K (decide (a=b))
    |_=>dA
   |_=>dA
  | .bool=>match x with
   | [u]=>match y with
    | [v]=>y7 u λa=>y7 v λb=>K (a==b)
    |_=>dA
   |_=>dA
  | .struct ir=>fields (λt x y K=>oF T n t x y K) ir x y K
  |_=>dA
 where
 fields (e:eH->J dn->J dn->(dh->Prop)->Prop) (ir:J (V×eH)) (x y:J dn) (K:dh->Prop):Prop:=
  match ir with
  | []=>K N
  |(o,t)::r=>bif hn (o+(T t).size) x.length&&hn (o+(T t).size) y.length then
    e t ((x.drop o).take (T t).size) ((y.drop o).take (T t).size) λb=>fields e r x y λc=>K (b&&c) else dA
def T4:BinOp->dh
 | .shl=>N
 | .shr=>N
 |_=>L
def Ef(T:fL)(t:eH)(op:BinOp)(x y:dn)(K:dn->Prop):Prop:=
 match x with
 | .d (.int k a)=>match y with
  | .d (.int fr b)=>bif T4 op then Mt op k a b K else bif d2 (j4 k) (j4 fr) then Ms op k a b K else dA
  |_=>dA
 | .d (.str a)=>match y with
  | .d (.str b)=>Mu op a b K
  |_=>dA
 | .d (.bool a)=>match (T t).k with
  | .bool=>y7 y λb=>Be op a b K
  |_=>dA
 | .e4=>match (T t).k with
  | .bool=>y7 y λb=>Be op N b K
  |_=>dA
 | .fd=>match (T t).k with
  | .bool=>y7 y λb=>Be op L b K
  |_=>dA
 | .agg c=>match y with
  | .agg mX=>match op with
   | .eql=>bif (T t).k.agg then oF T 9999 t c mX λb=>K (.d (.bool b)) else dA
   | .neq=>bif (T t).k.agg then oF T 9999 t c mX λb=>K (.d (.bool (!b))) else dA
   |_=>dA
  |_=>dA
 |_=>dA
def Bf(c:J dn)(j:V)(K:dn->Prop):Prop:=match c[j]? with|some x=>mY x K|none=>dA
def getD(c:J c3)(j:V)(K:c3->Prop):Prop:=match c[j]? with|some x=>K x|none=>dA
def xl(agg:dh)(size:V)(c:J dn)(j:V)(K:dn->Prop):Prop:=
 bif agg then(bif hn (j+size) c.length then qt ((c.drop j).take size) λc=>K (.agg c) else dA) else Bf c j K
def HB(agg:dh)(size:V)(c:J c3)(j:V)(K:dn->Prop):Prop:=
 bif agg then(bif hn (j+size) c.length then qt (((c.drop j).take size).map .d) λc=>K (.agg c) else dA) else getD c j λx=>K (.d x)
def Eg(T:fL)(t:eH)(v:dn)(O:V->dB d4)(K:dn->Prop):Prop:=
 match v with
 | .ptr b i j=>match O b with
  |some (.box c _)=>jL (i=0) (xl (T t).k.agg (T t).size c j K)
  |some (.row l _ _)=>Ee l i λe=>HB (T t).k.agg (T t).size e j K
  |none=>dA
 | .d (.ip e j)=>HB (T t).k.agg (T t).size e j K
 |_=>dA
def vX(T:fL)(t:eH)(v:dn)(O:V->dB d4)(K:dn->Prop):Prop:=
 bif (T t).k.known then Eg T t v O K else dA
def xm(T:fL)(s:eH)(f:V)(K:V->eH->Prop):Prop:=
 match (T s).k with
 | .struct ir=>match ir[f]? with
  |some (o,t)=>K o t
  |none=>dA
 |_=>dA
def Mv(T:fL)(t:eH)(x i:dn)(O:V->dB d4)(K:dn->Prop):Prop:=
 match i with
 | .d (.int _ i)=>match (T t).k with
  | .slice is=>match x with
   | .d (.dk l)=>uq i l.length λn=>Ee l n λe=>bif d2 e.length (T is).size then K (.d (.ip e 0)) else dA
   | .own b=>match O b with
    |some (.row l cQ _)=>bif d2 cQ (T is).size then uq i l.length λn=>K (.ptr b n 0) else dA
    |_=>dA
   | .win b dy n _=>match O b with
    |some (.row _ cQ _)=>bif d2 cQ (T is).size then uq i n λm=>K (.ptr b (dy+m) 0) else dA
    |_=>dA
   |_=>dA
  | .arr n e=>match x with
   | .ptr b a j=>match O b with
    |some _=>uq i n λn=>K (.ptr b a (j+n*(T e).size))
    |none=>dA
   | .d (.ip c j)=>uq i n λn=>K (.d (.ip c (j+n*(T e).size)))
   |_=>dA
  |_=>dA
 |_=>dA
def Mw(T:fL)(t:eH)(x i:dn)(K:dn->Prop):Prop:=
 match i with
 | .d (.int _ i)=>match x with
  | .d (.str s)=>match (T t).k with
   | .str=>uq i s.size λn=>K (.d (.int .u8 (s.data.getD n 0).toNat))
   |_=>dA
  | .agg c=>match (T t).k with
   | .arr n e=>uq i n λn=>xl (T e).k.agg (T e).size c (n*(T e).size) K
   |_=>dA
  |_=>dA
 |_=>dA
def conv(O:V->dB d4):dn->dB c3
 | .d x=>U x
 | .e4=>U (.bool N)
 | .fd=>U (.bool L)
 | .nil=>U (.dk [])
 | .own b=>match O b with
  |some (.row l _ _)=>U (.dk l)
  |_=>cM
 | .agg c=>(cells O c).map .agg
 | .fn f c=>(qw O c).map (.fn f)
 |_=>cM
 where
 one (O:V->dB d4):dn->dB c3
  | .d x=>U x
  | .e4=>U (.bool N)
  | .fd=>U (.bool L)
  | .nil=>U (.dk [])
  | .own b=>match O b with
   |some (.row l _ _)=>U (.dk l)
   |_=>cM
  |_=>cM
 cells (O:V->dB d4):J dn->dB (J c3)
  | []=>U []
  |x::r=>(one O x).bind λd=>(cells O r).map λdx=>d::dx
 nj:dn->dB c3
  | .d x=>U x
  | .e4=>U (.bool N)
  | .fd=>U (.bool L)
  | .nil=>U (.dk [])
  |_=>cM
 vY:J dn->dB (J c3)
  | []=>U []
  |x::r=>(nj x).bind λd=>(vY r).map λdx=>d::dx
 nV (O:V->dB d4):dn->dB c3
  | .d x=>U x
  | .e4=>U (.bool N)
  | .fd=>U (.bool L)
  | .ptr b i j=>match O b with
   |some (.box c N)=>bif d2 i 0 then(vY c).map λc=>.ip c j else cM
   |_=>cM
  |_=>cM
 qw (O:V->dB d4):J dn->dB (J c3)
  | []=>U []
  |x::r=>(nV O x).bind λd=>(qw O r).map λdx=>d::dx
def gU(O:V->dB d4):dn->J V
 | .own b=>one O (.own b)
 | .agg c=>cells O c
 |_=>[]
 where
 one (O:V->dB d4):dn->J V
  | .own b=>match O b with
   |some (.row _ _ L)=>[b]
   |_=>[]
  |_=>[]
 cells (O:V->dB d4):J dn->J V
  | []=>[]
  |x::r=>one O x++cells O r
def f9(O:V->dB d4):J V->J (V×d4)
 | []=>[]
 |b::r=>match O b with
  |some (.row l cQ _)=>(b,.row l cQ N)::f9 O r
  |_=>f9 O r
def y8(O:V->dB d4)(dC:fu->dn)(a:J fu)(K:J c3->J V->Prop):Prop:=
 match a with
 | []=>K [] []
 |x::r=>match conv O (dC x) with
  |some d=>y8 O dC r λdx dR=>K (d::dx) (gU O (dC x)++dR)
  |none=>dA
def lx:c3->dn
 | .agg c=>.agg (c.map .d)
 | .dP c=>.dP (c.map one)
 | .dk l=>.d (.dk l)
 | .int k n=>.d (.int k n)
 | .bool b=>.d (.bool b)
 | .str s=>.d (.str s)
 | .ip c j=>.d (.ip c j)
 | .fn f c=>.d (.fn f c)
 | .ka=>.d .ka
 | .mm=>.d .mm
 where
 one:c3->dn
  | .agg c=>.agg (c.map .d)
  |x=>.d x
def pN:c3->dh
 | .int _ _=>N
 | .bool _=>N
 | .str _=>N
 | .dP c=>all c
 | .agg c=>all c
 |_=>L
 where
 one:c3->dh
  | .int _ _=>N
  | .bool _=>N
  | .str _=>N
  |_=>L
 all:J c3->dh
  | []=>N
  |x::r=>bif one x then all r else L
def Mx(T:fL)(t:eH)(v:dn)(O:V->dB d4)(K:dn->Prop):Prop:=
 match (T t).k with
 | .str=>match v with
  | .d (.str s)=>K (.d (.int .i64 s.size))
  |_=>dA
 | .slice _=>match v with
  | .d (.dk l)=>K (.d (.int .i64 l.length))
  | .nil=>K (.d (.int .i64 0))
  | .win b _ n _=>match O b with
   |some _=>K (.d (.int .i64 n))
   |none=>dA
  | .own b=>match O b with
   |some (.row l _ _)=>K (.d (.int .i64 l.length))
   |_=>dA
  |_=>dA
 |_=>dA
def xn(dC:fu->dn)(o:dB fu)(K:dB I->Prop):Prop:=
 match o with
 |none=>K cM
 |some x=>match dC x with
  | .d (.int _ n)=>K (U n)
  |_=>dA
def y9(dx:J c3):J (J c3):=dx.map λd=>[d]
def My(T:fL)(t:eH)(v:dn)(O:V->dB d4)(dy cK nW:dB I)(K:ge->Prop):Prop:=
 match nW with
 |none=>match v with
  | .d (.str s)=>match (T t).k with
   | .str=>vW dy cK s.size λl h=>K ⟨.d (.str (s.extract l h)),[],cM⟩
   |_=>dA
  | .d (.dk r)=>match (T t).k with
   | .slice is=>jL (∀e∈r,e.length=(T is).size) (vW dy cK r.length λl h=>K ⟨.d (.dk ((r.take h).drop l)),[],cM⟩)
   |_=>dA
  | .own b=>match O b with
   |some (.row r cQ _)=>match (T t).k with
    | .slice is=>bif d2 cQ (T is).size then vW dy cK r.length λl h=>K ⟨.d (.dk ((r.take h).drop l)),[(b,.row r cQ N)],cM⟩ else dA
    |_=>dA
   |_=>dA
  | .nil=>match (T t).k with
   | .slice _=>vW dy cK 0 λ_ _=>K ⟨.nil,[],cM⟩
   |_=>dA
  | .win b a n c=>match O b with
   |some (.row _ cQ L)=>match (T t).k with
    | .slice is=>bif d2 cQ (T is).size then Bc dy cK n (c.getD n) λl h=>K ⟨.win b (a+l) (h-l) (T3 c l),[],cM⟩ else dA
    |_=>dA
   |_=>dA
  | .ptr b i j=>match O b with
   |some (.box c _)=>match (T t).k with
    | .arr n is=>bif d2 i 0&&(d2 j 0&&(d2 (T is).size 1&&d2 n c.length)) then(match conv.cells O c with
     |some dx=>vW dy cK c.length λl h=>K ⟨.d (.dk (((y9 dx).take h).drop l)),f9 O (gU.cells O c)++[(b,.box c N)],cM⟩
     |none=>dA) else dA
    |_=>dA
   |_=>dA
  |_=>dA
 |some m=>match v with
  | .win b a n c=>match O b with
   |some (.row _ cQ L)=>match (T t).k with
    | .slice is=>bif d2 cQ (T is).size then jL (cK≠cM/\0<=m/\m<= (c.getD n:I)) (Bc dy cK n m.toNat λl h=>K ⟨.win b (a+l) (h-l) (U (m.toNat-l)),[],cM⟩) else dA
    |_=>dA
   |_=>dA
  |v=>match (T t).k with
   | .slice _=>jL (m=0/\cK=U 0/\dy=cM) (match v with
    | .d (.dk _)=>K ⟨.nil,[],cM⟩
    | .nil=>K ⟨.nil,[],cM⟩
    |_=>dA)
   |_=>dA
def iM{α:Type}(c:J α)(j:V):J α->J α
 | []=>c
 |x::r=>iM (c.set j x) (j+1) r
def Bg{α:Type}(c:J α)(j:V)(l:J α):J α:=c.take j++(l++c.drop (j+l.length))
def cellsOf:dn->J dn
 | .agg c=>c
 |v=>[v]
def kd(b:V):J V->dh
 | []=>L
 |x::r=>bif d2 b x then N else kd b r
def ra:c3->dn
 | .dk []=>.nil
 |x=>.d x
def pO(O:V->dB d4):dn->dh
 | .d x=>one x
 | .e4=>N
 | .fd=>N
 | .own b=>match O b with
  |some _=>N
  |none=>L
 | .ptr b _ _=>match O b with
  |some _=>N
  |none=>L
 | .nil=>N
 | .fn _ _=>N
 |_=>L
 where
 one:c3->dh
  | .int _ _=>N
  | .bool _=>N
  | .str _=>N
  | .dk _=>N
  | .ip _ _=>N
  | .fn _ _=>N
  | .ka=>N
  | .agg _=>L
  | .dP _=>L
  | .mm=>L
def r9(O:V->dB d4):J dn->dh
 | []=>N
 |x::r=>bif pO O x then r9 O r else L
def Bh(cQ:V)(e:J c3):dh:=d2 e.length cQ&&e.all pO.one
def gN(cQ:V)(l:J (J c3)):dh:=l.all (Bh cQ)
def Bi(cQ:V)(v:dn)(O:V->dB d4)(K:J (J c3)->Prop):Prop:=
 match v with
 | .d (.dk l)=>jL (gN cQ l=N) (K l)
 | .nil=>K []
 | .own b=>match O b with
  |some (.row l a _)=>bif d2 a cQ then jL (gN cQ l=N) (K l) else dA
  |_=>dA
 | .win b dy n _=>match O b with
  |some (.row l a _)=>bif d2 a cQ then jL (dy+n<=l.length/\gN cQ ((l.drop dy).take n)=N) (K ((l.drop dy).take n)) else dA
  |_=>dA
 |_=>dA
def Mz(cQ:V)(v:dn)(O:V->dB d4)(K:J (J c3)->Prop):Prop:=
 match v with
 | .d (.dk l)=>K l
 | .nil=>K []
 | .own b=>match O b with
  |some (.row l a _)=>bif d2 a cQ then K l else dA
  |_=>dA
 | .win b dy n _=>match O b with
  |some (.row l a _)=>bif d2 a cQ then jL (dy+n<=l.length) (K ((l.drop dy).take n)) else dA
  |_=>dA
 |_=>dA
def T5(T:fL)(e:eH)(x y:dn)(O:V->dB d4)(K:ge->Prop):Prop:=
 match x with
 | .win b dy n _=>match O b with
  |some (.row r cQ L)=>bif d2 cQ (T e).size then Mz (T e).size y O λfS=>jL (dy+n<=r.length/\gN (T e).size (fS.take (ut fS.length n))=N)
    (K ⟨.d (.int .i64 (ut fS.length n)),[(b,.row (r.take dy++(fS.take (ut fS.length n)++r.drop (dy+ut fS.length n))) cQ L)],cM⟩) else dA
  |_=>dA
 |_=>dA
def T6(T:fL)(e:eH)(x:dn)(O:V->dB d4)(K:ge->Prop):Prop:=
 match x with
 | .win b dy n _=>match O b with
  |some (.row r cQ L)=>bif d2 cQ (T e).size then jL (dy+n<=r.length/\Bh (T e).size (T e).zero=N)
    (K ⟨.dP [],[(b,.row (r.take dy++(eL n (T e).zero++r.drop (dy+n))) cQ L)],cM⟩) else dA
  |_=>dA
 |_=>dA
def HC(T:fL)(e:eH)(b dy n c:V)(fS:J (J c3))(O:V->dB d4)(dst:dB Tmp)(K:ge->Prop):Prop:=
 match O b with
 |some (.row r cQ L)=>bif d2 cQ (T e).size then afJ (n+fS.length<=c)
   (jL (dy+n+fS.length<=r.length) (K ⟨.win b dy (n+fS.length) (U c),[(b,.row (r.take (dy+n)++(fS++r.drop (dy+n+fS.length))) cQ L)],cM⟩))
   (match dst with
    |some d=>jL (dy+n<=r.length) (r8 (n+fS.length) (T e).bytes (K ⟨.win d 0 (n+fS.length) cM,[(d,.row ((r.drop dy).take n++fS) cQ L)],U d⟩))
    |none=>dA) else dA
 |_=>dA
def MA(T:fL)(e:eH)(b dy n c:V)(k:I)(O:V->dB d4)(dst:dB Tmp)(K:ge->Prop):Prop:=
 match O b with
 |some (.row r cQ L)=>bif d2 cQ (T e).size then jL (0<=k/\c<n+k.toNat/\dy+n<=r.length)
   (match dst with
    |some d=>r8 (n+k.toNat) (T e).bytes (K ⟨.win d 0 (n+k.toNat) cM,[(d,.row ((r.drop dy).take n++eL k.toNat (T e).zero) cQ L)],U d⟩)
    |none=>dA) else dA
 |_=>dA
def MB(T:fL)(e:eH)(k:I)(dst:dB Tmp)(K:ge->Prop):Prop:=
 jL (0<k) (match dst with
  |some d=>r8 k.toNat (T e).bytes (K ⟨.win d 0 k.toNat cM,[(d,.row (eL k.toNat (T e).zero) (T e).size L)],U d⟩)
  |none=>dA)
def vZ(O:V->dB d4)(dC:fu->dn)(off:V->dB (V×V))(c:J dn)(a:J (V×fu))(K:J dn->Prop):Prop:=
 match a with
 | []=>K c
 |(i,x)::r=>match off i with
  |some (o,s)=>mY (dC x) λv=>bif d2 (cellsOf v).length s&&hn (o+s) c.length then(bif r9 O (cellsOf v) then vZ O dC off (Bg c o (cellsOf v)) r K else dA) else dA
  |none=>dA
def Bj(T:fL)(e:eH)(n:V):J dn:=(iB (n*(T e).size)).map λk=>ra ((T e).zero.getD (k%(T e).size) .ka)
def HD(T:fL)(ir:J (V×eH))(i:V):dB (V×V):=match ir[i]? with|some (o,t)=>U (o,(T t).size)|none=>cM
open Go.Conc
structure eX(F:V->Prop)(w w':c'):Prop where
 os:w'.os=w.os
 tape:w'.tape=w.tape
 output:w'.output=w.output
 size:w'.heap.size=w.heap.size
 block:∀c,¬F c->w'.heap[c]?=w.heap[c]?
theorem eX.refl(F w):eX F w w:=⟨Z,Z,Z,Z,λ_ _=>Z⟩
theorem eX.trans{F a b c}(h:eX F a b)(d:eX F b c):eX F a c:=
 ⟨d.os.trans h.os,d.tape.trans h.tape,d.output.trans h.output,d.size.trans h.size,λx e=>(d.block x e).trans (h.block x e)⟩
theorem eX.drawn(F w d):eX F w {w with drawn:=d}:=⟨Z,Z,Z,Z,λ_ _=>Z⟩
structure oC(F:V->Prop)(w w':c'):Prop where
 os:w'.os=w.os
 tape:w'.tape=w.tape
 output:w'.output=w.output
 size:w.heap.size<=w'.heap.size
 block:∀c,F c->w'.heap[c]?=w.heap[c]?
theorem oC.refl(F w):oC F w w:=⟨Z,Z,Z,fB _,λ_ _=>Z⟩
def i2(F:V->Prop)(e:hB):Prop:=
 match e.loc with
 | .cell a=>e.sync=L/\ ¬F a.block
 | .obj r=>e.sync=L/\ ¬F r
 | .mark (.extern _)=>True
 | .mark .noRoom=>True
 |_=>dA
structure i3(F:V->Prop)(w w':c')(es:ea hB):Prop where
 mV:oC F w w'
 du:∀e∈es,i2 F e
theorem i3.idle(F w):i3 F w w #[]:=⟨.refl _ _,λe h=>by simp at h⟩
inductive iA(P:el)(main:dh)(F:V->Prop)(dv:dN->c'->Prop):dN->c'->Prop
 |stop {g:dN} {w:c'} (h:∀c0,eX F w c0->dv g c0):iA P main F dv g w
 |step {g:dN} {w:c'} (c7:g.status=.running) (fk:c'->dN×c'×ea hB)
   (h:∀c0,eX F w c0->stepG P main g c0=.go (fk c0).1 (fk c0).2.1 (fk c0).2.2/\i3 F c0 (fk c0).2.1 (fk c0).2.2)
   (k:∀c0,eX F w c0->iA P main F dv (fk c0).1 (fk c0).2.1):iA P main F dv g w
section
variable {P:el} {main:dh} {F:V->Prop} {dv:dN->c'->Prop}
def A4(P:el)(main:dh)(g:dN)(w:c'):dN×c'×ea hB:=
 match stepG P main g w with
 | .go g' w' es=>(g',w',es)
 |_=>(g,w,#[])
theorem iA.ng{g w}(s:g.status=.running)(h:∀c0,eX F w c0->(stepG P main g c0).goes λg' w' es=>i3 F c0 w' es/\iA P main F dv g' w'):iA P main F dv g w:=by
 refine .step s (A4 P main g) (λc0 a=>?_) (λc0 a=>?_)
 .have:=h c0 a;unfold A4;revert this
  cases stepG P main g c0<;>simp[LW,LX,LY]
  simp_all
 .have:=h c0 a;unfold A4;revert this
  cases stepG P main g c0<;>simp only[LW,LX,LY]
  simp_all
theorem iA.rely{g w c0}(h:iA P main F dv g w)(dI:eX F w c0):iA P main F dv g c0:=by
 cases h with|stop h=>exact .stop λa b=>h a (dI.trans b)|step c7 fk h k=>exact .step c7 fk (λa b=>h a (dI.trans b)) (λa b=>k a (dI.trans b))
def A5(P:el)(main:dh)(F:V->Prop)(dv:dN->c'->Prop)(b:gS)(k:J Item)(cs:J gS):Exit->e7->c'->Prop
 | .normal,a,w=>iA P main F dv (G (b.at a k) cs) w
 | .exit id,a,w=>∃fr,exitTo id k=U fr/\iA P main F dv (G (b.at a fr) cs) w
 | .ret,a,w=>∀todo,iA P main F dv (G {b.at a todo with mode:=.returning} cs) w
 |_,_,_=>dA
theorem A5.push{b x k cs e a w}(i:x.plain=N)(d:e≠.normal)(h:A5 P main F dv b k cs e a w):A5 P main F dv b (x::k) cs e a w:=by
 cases e with|normal=>simp_all|exit id=>have⟨fr,f,g⟩:=h;exact⟨fr,by cases x<;>simp_all [exitTo,Item.plain],g⟩|ret=>exact h|goto l=>exact h|panic c=>exact h|outgrown=>exact h
end
def jK(P:el)(main:dh)(F:V->Prop)(fn:ig)(c:Code)(da:Exit->e7->c'->Prop)(a:e7)(w:c'):Prop:=
 ∀(b:gS) (k:J Item) (cs:J gS) (dv:dN->c'->Prop),b.fn=fn->b.kind≠.early->(∀e d9 w',da e d9 w'->A5 P main F dv b k cs e d9 w')->iA P main F dv (G (b.at a (.code c::k)) cs) w
def mW(P:el)(main:dh)(F:V->Prop)(fn:ig)(ops:ea gC)(todo:J V)(da:Exit->e7->c'->Prop)(a:e7)(w:c'):Prop:=
 ∀(b:gS) (k:J Item) (cs:J gS) (dv:dN->c'->Prop),b.fn=fn->b.kind≠.early->(∀e d9 w',da e d9 w'->A5 P main F dv b k cs e d9 w')->iA P main F dv (G (b.at a (.inRegion ops todo::k)) cs) w
section rules
variable {P:el} {main:dh} {F:V->Prop} {fn:ig} {da:Exit->e7->c'->Prop} {a:e7} {w:c'}
theorem D2{c d}(j:∀e a w,da e a w->d e a w)(h:jK P main F fn c da a w):jK P main F fn c d a w:=
 λb k cs dv f i g=>h b k cs dv f i λe d9 w' q=>g e d9 w' (j e d9 w' q)
theorem nh{g g' dv}(b:g.status=.running)(s:∀w,stepG P main g w=.go g' w)(h:iA P main F dv g' w):iA P main F dv g w:=
 iA.ng b λc0 a=>by rw[s];exact⟨.idle _ _,h.rely a⟩
theorem ae6(h:da .normal a w):jK P main F fn .skip da a w:=λb k cs dv _ _ c=>nh Z (λ_=>stepG_skip) (c _ _ _ h)
theorem ae7{l}(h:da .normal a w):jK P main F fn (.label l) da a w:=λb k cs dv _ _ c=>nh Z (λ_=>stepG_label) (c _ _ _ h)
theorem ae8(h:da .ret a w):jK P main F fn .ret da a w:=λb k cs dv _ _ c=>nh Z (λ_=>stepG_ret') (c _ _ _ h _)
theorem ae9{id}(h:da (.exit id) a w):jK P main F fn (.exit id) da a w:=λb k cs dv _ _ d=>by
 have⟨fr,c,g⟩:=d _ _ _ h;exact nh Z (λ_=>stepG_exit c) g
theorem afa{x y}(h:jK P main F fn x (Exit.then (λd9 w'=>jK P main F fn y da d9 w') da) a w):jK P main F fn (.seq x y) da a w:=by
 intro b k cs dv d f c;refine nh Z (λ_=>stepG_seq) (h b (.code y::k) cs dv d f λe d9 w' q=>?_)
 cases e with|normal=>exact q b k cs dv d f c|exit id=>exact(c _ _ _ q).push Z dt|ret=>exact(c _ _ _ q).push (x:=.code y) Z dt|goto l=>exact c _ _ _ q|panic g=>exact c _ _ _ q|outgrown=>exact c _ _ _ q
theorem Tx{c x y t}(e:a.eval c=.bool t)(h:jK P main F fn (if t then x else y) da a w):jK P main F fn (.cond c x y) da a w:=
 λb k cs dv d f q=>nh Z (λ_=>stepG_cond e) (h b k cs dv d f q)
theorem Tz{c x y}(b:a.eval c=.bool N)(h:jK P main F fn x da a w):jK P main F fn (.cond c x y) da a w:=Tx b h
theorem TA{c x y}(b:a.eval c=.bool L)(h:jK P main F fn y da a w):jK P main F fn (.cond c x y) da a w:=Tx b h
theorem afb{id c}(h:jK P main F fn c (Mc id da) a w):jK P main F fn (.block id c) da a w:=by
 intro b k cs dv j n d;refine nh Z (λ_=>stepG_block) (h b (.inBlock id::k) cs dv j n λe d9 w' q=>?_)
 cases e with
 |normal=>exact nh Z (λ_=>stepG_inBlock) (d _ _ _ q)
 |exit f=>
  by_cases i:f=id
  .simp[Mc,i,ni]at q;exact⟨k,by simp[exitTo,i],d _ _ _ q⟩
  .simp[Mc,i,qp]at q;have⟨fr,g,m⟩:=d _ _ _ q
   have:(id==f)=L:=by simp;exact λh=>i h.symm
   exact⟨fr,by simp[exitTo,this,g],m⟩
 |ret=>exact d _ _ _ q
 |goto l=>exact d _ _ _ q
 |panic o=>exact d _ _ _ q
 |outgrown=>exact d _ _ _ q
theorem afc{c}(dr:V->e7->c'->Prop)(n)(f:dr n a w)(r:∀n a w,dr n a w->jK P main F fn c (Exit.then (λd9 w'=>∃m,m<n/\dr m d9 w') da) a w):jK P main F fn (.loop c) da a w:=by
 intro b k cs dv j o d
 have y:∀n a w,dr n a w->iA P main F dv (G (b.at a (.code c::.inLoop c::k)) cs) w:=by
  intro n
  induction n using s6 with
  |_ n t=>
   intro a w i;refine r n a w i b (.inLoop c::k) cs dv j o λe d9 w' q=>?_
   cases e with|normal=>have⟨m,s,g⟩:=q;exact nh Z (λ_=>stepG_inLoop) (t m s d9 w' g)|exit id=>exact(d _ _ _ q).push Z dt|ret=>exact(d _ _ _ q).push (x:=.inLoop c) Z dt|goto l=>exact d _ _ _ q|panic u=>exact d _ _ _ q|outgrown=>exact d _ _ _ q
 exact nh Z (λ_=>stepG_loop) (y n a w f)
theorem afd{c}(n:∀l a w,¬da (.goto l) a w)(h:jK P main F fn c da a w):jK P main F fn (.scope c) da a w:=by
 intro b k cs dv f i d;refine nh Z (λ_=>by rfl) (h b (.inScope c::k) cs dv f i λe d9 w' q=>?_)
 cases e with|normal=>exact nh Z (λ_=>by rfl) (d _ _ _ q)|exit id=>have⟨fr,j,g⟩:=d _ _ _ q;exact⟨fr,by assumption,g⟩|ret=>exact d _ _ _ q|goto l=>simp_all|panic m=>exact d _ _ _ q|outgrown=>exact d _ _ _ q
theorem Md{ops}(h:da .normal a w):mW P main F fn ops [] da a w:=λb k cs dv _ _ c=>nh Z (λ_=>stepG_region_end) (c _ _ _ h)
theorem aff{id ops}(h:mW P main F fn ops (iB ops.size) da a w):jK P main F fn (.region id ops L) da a w:=
 λb k cs dv c e d=>nh Z (λ_=>stepG_region) (h b k cs dv c e d)
theorem afg{id ops}(h:∀t,mW P main F fn ops (Region.schedule (P.follows .mixedOrders) ops t) da a w):jK P main F fn (.region id ops N) da a w:=
 λb k cs dv d i f=>iA.ng Z λc0 c=>by
  rw[stepG_region_draw];exact⟨⟨⟨Z,Z,Z,fB _,λ_ _=>Z⟩,λe g=>by simp at g⟩,(h _ b k cs dv d i f).rely (c.trans (.drawn _ _ _))⟩
theorem TB{ops i rest o}(f:ops[i]?=U o)(hw:jf o (yielded ops a.tmps)=L)(h:mW P main F fn ops rest da (a.put o.dst undef) w):mW P main F fn ops (i::rest) da a w:=
 λb k cs dv c e d=>nh Z (λ_=>stepG_unwanted f hw) (h b k cs dv c e d)
def ul(P:el)(F:V->Prop)(fn:Func)(tmps:ea dp)(v:dp)(w:c'):Prop:=
 ∀c0,eX F w c0->(results fn tmps).run P c0=.ok v c0/\ ∀e∈(results fn tmps).events P c0 #[],i2 F e
def Me(P:el)(F:V->Prop)(fn:Func)(dM:dp->c'->Prop):Exit->e7->c'->Prop
 | .normal,a,w| .ret,a,w=>a.defers=[] /\ ∃v,ul P F fn a.tmps v w/\dM v w
 |_,_,_=>dA
def gT(P:el)(main:dh)(F:V->Prop)(f:ig)(args:ea dp)(w:c')(dM:dp->c'->Prop):Prop:=
 ∃fn c,P.funcs[f]?=U fn/\ (fn.name== "runtime.NumGoroutine")=L/\fn.body=U c/\
  ∀(cs:J gS) (dv:dN->c'->Prop),(∀e d9 w',Me P F fn dM e d9 w'->A5 P main F dv (base f) [] cs e d9 w')->
   iA P main F dv (G ((base f).at {tmps:=args++kx (fn.ntmps-args.size) undef,defers:=[]} [.code c]) cs) w
theorem gT.mono{f args dM o}(h:gT P main F f args w dM)(O:∀v w,dM v w->o v w):gT P main F f args w o:=by have⟨fn,c,d,cY,b,hw⟩:=h;exact⟨fn,c,d,cY,b,λcs dv a=>hw cs dv λe d9 w' q=>a e d9 w' (by cases e<;>first|exact⟨q.1,q.2.choose,q.2.choose_spec.1,O _ _ q.2.choose_spec.2⟩|exact q)⟩
theorem gT.rely{f args dM c0}(h:gT P main F f args w dM)(r:eX F w c0):gT P main F f args c0 dM:=by have⟨fn,c,d,cY,b,hw⟩:=h;exact⟨fn,c,d,cY,b,λcs dv a=>(hw cs dv a).rely r⟩
theorem xg{f fn c args dM}(d:P.funcs[f]?=U fn)(cY:(fn.name== "runtime.NumGoroutine")=L)(b:fn.body=U c)
  (h:jK P main F f c (Me P F fn dM) {tmps:=args++kx (fn.ntmps-args.size) undef,defers:=[]} w):gT P main F f args w dM:=⟨fn,c,d,cY,b,λcs dv a=>h (base f) [] cs dv Z (by simp[base]) a⟩
def afi(P:el)(main:dh)(F:V->Prop)(o:gC)(a:e7)(w:c')(es:ea hB)(dj:e7->c'->Prop):Result Next->Prop
 | .ok (.value v) w'=>i3 F w w' es/\dj (a.put o.dst v) w'
 | .ok .skip w'=>i3 F w w' es/\dj (a.put o.dst undef) w'
 | .ok (.enter f vs) w'=>i3 F w w' es/\gT P main F f vs w' λv b=>dj (a.put o.dst v) b
 |_=>dA
def nT(P:el)(main:dh)(F:V->Prop)(o:gC)(a:e7)(w:c')(dj:e7->c'->Prop):Prop:=
 ∀c0,eX F w c0->afi P main F o a c0 ((execOp a.eval o).events P c0 #[]) dj ((execOp a.eval o).run P c0)
theorem vQ{o dj b}(c:∀a w,dj a w->b a w)(h:nT P main F o a w dj):nT P main F o a w b:=λc0 h₁=>by
 have:=h c0 h₁;revert this
 cases (execOp a.eval o).run P c0 with
 |ok n w'=>cases n<;>first|exact λq=>⟨q.1,c _ _ q.2⟩|exact λq=>⟨q.1,q.2.mono λ_ _ x=>c _ _ x⟩|exact id
 |halt x w'=>exact id
theorem afj{o dj}(h:∀c0,eX F w c0->∃v w',(execOp a.eval o).run P c0=.ok (.value v) w'/\i3 F c0 w' ((execOp a.eval o).events P c0 #[]) /\dj (a.put o.dst v) w'):nT P main F o a w dj:=λc0 b=>by
 have⟨v,w',r,cP,cY⟩:=h c0 b;rw[r];exact⟨cP,cY⟩
theorem afk{o dj f vs}(h:∀c0,(execOp a.eval o).run P c0=.ok (.enter f vs) c0/\ (execOp a.eval o).events P c0 #[]=#[])(k:gT P main F f vs w λv w'=>dj (a.put o.dst v) w'):nT P main F o a w dj:=λc0 b=>by
 rw[(h c0).1,(h c0).2];exact⟨.idle _ _,k.rely b⟩
theorem D3{b:gS}{cs f todo c v}(cY:b.kind=.normal)(cP:a.defers=[])(h:P.funcs[b.fn]?=U f)(r:(results f a.tmps).run P w=.ok v w):
  stepG P main (G {b.at a todo with mode:=.returning} (c::cs)) w=.go (G (c.finish v) cs) w (seen P b.fn ((results f a.tmps).events P w #[])):=by
 simp[G,stepG,unwind,doReturn,Frame.at,cY,cP,h,r,GStep.after]
theorem TC{ops i rest o}(A:ops[i]?=U o)(hw:jf o (yielded ops a.tmps)=N)(h:nT P main F o a w λd9 w'=>mW P main F fn ops rest da d9 w'):mW P main F fn ops (i::rest) da a w:=by
 intro b k cs dv C u E
 have x:∀v,(b.at a (.inRegion ops (i::rest)::k)).finish v=b.at (a.put o.dst v) (.inRegion ops rest::k):=λv=>by rw[Frame.finish_at,A];rfl
 refine iA.ng Z λc0 z=>?_;have:=h c0 z;have H:∀e∈listed P b.fn a o c0,e∈(execOp a.eval o).events P c0 #[]:=λe p=>mem_seen p;generalize cV:(execOp a.eval o).run P c0=r at this
 match r,this with
 | .ok (.value v) w',⟨d,n⟩=>rw[stepG_value A hw u cV];exact⟨⟨d.mV,λe p=>d.du e (H e p)⟩,n b k cs dv C u E⟩| .ok .skip w',⟨d,n⟩=>rw[stepG_none A hw u cV];exact⟨⟨d.mV,λe p=>d.du e (H e p)⟩,n b k cs dv C u E⟩
 | .ok (.enter f vs) w',⟨d,B,c,cL,dr,y,K⟩=>
  rw[Hp A hw u cV,D4 _ cL y]
  have j:∀(d9:e7) (g:c') (todo:J Item),(d9.defers=[] /\ ∃v,ul P F B d9.tmps v g/\mW P main F fn ops rest da (a.put o.dst v) g)->
    iA P main F dv (G {(base f).at d9 todo with mode:=.returning} (b.at a (.inRegion ops (i::rest)::k)::cs)) g:=by
   rintro d9 g todo ⟨cP,v,s,n⟩;refine iA.ng Z λt m=>?_;rw[D3 (b:=base f) Z cP cL (s t m).1,x];exact⟨⟨.refl _ _,λe p=>(s t m).2 e (mem_seen p)⟩,(n b k cs dv C u E).rely m⟩
  refine⟨⟨d.mV,λe p=>d.du e (H e p)⟩,K _ dv λe d9 g q=>?_⟩
  cases e with|normal=>exact nh Z (λ_=>stepG_end) (j d9 g [] q)|ret=>exact λtodo=>j d9 g todo q|exit id=>exact q.elim|goto l=>exact q.elim|panic M=>exact q.elim|outgrown=>exact q.elim
def vR(P:el)(main:dh)(F:V->Prop)(ops:ea gC)(i:V)(K:e7->c'->Prop)(a:e7)(w:c'):Prop:=
 match ops[i]? with
 |none=>dA
 |some o=>if jf o (yielded ops a.tmps) then nT P main F o a w K else K (a.put o.dst undef) w
def Hq(P:el)(main:dh)(F:V->Prop)(b:Region.Mode)(ops:ea gC)(da:Exit->e7->c'->Prop):V->ea dh->e7->c'->Prop
 |0,listed,a,w=>ms b ops listed=[] /\da .normal a w
 |fuel+1,listed,a,w=>(ms b ops listed=[]->da .normal a w) /\ ∀i∈ms b ops listed,vR P main F ops i (Hq P main F b ops da fuel (listed.setIfInBounds i N)) a w
theorem afl{ops i K b}(c:∀a w,K a w->b a w)(h:vR P main F ops i K a w):vR P main F ops i b a w:=by
 unfold vR at*
 split
 .simp_all
 .rename_i o d;simp[d]at h;split
  .rename_i hw;rw[if_pos hw]at h;exact vQ c h
  simp_all
theorem afm{ops i rest}(h:vR P main F ops i (λd9 w'=>mW P main F fn ops rest da d9 w') a w):mW P main F fn ops (i::rest) da a w:=by
 unfold vR at h;split at h
 .grind
 .rename_i o b;split at h
  .rename_i hw;exact TC b hw h
  .rename_i hw;exact TB b (by simp_all) h
theorem afn{m ops}:∀f t listed a w,Hq P main F m ops da f listed a w->mW P main F fn ops (Mh m ops f t listed []) da a w:=by
 intro f
 induction f with
 |zero=>intro t listed a w h;simpa[Mh]using Md h.2
 |succ f d=>
  intro t listed a w h;have⟨b,c⟩:=h;simp only[Mh]
  change mW P main F fn ops (match (ms m ops listed)[t%(ms m ops listed).length]? with
   |some i=>Mh m ops f (t/(ms m ops listed).length) (listed.setIfInBounds i N) [i]|none=>[].reverse) da a w
  cases cK:(ms m ops listed)[t%(ms m ops listed).length]? with
  |none=>
   have n:ms m ops listed=[]:=by
    cases r:ms m ops listed with|nil=>rfl|cons x dD=>rw[r]at cK;have l:t%(x::dD).length<(x::dD).length:=mu _ dt;grind
   simpa using Md (b n)
  |some i=>simp only[];rw[linearise_go_acc,List.reverse_singleton,List.singleton_append];exact afm (afl (λd9 w' x=>d _ _ d9 w' x) (c i (jg cK)))
theorem afp(m:P.follows .mixedOrders=N){id ops}(h:Hq P main F .any ops da ops.size (kx ops.size L) a w):jK P main F fn (.region id ops N) da a w:=by refine afg λt=>?_;rw[m];exact afn ops.size t _ a w h
end rules
open Go.RowKit
def fq(M:eE)(w:c'):Prop:=∀(b o:V) (v:dp),M b o=U v->w.cell? ⟨b,o,cM⟩=U v
def uu(w:c')(M a:eE):Prop:=∀(b o:V) (v:dp),a b o=U v->M b o=U v\/w.heap.size<=b
def ly(M:eE)(dx:J c3)(vs:ea dp):Prop:=vs.size=dx.length/\ ∀(i:V) (d:c3) (v:dp),dx[i]?=U d->vs[i]?=U v->e1 M d v
def y_(M:eE)(D:gr)(dD:J dn)(vs:ea dp):Prop:=vs.size=dD.length/\ ∀(i:V) (d:dn) (v:dp),dD[i]?=U d->vs[i]?=U v->dV M D d v
structure lz(M:eE)(cs:ea dp)(l:J (J c3))(cQ:V):Prop where
 len:∀(i:V) (e:J c3),l[i]?=U e->e.length=cQ
 den:∀(i j:V) (e:J c3) (d:c3),l[i]?=U e->e[j]?=U d->∃v,cs[i*cQ+j]?=U v/\e1 M d v
structure tc(M:eE)(D:gr)(cs:ea dp)(c:J dn):Prop where
 size:cs.size=c.length
 den:∀(j:V) (x:dn),c[j]?=U x->∃v,cs[j]?=U v/\dV M D x v
def T7(M:eE)(blk:V)(cs:ea dp)(n:V)(cN:dh):Prop:=
 (cN=N->∀(o:V) (v:dp),o<n->cs[o]?=U v->M blk o=U v) /\ (cN=L->∀o:V,M blk o=cM)
def jz(M:eE)(D:gr)(w:c')(B:d4)(cL:kR):Prop:=
 ∃(cs:ea dp) (T:eH),w.heap[cL.blk]?=U (.cells cs T (0,0)) /\cs.size=cL.size/\
  match B with
  | .row l cQ cN=>cQ=cL.cQ/\l.length=cL.len/\l.length*cQ<=cL.size/\lz M cs l cQ/\T7 M cL.blk cs (l.length*cQ) cN
  | .box c cN=>cL.cQ=c.length/\cL.size=c.length/\tc M D cs c/\T7 M cL.blk cs c.length cN
structure er(own:V->Prop)(M:eE)(D:gr)(O:V->dB d4)(w:c'):Prop where
 fD:∀b,O b=cM↔D b=cM
 iN:∀b,D b=U cM->∃cQ cN,O b=U (.row [] cQ cN)
 at_:∀(b:V) (B:d4) (cL:kR),O b=U B->D b=U (U cL)->own cL.blk/\jz M D w B cL
 inj:∀(b d7:V) (cL ej:kR),D b=U (U cL)->D d7=U (U ej)->cL.blk=ej.blk->b=d7
structure jM(own:V->Prop)(cO w:c'):Prop where
 os:w.os=cO.os
 tape:w.tape=cO.tape
 output:w.output=cO.output
 size:cO.heap.size<=w.heap.size
 block:∀c,¬own c->w.heap[c]?=cO.heap[c]?
def jl(own:V->Prop)(M a:eE):Prop:=∀(b o:V) (v:dp),a b o=U v->M b o=U v\/own b
def nk(P:el)(f:ig):Prop:=∃fn,P.funcs[f]?=U fn/\fn.body.isSome=N/\ (fn.name== "runtime.NumGoroutine")=L
structure jm where
 main:dh
 F:V->Prop
def MC:J I:=[1,10,100,1000,10000,100000,1000000,10000000,100000000,1000000000,10000000000,100000000000,1000000000000,10000000000000,100000000000000,1000000000000000,10000000000000000,100000000000000000,1000000000000000000,10000000000000000000]
def Eh(M:eE):Prop:=∀(o:V) (n:I),MC[o]?=U n->M 3 o=U (.int .u64 n)
structure gG(cV:jm)(own:V->Prop)(M:eE):Prop where
 own:∀c,own c->¬cV.F c
 mem:∀(b o:V) (v:dp),M b o=U v->¬cV.F b
 xo:Eh M
def pe(cV:jm)(own:V->Prop)(c:V):Prop:=own c\/cV.F c
structure nX(cV:jm)(n:V)(w w':c'):Prop where
 os:w'.os=w.os
 tape:w'.tape=w.tape
 output:w'.output=w.output
 size:w.heap.size<=w'.heap.size
 block:∀k,k<n->¬cV.F k->w'.heap[k]?=w.heap[k]?
def uv(P:el)(cV:jm)(f:ig)(vs:ea dp)(w:c')(cX:Ending->c'->Prop):Prop:=gT P cV.main cV.F f vs w λv w'=>cX (.returned v) w'
def uv.mono{P cV f vs w cX a}(h:uv P cV f vs w cX)(r:∀e w',cX e w'->a e w'):uv P cV f vs w a:=gT.mono h λ_ _ q=>r _ _ q
def h0(own:V->Prop)(M:eE)(e:hB):Prop:=
 match e.loc with
 | .cell a=>e.sync=L/\ (own a.block\/ ∃o v,M a.block o=U v)
 | .mark (.extern _)=>True
 | .mark .noRoom=>True
 |_=>dA
def h0.hD{cV own M e}(f:gG cV own M)(h:h0 own M e):i2 cV.F e:=by
 unfold h0 at h;unfold i2;split at h
 .rename_i a;rw[a];exact⟨h.1,h.2.elim (f.own _) λ⟨o,v,cU⟩=>f.mem _ o v cU⟩
 .simp_all
 .simp_all
 simp_all
def dX(P:el)(f:ig)(dx:J c3)(d:c3):Prop:=
 nk P f/\ ∀(cV:jm) (w:c') (M:eE) (vs:ea dp),gG cV (λc=>w.heap.size<=c) M->fq M w->ly M dx vs->uv P cV f vs w λe w'=>
  ∃(v:dp) (a:eE),e=.returned v/\nX cV w.heap.size w w'/\gJ M a/\fq a w'/\uu w M a/\e1 a d v
def j5(P:el)(f:ig)(dx:J c3)(l:J (J c3))(cQ:V):Prop:=
 nk P f/\ ∀(cV:jm) (w:c') (M:eE) (vs:ea dp),gG cV (λc=>w.heap.size<=c) M->fq M w->ly M dx vs->uv P cV f vs w λe w'=>
  ∃(v:dp) (b:eE),e=.returned v/\nX cV w.heap.size w w'/\gJ M b/\fq b w'/\uu w M b/\
   ((l=[] /\ ∃a,v=.slice a 0 0) \/ ∃(c cap:V) (cs:ea dp) (T:eH),w.heap.size<=c/\v=.slice (U ⟨c,0,cM⟩) l.length cap/\l.length<=cap/\
    cap*cQ<=cs.size/\w'.heap[c]?=U (.cells cs T (0,0)) /\lz b cs l cQ/\ ∀o,b c o=cM)
inductive iC where
 |d (x:c3)
 |row (l:J (J c3)) (cQ:V)
def MD(w w':c')(b:eE)(l:J (J c3))(cQ:V)(cL:dB kR)(v:dp):Prop:=
 match cL with
 |none=>l=[] /\ ∃a,v=.slice a 0 0
 |some cL=>w.heap.size<=cL.blk/\ ∃(cap:V) (cs:ea dp) (T:eH),v=.slice (U ⟨cL.blk,0,cM⟩) l.length cap/\cL.len=l.length/\cL.cQ=cQ/\cL.size=cs.size/\l.length<=cap/\
  cap*cQ<=cs.size/\w'.heap[cL.blk]?=U (.cells cs T (0,0)) /\lz b cs l cQ/\ ∀o,b cL.blk o=cM
def Ei(P:el)(f:ig)(dx:J c3)(cs:J iC):Prop:=
 nk P f/\ ∀(cV:jm) (w:c') (M:eE) (vs:ea dp),gG cV (λc=>w.heap.size<=c) M->fq M w->ly M dx vs->uv P cV f vs w λe w'=>
  ∃(us:ea dp) (a:eE) (ev:V->dB kR),e=.returned (.agg us) /\nX cV w.heap.size w w'/\gJ M a/\fq a w'/\uu w M a/\us.size=cs.length/\
   (∀(i:V) (c:iC),cs[i]?=U c->∃u,us[i]?=U u/\match c with
    | .d x=>e1 a x u
    | .row l cQ=>MD w w' a l cQ (ev i) u) /\
   ∀(i j:V) (cL ej:kR),ev i=U cL->ev j=U ej->cL.blk=ej.blk->i=j
def Ej(P:el)(f:ig)(dx:J c3)(cs:J iC)(j6:J c3):Prop:=
 nk P f/\ ∀(cV:jm) (w:c') (M:eE) (vs:ea dp),gG cV (λc=>w.heap.size<=c) M->fq M w->ly M dx vs->uv P cV f vs w λe w'=>
  ∃(c:V) (us b:ea dp) (eQ:eH) (a:eE) (ev:V->dB kR),e=.returned (.tuple (#[.pointer (U ⟨c,0,cM⟩)]++b)) /\w.heap.size<=c/\w'.heap[c]?=U (.cells us eQ (0,0)) /\ (∀o,a c o=cM) /\
   nX cV w.heap.size w w'/\gJ M a/\fq a w'/\uu w M a/\us.size=cs.length/\ly a j6 b/\
   (∀(i:V) (c:iC),cs[i]?=U c->∃u,us[i]?=U u/\match c with
    | .d x=>e1 a x u
    | .row l cQ=>MD w w' a l cQ (ev i) u) /\
   (∀(i j:V) (cL ej:kR),ev i=U cL->ev j=U ej->cL.blk=ej.blk->i=j) /\ ∀(i:V) (cL:kR),ev i=U cL->cL.blk≠c
def mw(k:V):J iC->J dn
 | []=>[]
 | .d x::r=>.d x::mw k r
 | .row _ _::r=>.own k::mw (k+1) r
def ho(k:V):J iC->J (V×d4)
 | []=>[]
 | .d _::r=>ho k r
 | .row l cQ::r=>(k,.row l cQ L)::ho (k+1) r
def rb(k:dB V)(db:V->dn):V->dn:=
 match k with
 |none=>db
 |some b=>λt=>eu b (db t)
def hp(b:V):d4->d4
 | .row l cQ cN=>.row l cQ cN
 | .box c cN=>.box (cells b c) cN
 where
 cells (b:V):J dn->J dn
  | []=>[]
  |x::r=>eu b x::cells b r
def hL(k:dB V)(O:V->dB d4):V->dB d4:=
 match k with
 |none=>O
 |some b=>λt=>match O t with
  |some B=>U (hp b B)
  |none=>cM
def gj(O:V->dB d4):J (V×d4)->V->dB d4
 | []=>O
 |(b,B)::r=>gj (eO O b (U B)) r
def ge.O(e:ge)(O:V->dB d4):V->dB d4:=gj (hL e.f2 O) e.wr
def pP(f2:dB V)(b:V):Prop:=
 match f2 with
 |none=>True
 |some k=>g1 k b=L
def td{k b}(h:pP (U k) b):b≠k:=Ed h
def rc(P:el)(f:ig)(dD:J dn)(O:V->dB d4)(e:ge):Prop:=
 nk P f/\ ∀(cV:jm) (own:V->Prop) (M:eE) (D:gr) (w:c') (vs:ea dp),gG cV own M->(∀c,w.heap.size<=c->own c)->fq M w->er own M D O w->y_ M D dD vs->
  uv P cV f vs w λke w'=>∃(v:dp) (a:eE) (eg:gr),ke=.returned v/\jM (pe cV own) w w'/\gJ M a/\fq a w'/\jl own M a/\
   er own a eg (e.O O) w'/\ (∀b,pP e.f2 b->eg b=D b) /\dV a eg e.fl v
structure re(P:el)(f:ig)(st:dh)(dD:J dn)(O:V->dB d4)(dst:dB Tmp)(dx:J c3)(dR:J V)(K:ge->Prop):Prop where
 out:(∃d,dX P f dx d/\bif pN d then K ⟨lx d,[],cM⟩ else K ⟨lx d,f9 O dR,cM⟩) \/
 (∃l cQ t,j5 P f dx l cQ/\dst=U t/\K ⟨.own t,f9 O dR++[(t,.row l cQ L)],U t⟩) \/
 (st=N/\ ∃e,rc P f dD O e/\K e) \/
 (∃cs t,Ei P f dx cs/\dst=U t/\ (ho 0 cs).length<=8/\K ⟨.agg (mw (2000000+8*t) cs),f9 O dR++ho (2000000+8*t) cs,U (2000000+8*t)⟩) \/
 (∃cs j6 t,Ej P f dx cs j6/\dst=U t/\ (ho 0 cs).length<=7/\K ⟨.dP (.ptr (2000000+8*t) 0 0::j6.map lx.one),f9 O dR++(ho (2000000+8*t+1) cs++[(2000000+8*t,.box (mw (2000000+8*t+1) cs) L)]),U (2000000+8*t)⟩)
def df{P f st dD O dst dx dR K d}
  (h:dX P f dx d)(k:bif pN d then K ⟨lx d,[],cM⟩ else K ⟨lx d,f9 O dR,cM⟩):re P f st dD O dst dx dR K:=⟨.inl ⟨d,h,k⟩⟩
def gK{P f st dD O t dx dR K l cQ}
  (h:j5 P f dx l cQ)(k:K ⟨.own t,f9 O dR++[(t,.row l cQ L)],U t⟩):re P f st dD O (U t) dx dR K:=⟨.inr (.inl ⟨l,cQ,t,h,Z,k⟩)⟩
def HE{P f dD O dst dx dR K e}
  (h:rc P f dD O e)(k:K e):re P f N dD O dst dx dR K:=⟨.inr (.inr (.inl ⟨Z,e,h,k⟩))⟩
def Ek{P f st dD O t dx dR K cs}
  (h:Ei P f dx cs)(cY:(ho 0 cs).length<=8)(k:K ⟨.agg (mw (2000000+8*t) cs),f9 O dR++ho (2000000+8*t) cs,U (2000000+8*t)⟩):re P f st dD O (U t) dx dR K:=⟨.inr (.inr (.inr (.inl ⟨cs,t,h,Z,cY,k⟩)))⟩
def afK{P f st dD O t dx dR K cs r}
  (h:Ej P f dx cs r)(cY:(ho 0 cs).length<=7)(k:K ⟨.dP (.ptr (2000000+8*t) 0 0::r.map lx.one),f9 O dR++(ho (2000000+8*t+1) cs++[(2000000+8*t,.box (mw (2000000+8*t+1) cs) L)]),U (2000000+8*t)⟩):
  re P f st dD O (U t) dx dR K:=⟨.inr (.inr (.inr (.inr ⟨cs,r,t,h,Z,cY,k⟩)))⟩
def ME(P:el)(f:ig)(dD:J dn)(O:V->dB d4)(b:dh):Prop:=
 (∃fn,P.funcs[f]?=U fn/\fn.body.isSome=L) /\ ∀(own:V->Prop) (M:eE) (D:gr) (w:c') (vs:ea dp),fq M w->er own M D O w->y_ M D dD vs->(callFunc f vs).run P w=.ok (.value (.bool b)) w/\ ∀e∈(callFunc f vs).events P w #[],h0 own M e
structure y'(P:el)(f:ig)(dD:J dn)(O:V->dB d4)(K:ge->Prop):Prop where
 out:(∃e,rc P f dD O e/\K e) \/ ∃b,ME P f dD O b/\K ⟨.d (.bool b),[],cM⟩
def MF{P f dD O K e}(h:rc P f dD O e)(k:K e):y' P f dD O K:=⟨.inl ⟨e,h,k⟩⟩
def afL{P f dD O K b}(h:ME P f dD O b)(k:K ⟨.d (.bool b),[],cM⟩):y' P f dD O K:=⟨.inr ⟨b,h,k⟩⟩
def T8:dn->dB (ig×J c3)
 | .d (.fn f c)=>U (f,c)
 |_=>cM
def afM:dn->dh
 | .ptr _ _ _=>N
 | .win _ _ _ _=>N
 |_=>L
def j7(dC:fu->dn):J fu->J dn
 | []=>[]
 |x::r=>dC x::j7 dC r
def MG:J dn->dh
 | []=>L
 |x::r=>bif afM x then N else MG r
def val(K:ge->Prop)(v:dn):Prop:=K ⟨v,[],cM⟩
def MH(T:fL)(P:el)(o:gC)(c:Call)(dC:fu->dn)(O:V->dB d4)(K:ge->Prop):Prop:=
 match c.callee with
 | .builtin b=>match b with
  | .len=>match c.args.toList with
   | [x]=>match c.argTypes.toList with
    | [t]=>Mx T t (dC x) O (val K)
    |_=>dA
   |_=>dA
  | .min=>match c.args.toList with
   | [x,y]=>match dC x with
    | .d (.int k a)=>match dC y with
     | .d (.int fr b)=>bif d2 (j4 k) (j4 fr) then K ⟨.d (.int k (min a b)),[],cM⟩ else dA
     |_=>dA
    |_=>dA
   |_=>dA
  | .max=>match c.args.toList with
   | [x,y]=>match dC x with
    | .d (.int k a)=>match dC y with
     | .d (.int fr b)=>bif d2 (j4 k) (j4 fr) then K ⟨.d (.int k (max a b)),[],cM⟩ else dA
     |_=>dA
    |_=>dA
   |_=>dA
  | .append=>match c.args.toList with
   | [x,y]=>match c.argTypes.toList with
    | [t,t2]=>match (T t2).k with
     | .slice _=>match (T t).k with
      | .slice e=>Bi (T e).size (dC y) O λfS=>match dC x with
       | .nil=>match o.dst with
        |some d=>r8 fS.length (T e).bytes (K ⟨.own d,[(d,.row fS (T e).size L)],U d⟩)
        |none=>dA
       | .own b=>match O b with
        |some (.row l cQ L)=>bif d2 cQ (T e).size then r8 (l.length+fS.length) (T e).bytes (K ⟨.own b,[(b,.row (l++fS) cQ L)],U b⟩) else dA
        |_=>dA
       | .win b dy n (U c)=>HC T e b dy n c fS O o.dst K
       |_=>dA
      |_=>dA
     | .int _=>match (T t).k with
      | .slice e=>match dC x with
       | .win b dy n (U c)=>match dC y with
        | .d (.int _ k)=>MA T e b dy n c k O o.dst K
        |_=>dA
       | .nil=>match dC y with
        | .d (.int _ k)=>MB T e k o.dst K
        |_=>dA
       |_=>dA
      |_=>dA
     |_=>dA
    |_=>dA
   |_=>dA
  | .cap=>match c.args.toList with
   | [x]=>match c.argTypes.toList with
    | [t]=>match (T t).k with
     | .slice _=>match dC x with
      | .win b _ _ (U c)=>match O b with
       |some _=>K ⟨.d (.int .i64 c),[],cM⟩
       |none=>dA
      | .nil=>K ⟨.d (.int .i64 0),[],cM⟩
      |_=>dA
     |_=>dA
    |_=>dA
   |_=>dA
  | .copy=>match c.args.toList with
   | [x,y]=>match c.argTypes.toList with
    | [t,t2]=>match (T t).k with
     | .slice e=>T5 T e (dC x) (dC y) O K
     |_=>dA
    |_=>dA
   |_=>dA
  | .clear=>match c.args.toList with
   | [x]=>match c.argTypes.toList with
    | [t]=>match (T t).k with
     | .slice e=>T6 T e (dC x) O K
     |_=>dA
    |_=>dA
   |_=>dA
  |_=>dA
 | .value f=>match f with
  | .func f=>bif MG (j7 dC c.args.toList) then y' P f (j7 dC c.args.toList) O K else y8 O dC c.args.toList λdx dR=>re P f N (j7 dC c.args.toList) O o.dst dx dR K
  | .tmp t=>match T8 (dC (.tmp t)) with
   |some (f,cs)=>y8 O dC c.args.toList λdx dR=>re P f L [] O o.dst (dx++cs) dR K
   |none=>dA
  |_=>dA
 |_=>dA
def HF(c:J dn)(j:V)(v:dn)(K:J dn->Prop):Prop:=
 match v with
 | .agg l=>bif d2 l.length c.length then qt l K else K (Bg c j l)
 |v=>K (iM c j [v])
def v0:J (J c3)->dB (J I)
 | []=>U []
 |e::r=>match e with
  | [.int k n]=>bif d2 (j4 k) 4 then(match v0 r with
   |some dR=>U (n::dR)
   |none=>cM) else cM
  |_=>cM
def qx(dR:J I):dS:=dR.foldl (λr n=>r.push (UInt8.ofNat n.toNat)) fI
def ux(hu:BinOp)(K:ge->Prop)(r:dh):Prop:=
 match hu with
 | .eql=>K ⟨.d (.bool r),[],cM⟩
 | .neq=>K ⟨.d (.bool (!r)),[],cM⟩
 |_=>dA
def El(hu:BinOp)(x y:dn)(O:V->dB d4)(K:ge->Prop):Prop:=
 match y with
 | .d .ka=>match x with
  | .ptr b _ _=>match O b with
   |some _=>ux hu K L
   |none=>dA
  | .d .ka=>ux hu K N
  |_=>dA
 |_=>dA
def hs(T:fL)(P:el)(o:gC)(dC:fu->dn)(O:V->dB d4)(K:ge->Prop):Prop:=
 match o.op with
 | .move x=>mY (dC x) (val K)
 | .assign x=>mY (dC x) (val K)
 | .pick c a b=>match dC c with
  | .e4=>mY (dC a) (val K)
  | .fd=>mY (dC b) (val K)
  | .d (.bool c)=>jy c (mY (dC a) (val K)) (mY (dC b) (val K))
  |_=>dA
 | .load t a=>vX T t (dC a) O (val K)
 | .nilCheck x=>match dC x with
  | .ptr b i j=>match O b with
   |some _=>K ⟨.ptr b i j,[],cM⟩
   |none=>dA
  | .d (.ip c j)=>K ⟨.d (.ip c j),[],cM⟩
  |_=>dA
 | .binOp op t x y _=>match (T t).k with
  | .ptr _=>El op (dC x) (dC y) O K
  |_=>Ef T t op (dC x) (dC y) (val K)
 | .unOp op _ x=>match op with
  | .not=>match dC x with
   | .d (.bool b)=>K ⟨.d (.bool (!b)),[],cM⟩
   | .e4=>K ⟨.fd,[],cM⟩
   | .fd=>K ⟨.e4,[],cM⟩
   |_=>dA
  | .xor=>match dC x with
   | .d (.int k n)=>K ⟨.d (.int k (pL .xor k (if k.signed then-1 else k.max) n)),[],cM⟩
   |_=>dA
  |_=>dA
 | .convert fS dst x=>match (T dst).k with
  | .int k=>match (T fS).k with
   | .int _=>match dC x with
    | .d (.int _ n)=>vV k n λn=>K ⟨.d (.int k n),[],cM⟩
    |_=>dA
   |_=>dA
  | .str=>match (T fS).k with
   | .slice e=>match (T e).k with
    | .int h=>bif d2 (j4 h) 4 then Bi 1 (dC x) O λl=>(match v0 l with
     |some dR=>K ⟨.d (.str (qx dR)),[],cM⟩
     |none=>dA) else dA
    |_=>dA
   |_=>dA
  |_=>dA
 | .slice t x dy cK nW=>xn dC dy λdy=>xn dC cK λcK=>xn dC nW λnW=>My T t (dC x) O dy cK nW K
 | .fieldAddr s x f=>match dC x with
  | .ptr b i j=>match O b with
   |some _=>xm T s f λo _=>K ⟨.ptr b i (j+o),[],cM⟩
   |none=>dA
  | .d (.ip c j)=>xm T s f λo _=>K ⟨.d (.ip c (j+o)),[],cM⟩
  |_=>dA
 | .field s x f=>match dC x with
  | .agg c=>xm T s f λo t=>xl (T t).k.agg (T t).size c o (val K)
  |_=>dA
 | .indexAddr t x i=>Mv T t (dC x) (dC i) O (val K)
 | .index t x i=>Mw T t (dC x) (dC i) (val K)
 | .extract x i=>match dC x with
  | .dP c=>Bf c i (val K)
  |_=>dA
 | .build t g=>match (T t).k with
  | .struct ir=>vZ O dC (HD T ir) ((T t).zero.map ra) g.toList λc=>qt c λc=>K ⟨.agg c,[],cM⟩
  | .arr _ e=>vZ O dC (λi=>U (i*(T e).size,(T e).size)) ((T t).zero.map ra) g.toList λc=>K ⟨.agg c,[],cM⟩
  |_=>dA
 | .alloc t=>match o.dst with
  |some d=>bif (T t).k.known then qt ((T t).zero.map ra) λc=>K ⟨.ptr d 0 0,[(d,.box c L)],U d⟩ else dA
  |none=>dA
 | .box _ x=>match o.dst with
  |some d=>mY (dC x) λv=>bif r9 O (cellsOf v) then qt (hp.cells d (cellsOf v)) λc=>K ⟨.ptr d 0 0,[(d,.box c L)],U d⟩ else dA
  |none=>dA
 | .store t a x=>match dC a with
  | .ptr b i j=>match O b with
   |some (.box c L)=>mY (dC x) λv=>jL (i=0) (bif (T t).k.known&&d2 (cellsOf v).length (T t).size then(bif r9 O (cellsOf v) then(bif hn (j+(T t).size) c.length then HF c j v λc=>K ⟨.dead,[(b,.box c L)],cM⟩ else dA) else dA) else dA)
   |some (.row l cQ L)=>mY (dC x) λv=>match conv.cells O (cellsOf v) with
    |some dD=>bif (T t).k.known&&d2 (cellsOf v).length (T t).size&&!kd b (gU.cells O (cellsOf v)) then(bif r9 O (cellsOf v) then Ee l i λe=>bif hn (j+(T t).size) e.length then K ⟨.dead,f9 O (gU.cells O (cellsOf v))++[(b,.row (l.set i (iM e j dD)) cQ L)],cM⟩ else dA else dA) else dA
    |none=>dA
   |_=>dA
  |_=>dA
 | .makeSlice t n c=>match o.dst with
  |some d=>match (T t).k with
   | .slice e=>match dC n with
    | .d (.int _ n)=>match dC c with
     | .d (.int _ c)=>jL (0<=n/\n<=c) (r8 c.toNat (T e).bytes (K ⟨.own d,[(d,.row (eL n.toNat (T e).zero) (T e).size L)],U d⟩))
     |_=>dA
    |_=>dA
   |_=>dA
  |none=>dA
 | .buildSlice t n g=>match o.dst with
  |some d=>match (T t).k with
   | .slice e=>vZ O dC (λi=>U (i*(T e).size,(T e).size)) (Bj T e n) g.toList λc=>jL (n*(T e).size<=16777216) (match conv.cells O c with
    |some dD=>K ⟨.own d,f9 O (gU.cells O c)++[(d,.row (chunk (T e).size n dD) (T e).size L)],U d⟩
    |none=>dA)
   |_=>dA
  |none=>dA
 | .makeFunc fn first cap=>match fn with
  | .func f=>bif d2 first.size 0 then(match mZ O (j7 dC cap.toList) with
   |some (cs,ws)=>K ⟨.d (.fn f cs),ws,cM⟩
   |none=>dA) else dA
  |_=>dA
 | .call c=>MH T P o c dC O K
 |_=>dA
 where
 chunk (cQ:V):V->J c3->J (J c3)
  |0,_=>[]
  |n+1,dD=>dD.take cQ::chunk cQ n (dD.drop cQ)
 mZ (O:V->dB d4):J dn->dB (J c3×J (V×d4))
  | []=>U ([],[])
  | .ptr b i j::r=>match O b with
   |some (.box c _)=>bif d2 i 0 then(match conv.vY c with
    |some dx=>(match mZ O r with
     |some (cs,ws)=>U (.ip dx j::cs,(b,.box c N)::ws)
     |none=>cM)
    |none=>cM) else cM
   |_=>cM
  |x::r=>match conv.nj x with
   |some d=>(match mZ O r with
    |some (cs,ws)=>U (d::cs,ws)
    |none=>cM)
   |none=>cM
structure HG(l:J (J c3))(K:dh->Prop):Prop where
 out:∀r:dh,(r=N->l=[])->K r
def oG{l K}(h:∀r,(r=N->l=[])->K r):HG l K:=⟨h⟩
def HH:fu->dh
 | .const (.slice cM 0 0)=>N
 |_=>L
def MI(x:dn)(O:V->dB d4)(K:dh->Prop):Prop:=
 match x with
 | .d (.dk l)=>HG l K
 | .nil=>HG [] K
 | .own b=>match O b with
  |some (.row l _ _)=>HG l K
  |_=>dA
 |_=>dA
def uy(T:fL)(P:el)(o:gC)(dC:fu->dn)(O:V->dB d4)(K:ge->Prop):Prop:=
 match o.op with
 | .binOp hu t x y z=>match (T t).k with
  | .slice _=>bif HH y then MI (dC x) O (ux hu K) else dA
  |_=>hs T P o dC O K
 |_=>hs T P o dC O K
def hR(db:V->dn)(O:V->dB d4)(dst:dB Tmp)(e:ge)(K:fs->Prop):Prop:=
 match e with
 |⟨fl,wr,f2⟩=>match f2 with
  |none=>match wr with
   | []=>match dst with
    |none=>K ⟨db,O⟩
    |some t=>K ⟨eO db t fl,O⟩
   |(b,B)::r=>match dst with
    |none=>K ⟨db,gj (eO O b (U B)) r⟩
    |some t=>K ⟨eO db t fl,gj (eO O b (U B)) r⟩
  |some k=>bif hn 1000000 k&&hn k 1000003 then dA else match dst with
   |none=>K ⟨rb (U k) db,gj (hL (U k) O) wr⟩
   |some t=>K ⟨eO (rb (U k) db) t fl,gj (hL (U k) O) wr⟩
def te(db:V->dn)(dst:dB Tmp)(fl:dn):V->dn:=
 match dst with
 |none=>db
 |some t=>eO db t fl
def Bk{db O dst e K}(h:hR db O dst e K):
  (∀k,e.f2=U k->¬(1000000<=k/\k<1000004)) /\K ⟨te (rb e.f2 db) dst e.fl,e.O O⟩:=by
 have⟨v,w,l⟩:=e
 cases l with
 |none=>
  refine⟨λk h=>(by cases h),?_⟩
  cases dst<;>cases w<;>exact h
 |some k=>
  cases a:(hn 1000000 k&&hn k 1000003) with
  |true=>simp[hR,a]at h
  |false=>
   simp[hR,a,jk]at h;refine⟨λfr e=>?_,?_⟩
   .have:k=fr:=by simpa using e
    subst this;rintro⟨Q,b⟩;rw[r_ Q,r_ (show k<=1000003 by omega)]at a
    cases a
   .cases dst<;>exact h
def MJ(T:fL)(P:el)(all:ea gC)(o:gC)(a:fs->(fs->Prop)->Prop)(st:fs)(K:fs->Prop):Prop:=
 match st with
  |⟨db,O⟩=>match o.guard with
   |none=>uy T P o (iW db) O λe=>hR db O o.dst e λst=>a st K
   |some (g,h1)=>match (all[g]?).bind (·.dst) with
    |none=>dA
    |some t=>match db t with
     | .e4=>bif h1 then uy T P o (iW db) O λe=>hR db O o.dst e λst=>a st K else hR db O o.dst ⟨.dP [],[],cM⟩ λst=>a st K
     | .fd=>bif h1 then hR db O o.dst ⟨.dP [],[],cM⟩ λst=>a st K else uy T P o (iW db) O λe=>hR db O o.dst e λst=>a st K
     | .d (.bool b)=>jy b
      (bif h1 then uy T P o (iW (eO db t .e4)) O λe=>hR (eO db t .e4) O o.dst e λst=>a st K else hR (eO db t .e4) O o.dst ⟨.dP [],[],cM⟩ λst=>a st K)
      (bif h1 then hR (eO db t .fd) O o.dst ⟨.dP [],[],cM⟩ λst=>a st K else uy T P o (iW (eO db t .fd)) O λe=>hR (eO db t .fd) O o.dst e λst=>a st K)
     | .dP []=>hR db O o.dst ⟨.dP [],[],cM⟩ λst=>a st K
     |_=>dA
def v1(T:fL)(P:el)(all:ea gC)(l:J gC):fs->(fs->Prop)->Prop:=
 T9 (motive:=λ_=>fs->(fs->Prop)->Prop) (λst K=>K st) (λo _ a=>MJ T P all o a) l
def afN{T P a st K}:v1 T P a [] st K=K st:=rfl
def afO{T P a o r st K}:v1 T P a (o::r) st K=MJ T P a o (v1 T P a r) st K:=rfl
def afP(op:Op):J fu:=
 match op with
 | .move x=>[x]
 | .assign x=>[x]
 | .pick c a b=>[c,a,b]
 | .load _ a=>[a]
 | .nilCheck x=>[x]
 | .binOp _ _ x y _=>[x,y]
 | .unOp _ _ x=>[x]
 | .convert _ _ x=>[x]
 | .slice _ x dy cK nW=>x::(opt dy++(opt cK++opt nW))
 | .fieldAddr _ x _=>[x]
 | .field _ x _=>[x]
 | .indexAddr _ x i=>[x,i]
 | .index _ x i=>[x,i]
 | .extract x _=>[x]
 | .build _ d=>snd d.toList
 | .box _ x=>[x]
 | .store _ a x=>[a,x]
 | .makeSlice _ n c=>[n,c]
 | .buildSlice _ _ d=>snd d.toList
 | .makeFunc _ _ cap=>cap.toList
 | .call c=>match c.callee with
  | .value f=>f::c.args.toList
  |_=>c.args.toList
 |_=>[]
 where
 opt:dB fu->J fu
  |none=>[]
  |some x=>[x]
 snd:J (V×fu)->J fu
  | []=>[]
  |(_,x)::r=>x::snd r
def r':J fu->J V
 | []=>[]
 | .tmp t::r=>t::r' r
 |_::r=>r' r
def nm(rd:J V)(db:V->dn)(t:V):dn:=bif kd t rd then db t else .dead
def pQ(F:J V)(O:V->dB d4)(b:V):dB d4:=bif kd b F then O b else cM
def fU:dn->dB (J V)
 | .agg c=>cells c
 | .dP c=>parts c
 | .fn _ c=>cells c
 |x=>one x
 where
 one:dn->dB (J V)
  | .d _=>U []
  | .e4=>U []
  | .fd=>U []
  | .nil=>U []
  | .own b=>U [b]
  | .ptr b _ _=>U [b]
  | .win b _ _ _=>U [b]
  |_=>cM
 cells:J dn->dB (J V)
  | []=>U []
  |x::r=>match one x with
   |some a=>match cells r with
    |some b=>U (a++b)
    |none=>cM
   |none=>cM
 part:dn->dB (J V)
  | .agg c=>cells c
  |x=>one x
 parts:J dn->dB (J V)
  | []=>U []
  |x::r=>match part x with
   |some a=>match parts r with
    |some b=>U (a++b)
    |none=>cM
   |none=>cM
def nY:d4->dB (J V)
 | .row _ _ _=>U []
 | .box c _=>fU.cells c
def Bl:J V->J V->dh
 | [],_=>N
 |x::r,F=>bif kd x F then Bl r F else L
def uz:J V->J V->dh
 | [],_=>N
 |x::r,F=>bif kd x F then L else uz r F
def jA(o:dB (J V))(F:J V):dh:=
 match o with
 |some dR=>Bl dR F
 |none=>L
def T_(db:V->dn):J V->dB (J V)
 | []=>U []
 |t::r=>match fU (db t) with
  |some a=>match T_ db r with
   |some b=>U (a++b)
   |none=>cM
  |none=>cM
def HI(O:V->dB d4):V->J V->J V->J V
 |0,_,seen=>seen
 |n+1,todo,seen=>match todo with
  | []=>seen
  |b::r=>bif kd b seen then HI O n r seen else match O b with
   |some B=>match nY B with
    |some dR=>HI O n (dR++r) (b::seen)
    |none=>[]
   |none=>HI O n r (b::seen)
def qy(l:J V)(K:J V->Prop):Prop:=
 match l with
 | []=>K []
 |x::r=>qy r λr=>K (x::r)
def Em(db:V->dn)(rd F:J V):dh:=
 match rd with
 | []=>N
 |t::r=>bif jA (fU (db t)) F then Em db r F else L
def Bm(O:V->dB d4)(F G:J V):dh:=
 match G with
 | []=>N
 |b::r=>match O b with
  |some B=>bif jA (nY B) F then Bm O F r else L
  |none=>Bm O F r
def qz:J (V×d4)->J V
 | []=>[]
 |(b,_)::r=>b::qz r
def kz(e:ge):J V:=
 match e.f2 with
 |some k=>k::qz e.wr
 |none=>qz e.wr
def En(F:J V):J (V×d4)->dh
 | []=>N
 |(b,B)::r=>bif kd b F&&jA (nY B) F then En F r else L
def MK(F:J V)(dst:dB Tmp)(fl:dn):dh:=
 match dst with
 |none=>N
 |some _=>match fl with
  | .dead=>N
  |v=>jA (fU v) F
def HJ(F:J V)(dst:dB Tmp)(e:ge):dh:=
 match e.f2 with
 |none=>En F e.wr&&MK F dst e.fl
 |some k=>(hn k 1999999||!d2 (k%8) 0)&&kd k (qz e.wr)&&En (k::F) e.wr&&MK (k::F) dst e.fl
structure oH where
 dst:dB Tmp
 rd:J V
 F:J V
 W:J V
 ev:dh
 k:J V
 wd:dh
def uA:Op->dh
 | .move _=>N
 | .assign _=>N
 | .pick _ _ _=>N
 |_=>L
def pR:Op->dh
 | .nilCheck _=>N
 | .fieldAddr _ _ _=>N
 |_=>L
def T':Op->dh
 | .call c=>match c.callee with
  | .value (.func f)=>d2 f 70||d2 f 53
  |_=>L
 |_=>L
def rf(e:ge):J V:=
 match e.f2 with
 |some k=>[k]
 |none=>[]
def uB(all:ea gC)(dst:dB Tmp):J gC->dh
 | []=>L
 |o::r=>match o.guard with
  |some (g,_)=>match (all[g]?).bind (·.dst) with
   |some t=>match dst with
    |some d=>bif d2 t d then N else uB all dst r
    |none=>L
   |none=>uB all dst r
  |none=>uB all dst r
def v2(g:dh)(e:ge)(K:ge->Prop):Prop:=
 match g with
 |false=>K e
 |true=>match e with
  |⟨fl,wr,f2⟩=>match fl with
   | .d (.bool b)=>jy b (K ⟨.e4,wr,f2⟩) (K ⟨.fd,wr,f2⟩)
   |fl=>K ⟨fl,wr,f2⟩
def uC(op:Op)(db:V->dn):J fu:=
 match op with
 | .pick c a b=>match iW db c with
  | .e4=>[c,a]
  | .fd=>[c,b]
  |_=>[c,a,b]
 |op=>afP op
def ML(ev:dh)(db:V->dn)(O:V->dB d4)(rd:J V)(K:J V->Prop)(a:Prop):Prop:=
 match T_ db rd with
 |some dR=>qy (bif ev then dR else HI O 200 dR []) λF=>bif Em db rd F&&(bif ev then N else Bm O F F) then K F else a
 |none=>a
def v3(T:fL)(P:el)(o:gC)(g:dh)(cZ:J V)(db:V->dn)(O:V->dB d4)(K:ge->oH->Prop):Prop:=
 qy (r' (uC o.op db)) λrd=>bif T' o.op then hs T P o (iW (nm rd db)) O (λe=>qy (kz e) λW=>qy (cZ++rd) λa=>v2 g e λe=>K e ⟨o.dst,a,[],W,L,rf e,N⟩) else ML (uA o.op||pR o.op) db O rd (λF=>hs T P o (iW (nm rd db)) (pQ F O) λe=>
  bif HJ F o.dst e then qy (kz e) λW=>qy (cZ++rd) λa=>v2 g e λe=>K e ⟨o.dst,a,F,W,uA o.op,rf e,L⟩ else dA)
  (hs T P o (iW (nm rd db)) O λe=>qy (kz e) λW=>qy (cZ++rd) λa=>v2 g e λe=>K e ⟨o.dst,a,[],W,L,rf e,N⟩)
def HK(d:dB Tmp)(l:J V):dh:=
 match d with
 |some d=>!kd d l
 |none=>N
def Ua(d e:dB Tmp):dh:=
 match d with
 |some d=>match e with
  |some e=>!d2 d e
  |none=>N
 |none=>N
def Eo(x y:oH):dh:=!x.wd&&!y.wd&&(HK x.dst y.rd&&Ua x.dst y.dst&&HK y.dst x.rd&&uz x.W y.W&&uz (bif y.ev then x.k else x.W) y.F&&uz (bif x.ev then y.k else y.W) x.F)
def xp(e:Edge):dh:=
 match e.ground with
 | .textOnly _=>L
 | .gcOnly _=>L
 |_=>N
def uD(a:J V):J Edge->V
 | []=>0
 |e::r=>bif xp e then Nat.lor (Nat.lor (2^e.on) (a.getD e.on 0)) (uD a r) else uD a r
def Bn(i:V):J Edge->dh
 | []=>N
 |e::r=>bif xp e then(bif xq e.on i then Bn i r else L) else Bn i r
def HL(s:oH)(p:V):V->J oH->dh
 |_,[]=>N
 |m,x::r=>bif Nat.testBit p m||Eo x s then HL s p (m+1) r else L
def uE:J gC->J oH->V->J oH->J V->dh
 | [],[],_,_,_=>N
 |o::r,s::q,i,done,a=>Bn i o.after.toList&&HL s (uD a o.after.toList) 0 done&&uE r q (i+1) (done++[s]) (a++[uD a o.after.toList])
 |_,_,_,_,_=>L
def tf(a:(V->dn)->(V->dB d4)->J oH->(fs->Prop)->Prop)(st:fs)(b:J oH)(K:fs->Prop):Prop:=
 match st with
 |⟨db,O⟩=>a db O b K
def MM(T:fL)(P:el)(all:ea gC)(o:gC)(a:(V->dn)->(V->dB d4)->J oH->(fs->Prop)->Prop)(db:V->dn)(O:V->dB d4)(c:J oH)(K:fs->Prop):Prop:=
 match o.guard with
  |none=>v3 T P o (uB all o.dst all.toList) [] db O λe s=>hR db O o.dst e λst=>tf a st (c++[s]) K
  |some (g,h1)=>match (all[g]?).bind (·.dst) with
   |none=>dA
   |some t=>match db t with
    | .e4=>bif h1 then v3 T P o (uB all o.dst all.toList) [t] db O λe s=>hR db O o.dst e λst=>tf a st (c++[s]) K else hR db O o.dst ⟨.dP [],[],cM⟩ λst=>tf a st (c++[⟨o.dst,[t],[],[],L,[],L⟩]) K
    | .fd=>bif h1 then hR db O o.dst ⟨.dP [],[],cM⟩ λst=>tf a st (c++[⟨o.dst,[t],[],[],L,[],L⟩]) K else v3 T P o (uB all o.dst all.toList) [t] db O λe s=>hR db O o.dst e λst=>tf a st (c++[s]) K
    | .d (.bool b)=>jy b
     (bif h1 then v3 T P o (uB all o.dst all.toList) [t] db O λe s=>hR db O o.dst e λst=>tf a st (c++[s]) K else hR db O o.dst ⟨.dP [],[],cM⟩ λst=>tf a st (c++[⟨o.dst,[t],[],[],L,[],L⟩]) K)
     (bif h1 then hR db O o.dst ⟨.dP [],[],cM⟩ λst=>tf a st (c++[⟨o.dst,[t],[],[],L,[],L⟩]) K else v3 T P o (uB all o.dst all.toList) [t] db O λe s=>hR db O o.dst e λst=>tf a st (c++[s]) K)
    | .dP []=>hR db O o.dst ⟨.dP [],[],cM⟩ λst=>tf a st (c++[⟨o.dst,[t],[],[],L,[],L⟩]) K
    |_=>dA
def tg(T:fL)(P:el)(all:ea gC)(l:J gC):(V->dn)->(V->dB d4)->J oH->(fs->Prop)->Prop:=
 T9 (motive:=λ_=>(V->dn)->(V->dB d4)->J oH->(fs->Prop)->Prop) (λdb O a K=>jL (uE all.toList a 0 [] []=N) (K ⟨db,O⟩))
  (λo _ b=>MM T P all o b) l
def afQ{T P a o r db O c K}:tg T P a (o::r) db O c K=MM T P a o (tg T P a r) db O c K:=rfl
def afR{i st a K}:tf i st a K=i st.db st.O a K:=rfl
inductive m0 where
 |normal|exit (id:V)|ret
def rg(s st:V->dB d4):Prop:=s 1000000=st 1000000/\s 1000001=st 1000001/\s 1000002=st 1000002/\s 1000003=st 1000003
def Bo(s st:fs):Prop:=(∀t,s.db t=.dead\/s.db t=st.db t) /\ (∀b,s.O b=cM\/s.O b=st.O b) /\rg s.O st.O
def fo(l:J (V×dn))(h:J (V×d4)):fs:=⟨sa l,fF h⟩
 where
 sa (l:J (V×dn)) (s:V):dn:=
  match l with
  | []=>.dead
  |(t,v)::r=>bif d2 s t then v else sa r s
 fF (l:J (V×d4)) (s:V):dB d4:=
  match l with
  | []=>cM
  |(t,v)::r=>bif d2 s t then U v else fF r s
def za(db:V->dn):J (V×dn)->Prop
 | []=>True
 |(t,v)::r=>db t=v/\za db r
def nZ(O:V->dB d4):J (V×d4)->Prop
 | []=>True
 |(t,v)::r=>O t=U v/\nZ O r
def afS{db l}(cS:za db l)(t):fo.sa l t=.dead\/fo.sa l t=db t:=by
 induction l with
 |nil=>exact .inl Z
 |cons p r i=>
  have⟨s,v⟩:=p;simp[fo.sa]
  cases h:d2 t s with|true=>have:=gs h;subst this;exact .inr cS.1.symm|false=>exact i cS.2
def afT{O h}(H:nZ O h)(b):fo.fF h b=cM\/fo.fF h b=O b:=by
 induction h with
 |nil=>exact .inl Z
 |cons p r i=>
  have⟨s,v⟩:=p;simp[fo.fF]
  cases a:d2 b s with|true=>have:=gs a;subst this;exact .inr H.1.symm|false=>exact i H.2
def dT{l h st}(cS:za st.db l)(c:nZ st.O h)(a:rg (fo.fF h) st.O):Bo (fo l h) st:=by
 refine⟨λt=>?_,λb=>?_,a⟩
 case refine_1=>clear a;exact afS cS t
 case refine_2=>clear a cS;exact afT c b
inductive HM where
 |row (t b cQ:V)
 |dk (t:V)
 |cell (i5 j b cQ:V)
 |wk (t:V) (y:dn)
 |Bp (i5 j:V) (y:dn)
 |f9 (b:V) (l:J (J c3)) (cQ:V)
 |MN (t b:V) (l:J (J c3)) (cQ:V)
 |i4 (i5 j b:V) (l:J (J c3)) (cQ:V)
structure zb(x y:dn):Prop where
 out:∀(M:eE) (D:gr) (v:dp),dV M D x v->dV M D y v
def Ep(x):zb x x:=⟨λ_ _ _ h=>h⟩
def MO:zb .e4 (.d (.bool N)):=⟨λ_ _ _ h=>by cases h;exact .d _ _ (.bool N)⟩
def HN:zb .fd (.d (.bool L)):=⟨λ_ _ _ h=>by cases h;exact .d _ _ (.bool L)⟩
def uF(k:HM)(st:fs):fs:=
 match k with
 | .row t b cQ=>⟨eO (rb (U b) st.db) t (.own b),eO (hL (U b) st.O) b (U (.row [] cQ L))⟩
 | .dk t=>⟨eO st.db t (.d (.dk [])),st.O⟩
 | .cell i5 j b cQ=>match st.O i5 with
  |some (.box c _)=>⟨rb (U b) st.db,eO (eO (hL (U b) st.O) b (U (.row [] cQ L))) i5 (U (.box ((hp.cells b c).set j (.own b)) L))⟩
  |_=>st
 | .wk t y=>⟨eO st.db t y,st.O⟩
 | .Bp i5 j y=>match st.O i5 with
  |some (.box c _)=>⟨st.db,eO st.O i5 (U (.box (c.set j y) L))⟩
  |_=>st
 | .f9 b l cQ=>⟨st.db,eO st.O b (U (.row l cQ N))⟩
 | .MN t _ l _=>⟨eO st.db t (.d (.dk l)),st.O⟩
 | .i4 i5 j _ l _=>match st.O i5 with
  |some (.box c _)=>⟨st.db,eO st.O i5 (U (.box (c.set j (.d (.dk l))) L))⟩
  |_=>st
def Er(k:HM)(st:fs):Prop:=
 match k with
 | .row t b _=>st.db t=.nil/\ (hn 1000000 b&&hn b 1000003)=L
 | .dk t=>st.db t=.nil
 | .cell i5 j b _=>(match st.O i5 with
  |some (.box c cN)=>c[j]?=U .nil/\cN=L
  |_=>dA) /\d2 i5 b=L/\ (hn 1000000 b&&hn b 1000003)=L
 | .wk t y=>zb (st.db t) y
 | .Bp i5 j y=>match st.O i5 with
  |some (.box c cN)=>(∃x,c[j]?=U x/\zb x y) /\cN=L
  |_=>dA
 | .f9 b l cQ=>∃cN,st.O b=U (.row l cQ cN)
 | .MN t b l cQ=>st.db t=.own b/\st.O b=U (.row l cQ N)
 | .i4 i5 j b l cQ=>st.O b=U (.row l cQ N) /\match st.O i5 with
  |some (.box c cN)=>c[j]?=U (.own b) /\cN=L
  |_=>dA
def HO:J HM->fs->fs
 | [],st=>st
 |k::r,st=>HO r (uF k st)
def HP:J HM->fs->Prop
 | [],_=>True
 |k::r,st=>Er k st/\HP r (uF k st)
structure v4(s st:fs):Prop where
 out:∃dR,HP dR st/\Bo s (HO dR st)
def dZ{s st}(h:Bo s st):v4 s st:=⟨⟨[],dU,h⟩⟩
def oI{s st}(k)(a:Er k st)(h:Bo s (uF k st)):v4 s st:=⟨⟨[k],⟨a,dU⟩,h⟩⟩
def len{s st}(dR)(k:HP dR st)(h:Bo s (HO dR st)):v4 s st:=⟨⟨dR,k,h⟩⟩
structure Es(body:fs->(m0->fs->Prop)->Prop)(st:fs)(da:m0->fs->Prop):Prop where
 out:∃(D:Type) (S:D->fs) (cX:D->Prop) (Ub:D->V),(∃i,cX i/\v4 (S i) st) /\
  ∀i,cX i->body (S i) λe HQ=>match e with
   | .normal=>∃j,cX j/\Ub j<Ub i/\v4 (S j) HQ
   |e=>da e HQ
def eZ {body:fs->(m0->fs->Prop)->Prop} {st:fs} {da:m0->fs->Prop} {D:Type} (l:D->J (V×dn)) (h:D->J (V×d4)) (cX:D->Prop) (a:D->V) (i:D)
  (cK:cX i) (cW:v4 (fo (l i) (h i)) st)
  (r:∀ i,cX i->body (fo (l i) (h i)) fun e s=>match e with
   | .normal=>∃ j,cX j/\a j<a i/\v4 (fo (l j) (h j)) s|e=>da e s):Es body st da:=⟨⟨D,fun i=>fo (l i) (h i),cX,a,⟨i,cK,cW⟩,r⟩⟩
def HR(B:fs->(m0->fs->Prop)->Prop)(da:m0->fs->Prop)(e:m0)(st:fs):Prop:=
 match e with
 | .normal=>B st da
 | .exit i=>da (.exit i) st
 | .ret=>da .ret st
def HS(id:V)(da:m0->fs->Prop)(e:m0)(st:fs):Prop:=
 match e with
 | .exit i=>bif d2 i id then da .normal st else da (.exit i) st
 | .normal=>da .normal st
 | .ret=>da .ret st
def Bq(c:fu)(A B:fs->(m0->fs->Prop)->Prop)(st:fs)(da:m0->fs->Prop):Prop:=
 match st with
 |⟨db,O⟩=>match iW db c with
  | .e4=>A ⟨db,O⟩ da
  | .fd=>B ⟨db,O⟩ da
  | .d (.bool x)=>jy x (A ⟨db,O⟩ da) (B ⟨db,O⟩ da)
  |_=>dA
def MP(T:fL)(P:el)(ops:ea gC)(draw:dh)(st:fs)(da:m0->fs->Prop):Prop:=
 bif draw then(match st with
  |⟨db,O⟩=>tg T P ops ops.toList db O [] (da .normal)) else v1 T P ops ops.toList st (da .normal)
def kS(T:fL)(P:el)(c:Code):fs->(m0->fs->Prop)->Prop:=
 Code.rec (motive:=λ_=>fs->(m0->fs->Prop)->Prop)
  (skip:=λst da=>da .normal st)
  (region:=λ_ ops draw st da=>MP T P ops draw st da)
  (seq:=λ_ _ A B st da=>A st (HR B da))
  (cond:=λc _ _ A B st da=>Bq c A B st da)
  (block:=λid _ A st da=>A st (HS id da))
  (loop:=λ_ A st da=>Es A st da)
  (rangeFunc:=λ_ _ _ _ _ _ _ _=>dA)
  (exit:=λid st da=>da (.exit id) st)
  (scope:=λ_ A st da=>A st da)
  (label:=λ_ st da=>da .normal st)
  (goto:=λ_ _ _=>dA)
  (ret:=λst da=>da .ret st)
  (refuse:=λ_ _ _=>dA) c
def afU{T P id ops d st da}:kS T P (.region id ops d) st da=MP T P ops d st da:=rfl
def afV{T P a b st da}:kS T P (.seq a b) st da=kS T P a st (HR (kS T P b) da):=rfl
def afW{T P c a b st da}:kS T P (.cond c a b) st da=Bq c (kS T P a) (kS T P b) st da:=rfl
def afX{T P id a st da}:kS T P (.block id a) st da=kS T P a st (HS id da):=rfl
def afY{T P a st da}:kS T P (.scope a) st da=kS T P a st da:=rfl
def afZ{T P a st da}:kS T P (.loop a) st da=Es (kS T P a) st da:=rfl
def pS(args:J c3):V->dn:=go 0 args
 where
 go (n:V):J c3->V->dn
  | []=>λ_=>.dead
  |d::r=>eO (go (n+1) r) n (lx d)
def sb(T:fL)(db:V->dn)(O:V->dB d4):xs->dn
 | .tmp t=>db t
 | .cell a t=>match db a with
  | .ptr b i j=>match O b with
   |some (.box c _)=>bif (T t).k.known&&d2 i 0 then(bif (T t).k.agg then(bif hn (j+(T t).size) c.length then .agg ((c.drop j).take (T t).size) else .dead) else(match c[j]? with|some x=>x|none=>.dead)) else .dead
   |_=>.dead
  |_=>.dead
def nn(T:fL)(db:V->dn)(O:V->dB d4):J xs->dB (J c3)
 | []=>U []
 |r::q=>match conv O (sb T db O r) with
  |some d=>match nn T db O q with
   |some dx=>U (d::dx)
   |none=>cM
  |none=>cM
def pf:J c3->c3
 | [d]=>d
 |dx=>.dP dx
def MQ(T:fL)(P:el)(fn:Func)(args:J c3)(d:c3):Prop:=
 match fn.body with
 |some c=>kS T P c ⟨pS args,λ_=>cM⟩ λe st=>match e with
  | .exit _=>dA
  |_=>(nn T st.db st.O fn.results.toList).map pf=U d
 |none=>dA
def MR(T:fL)(P:el)(fn:Func)(args:J c3)(l:J (J c3))(cQ:V):Prop:=
 match fn.body with
 |some c=>kS T P c ⟨pS args,λ_=>cM⟩ λe st=>match e with
  | .exit _=>dA
  |_=>∃t,fn.results.toList=[.tmp t] /\ ((∃b,st.db t=.own b/\st.O b=U (.row l cQ L)) \/ (st.db t=.nil/\l=[]))
 |none=>dA
def r1(O:V->dB d4)(seen:J V):J dn->J iC->Prop
 | [],[]=>True
 |x::c,.d d::s=>conv.nj x=U d/\r1 O seen c s
 |x::c,.row l cQ::s=>(∃b,x=.own b/\O b=U (.row l cQ L) /\kd b seen=L/\r1 O (b::seen) c s) \/ (x=.nil/\l=[] /\r1 O seen c s)
 |_,_=>dA
def MS(T:fL)(P:el)(fn:Func)(args:J c3)(cs:J iC):Prop:=
 match fn.body with
 |some c=>kS T P c ⟨pS args,λ_=>cM⟩ λe st=>match e with
  | .exit _=>dA
  |_=>∃r c,fn.results.toList=[r] /\sb T st.db st.O r=.agg c/\r1 st.O [] c cs
 |none=>dA
def HT:J dn->J V
 | []=>[]
 | .own b::r=>b::HT r
 |_::r=>HT r
def HU(T:fL)(db:V->dn)(O:V->dB d4):J xs->J V
 | []=>[]
 |r::q=>gU O (sb T db O r)++HU T db O q
def MT(T:fL)(P:el)(fn:Func)(args:J c3)(cs:J iC)(j6:J c3):Prop:=
 match fn.body with
 |some c=>kS T P c ⟨pS args,λ_=>cM⟩ λe st=>match e with
  | .exit _=>dA
  |_=>∃t r q b c,fn.results.toList=.tmp t::r::q/\st.db t=.ptr b 0 0/\st.O b=U (.box c L) /\r1 st.O [] c cs/\nn T st.db st.O (r::q)=U j6/\uz (HT c) (HU T st.db st.O (r::q))=N
 |none=>dA
def uI:TypeDesc->nU->dh
 | .int k,.int fr=>d2 (j4 k) (j4 fr)
 | .bool,.bool=>N
 | .string,.str=>N
 | .slice e,.slice a=>d2 e a
 | .array n e,.arr mx a=>d2 n mx&&d2 e a
 | .struct F,.struct ir=>F.toList.map (λf=>(f.offset,f.type))==ir&&F.toList.all (λf=>f.name != "_")
 | .pointer e,.ptr a=>d2 e a
 |_,_=>L
def Bv:dp->dB c3
 | .int k n=>U (.int k n)
 | .bool b=>U (.bool b)
 | .string s=>bif d2 s.size 0 then U (.str .empty) else cM
 | .slice cM 0 0=>U (.dk [])
 | .pointer cM=>U .ka
 |_=>cM
def Bw:c3->c3->dh
 | .int k n,.int fr mx=>d2 (j4 k) (j4 fr)&&n==mx
 | .bool b,.bool d7=>b==d7
 | .str _,.str s=>d2 s.size 0
 | .dk [],.dk []=>N
 | .ka,.ka=>N
 |_,_=>L
def pU:J dp->J c3->dh
 | [],[]=>N
 |v::vs,d::dx=>(match Bv v with|some a=>Bw a d|none=>L)&&pU vs dx
 |_,_=>L
def M_(T:fL):nU->dh
 | .slice e=>(T e).k.known
 | .arr _ e=>(T e).k.known
 | .struct ir=>ir.all λp=>(T p.2).k.known
 |_=>N
def Uo(P:el)(T:fL)(t:eH)(dr:h8):dh:=
 match P.underlying t,P.info? t with
 |some d,U i=>uI d dr.k&&d2 i.size dr.size&&d2 i.bytes dr.bytes&&(match i.zero with|some z=>pU z.cells.toList dr.zero|none=>L)&&M_ T dr.k&&hn dr.bytes 1048576&&d2 dr.zero.length dr.size&&!(P.stoodInHeld t)&&!(P.eqGuardType P.depth t)&&(dr.k.agg||d2 dr.size 1)&&xq 0 dr.size
 |_,_=>L
inductive kB where
 |leaf
 |node (t:eH) (dr:h8) (l r:kB)
def kB.get(t:eH):kB->h8
 | .leaf=>⟨.other,0,0,[]⟩
 | .node a dr l r=>bif d2 t a then dr else bif xq t a then l.get t else r.get t
def kB.all(p:eH->h8->dh):kB->dh
 | .leaf=>N
 | .node t dr l r=>p t dr&&(l.all p&&r.all p)
theorem kB.M'{p t}:∀ {x},x.all p=N->(kB.get t x).k.known=N->p t (kB.get t x)=N
 | .leaf,_,h=>by simp[kB.get,nU.known]at h
 | .node b dr l r,h,k=>by
  simp[kB.all,lB]at h;simp[kB.get]at k⊢
  cases c:d2 t b with
  |true=>simp_all
  |false=>
   simp[c,jk]at k⊢
   cases a:xq t b with
   |true=>simp[a,fE]at k⊢;exact kB.M' h.2.1 k
   |false=>simp[a,jk]at k⊢;exact kB.M' h.2.2 k
def jB(P:el)(T:fL):Prop:=∀t,(T t).k.known=N->Uo P T t (T t)=N
theorem Ez {k fr} (h:d2 (j4 k) (j4 fr)=N):k=fr:=by
 have:=gs h
 cases k<;>cases fr<;>first|rfl|simp [j4] at this
structure agh(P:el)(T:fL)(t:eH):Prop where
 desc:∃d i,P.underlying t=U d/\P.info? t=U i/\uI d (T t).k=N/\i.size=(T t).size/\i.bytes=(T t).bytes/\
  (∃z,i.zero=U z/\pU z.cells.toList (T t).zero=N) /\M_ T (T t).k=N/\ (T t).bytes<=1048576/\ (T t).zero.length=(T t).size/\P.stoodInHeld t=L/\P.eqGuardType P.depth t=L/\ ((T t).k.agg=L->(T t).size=1) /\0<(T t).size
theorem lC{P T}(cS:jB P T){t}(k:(T t).k.known=N):agh P T t:=by
 have h:=cS t k;unfold Uo at h
 cases u:P.underlying t with
 |none=>simp_all
 |some d=>
  cases cK:P.info? t with
  |none=>simp_all
  |some i=>simp only[u,cK,lB]at h;have⟨⟨⟨⟨⟨⟨⟨⟨⟨⟨Q,a⟩,b⟩,e⟩,dz⟩,dW⟩,c⟩,f⟩,j⟩,l⟩,m⟩:=h;refine⟨d,i,by omega,by omega,Q,gs a,gs b,?_,dz,ta dW,gs c,by simp_all,by simp_all,λg=>by simp_all,by simp_all⟩;grind
section
variable {P:el} {T:fL} (cS:jB P T) {t:eH} (w:c')
include cS
theorem kC{e}(h:(T t).k=.slice e):P.underlying t=U (.slice e) /\ (T e).k.known=N:=by
 have⟨d,i,u,_,k,_,_,_,a,_⟩:=(lC cS (t:=t) G2).desc;rw[h]at k a
 cases d<;>simp[uI]at k
 subst k;exact⟨u,by assumption⟩
theorem Bx{n e}(h:(T t).k=.arr n e):P.underlying t=U (.array n e) /\ (T e).k.known=N:=by
 have⟨d,i,u,_,k,_,_,_,a,_⟩:=(lC cS (t:=t) (by rw[h];rfl)).desc;rw[h]at k a
 cases d<;>simp[uI]at k
 obtain⟨rfl,rfl⟩:=k;exact⟨u,by assumption⟩
theorem By{ir:J (V×eH)}(h:(T t).k=.struct ir):
 ∃F,P.underlying t=U (.struct F)/\F.toList.map (λf=>(f.offset,f.type))=ir/\ (∀p∈ir,(T p.2).k.known=N)/\ ∀f∈F.toList,f.name≠ "_":=by
 obtain⟨d,i,a,_,c6,_,_,_,he,_⟩:=(lC cS (t:=t) (by rw[h];rfl)).desc;rw[h]at c6 he
 cases d<;>simp[uI]at c6
 rename_i F;refine⟨F,a,c6.1,?_,?_⟩
 .simp only[M_,n0]at he;exact he
 .intro f ee;obtain⟨i,cK,rfl⟩:=List.getElem_of_mem ee
  simpa using c6.2 i (by simpa using cK)
theorem vB {k} (h:(T t).k=.int k):P.underlying t=U (.int k):=by
 obtain ⟨d,i,a,_,c6,_⟩:=(lC cS (t:=t) G2).desc;rw [h] at c6
 cases d<;>simp[uI]at c6
 rename_i fr;rw [a,Ez (k:=fr) (fr:=k) uc]
theorem xw (h:(T t).k=.bool):P.underlying t=U .bool:=by
 obtain ⟨d,i,a,_,c6,_⟩:=(lC cS (t:=t) G2).desc;rw [h] at c6
 cases d<;>simp[uI]at c6
 exact a
theorem xx(h:(T t).k.known=N)(a:(T t).k.agg=L):(T t).size=1:=by have⟨d,i,_,_,_,_,_,_,_,_,_,_,_,Q,_⟩:=(lC cS h).desc;exact Q a
theorem pV(h:(T t).k.known=N):0<(T t).size:=by have⟨d,i,_,_,_,_,_,_,_,_,_,_,_,_,Q⟩:=(lC cS h).desc;exact Q
theorem EA(h:(T t).k.known=N):(T t).zero.length=(T t).size:=by have⟨d,i,_,_,_,_,_,_,_,_,Q,_⟩:=(lC cS h).desc;exact Q
theorem v5 (h:(T t).k=.str):P.underlying t=U .string:=by
 obtain ⟨d,i,a,_,c6,_⟩:=(lC cS (t:=t) (by rw [h];rfl)).desc;rw [h] at c6
 cases d<;>simp [uI] at c6
 exact a
theorem Bz (h:(T t).k.known=N):(isAgg t).run P w=.ok (T t).k.agg w:=by
 obtain ⟨d,i,a,_,c6,_⟩:=(lC cS h).desc;simp only [isAgg,g2,fv a,g7];generalize (T t).k=k at c6
 cases d<;>cases k<;>simp_all [uI,nU.agg]
theorem iu (h:(T t).k.known=N):(sizeOf t).run P w=.ok (T t).size w:=by
 obtain ⟨d,i,_,cK,_,c7,_⟩:=(lC cS h).desc;simp [sizeOf,typeInfo,cK,c7]
theorem Nb (h:(T t).k.known=N):∃ z,(zeroValue t).run P w=.ok z w/\pU z.cells.toList (T t).zero=N:=by
 obtain ⟨d,i,_,cK,_,_,_,⟨z,a,dg⟩,_⟩:=(lC cS h).desc;exact ⟨z,by simp [zeroValue,typeInfo,cK,a],dg⟩
end
theorem s3{t u i a}(h:touchAt (t++u) i=U a):(i<t.size/\touchAt t i=U a) \/ (t.size<=i/\ ∃o∈u,(t++u)[i]?=U o/\o.act.touch? =U a):=by
 have⟨x,d,c⟩:=touch_of h;rcases aeL d with⟨cK,b⟩|⟨cK,e⟩
 .exact .inl ⟨cK,by rwa[touchAt_of b]⟩
 grind
theorem G_{s t u}(h:¬Race s t)(p:∀o∈u,o.act.touch? =cM):¬Race s (t++u):=by
 rintro⟨i,j,c,⟨a,b,d,f,g⟩,n,m⟩
 have old:∀ {k:V} {x:Touch},touchAt (t++u) k=U x->touchAt t k=U x:=by
  intro k x l;rcases s3 l with⟨_,e⟩|⟨_,o,q,_,e⟩
  .exact e
  .simp_all
 exact h ⟨i,j,c,⟨a,b,old d,old f,g⟩,λe=>n (hb_app u e),λe=>m (hb_app u e)⟩
def r2(B:V->Prop)(l:Loc):Prop:=∃a,l=.cell a/\B a.block
def s4(B:V->Prop)(l:Loc):Prop:=r2 B l\/ ∃r,l=.obj r/\B r
def DO(t:j1):Prop:=∀i a,t.act? i≠U (.mark (.release a))
theorem DO.app{t u}(h:DO t)(e:∀p∈u,∀a,p.act≠.mark (.release a)):DO (t++u):=by
 intro i a cK;have⟨p,c,b⟩:=vH.1 cK;rcases aeL c with⟨_,o⟩|⟨_,d⟩
 .exact h i a (by rw[act?_of o,b])
 simp_all
structure ku(c4:V->Prop)(d:V)(t:j1):Prop where
 clean:∀LR,¬Race LR t
 known:∀i a,touchAt t i=U a->a.loc.isMemory=N->Knows t 0 i\/ (s4 c4 a.loc/\a.kind=.atomic)
 over:t.HandedOver
 norel:DO t
 hears:Deaf t 0=d
structure aeM(c4:V->Prop)(op:MemOp):Prop where
 g:op.g=0
 touch:∀x,op.act.touch? =U x->s4 c4 x.loc->x.kind≠.plain
 norel:∀a,op.act≠.mark (.release a)
theorem ku.app0{c4 d j t u}(h:ku c4 d t)(c:∀o∈u,aeM c4 o)(cP:Deaf (t++u) 0=j):ku c4 j (t++u):=by
 refine⟨λs=>Td (h.clean s) (λo v=>(c o v).g) λi a f o v b l g=>?_,λi a f q=>?_,aeN h.over λo v=>.inl (c o v).g,h.norel.app λo v=>(c o v).norel,cP⟩
 .rcases h.known i a f g.2.1 with m|⟨r,n⟩
  .exact m
  .have p:=(c o v).touch b l (g.1▸r);have⟨_,_,_,k⟩:=g;simp_all
 .rcases s3 f with⟨_,e⟩|⟨_,o,v,cK,e⟩
  .exact(h.known i a e q).imp (·.app u) id
  .have:=knows_own cK;rw[(c o v).g]at this;simp_all
theorem ku.mute{c4 d t u}(h:ku c4 d t){g}(f:g≠0)(b:∀o∈u,o.g=g/\o.act.touch? =cM/\ ∀a,o.act≠.mark (.release a)):ku c4 d (t++u):=by
 refine⟨λs=>G_ (h.clean s) λo j=>(b o j).2.1,λi a c m=>?_,aeN h.over λo j=>.inr (b o j).2.1,h.norel.app λo j=>(b o j).2.2,(vI t f u λo j=>(b o j).1).trans h.hears⟩;rcases s3 c with⟨_,e⟩|⟨_,o,j,_,e⟩
 .exact(h.known i a e m).imp (·.app u) id
 simp_all
structure nR(c4:V->Prop)(Wg:V)(Rd:V->Prop)(a:Touch):Prop where
 old:s4 c4 a.loc->a.kind≠.plain
 wg:r2 (·=Wg) a.loc->a.kind≠.plain
 rd:a.write=N->¬r2 Rd a.loc
def vJ(c4:V->Prop)(Wg:V)(Rd:V->Prop)(a:Touch):Prop:=(r2 (·=Wg) a.loc/\a.kind=.atomic) \/ (r2 Rd a.loc/\a.write=L/\a.kind=.plain) \/ ((∃r,a.loc=.obj r/\c4 r) /\a.kind=.atomic)
structure hm(c4:V->Prop)(Wg:V)(Rd:V->Prop)(c:V)(eW d1:V)(t:j1):Prop where
 apart:∀l,r2 Rd l->¬s4 c4 l
 clean:∀LR,¬Race LR t
 all:∀i a,touchAt t i=U a->a.loc.isMemory=N->(Knows t 0 i/\Knows t c i) \/ (s4 c4 a.loc/\a.kind=.atomic) \/ (t.g? i=U 0/\nR c4 Wg Rd a) \/ (t.g? i=U c/\vJ c4 Wg Rd a)
 over:∀i g,t.g? i=U g->g≠0->g≠c->t.counts i->∃j,t.g? j=U 0/\G' t i j
 norel:DO t
 xa:Deaf t 0=eW
 q7:Deaf t c=d1
section
variable {c4:V->Prop} {Wg:V} {Rd:V->Prop} {c eW d1 Ha Hb:V} {t u:j1}
theorem Te{t:j1}{i g}(h:t.g? i=U g):i<t.size:=have⟨_,z,_⟩:=vH.1 h;lt_size_of_getElem? z
theorem LS(h:∀i g,t.g? i=U g->g≠0->g≠c->t.counts i->∃j,t.g? j=U 0/\G' t i j)(s:∀o∈u,o.g=0\/o.g=c\/o.act.touch? =cM):
  ∀i g,(t++u).g? i=U g->g≠0->g≠c->(t++u).counts i->∃j,(t++u).g? j=U 0/\G' (t++u) i j:=by
 intro i g d a n b;have⟨x,p,r,q⟩:=id b;rcases s3 p with⟨cK,e⟩|⟨_,o,y,cK,e⟩
 .have⟨j,f,k⟩:=h i g (by rwa[<-xc (u:=u) cK]) a n ((counts_old cK).1 b);exact⟨j,by rwa[xc (l f)],hb_app u k⟩
 .have m:o.g=g:=by simpa[Hc,cK]using d
  grind
 where
 l {t:j1} {i g:V} (h:t.g? i=U g):i<t.size:=by have⟨z,v,_⟩:=vH.1 h;grind
theorem LU{i a}(cK:i<t.size)(h:(Knows t 0 i/\Knows t c i) \/ (s4 c4 a.loc/\a.kind=.atomic) \/ (t.g? i=U 0/\nR c4 Wg Rd a) \/ (t.g? i=U c/\vJ c4 Wg Rd a)):
  (Knows (t++u) 0 i/\Knows (t++u) c i) \/ (s4 c4 a.loc/\a.kind=.atomic) \/ ((t++u).g? i=U 0/\nR c4 Wg Rd a) \/ ((t++u).g? i=U c/\vJ c4 Wg Rd a):=by
 rw[xc cK];exact h.imp (λx=>⟨x.1.app u,x.2.app u⟩) id
theorem Tf{i o}(h:t[i]?=U o):t.g? i=U o.g:=by simp[Hc,h]
theorem LV{i g}(h:t.g? i=U g):Knows t g i:=by have⟨z,a,e⟩:=vH.1 h;have:=knows_own a;simp_all
theorem hm.app0(h:hm c4 Wg Rd c eW d1 t)(v:c≠0)(g:∀o∈u,o.g=0)(n:∀o∈u,∀x,o.act.touch? =U x->nR c4 Wg Rd x)(w:∀o∈u,∀a,o.act≠.mark (.release a))(cP:Deaf (t++u) 0=Ha):hm c4 Wg Rd c Ha d1 (t++u):=by
 refine⟨h.apart,λs=>Td (h.clean s) g λi a d o B b r j=>?_,λi a d m=>?_,LS h.over λo B=>.inl (g o B),h.norel.app w,cP,(vI t (Ne.symm v) u g).trans h.q7⟩
 .have f:=n o B b r;have⟨l,m,hw,k⟩:=j;rcases h.all i a d m with x|⟨x,y⟩|⟨x,_⟩|⟨x,y|⟨y,p,A⟩|⟨⟨q,y⟩,p⟩⟩
  .exact x.1
  .rw[y]at k;rcases k with z|z|⟨_,z,_⟩
   .cases z
   .exact dQ z (f.old (l▸x))
   .cases z
  .exact LV x
  .rw[y.2]at k;rcases k with z|z|⟨_,z,_⟩
   .cases z
   .exact dQ z (f.wg (l▸y.1))
   .cases z
  .rcases hw with z|z
   .simp_all
   .exact dQ (l▸y) (f.rd z)
  .rw[p]at k;rcases k with z|z|⟨_,z,_⟩
   .cases z
   .exact dQ z (f.old (.inr ⟨q,l▸y.1,y.2⟩))
   .cases z
 .rcases s3 d with⟨cK,e⟩|⟨_,o,B,cK,e⟩
  .exact LU cK (h.all i a e m)
  .exact .inr (.inr (.inl ⟨by rw[Tf cK,g o B],n o B a e⟩))
theorem hm.Hd(h:hm c4 Wg Rd c eW d1 t)(v:c≠0)(g:∀o∈u,o.g=c)(p:∀o∈u,∀x,o.act.touch? =U x->vJ c4 Wg Rd x)(w:∀o∈u,∀a,o.act≠.mark (.release a))(cP:Deaf (t++u) c=Hb):hm c4 Wg Rd c eW Hb (t++u):=by
 refine⟨h.apart,λs=>Td (h.clean s) g λi a f o A b r j=>?_,λi a f m=>?_,LS h.over λo A=>.inr (.inl (g o A)),h.norel.app w,(vI t v u g).trans h.xa,cP⟩
 .have n:=p o A b r;have⟨l,m,hw,k⟩:=j;rcases h.all i a f m with x|⟨x,y⟩|⟨x,y⟩|⟨x,_⟩
  .exact x.2
  .rcases n with⟨z,d⟩|⟨z,_⟩|⟨z,d⟩
   .simp_all
   .exact dQ (l▸x) (h.apart _ z)
   simp_all
  .rcases n with⟨z,d⟩|⟨z,d,_⟩|⟨⟨q,z⟩,d⟩
   .rw[d]at k;rcases k with q|q|⟨_,_,q⟩
    .exact dQ q (y.wg (l▸z))
    .cases q
    .cases q
   .rcases hw with q|q
    .exact dQ (l▸z) (y.rd q)
    simp_all
   .rw[d]at k;rcases k with e|e|⟨_,_,e⟩
    .exact dQ e (y.old (.inr ⟨q,l.trans z.1,z.2⟩))
    .cases e
    .cases e
  .exact LV x
 .rcases s3 f with⟨cK,e⟩|⟨_,o,A,cK,e⟩
  .exact LU cK (h.all i a e m)
  .exact .inr (.inr (.inr ⟨by rw[Tf cK,g o A],p o A a e⟩))
theorem hm.idle(h:hm c4 Wg Rd c eW d1 t)(b:∀o∈u,o.act.touch? =cM)(r:∀o∈u,∀a,o.act≠.mark (.release a))(cW:Deaf (t++u) 0=Ha)(f:Deaf (t++u) c=Hb):hm c4 Wg Rd c Ha Hb (t++u):=by
 refine⟨h.apart,λs=>G_ (h.clean s) b,λi a d m=>?_,LS h.over λo g=>.inr (.inr (b o g)),h.norel.app r,cW,f⟩;rcases s3 d with⟨cK,e⟩|⟨_,o,g,cK,e⟩
 .exact LU cK (h.all i a e m)
 simp_all
theorem hm.aeO(h:ku c4 0 t)(E:c≠0)(d:Deaf t c=0)(q:∀l,r2 Rd l->¬s4 c4 l){x y}(m:x.g=0/\x.act=.go c)(v:y.g=c/\y.act=.start):hm c4 Wg Rd c 0 0 (t++#[x,y]):=by
 have b:∀o∈#[x,y],o.act.touch? =cM/\o.act≠.mark .disable/\o.act≠.mark .enable/\ ∀a,o.act≠.mark (.release a):=by
  intro o p;simp at p;rcases p with rfl|rfl
  .rw[m.2];exact⟨Z,dt,dt,dt⟩
  .rw[v.2];exact⟨Z,dt,dt,dt⟩
 have w:∀g,Deaf (t++#[x,y]) g=Deaf t g:=by
  intro g
  have f:deafStep g (Deaf t g) x=Deaf t g:=by simp[deafStep,m.2]
  have:=Tg t g [x,y];rw[this];simp[deafStep,m.2,v.2]
 refine⟨q,λs=>G_ (h.clean s) λo p=>(b o p).1,λi a B A=>?_,λi g F r G n=>?_,h.norel.app λo p=>(b o p).2.2.2,(w 0).trans h.hears,(w c).trans d⟩
 .rcases s3 B with⟨cK,e⟩|⟨_,o,p,_,e⟩
  .rcases h.known i a e A with k|k
   .exact .inl ⟨k.app _,ConcN.fork_knows m v h.hears d k⟩
   simp_all
  grind
 .have⟨iz,f,A,k⟩:=id n;rcases s3 f with⟨cK,e⟩|⟨_,o,p,_,e⟩
  .have⟨j,z,C⟩:=h.over i g (by rwa[<-xc (u:=#[x,y]) cK]) r ((counts_old cK).1 n);exact⟨j,by rwa[xc (Te z)],hb_app _ C⟩
  grind
theorem hm.acquire{a r}(h:hm c4 Wg Rd c 0 d1 t)(dj:c≠0)(s:ConcN.RelBy a t c r){x}(q:x.g=0/\x.act=.mark (.acquire a)):ku (λb=>c4 b\/b=Wg) 0 (t++#[x]):=by
 have m:(t++#[x])[t.size]?=U x:=by rw[Th (fB _)];simp
 have B:∀o∈#[x],o.act.touch? =cM/\o.g=0/\ ∀b,o.act≠.mark (.release b):=by intro o p;simp at p;subst p;rw[q.2];exact⟨Z,q.1,dt⟩
 have d:=lt_of_act? s.act;have f:(t++#[x]).heard t.size:=⟨0,by simp[Hc,m,q.1],by rw[deaf_old (fB _)];exact h.xa⟩;have E:=h.norel.app (u:=#[x]) λo p=>(B o p).2.2;have v:G' (t++#[x]) r t.size:=.single (.inr ⟨.marked d (.inr (by rw[act?_old d];exact s.act)) (by rw[act?_of m,q.2]) (λk _ _=>E k a),(heard_old d).2 s.heard,f⟩)
 have cX:∀i,i<=r->t.g? i=U c->G' (t++#[x]) i t.size:=by
  intro i cK dr;rcases jd i r with l|A
  .exact .trans (.single (.inl ⟨l,c,by rwa[xc (Nat.lt_trans l d)],by rw[xc d];exact s.g⟩)) v
  .grind
 have P:(t++#[x]).g? t.size=U 0:=by simp[Hc,m,q.1]
 refine⟨λF=>G_ (h.clean F) λo p=>(B o p).1,λi b H cV=>?_,λi g dr cL n=>?_,E,?_⟩
 .rcases s3 H with⟨cK,e⟩|⟨_,o,p,_,e⟩
  .rcases h.all i b e cV with⟨k,_⟩|⟨k,fr⟩|⟨k,_⟩|⟨k,fr⟩
   .exact .inl (k.app _)
   .rcases k with⟨eb,D,G⟩|k
    .exact .inr ⟨.inl ⟨eb,D,.inl G⟩,fr⟩
    .exact .inr ⟨.inr (k.imp λ_ h=>⟨h.1,.inl h.2⟩),fr⟩
   .exact .inl ((LV k).app _)
   .rcases jd r i with l|A
    .have K:=s.after i l k;rcases fr with⟨⟨eb,D,G⟩,C⟩|⟨_,_,C⟩|⟨k1,eF⟩
     .exact .inr ⟨.inl ⟨eb,D,.inr G⟩,C⟩
     .exact dQ ⟨b,e,cV,.inl (by grind)⟩ K
     .exact .inr ⟨.inr (k1.imp λ_ h=>⟨h.1,.inl h.2⟩),eF⟩
    .exact .inl ⟨t.size,x,m,q.1,.inr (cX i A k)⟩
  simp_all
 .have⟨z,da,cV,S⟩:=id n;rcases s3 da with⟨cK,e⟩|⟨_,o,p,_,e⟩
  .have w:t.g? i=U g:=by rwa[<-xc (u:=#[x]) cK]
   by_cases y:g=c
   .subst y;have O:=Nat.le_of_not_lt λl=>s.after i l w ((counts_old cK).1 n);grind
   .have⟨j,M,H⟩:=h.over i g w cL y ((counts_old cK).1 n);exact⟨j,by rwa[xc (Te M)],hb_app _ H⟩
  simp_all
 .have:=Tg t 0 [x];rw[show(t++#[x])=t++[x].toArray from Z,this];simp[deafStep,q.2,h.xa]
end
section
open Go.ConcN (sumTo upd sumTo_upd upd_ne upd_same)
inductive dO(P:el)(main:dh)(cX:c'->c'->Prop)(c3:c'->c'->ea hB->Prop)(dv:dN->c'->Prop):dN->c'->Prop
 |stop {g:dN} {w:c'} (h:∀c0,cX w c0->dv g c0):dO P main cX c3 dv g w
 |step {g:dN} {w:c'} (c7:g.status=.running) (fk:c'->dN×c'×ea hB)
   (h:∀c0,cX w c0->stepG P main g c0=.go (fk c0).1 (fk c0).2.1 (fk c0).2.2/\c3 c0 (fk c0).2.1 (fk c0).2.2)
   (k:∀c0,cX w c0->dO P main cX c3 dv (fk c0).1 (fk c0).2.1):dO P main cX c3 dv g w
section
variable {P:el} {main:dh} {cX:c'->c'->Prop} {c3:c'->c'->ea hB->Prop} {dv:dN->c'->Prop}
theorem dO.rely(f:∀a b c,cX a b->cX b c->cX a c){g w c0}(h:dO P main cX c3 dv g w)(dI:cX w c0):dO P main cX c3 dv g c0:=by
 cases h with|stop h=>exact .stop λd e=>h d (f _ _ _ dI e)|step c7 fk h k=>exact .step c7 fk (λd e=>h d (f _ _ _ dI e)) (λd e=>k d (f _ _ _ dI e))
theorem dO.running(gB:∀g w,dv g w->g.status=.running)(dI:∀w,cX w w){g w}(h:dO P main cX c3 dv g w):g.status=.running:=by
 cases h with|stop h=>exact gB _ _ (h w (dI w))|step c7 fk h k=>exact c7
theorem dO.mono{d e f}(c:∀a b,d a b->cX a b)(i:∀a b es,c3 a b es->e a b es)(gB:∀g w,dv g w->f g w){g w}(h:dO P main cX c3 dv g w):dO P main d e f g w:=by
 induction h with
 |stop h=>exact .stop λc0 h₁=>gB _ _ (h c0 (c _ _ h₁))|step c7 fk h _ j=>exact .step c7 fk (λc0 h₁=>⟨(h c0 (c _ _ h₁)).1,i _ _ _ (h c0 (c _ _ h₁)).2⟩) λc0 h₁=>j c0 (c _ _ h₁)
theorem dO.bind{a}(dI:∀w,cX w w){g w}(h:dO P main cX c3 a g w)(k:∀g w,a g w->dO P main cX c3 dv g w):dO P main cX c3 dv g w:=by
 induction h with
 | @stop g w h=>simp_all|step c7 fk h _ b=>exact .step c7 fk h b
theorem dO.r3:∀ {n g w},Goes P main cX c3 dv n g w->dO P main cX c3 dv g w:=by
 intro n
 induction n with
 |zero=>exact λh=>.stop h
 |succ n i=>
  intro g w h;rcases h with h|⟨s,h⟩
  .exact .stop h
  let fk:c'->dN×c'×ea hB:=λw=>match stepG P main g w with
   | .go g' w' es=>(g',w',es)|_=>(g,w,#[])
  refine .step s fk (λc0 a=>?_) (λc0 a=>?_)
  .have:=h c0 a;simp[fk];revert this
   cases stepG P main g c0<;>simp[LW,LX,LY]
   simp_all
  .have:=h c0 a;simp[fk];revert this
   cases stepG P main g c0<;>simp[LW,LX,LY]
   simp_all
end
def fa(P:el)(dM:dp->c'->Prop)(m:Machine)(t:j1):Prop:=
 ∃dj a o w' b,runNT P (dj+1) m t=(.ended o w',b) /\runN P dj m=.next a/\step P a=.ended o w'/\Conc.Good P dM a o w' b
theorem fa.step{P dM m a t ops}(h:stepT P m=(.next a,ops))(k:fa P dM a (t++ops)):fa P dM m t:=by
 have⟨dj,l,o,w',c,Q,b,d,e⟩:=k
 have s:Tj P m=.next a:=by unfold Tj;rw[h]
 refine⟨dj+1,l,o,w',c,?_,?_,d,e⟩
 .rwa[show dj+2=(dj+1)+1 from Z,runNT,h]
 .rwa[runN,s]
structure e2(P:el)(c:V)(cZ:ea dN)(T:j1)(q:V->V):Prop where
 old:∀i g,0<i->i≠c->cZ[i]?=U g->QuitsD P (q i) (Deaf T i) g
 above:∀j,cZ.size<=j->Deaf T j=0
theorem lq{g fn pos es}:∀o∈gR g fn pos es,o.g=g:=λo a=>by
 obtain⟨e,_,rfl⟩:=yT a;rfl
theorem He{q i k n}(a:i<n)(b:q i=k+1):sumTo n (upd q i k)<sumTo n q:=by
 have h:sumTo n (upd q i k)+(k+1)=sumTo n q+k:=by have:=sumTo_upd q k id a;simpa[b]using this
 omega
section
variable {P:el} {c:V} {cZ:ea dN} {T:j1} {q:V->V}
theorem e2.own(h:e2 P c cZ T q){k}(g:k=0\/k=c)(l:k<cZ.size){x iz w'}(fn pos es):
  e2 P c ((cZ.map (woken P x iz w')).setIfInBounds k iz) (T++gR k fn pos es) q:=by
 refine⟨λj y a d f=>?_,λj a=>?_⟩
 .have n:k≠j:=by rcases g with rfl|rfl<;>omega
  rw[q8 n,AW]at f;obtain⟨z,i,rfl⟩:=vH.1 f;have e:=h.old j z a d i;rwa[woken_quitsD e,vI T n _ lq]
 .have b:cZ.size<=j:=by simpa using a
  rw[vI T (g':=k) R _ lq];exact h.above j b
theorem e2.slip(h:e2 P c cZ T q){i k g g' w}(m:i<cZ.size)(fn pos){es}(n:QuitsD P k (deafBehind (Deaf T i) es) g'):
  e2 P c ((cZ.map (woken P g g' w)).setIfInBounds i g') (T++gR i fn pos es) (upd q i k):=by
 refine⟨λj x dL d a=>?_,λj dL=>?_⟩
 .by_cases b:i=j
  .subst b;rw[Array.getElem?_setIfInBounds_self_of_lt (by simp_all)]at a;obtain rfl:=pM a;rwa[upd_same,uj]
  .rw[q8 b,AW]at a;obtain⟨y,e,rfl⟩:=vH.1 a;have f:=h.old j y dL d e;rwa[woken_quitsD f,upd_ne q k (Ne.symm b),vI T b _ lq]
 .have l:cZ.size<=j:=by simpa using dL
  rw[vI T (g':=i) R _ lq];exact h.above j l
structure DP(P:el)(eU:c'->Prop)(b:dN):Prop where
 awake:awake b
 rest:b.status≠.running
 woken:∀x iz w',eU w'->woken P x iz w' b=b
theorem nd{k j}(h:k≠j){x iz y w'}(a:cZ[j]?=U y)(hw:woken P x iz w' y=y):((cZ.map (woken P x iz w')).setIfInBounds k iz)[j]?=U y:=by simp_all
theorem iU{k}(h:k<cZ.size){x iz w'}:((cZ.map (woken P x iz w')).setIfInBounds k iz)[k]?=U iz:=by simp_all
theorem e2.AX(h:e2 P c cZ T q){a}(cW:cZ[0]?=U a)(j:awake a)(k:0<c->∃b,cZ[c]?=U b/\awake b):∀g∈cZ,awake g:=by
 intro g f;obtain⟨i,cK,rfl⟩:=Array.mem_iff_getElem.1 f;have d:=yU cK;rcases Hf i with rfl|O
 .simp_all
 .by_cases e:i=c
  .grind
  .exact q9 ((h.old i _ O e d).status.elim .inl λx=>.inr (.inr x))
theorem e2.Hg(h:e2 P c cZ T q){i g}(O:0<i)(f:i≠c)(cK:cZ[i]?=U g)(d:g.status=.running):
  ∃k g' es,q i=k+1/\ (∀e∈es,vK e=N) /\ (∀w,stepG P L g w=.go g' w es) /\QuitsD P k (deafBehind (Deaf T i) es) g':=by
 have b:=h.old i g O f cK
 cases a:q i with
 |zero=>rw[a]at b;rw[b.1]at d;cases d
 |succ k=>
  rw[a]at b;rcases b with⟨l,_⟩|⟨_,g',es,m,s,j⟩
  .simp_all
  grind
end
structure vL(c:V)(cL:j1->Prop)(eU:c'->Prop):Prop where
 mute:∀T i fn pos es,cL T->i≠0->i≠c->(∀e∈es,vK e=N)->cL (T++gR i fn pos es)
 draw:∀w d,eU w->eU (w.at d)
def s5(k:V)(cL:j1->Prop)(eU:c'->Prop)(c3:c'->c'->ea hB->Prop):Prop:=
 ∀T fn pos es w w',cL T->eU w->c3 w w' es->cL (T++gR k fn pos es) /\eU w'
structure l0(cX:c'->c'->Prop):Prop where
 refl:∀w,cX w w
 trans:∀a b c,cX a b->cX b c->cX a c
 draw:∀w d,cX w (w.at d)
section
variable {P:el} {c:V} {cL:j1->Prop} {eU:c'->Prop} {cX je:c'->c'->Prop} {c3 q_:c'->c'->ea hB->Prop} {dv qo:dN->c'->Prop} {dM:dp->c'->Prop}
theorem uk(j:vL c cL eU){vM:c'->Prop}(m:∀w d,vM w->vM (w.at d)){a b}(dq:awake a/\∀x iz w',eU w'->woken P x iz w' a=a)(hb:0<c->awake b/\∀x iz w',eU w'->woken P x iz w' b=b)(dI:a.status=.running\/0<c/\b.status=.running)
  (o:∀M T cZ w sl q,a.status=.running->stepT P M=runT P (crowd cZ w sl) 0->cZ[0]?=U a->(0<c->cZ[c]?=U b)->e2 P c cZ T q->cL T->eU w->vM w->fa P dM M T)
  (p:0<c->∀M T cZ w sl q,b.status=.running->stepT P M=runT P (crowd cZ w sl) c->cZ[0]?=U a->cZ[c]?=U b->e2 P c cZ T q->cL T->eU w->vM w->fa P dM M T):
  ∀cZ w sl T q,cZ[0]?=U a->(0<c->cZ[c]?=U b)->e2 P c cZ T q->cL T->eU w->vM w->fa P dM (crowd cZ w sl) T:=by
 have r:∀n cZ w sl T q,sumTo cZ.size q<=n->cZ[0]?=U a->(0<c->cZ[c]?=U b)->e2 P c cZ T q->cL T->eU w->vM w->fa P dM (crowd cZ w sl) T:=by
  intro n
  induction n using s6 with
  |_ n s=>
   intro cZ w sl T q cY cW O e cS hw cU;have⟨i,x,d,v,cK,f,g⟩:=DQ (P:=P) (w:=w) (sl:=sl) (e.AX cW dq.1 λh=>⟨b,O h,(hb h).1⟩) (dI.elim (λh=>⟨0,a,cW,h⟩) λh=>⟨c,b,O h.1,h.2⟩);have hw:=j.draw w d hw;have cU:=m w d cU
   by_cases Q:i=0
   .subst Q;rw[cW]at cK;cases cK;exact o _ _ _ _ _ _ f g cW O e cS hw cU
   by_cases c5:i=c
   .subst c5;have dg:=AY Q;rw[O dg]at cK;cases cK;exact p dg _ _ _ _ _ _ f g cW (O dg) e cS hw cU
   have⟨k,g',es,t,d8,c7,u⟩:=e.Hg R c5 cK f;have l:=(kv.1 cK).1;refine fa.step (g.trans (vN cK (by rw[show(i==0)=L by simp;omega];exact c7 _))) (s (sumTo cZ.size (upd q i k)) ?_ _ _ _ _ (upd q i k) ?_ (nd Q cW (dq.2 _ _ _ hw)) (λdg=>nd c5 (O dg) ((hb dg).2 _ _ _ hw)) (e.slip l _ _ u) (j.mute _ _ _ _ _ cS Q c5 d8) hw cU)
   .have:=He l t;omega
   .simp
 exact λcZ w sl T q=>r _ cZ w sl T q (fB _)
theorem Hh{g:dN}(h:g.status=.running):awake g/\∀x iz w',eU w'->woken P x iz w' g=g:=⟨q9 (.inl h),λ_ _ _ _=>woken_run h⟩
theorem s7{l1}(n:vL c cL eU)(j:l0 cX)(o:s5 0 cL eU c3)(gB:∀g w,dv g w->g.status=.running)
  (p:∀M T g cZ w sl q,stepT P M=runT P (crowd cZ w sl) 0->cZ[0]?=U g->e2 P c cZ T q->(0<c->cZ[c]?=U l1/\DP P eU l1)->cL T->eU w->dv g w->fa P dM M T)
  {a w}(h:dO P N cX c3 dv a w):
  ∀cZ sl T q,cZ[0]?=U a->e2 P c cZ T q->(0<c->cZ[c]?=U l1/\DP P eU l1)->cL T->eU w->fa P dM (crowd cZ w sl) T:=by
 have main:∀g b,g.status=.running->(∀M T cZ w sl q,cX b w->stepT P M=runT P (crowd cZ w sl) 0->cZ[0]?=U g->e2 P c cZ T q->(0<c->cZ[c]?=U l1/\DP P eU l1)->cL T->eU w->fa P dM M T)->∀cZ sl T q,cZ[0]?=U g->e2 P c cZ T q->(0<c->cZ[c]?=U l1/\DP P eU l1)->cL T->eU b->fa P dM (crowd cZ b sl) T:=λg b dI k cZ sl T q cW e O cS hw=>uk (vM:=cX b) n (λw d h=>j.trans _ _ _ h (j.draw _ _)) (Hh dI) (λdg=>⟨(O dg).2.awake,(O dg).2.woken⟩) (.inl dI) (λM T cZ w sl q _ f cW r e cS hw cU=>k M T cZ w sl q cU f cW e (λdg=>⟨r dg,(O dg).2⟩) cS hw) (λdg _ _ _ _ _ _ h=>dQ h (O dg).2.rest) cZ b sl T q cW (λdg=>(O dg).1) e cS hw (j.refl _)
 induction h with
 | @stop g b h=>exact main g b (gB _ _ (h _ (j.refl _))) λM T cZ w sl q cU f cW e O cS hw=>p M T g cZ w sl q f cW e O cS hw (h w cU)
 | @step g b dI fk h _ s=>
  exact main g b dI λM T cZ w sl q cU f cW e O cS hw=>by
   have⟨t,cP⟩:=h w cU;have l:=(kv.1 cW).1;have⟨u,m⟩:=o T g.frame.fn g.frame.place _ _ _ cS hw cP;exact fa.step (f.trans (vN (i:=0) cW t)) (s w cU _ _ _ q (iU l) (e.own (.inl Z) l _ _ _) (λdg=>⟨nd R (O dg).1 ((O dg).2.woken _ _ _ m),(O dg).2⟩) u m)
theorem Tl{a}(dq:DP P eU a)(dg:0<c)(p:vL c cL eU)(m:l0 je)(r:s5 c cL eU q_)(gB:∀g w,qo g w->g.status=.running)
  (s:∀M T b cZ w sl q,stepT P M=runT P (crowd cZ w sl) c->cZ[0]?=U a->cZ[c]?=U b->e2 P c cZ T q->cL T->eU w->qo b w->fa P dM M T)
  {b w}(h:dO P L je q_ qo b w):
  ∀cZ sl T q,cZ[0]?=U a->cZ[c]?=U b->e2 P c cZ T q->cL T->eU w->fa P dM (crowd cZ w sl) T:=by
 have main:∀g e,g.status=.running->(∀M T cZ w sl q,je e w->stepT P M=runT P (crowd cZ w sl) c->cZ[0]?=U a->cZ[c]?=U g->e2 P c cZ T q->cL T->eU w->fa P dM M T)->∀cZ sl T q,cZ[0]?=U a->cZ[c]?=U g->e2 P c cZ T q->cL T->eU e->fa P dM (crowd cZ e sl) T:=λg e dI k cZ sl T q cW f j cS hw=>uk (vM:=je e) p (λw d h=>m.trans _ _ _ h (m.draw _ _)) ⟨dq.awake,dq.woken⟩ (λ_=>Hh dI) (.inr ⟨dg,dI⟩) (λ_ _ _ _ _ _ h=>dQ h dq.rest) (λ_ M T cZ w sl q _ l cW f j cS hw cU=>k M T cZ w sl q cU l cW f j cS hw) cZ e sl T q cW (λ_=>f) j cS hw (m.refl _)
 induction h with
 | @stop g e h=>exact main g e (gB _ _ (h _ (m.refl _))) λM T cZ w sl q cU l cW f j cS hw=>s M T g cZ w sl q l cW f j cS hw (h w cU)
 | @step g e dI fk h _ t=>
  exact main g e dI λM T cZ w sl q cU l cW f j cS hw=>by
   have⟨v,cP⟩:=h w cU;have n:=(kv.1 f).1;have⟨u,o⟩:=r T g.frame.fn g.frame.place _ _ _ cS hw cP;exact fa.step (l.trans (vN (i:=c) f (by rwa[show(c==0)=L by simp;omega]))) (t w cU _ _ _ q (nd R cW (dq.woken _ _ _ o)) (iU n) (j.own (.inr Z) n _ _ _) u o)
theorem DR(dg:0<c)(z:vL c cL eU)(o:l0 cX)(p:l0 je)(A:s5 0 cL eU c3)(B:s5 c cL eU q_)
  (C:∀w w' es,eU w->q_ w w' es->cX w w')(D:∀w w' es,eU w->c3 w w' es->je w w')
  (gB:∀g w,dv g w->g.status=.running)(y:∀g w,qo g w->g.status=.running)
  (E:∀M T a b cZ w sl q,stepT P M=runT P (crowd cZ w sl) 0->cZ[0]?=U a->cZ[c]?=U b->e2 P c cZ T q->cL T->eU w->dv a w->dO P L je q_ qo b w->fa P dM M T)
  (F:∀M T a b cZ w sl q,stepT P M=runT P (crowd cZ w sl) c->cZ[0]?=U a->cZ[c]?=U b->e2 P c cZ T q->cL T->eU w->dO P N cX c3 dv a w->qo b w->fa P dM M T)
  {a w}(h:dO P N cX c3 dv a w):
  ∀ {b} (cZ) (sl) (T) (q),dO P L je q_ qo b w->cZ[0]?=U a->cZ[c]?=U b->e2 P c cZ T q->cL T->eU w->fa P dM (crowd cZ w sl) T:=by
 have main:∀g l,dO P N cX c3 dv g l->
   (∀w b cZ sl M T q,cX l w->stepT P M=runT P (crowd cZ w sl) 0->dO P L je q_ qo b w->cZ[0]?=U g->cZ[c]?=U b->e2 P c cZ T q->cL T->eU w->fa P dM M T)->
   ∀ {b w},dO P L je q_ qo b w->∀cZ sl T q,cX l w->cZ[0]?=U g->cZ[c]?=U b->e2 P c cZ T q->cL T->eU w->fa P dM (crowd cZ w sl) T:=by
  intro g l n t b w hb;have dI:=n.running gB o.refl
  have go:∀b f,dO P L je q_ qo b f->(∀M T cZ w sl q,cX l w->je f w->stepT P M=runT P (crowd cZ w sl) c->cZ[0]?=U g->cZ[c]?=U b->e2 P c cZ T q->cL T->eU w->fa P dM M T)->∀cZ sl T q,cX l f->cZ[0]?=U g->cZ[c]?=U b->e2 P c cZ T q->cL T->eU f->fa P dM (crowd cZ f sl) T:=λb f hb k cZ sl T q cU cW n e cS hw=>uk (vM:=λw=>cX l w/\je f w) z (λw d h=>⟨o.trans _ _ _ h.1 (o.draw _ _),p.trans _ _ _ h.2 (p.draw _ _)⟩) (Hh dI) (λ_=>Hh (hb.running y p.refl)) (.inl dI) (λM T cZ w sl q _ m cW n e cS hw cU=>t w b cZ sl M T q cU.1 m (hb.rely p.trans cU.2) cW (n dg) e cS hw) (λ_ M T cZ w sl q _ m cW n e cS hw cU=>k M T cZ w sl q cU.1 cU.2 m cW n e cS hw) cZ f sl T q cW (λ_=>n) e cS hw ⟨cU,p.refl _⟩
  induction hb with
  | @stop b f hb=>exact go b f (.stop hb) λM T cZ w sl q cU s m cW j e cS hw=>F M T g b cZ w sl q m cW j e cS hw (n.rely o.trans cU) (hb _ s)
  | @step b f G fk hb c6 u=>
   exact go b f (.step G fk hb c6) λM T cZ w sl q cU s m cW j e cS hw=>by
    have⟨I,cP⟩:=hb _ s;have r:=(kv.1 j).1;have⟨v,x⟩:=B T b.frame.fn b.frame.place _ _ _ cS hw cP;exact fa.step (m.trans (vN (i:=c) j (by rwa[show(c==0)=L by simp;omega]))) (u _ s _ _ _ q (o.trans _ _ _ cU (C _ _ _ hw cP)) (nd R cW (woken_run dI)) (iU r) (e.own (.inr Z) r _ _ _) v x)
 induction h with
 | @stop g l h=>exact λcZ sl T q hb cW j e cS hw=>main g l (.stop h) (λc0 b cZ sl M T q cU m hb cW j e cS hw=>E M T g b cZ c0 sl q m cW j e cS hw (h c0 cU) hb) hb cZ sl T q (o.refl _) cW j e cS hw
 | @step g l H fk h k u=>
  exact λcZ sl T q hb cW j e cS hw=>main g l (.step H fk h k) (λc0 b cZ sl M T q cU m hb cW j e cS hw=>by
   have⟨t,cP⟩:=h _ cU;have r:=(kv.1 cW).1;have⟨v,x⟩:=A T g.frame.fn g.frame.place _ _ _ cS hw cP
   exact fa.step (m.trans (vN (i:=0) cW t)) (u _ cU _ _ _ q (hb.rely p.trans (D _ _ _ hw cP)) (iU r) (nd R j (woken_run (hb.running y p.refl))) (e.own (.inl Z) r _ _ _) v x)) hb cZ sl T q (o.refl _) cW j e cS hw
end
end
def ed{α:Type}(s:Sem α):Prop:=∀(P:el) (w:c') (es:ea hB),s.events P w es=es
section
variable {α xt:Type}
theorem ed.bind{s:Sem α}{f:α->Sem xt}(h:ed s)(k:∀a,ed (f a)):ed (s>>=f):=λP w es=>by
 rw[jn,h P w es]
 cases s.run P w with|ok a w'=>exact k a P w' es|halt x w'=>rfl
theorem ed.map{s:Sem α}(f:α->xt)(h:ed s):ed (Functor.map f s):=λP w es=>by rw[Sem.events_map];exact h P w es
theorem ed.pure(a:α):ed (Pure.pure a:Sem α):=λ_ _ _=>Z
theorem ed.stuck (s:String):ed (stuck s:Sem α):=fun _ _ _=>Z
theorem ed.unsupported (u:Unsupported):ed (unsupported u:Sem α):=fun _ _ _=>Z
theorem ed.goPanic (v:dp):ed (goPanic v:Sem α):=fun _ _ _=>Z
theorem ed.ite{c:Prop}[qu c]{x y:Sem α}(h:ed x)(k:ed y):ed (if c then x else y):=by split<;>assumption
theorem ed.underlying (t:eH):ed (underlying t):=fun P w es=>events_underlying P w es t
theorem ed.sizeOf (t:eH):ed (sizeOf t):=fun P w es=>events_sizeOf P w es t
theorem ed.isAgg (t:eH):ed (isAgg t):=fun P w es=>events_isAgg P w es t
theorem ed.zeroValue (t:eH):ed (zeroValue t):=fun P w es=>events_zeroValue P w es t
theorem ed.newObj (o:Obj):ed (newObj o):=fun _ _ _=>Z
theorem ed.program:ed program:=fun _ _ _=>Z
theorem ed.choose (q:Question):ed (choose q):=fun P w es=>events_choose P w es q
theorem ed.newRow (t:eH) (c:ea dp):ed (newRow t c):=.bind (.newObj _) fun _=>.pure _
theorem ed.newVar (t:eH) (v:dp):ed (newVar t v):=.newRow _ _
theorem ed.Uc{f:α->Sem xt}(h:∀x,ed (f x)):∀l:J α,ed (l.mapM f)
 | []=>by rw[List.mapM_nil];exact .pure _|x::r=>by rw[Br];exact .bind (h x) λ_=>.bind (ed.Uc h r) λ_=>.pure _
theorem ed.af1{f:α->Sem xt}(h:∀x,ed (f x))(l:ea α):ed (l.mapM f):=by rw[Array.mapM_eq_mapM_toList];exact .map _ (.Uc h _)
theorem ed.asIntOf (v:dp):ed (asIntOf v):=by
 unfold Go.asIntOf;split<;>first|exact .pure _|exact .stuck _|exact .unsupported _
end
theorem af2{own:V->Prop}{M:eE}{P:el}{w:c'}{α:Type}{s:Sem α}(h:ed s):∀e∈s.events P w #[],h0 own M e:=λe a=>by rw[h P w #[]]at a;simp at a
theorem Et{own:V->Prop}{M:eE}{P:el}{w:c'}{o:gC}{f:fu->dp}{s:Sem dp}(a:execOp f o=(do pure (Next.value (<-s))))(h:ed s):∀e∈(execOp f o).events P w #[],h0 own M e:=by rw[a];exact af2 (.bind h λ_=>.pure _)
theorem Ud(t:eH)(a:ea (V×dp)):ed (zc t a):=by
 unfold zc;refine .bind (.zeroValue _) λz=>.bind (.underlying _) λu=>?_;split
 .refine .bind (.af1 (λf=>.bind (.sizeOf _) λ_=>.pure _) _) λp=>?_;split
  .exact .pure _
  .exact .stuck _
 .refine .bind (.sizeOf _) λs=>?_;split
  .exact .pure _
  .exact .stuck _
 .exact .stuck _
theorem ed.elemOf (t:eH):ed (elemOf t):=by
 unfold Go.elemOf
 refine .bind (.underlying _) fun u=>?_
 split<;>first|exact .pure _|exact .stuck _
theorem ed.runtimePanic {α:Type} (e:RuntimeError):ed (runtimePanic e:Sem α):=by
 unfold Go.runtimePanic
 refine .bind .program fun p=>?_
 cases e<;>first|exact .goPanic _|exact .bind (.elemOf _) fun _=>.bind (.newVar _ _) fun _=>.goPanic _
theorem ed.boundsPanic {α:Type} (k:pK) (x y:I) (c:BoundsCode):ed (boundsPanic k x y c:Sem α):=by
 unfold Go.boundsPanic;dsimp only
 split
 ·exact .bind (.map _ (.choose _)) fun s=>.runtimePanic _
 ·exact .bind (.pure _) fun s=>.runtimePanic _
theorem ed.asBool (v:dp):ed (asBool v):=by unfold Go.asBool;split<;>first|exact .pure _|exact .stuck _
theorem ed.asAgg (v:dp):ed (asAgg v):=by unfold Go.asAgg;split<;>first|exact .pure _|exact .stuck _
theorem ed.asAddr (v:dp):ed (asAddr v):=by unfold Go.asAddr;split<;>first|exact .pure _|exact .stuck _|exact .runtimePanic _
theorem ed.sureAddr(v:dp):ed (lA v):=by unfold lA;split<;>first|exact .pure _|exact .stuck _
theorem ed.part (t:eH) (cs:ea dp) (o:V):ed (part t cs o):=by
 unfold Go.part
 refine .bind (.isAgg _) fun b=>?_
 split
 ·exact .bind (.sizeOf _) fun _=>.pure _
 ·split<;>first|exact .pure _|exact .stuck _
theorem af4(t:eH)(n:V)(p:ea (V×dp)):ed (HV t n p):=by
 unfold HV;refine .bind (.underlying _) λu=>?_;split
 .rename_i e;refine .bind (.sizeOf _) λs=>?_
  dsimp only
  have k:∀d (z:ea dp),ed (match Instr.fill (λi=>U (i*s,s)) ((Array.range (n*s)).map (λx=>z[x%z.size]!)) p.toList with
    |some c=>do let a <-newRow e c;Pure.pure (Value.slice (U a) n n)|_=>stuck d):=λd z=>by
   split
   .exact .bind (.newRow _ _) λ_=>.pure _
   .exact .stuck _
  split
  .refine .bind (.unsupported _) λ_=>?_;split
   .omega
   .exact .bind (.zeroValue _) λ_=>.bind (.pure _) (k _)
  .split
   .exact .bind (.pure _) (k _)
   .exact .bind (.zeroValue _) λ_=>.bind (.pure _) (k _)
 .exact .stuck _
theorem SO(x:dp)(y:V)(c:BoundsCode):ed (Bs x y c):=by
 unfold Bs;refine .bind (.asIntOf _) λp=>?_;split;split
 .exact .pure _
 .exact .boundsPanic _ _ _ _
theorem Eu(b:dh)(l c:V)(x y z:dB dp):ed (pT b l c x y z):=by
 unfold pT
 rcases x with _|x<;>rcases y with _|y<;>rcases z with _|z<;>dsimp only<;>
  exact .bind SN λ_=>.bind (by first|exact .pure _|exact .stuck _|exact SO _ _ _) λ_=>.bind SN λ_=>.pure _
theorem af5(t:eH)(x:dp)(a b c:dB dp):ed (xu t x a b c):=by
 unfold xu;refine .bind (.underlying _) λu=>?_;split
 .dsimp only
  split
  .exact .bind (.stuck _) λ_=>.bind (Eu _ _ _ _ _ _) λp=>.pure _
  .exact .bind (Eu _ _ _ _ _ _) λp=>.pure _
 .exact .bind (Eu _ _ _ _ _ _) λp=>.bind (.sizeOf _) λ_=>.pure _
 .refine .bind (.asAddr _) λa=>.bind (.underlying _) λv=>?_;split
  .exact .bind (Eu _ _ _ _ _ _) λp=>.bind (.sizeOf _) λ_=>.pure _
  .exact .stuck _
 .exact .stuck _
theorem HW(t:eH)(x:dp)(a b c:dB dp):ed (m1 t x a b c):=by
 unfold m1;refine .bind (.underlying _) λu=>?_;split
 .exact .bind (.sureAddr _) λ_=>.bind (Eu _ _ _ _ _ _) λp=>.bind (.sizeOf _) λ_=>.pure _
 .exact af5 _ _ _ _ _
theorem af6(t:eH)(x:dp)(f:V):ed (MW t x f):=by
 unfold MW;refine .bind (.underlying _) λu=>?_;split
 .split
  .exact .bind (.asAgg _) λ_=>.part _ _ _
  .exact .stuck _
 .exact .stuck _
theorem af7(t:eH)(x i:dp):ed (Ev t x i):=by
 unfold Ev;refine .bind (.asIntOf _) λp=>?_;split;refine .bind (.underlying _) λu=>?_;split
 .split
  .exact .bind (.sizeOf _) λ_=>.part _ _ _
  .exact .boundsPanic _ _ _ _
 .split<;>first|exact .pure _|exact .boundsPanic _ _ _ _
 .exact .stuck _
theorem af8(t:dp)(i:V):ed (MX t i):=by
 unfold MX;split
 .split<;>first|exact .pure _|exact .stuck _
 .exact .stuck _
theorem HX(t:eH)(x i:dp):ed (qA t x i):=by
 unfold qA;refine .bind (.asIntOf _) λp=>?_
 have⟨k,i⟩:=p;dsimp only
 refine .bind (.underlying _) λu=>?_
 have e:∀d (q:dB gP×V×eH),ed (do
  let af9 <-underlying t
  match q.1 with
  |some a=>
   if 0<=i/\i<↑q.2.1 then do
    let s <-sizeOf q.2.2
    Pure.pure (HY (U (a.add (i.toNat*s))))
   else
    if(decide (q.2.1<=1)&&match af9 with|TypeDesc.array len l=>N|x=>L)=N then
     unsupported (av8 d)
    else boundsPanic k i (↑q.2.1) aga
  |none=>boundsPanic k i 0 aga):=λd q=>by
  refine .bind (.underlying _) λv=>?_;split
  .split
   .exact .bind (.sizeOf _) λ_=>.pure _
   .split<;>(split<;>first|exact .unsupported _|exact .boundsPanic _ _ _ _)
  .exact .boundsPanic _ _ _ _
 split
 .exact .bind (.sureAddr _) λ_=>.bind (.pure _) (e _)
 .exact .bind (.pure _) (e _)
 .exact .bind (.stuck _) (e _)
def dM(own:V->Prop)(M:eE)(D:gr)(O:V->dB d4)(w:c')(e:ge)(v:dp)(w':c'):Prop:=
 ∃(a:eE) (eg:gr),jM own w w'/\gJ M a/\fq a w'/\jl own M a/\er own a eg (e.O O) w'/\ (∀b,pP e.f2 b->eg b=D b) /\dV a eg e.fl v
def H2(cV:jm)(own:V->Prop)(M:eE)(D:gr)(O:V->dB d4)(w:c')(e:ge)(v:dp)(w':c'):Prop:=
 ∃(a:eE) (eg:gr),jM (pe cV own) w w'/\gJ M a/\fq a w'/\jl own M a/\er own a eg (e.O O) w'/\ (∀b,pP e.f2 b->eg b=D b) /\dV a eg e.fl v
def hv(P:el)(o:gC)(dC:fu->dn)(O:V->dB d4)(e:ge):Prop:=
 ∀(cV:jm) (own:V->Prop) (M:eE) (D:gr) (a:e7) (w:c'),gG cV own M->(∀c,w.heap.size<=c->own c)->fq M w->er own M D O w->(∀x,dV M D (dC x) (a.eval x))->
  nT P cV.main cV.F o a w (λd9 w'=>∃v,d9=a.put o.dst v/\H2 cV own M D O w e v w')
theorem gJ.refl(M):gJ M M:=λ_ _ _ h=>h
theorem gJ.trans{M b a}(h:gJ M b)(c:gJ b a):gJ M a:=λ_ _ _ k=>c _ _ _ (h _ _ _ k)
theorem jl.refl(own M):jl own M M:=λ_ _ _ h=>.inl h
theorem jl.trans{own M c a}(h:jl own M c)(d:jl own c a):jl own M a:=λb o v k=>(d b o v k).elim (h b o v) .inr
theorem jM.refl(own w):jM own w w:=⟨Z,Z,Z,fB _,λ_ _=>Z⟩
theorem jM.trans{own a b c}(h:jM own a b)(d:jM own b c):jM own a c:=
 ⟨d.os.trans h.os,d.tape.trans h.tape,d.output.trans h.output,fJ h.size d.size,λx e=>(d.block x e).trans (h.block x e)⟩
theorem Up{own M D O w a v}(h:fq M w)(c_:er own M D O w)(cP:dV M D a v):dM own M D O w ⟨a,[],cM⟩ v w:=
 ⟨M,D,.refl _ _,.refl _,h,.refl _ _,c_,λ_ _=>Z,cP⟩
theorem jM.mono{own o w w'}(h:jM own w w')(b:∀c,own c->o c):jM o w w':=
 ⟨h.os,h.tape,h.output,h.size,λc a=>h.block c λq=>a (b c q)⟩
theorem agi{cV}(own){w c0}(h:eX cV.F w c0):jM (pe cV own) w c0:=⟨h.os,h.tape,h.output,xy h.size.symm,λc a=>h.block c λq=>a (.inr q)⟩
theorem Nc{F w c0}(h:eX F w c0){a}(b:¬F a.block):c0.cell? a=w.cell? a:=by unfold j3;rw[h.block _ b]
theorem tj{cV own M w c0}(f:gG cV own M)(h:eX cV.F w c0)(a:fq M w):fq M c0:=λb o v cU=>by
 rw[Nc h (f.mem b o v cU)];exact a b o v cU
theorem BA{cV own M D O w c0}(f:gG cV own M)(h:eX cV.F w c0)(c_:er own M D O w):er own M D O c0:=
 ⟨c_.fD,c_.iN,λb B cL a d=>by
  have⟨q,cs,T,c,e⟩:=c_.at_ b B cL a d
  exact⟨q,cs,T,by rwa[h.block _ (f.own _ q)],e⟩,c_.inj⟩
theorem Uq{cV own M w w'}(f:gG cV own M)(h:jM own w w'):oC cV.F w w':=⟨h.os,h.tape,h.output,h.size,λc a=>h.block c λq=>f.own c q a⟩
theorem Nd{cV own M D O w c0 w' e v}(h:eX cV.F w c0)(p:dM own M D O c0 e v w'):H2 cV own M D O w e v w':=by have⟨a,eg,f,q⟩:=p;exact⟨a,eg,(agi own h).trans (f.mono λc q=>.inl q),q⟩
theorem Nf{P o dC O e}
  (h:∀(own M D) (a:e7) (w),(∀c,w.heap.size<=c->own c)->fq M w->er own M D O w->(∀x,dV M D (dC x) (a.eval x))->
   (∃v w',(execOp a.eval o).run P w=.ok (.value v) w'/\dM own M D O w e v w'/\ ∀e∈(execOp a.eval o).events P w #[],h0 own M e) \/
   ∃w',(execOp a.eval o).run P w=.ok .skip w'/\dM own M D O w e undef w'/\ ∀e∈(execOp a.eval o).events P w #[],h0 own M e):hv P o dC O e:=by
 intro cV own M D a w f m l c_ j c0 b;have g:∀c,c0.heap.size<=c->own c:=λc k=>m c (by rwa[b.size]at k);rcases h own M D a c0 g (tj f b l) (BA f b c_) j with⟨v,w',r,p,d⟩|⟨w',r,p,d⟩
 .rw[r];exact⟨⟨Uq f p.choose_spec.choose_spec.1,λx i=>(d x i).hD f⟩,v,Z,Nd b p⟩
 .rw[r];exact⟨⟨Uq f p.choose_spec.choose_spec.1,λx i=>(d x i).hD f⟩,undef,Z,Nd b p⟩
theorem uJ{P o dC O c}
  (h:∀(own M D) (a:e7) (w),fq M w->er own M D O w->(∀x,dV M D (dC x) (a.eval x))->∃v,(execOp a.eval o).run P w=.ok (.value v) w/\ (∀e∈(execOp a.eval o).events P w #[],h0 own M e) /\dV M D c v):
  hv P o dC O ⟨c,[],cM⟩:=Nf λown M D a w _ d c_ b=>by
 have⟨v,r,f,cP⟩:=h own M D a w d c_ b;exact .inl ⟨v,w,r,Up d c_ cP,f⟩
theorem agj{own M a e}(cY:jl own M a)(h:h0 own a e):h0 own M e:=by
 unfold h0 at*
 split at h
 .exact⟨h.1,h.2.elim .inl λ⟨o,v,cU⟩=>(cY _ _ v cU).elim (λq=>.inr ⟨o,v,q⟩) .inl⟩
 .trivial
 .trivial
 omega
theorem zg{P o dC O c}(f:∀(own M) (a:e7) (w),∀e∈(execOp a.eval o).events P w #[],h0 own M e)
  (h:∀(own M D) (a:e7) (w),fq M w->er own M D O w->(∀x,dV M D (dC x) (a.eval x))->∃v,(execOp a.eval o).run P w=.ok (.value v) w/\dV M D c v):
  hv P o dC O ⟨c,[],cM⟩:=uJ λown M D a w d c_ b=>by
 have⟨v,r,cP⟩:=h own M D a w d c_ b;grind
theorem tk{own M es}(h:es=#[]):∀e∈es,h0 own M e:=λe a=>by simp_all
theorem tl{v K}(h:mY v K):K v/\v≠.dead:=by cases v<;>simp_all [mY]
theorem v6{b A B}(h:jy b A B):(b=N/\A) \/ (b=L/\B):=by have h:=h.out;grind
theorem EB{k n K}(h:vV k n K):K (k.wrap n):=h.out
theorem kT{c K}(h:jL c K):c/\K:=h.out
theorem EC{l i K}(h:Ee l i K):∃e,l[i]?=U e/\K e:=h.out
theorem zh{i n K}(h:uq i n K):0<=i/\i<n/\K i.toNat:=h.out
theorem BB{n b K}(h:r8 n b K):n*b<=35184372088832/\n<=35184372088832/\K:=h.out
theorem Ur{dy cK n c K}(h:Bc dy cK n c K):0<=dy.getD 0/\dy.getD 0<=cK.getD n/\cK.getD n<=c/\K (dy.getD 0).toNat (cK.getD n).toNat:=h.out
theorem ED{dy cK n K}(h:vW dy cK n K):
  0<=dy.getD 0/\dy.getD 0<=cK.getD n/\cK.getD n<=n/\K (dy.getD 0).toNat (cK.getD n).toNat:=h.out
theorem Us{q k a b K}(h:Bb q k a b K):b≠0/\K (if q then k.wrap (a.tdiv b) else a.tmod b):=h.out
theorem uK{v K}(h:y7 v K):∃b,K b/\ ∀M D u,dV M D v u->u=.bool b:=by
 unfold y7 at h;split at h
 .rename_i b;refine⟨b,h,λM D u cP=>?_⟩
  cases cP with|d _ _ cP=>cases cP;rfl
 .exact⟨N,h,λM D u cP=>by cases cP;rfl⟩
 .exact⟨L,h,λM D u cP=>by cases cP;rfl⟩
 simp_all
theorem kr{M D k n v}(h:dV M D (.d (.int k n)) v):v=.int k n:=by
 cases h with|d _ _ h=>cases h;rfl
theorem sg{M D s v}(h:dV M D (.d (.str s)) v):v=.string s:=by
 cases h with|d _ _ h=>cases h;rfl
theorem n1{M D s v}(h:dV M D (.d (.bool s)) v):v=.bool s:=by
 cases h with|d _ _ h=>cases h;rfl
section
variable {P:el}
theorem agk{op:BinOp}{k:pK}{a b:I}{K:dn->Prop}(h:Ms op k a b K)(t:eH):
  ∃d:c3,K (.d d) /\ (∀(x y:fu) (w:c'),(do eqGuard op t x y (.int k a) (.int k b);jo op t (.int k a) (.int k b):Sem dp).run P w=.ok (match d with| .int k n=>.int k n| .bool b=>.bool b|_=>undef) w) /\ ((∃n,d=.int k n) \/ ∃b,d=.bool b):=by
 unfold Ms at h
 cases op<;>simp only at h
 case add=>exact⟨_,EB h,LF,.inl ⟨_,Z⟩⟩
 case sub=>exact⟨_,EB h,LF,.inl ⟨_,Z⟩⟩
 case mul=>exact⟨_,EB h,LF,.inl ⟨_,Z⟩⟩
 case quo=>have⟨Q,c5⟩:=Us h;exact⟨_,c5,by simp[eqGuard,jo,Ng,Q],.inl ⟨_,Z⟩⟩
 case rem=>have⟨Q,c5⟩:=Us h;exact⟨_,c5,by simp[eqGuard,jo,Ng,Q],.inl ⟨_,Z⟩⟩
 case and=>exact⟨_,h,GY,.inl ⟨_,Z⟩⟩
 case or=>exact⟨_,h,GY,.inl ⟨_,Z⟩⟩
 case xor=>exact⟨_,h,GY,.inl ⟨_,Z⟩⟩
 case andNot=>exact⟨_,h,GY,.inl ⟨_,Z⟩⟩
 case eql=>exact⟨_,h,SD,.inr ⟨_,Z⟩⟩
 case neq=>exact⟨_,h,SD,.inr ⟨_,Z⟩⟩
 case lss=>exact⟨_,h,GX,.inr ⟨_,Z⟩⟩
 case leq=>exact⟨_,h,GX,.inr ⟨_,Z⟩⟩
 case gtr=>exact⟨_,h,GX,.inr ⟨_,Z⟩⟩
 case geq=>exact⟨_,h,GX,.inr ⟨_,Z⟩⟩
theorem agl{op k fr a b K}(h:Mt op k a b K)(t):
  ∃n,K (.d (.int k n)) /\ ∀x y w,(do eqGuard op t x y (.int k a) (.int fr b);jo op t (.int k a) (.int fr b):Sem dp).run P w=.ok (.int k n) w:=by
 unfold Mt at h
 cases op<;>simp_all
 case shl=>have⟨Q,c5⟩:=kT h;exact⟨_,EB c5,SF⟩
 case shr=>have⟨Q,c5⟩:=kT h;exact⟨_,c5,SF⟩
theorem agm{op:BinOp}{a b:dS}{K:dn->Prop}(h:Mu op a b K)(t:eH):
  ∃d:c3,K (.d d) /\ (∀(x y:fu) (w:c'),(do eqGuard op t x y (.string a) (.string b);jo op t (.string a) (.string b):Sem dp).run P w=.ok (match d with| .str s=>.string s| .bool b=>.bool b|_=>undef) w) /\ ((∃n,d=.str n) \/ ∃b,d=.bool b):=by
 have aey:(a.toList==b.toList)=decide (a=b):=by rw[zi,zi,BC];have⟨⟨x⟩⟩:=a;have⟨⟨y⟩⟩:=b;simp
 unfold Mu at h
 cases op<;>simp only at h
 case add=>have⟨Q,c5⟩:=kT h;exact⟨_,c5,by intro x y w;simp[eqGuard,jo,Op.stringOp];omega,.inl ⟨_,Z⟩⟩
 case eql=>exact⟨_,h,SP,.inr ⟨_,Z⟩⟩
 case neq=>exact⟨_,h,SP,.inr ⟨_,Z⟩⟩
theorem H3{o a b K}(h:Be o a b K):
  ∃r,K (.d (.bool r)) /\ (o=.eql/\r=(a==b) \/o=.neq/\r=!(a==b)):=by
 unfold Be at h;grind
variable {T:fL} (cS:jB P T)
theorem H4{M D}{x:J dn}{vs:ea dp}(l:vs.size=x.length)(cP:∀(i:V) (a v),x[i]?=U a->vs[i]?=U v->dV M D a v)(o n)(h:o+n<=x.length):
  (vs.extract o (o+n)).size=((x.drop o).take n).length/\ ∀(i:V) (a) (v),((x.drop o).take n)[i]?=U a->(vs.extract o (o+n))[i]?=U v->dV M D a v:=by
 grind
include cS in
theorem H5:∀ (n) (t) (x y) (K),oF T n t x y K->
  (T t).k.known=N/\ ∃ b,K b/\ ∀ (M) (D) (vs us),vs.size=x.length->us.size=y.length->(∀ (i:V) (a) (v),x[i]?=U a->vs[i]?=U v->dV M D a v)->
   (∀ (i:V) (a) (v),y[i]?=U a->us[i]?=U v->dV M D a v)->∀ (d) (w),n<=d->
   (n2 (d+1) t (if (T t).k.agg then .agg vs else vs.getD 0 undef) (if (T t).k.agg then .agg us else us.getD 0 undef)).run P w=.ok b w
 |0,t,x,y,K,h=>by simp [oF] at h
 |n+1,t,x,y,K,h=>by
  simp only [oF] at h
  split at h
  ·rename_i k c6;refine ⟨by rw [c6];rfl,?_⟩;have o:=vB cS c6
   split at h
   ·rename_i k1 a
    split at h
    ·rename_i eF b
     cases hb:d2 (j4 k1) (j4 eF) with
     |false=>simp [hb] at h
     |true=>
      simp only [hb,fE] at h;have:=Ez hb;subst this;refine ⟨_,h,fun M D vs us dw j cP l d w _=>?_⟩;have u:=kr (cP 0 _ (vs.getD 0 undef) Z (by simp [my,dw]));have z:=kr (l 0 _ (us.getD 0 undef) Z (by simp [my,j]));simp only [c6,nU.agg,rh,qp];rw [u,z,run_equalIn_int w d t k1 k a b o];rfl
    ·exact h.elim
   ·exact h.elim
  ·rename_i c6;refine ⟨by rw [c6];rfl,?_⟩;have o:=v5 cS c6
   split at h
   ·rename_i a
    split at h
    ·rename_i b;refine ⟨_,h,fun M D vs us dw j cP l d w _=>?_⟩;have u:=sg (cP 0 _ (vs.getD 0 undef) Z (by simp [my,dw]));have z:=sg (l 0 _ (us.getD 0 undef) Z (by simp [my,j]));simp only [c6,nU.agg,rh,qp];rw [u,z,run_equalIn_string w d t a b o]
     congr 1
     rw [zi,zi,BC];obtain ⟨⟨x⟩⟩:=a;obtain ⟨⟨y⟩⟩:=b;simp
    ·exact h.elim
   ·exact h.elim
  ·rename_i c6;refine ⟨by rw [c6];rfl,?_⟩;have o:=xw cS c6
   split at h
   ·rename_i a
    split at h
    ·rename_i b;obtain ⟨p,h,O⟩:=uK h;obtain ⟨q,h,H⟩:=uK h;refine ⟨_,h,fun M D vs us dw j cP l d w _=>?_⟩;have u:=O M D _ (cP 0 _ (vs.getD 0 undef) Z (by simp [my,dw]));have z:=H M D _ (l 0 _ (us.getD 0 undef) Z (by simp [my,j]));simp only [c6,nU.agg,rh,qp];rw [u,z,Uu w d t p q o]
    ·exact h.elim
   ·exact h.elim
  ·rename_i ir c6;refine ⟨by rw [c6];rfl,?_⟩;obtain ⟨F,o,I,ag,R⟩:=By cS c6
   have S:P.stoodInHeld t=L:=by
    obtain ⟨_,_,_,_,_,_,_,_,_,_,_,h,_⟩:=(lC cS (t:=t) (by rw [c6];rfl)).desc;exact h
   have C:P.fieldsOf t=F:=by simp [Program.fieldsOf,o]
   have W:∀ (G:J Field) (K:dh->Prop),oF.fields T (fun t x y K=>oF T n t x y K) (G.map fun f=>(f.offset,f.type)) x y K->(∀ f∈G,f.name≠ "_")->
     ∃ b,K b/\ ∀ (M:eE) (D:gr) (vs us:ea dp),vs.size=x.length->us.size=y.length->(∀ (i:V) (a:dn) (v:dp),x[i]?=U a->vs[i]?=U v->dV M D a v)->
      (∀ (i:V) (a:dn) (v:dp),y[i]?=U a->us[i]?=U v->dV M D a v)->∀ (d:V) (w:c'),n<=d->(Uv (d+1) vs us G).run P w=.ok b w:=by
    intro G
    induction G with
    |nil=>
     intro K h _;exact ⟨N,h,fun M D vs us _ _ _ _ d w _=>by simp [Uv]⟩
    |cons f G X=>
     intro K h cY;simp only [kD,oF.fields] at h
     cases hb:(hn (f.offset+(T f.type).size) x.length&&hn (f.offset+(T f.type).size) y.length) with
     |false=>simp [hb] at h
     |true=>
      simp only [hb,fE] at h;simp only [lB,Nat.ble_eq] at hb;obtain ⟨A,b,h,Y⟩:=H5 n _ _ _ _ h;obtain ⟨c,h,aa⟩:=X _ h (fun g ab=>cY g (lD _ ab));refine ⟨_,h,fun M D vs us dw j cP l d w B=>?_⟩;obtain ⟨s1,d1⟩:=H4 dw cP f.offset (T f.type).size hb.1;obtain ⟨s2,ac⟩:=H4 j l f.offset (T f.type).size hb.2;have r:=Y M D _ _ s1 s2 d1 ac d w B;have ad:=aa M D vs us dw j cP l d w B
      have E:∀ (s:ea dp) (m:V),s.size=m->f.offset+(T f.type).size<=m->((T f.type).k.agg=L->(T f.type).size=1)->
        (part f.type s f.offset).run P w=.ok (if (T f.type).k.agg then .agg (s.extract f.offset (f.offset+(T f.type).size)) else (s.extract f.offset (f.offset+(T f.type).size)).getD 0 undef) w:=by
       intro s m ah ai Q;simp only [part,g2,Bz cS w A,g7]
       cases ae:(T f.type).k.agg with
       |true=>simp [iu cS w A]
       |false=>
        have:=Q ae;simp only [rh,qp]
        have af:f.offset<s.size:=by omega
        simp [yU af,this,my,show min (f.offset+1) s.size-f.offset=1 by omega]
      have one:(T f.type).k.agg=L->(T f.type).size=1:=xx cS A;simp only [Uv,ne_eq,cY f (mz ..),not_false_eq_true,ni,g2,E vs _ dw hb.1 one,E us _ j hb.2 one,g7,r]
      cases b with
      |false=>simp
      |true=>simp [ad]
   obtain ⟨b,h,hb⟩:=W F.toList K (by rw [I];exact h) R;refine ⟨b,h,fun M D vs us dw j cP l d w B=>?_⟩;obtain ⟨d,rfl⟩:∃ e,d=e+1:=⟨d-1,by omega⟩;have:=hb M D vs us dw j cP l d w (by omega);simp only [c6,nU.agg,ni];rw [run_equalIn_struct w (d+1) t vs us (by rw [C];exact o) S,C];exact this
  ·exact h.elim
end
theorem mA(b o i):(⟨b,o,cM⟩:gP).add i=⟨b,o+i,cM⟩:=by unfold Addr.add;simp_all
theorem si{w:c'}{b cs T cN}(h:w.heap[b]?=U (.cells cs T cN))(o):w.cell? ⟨b,o,cM⟩=cs[o]?:=by simp[j3,h]
theorem xz{M D c v}(h:dV M D (.agg c) v):∃vs,v=.agg vs/\vs.size=c.length/\ ∀(i:V) (x) (u),c[i]?=U x->vs[i]?=U u->dV M D x u:=by
 cases h with|agg _ vs dw cP=>grind
theorem ago{M D c v}(h:dV M D (.dP c) v):∃vs,v=.tuple vs/\vs.size=c.length/\ ∀(i:V) (x) (u),c[i]?=U x->vs[i]?=U u->dV M D x u:=by
 cases h with|dP _ vs dw cP=>grind
theorem EE{c K}:qt c K->K c:=by
 induction c generalizing K with
 |nil=>exact id|cons x r i=>intro h;simp[qt]at h;have:=(tl h).1;grind
def agp(M:eE)(D:gr)(c:J dn)(f:V->dB dp):Prop:=∀(i:V) (x:dn),c[i]?=U x->∃v,f i=U v/\dV M D x v
theorem BD{a s c j K}(h:xl a s c j K)(Q:a=L->s=1):
  ∃d,K d/\j+s<=c.length/\ ∀M D f,agp M D c f->
   ∃g,(∀i,i<s->f (j+i)=U (g i)) /\dV M D d (if a then .agg ((iB s).map g).toArray else g 0):=by
 unfold xl at h
 cases a with
 |true=>
  simp only[fE]at h
  cases e:hn (j+s) c.length with
  |false=>simp_all
  |true=>
   simp[e,fE]at h;have l:=ta e;refine⟨_,EE h,l,λM D f b=>?_⟩
   have n:∀i,i<s->∃v,f (j+i)=U v/\dV M D (c[j+i]?.getD .dead) v:=λi cK=>by
    have t:j+i<c.length:=R;have⟨v,Q,m⟩:=b (j+i) c[j+i] (fe t);simp_all
   refine⟨λi=>(f (j+i)).getD undef,λi cK=>?_,?_⟩
   .grind
   .refine .agg _ _ hd λi x v k cU=>?_;grind
 |false=>
  simp at h;unfold Bf at h;split at h
  .rename_i x k;refine⟨x,(tl h).1,?_,λM D f b=>?_⟩
   .grind
   .have⟨v,o,ui⟩:=b j x k;refine⟨λ_=>v,λi cK=>?_,S5⟩;simp_all
  simp_all
theorem BE{a s c j K}(h:HB a s c j K)(Q:a=L->s=1):
  ∃e,K e/\j+s<=c.length/\ ∀(M) (D) (f:V->dB dp),(∀i x,c[i]?=U x->∃v,f i=U v/\e1 M x v)->
   ∃g,(∀i,i<s->f (j+i)=U (g i)) /\dV M D e (if a then .agg ((iB s).map g).toArray else g 0):=by
 have n:xl a s (c.map .d) j K:=by
  unfold HB at h;unfold xl
  cases a with
  |true=>simp_all
  |false=>
   simp at h⊢;unfold getD at h;simp[Bf];split at h
   .rename_i x b;simpa[b,mY]using h
   simp_all
 have⟨e,k,dw,cP⟩:=BD n Q;refine⟨e,k,vC,λM D f o=>cP M D f λi x b=>?_⟩;rw[iO]at b
 cases l:c[i]? with
 |none=>simp_all
 |some d=>simp[l,jp,fx]at b;subst b;have⟨v,p,m⟩:=o i d l;exact⟨v,p,.d _ _ m⟩
section
variable {P:el} {T:fL} (cS:jB P T)
include cS
theorem BF{t}(k:(T t).k.known=N)(w b o g)(h:∀i,i<(T t).size->w.cell? ⟨b,o+i,cM⟩=U (g i)):
  (loadVar t ⟨b,o,cM⟩).run P w=.ok (if(T t).k.agg then .agg ((iB (T t).size).map g).toArray else g 0) w:=by
 simp[loadVar,g2,Bz cS w k,g7]
 cases a:(T t).k.agg with|true=>simp[ni,g2,iu cS w k,g7];rw[run_loadCells w ⟨b,o,cM⟩ (T t).size g (λj c=>by rw[mA];grind)];rfl|false=>have Q:=xx cS k a;simp_all
theorem agq{t x O K}(h:vX T t x O K):
  ∃fl,K fl/\ ∀own M D w v,fq M w->er own M D O w->dV M D x v->∃r,(sc t v).run P w=.ok r w/\dV M D fl r:=by
 unfold vX at h
 have c6:(T t).k.known=N:=by
  cases n:(T t).k.known with|true=>rfl|false=>simp_all
 simp[c6,fE]at h;have Q:=xx cS c6;unfold Eg at h;split at h
 .rename_i b i j;split at h
  .rename_i c cN hb;have⟨q,c5⟩:=kT h;subst q;have⟨fl,k,dw,cP⟩:=BD c5 Q;refine⟨fl,k,λown M D w v dq c_ cU=>?_⟩
   cases cU with
   |ptr _ _ _ cL a=>
    have⟨_,cs,eQ,o,s,p,u,y,_⟩:=c_.at_ b _ cL hb a;have⟨g,n,m⟩:=cP M D (λi=>cs[i]?) (λi x f=>y.den i x f);refine⟨_,?_,m⟩;simp
    exact BF cS c6 w _ _ g λi cK=>by rw[si o];simp_all
   |iV _ _ _ _ a=>rw[(c_.fD b).2 a]at hb;cases hb
  .rename_i l cQ cN hb;have⟨e,he,h⟩:=EC h;have⟨fl,k,dw,cP⟩:=BE h Q;refine⟨fl,k,λown M D w v dq c_ cU=>?_⟩
   cases cU with
   |ptr _ _ _ cL a=>
    have⟨_,cs,eQ,o,s,p,u,B,z,_⟩:=c_.at_ b _ cL hb a;have⟨g,n,m⟩:=cP M D (λj=>cs[i*cQ+j]?) (λj x f=>z.den i j e x he f);refine⟨_,?_,m⟩;simp[sc,lA,g2,hM,g7];subst p
    exact BF cS c6 w _ _ g λi cK=>by rw[si o];grind
   |iV _ _ _ _ a=>rw[(c_.fD b).2 a]at hb;cases hb
  simp_all
 .rename_i e j;have⟨fl,k,dw,cP⟩:=BE h Q;refine⟨fl,k,λown M D w v dq c_ cU=>?_⟩
  cases cU with
  |d _ _ cU=>
   cases cU with
   |ip _ _ b off val d8 A=>
    have⟨g,n,m⟩:=cP M D (λi=>w.cell? ⟨b,off+i,cM⟩) (λi x f=>⟨val i,dq _ _ _ (d8 i x f),A i x f⟩);refine⟨_,?_,m⟩;simp[sc,lA,g2,hM,g7]
    exact BF cS c6 w _ _ g λi cK=>by grind
 simp_all
theorem agr{t op x y K}(h:Ef T t op x y K):
  ∃fl,K fl/\ ∀M D v u,dV M D x v->dV M D y u->∀X Y w,∃r,(do eqGuard op t X Y v u;jo op t v u:Sem dp).run P w=.ok r w/\dV M D fl r:=by
 have l:∀(a b:dh) (r:dh),(T t).k=.bool->(op=.eql/\r=(a==b) \/op=.neq/\r=!(a==b))->∀(X Y:fu) (w:c'),(do eqGuard op t X Y (.bool a) (.bool b);jo op t (.bool a) (.bool b):Sem dp).run P w=.ok (.bool r) w:=by
  intro a b r c6 dI X Y w;have e:=xw cS c6;rcases dI with⟨rfl,rfl⟩|⟨rfl,rfl⟩
  .simp[eqGuard,jo,EF,Uw,Uu w 9999 t a b e]
  .simp[eqGuard,jo,EF,Uw,Uu w 9999 t a b e]
 unfold Ef at h;split at h
 .rename_i k a;split at h
  .rename_i fr b
   cases c7:T4 op with
   |true=>simp[c7,fE]at h;have⟨n,f,dI⟩:=agl (P:=P) (fr:=fr) h t;refine⟨_,f,λM D v u cU e X Y w=>?_⟩;rw[kr cU,kr e];exact⟨_,dI X Y w,.d _ _ (.int _ _)⟩
   |false=>
    simp only[c7,jk]at h
    cases o:d2 (j4 k) (j4 fr) with
    |false=>simp_all
    |true=>
     simp[o,fE]at h;have:=Ez o;subst this;have⟨d,f,dI,cP⟩:=agk (P:=P) h t;refine⟨_,f,λM D v u cU e X Y w=>?_⟩;rw[kr cU,kr e];refine⟨_,dI X Y w,?_⟩;rcases cP with⟨n,rfl⟩|⟨b,rfl⟩
     .exact .d _ _ (.int _ _)
     .exact .d _ _ (.bool _)
  simp_all
 .rename_i a;split at h
  .rename_i b;have⟨d,f,dI,cP⟩:=agm (P:=P) h t;refine⟨_,f,λM D v u cU e X Y w=>?_⟩;rw[sg cU,sg e];refine⟨_,dI X Y w,?_⟩;rcases cP with⟨n,rfl⟩|⟨b,rfl⟩
   .exact .d _ _ (.str _)
   .exact .d _ _ (.bool _)
  simp_all
 .rename_i a;split at h
  .rename_i i;have⟨b,h,j⟩:=uK h;have⟨r,f,dI⟩:=H3 h;refine⟨_,f,λM D v u cU e X Y w=>?_⟩;rw[n1 cU,j M D u e];exact⟨_,l a b r i dI X Y w,.d _ _ (.bool _)⟩
  simp_all
 .split at h
  .rename_i i;have⟨b,h,j⟩:=uK h;have⟨r,f,dI⟩:=H3 h;refine⟨_,f,λM D v u cU e X Y w=>?_⟩
   cases cU with
   |e4=>rw[j M D u e];exact⟨_,l N b r i dI X Y w,.d _ _ (.bool _)⟩
  simp_all
 .split at h
  .rename_i i;have⟨b,h,j⟩:=uK h;have⟨r,f,dI⟩:=H3 h;refine⟨_,f,λM D v u cU e X Y w=>?_⟩
   cases cU with
   |fd=>rw[j M D u e];exact⟨_,l L b r i dI X Y w,.d _ _ (.bool _)⟩
  simp_all
 .rename_i c;split at h
  .rename_i mX
   have fin:∀(m:dh->Prop),(bif (T t).k.agg then oF T 9999 t c mX m else dA)->∃b,m b/\ ∀(M:eE) (D:gr) (v u:dp),dV M D (.agg c) v->dV M D (.agg mX) u->∀(X Y:fu) (w:c'),
     ((eqGuard op t X Y v u).run P w=.ok () w/\ ∃vs us,v=.agg vs/\u=.agg us/\ (n2 10000 t (.agg vs) (.agg us)).run P w=.ok b w):=by
    intro m h
    have p:(T t).k.agg=N:=by
     cases g:(T t).k.agg with
     |true=>rfl
     |false=>simp_all
    simp[p,fE]at h;have⟨c6,b,f,cP⟩:=H5 cS _ _ _ _ _ h;refine⟨b,f,λM D v u cU e X Y w=>?_⟩;obtain⟨vs,rfl,s1,d1⟩:=xz cU;obtain⟨us,rfl,s2,q⟩:=xz e;have:=cP M D vs us s1 s2 d1 q 9999 w (fB _);simp[p,ni]at this;have⟨_,_,_,_,_,_,_,_,_,_,_,_,g,_⟩:=(lC cS c6).desc;exact⟨run_eqGuard_agg w op t X Y vs us g,vs,us,Z,Z,this⟩
   split at h
   .have⟨b,f,cP⟩:=fin _ h;refine⟨_,f,λM D v u cU e X Y w=>?_⟩;obtain⟨g,vs,us,rfl,rfl,he⟩:=cP M D v u cU e X Y w;exact⟨_,by rw[g2,g,g7,run_eql_struct,he];rfl,.d _ _ (.bool _)⟩
   .have⟨b,f,cP⟩:=fin _ h;refine⟨_,f,λM D v u cU e X Y w=>?_⟩;obtain⟨g,vs,us,rfl,rfl,he⟩:=cP M D v u cU e X Y w;exact⟨_,by rw[g2,g,g7,run_neq_struct,he];rfl,.d _ _ (.bool _)⟩
   simp_all
  simp_all
 simp_all
end
section
variable {P:el} {T:fL} (cS:jB P T)
include cS
theorem Nh{s f K}(h:xm T s f K):
  ∃(F:ea Field) (l:Field),P.underlying s=U (.struct F) /\F[f]?=U l/\ (T l.type).k.known=N/\K l.offset l.type:=by
 unfold xm at h;split at h
 .rename_i a k;have⟨F,u,b,n,_⟩:=By cS k;grind
 simp_all
theorem ags{b o f}(z:(T f.type).k.known=N)(w):(Ux ⟨b,o,cM⟩ f).run P w=.ok ⟨b,o+f.offset,cM⟩ w:=by have:=pV cS z;simp only[Ux,g2,iu cS w z,g7];rw[cT R,hM,mA]
theorem Uy{s f F l}(u:P.underlying s=U (.struct F))(h:F[f]?=U l)(z:(T l.type).k.known=N)(b o w):
  (EG s (.pointer (U ⟨b,o,cM⟩)) f).run P w=.ok (.pointer (U ⟨b,o+l.offset,cM⟩)) w:=by
 simp[EG,fv u,h,lA,ags cS z]
theorem agt{t x i O K}(h:Mv T t x i O K):
 ∃fl,K fl/\ ∀own M D w v u,er own M D O w->dV M D x v->dV M D i u->∃r,(qA t v u).run P w=.ok r w/\dV M D fl r:=by
 unfold Mv at h;split at h
 .rename_i I n;split at h
  .rename_i is c6;have⟨g,o⟩:=kC cS c6;split at h
   .rename_i l;have⟨cW,Q,h⟩:=zh h;have⟨e,he,h⟩:=EC h
    cases c7:d2 e.length (T is).size with
    |false=>simp_all
    |true=>
     simp[c7,fE]at h;have p:=gs c7;refine⟨_,h,λown M D w v u c_ cU cK=>?_⟩;rw[kr cK]
     cases cU with
     |d _ _ cU=>
      cases cU with
      |emp a c=>simp_all
      |dk _ b off cap cQ val dw c7 d8 cP=>
       have z:=c7 _ _ he;refine⟨.pointer (U ⟨b,off+n.toNat*cQ+0,cM⟩),?_,.d _ _ (.ip _ _ _ _ (val n.toNat) (λj d dL=>?_) λj d dL=>?_)⟩
       .simp[qA,asIntOf,fv g,cW,Q,iu cS w o,mA,<-p,z]
       .grind
       grind
   .rename_i b;split at h
    .rename_i l cQ cN hb
     cases c7:d2 cQ (T is).size with
     |false=>simp_all
     |true=>
      simp[c7,fE]at h;have p:=gs c7;have⟨cW,Q,h⟩:=zh h;refine⟨_,h,λown M D w v u c_ cU cK=>?_⟩;rw[kr cK]
      cases cU with
      |own _ cL cap f cY dg=>have⟨_,cs,eQ,A,C,q,s,E,F,_⟩:=c_.at_ b _ cL hb f;refine⟨.pointer (U ⟨cL.blk,n.toNat*cL.cQ+0,cM⟩),?_,.ptr b n.toNat 0 cL f⟩;simp[qA,asIntOf,fv g,cW,<-s,Q,iu cS w o,mA,<-q,<-p]
      |h7 _ a f=>have⟨J,S,V⟩:=c_.iN b f;grind
      |ji _ _ f=>rw[(c_.fD b).2 f]at hb;cases hb
    simp_all
   .rename_i b dy m eT;split at h
    .rename_i l cQ cN hb
     cases c7:d2 cQ (T is).size with
     |false=>simp_all
     |true=>
      simp[c7,fE]at h;have p:=gs c7;have⟨cW,Q,h⟩:=zh h;refine⟨_,h,λown M D w v u c_ cU cK=>?_⟩;rw[kr cK]
      cases cU with
      |win _ _ _ _ cL k base f cY dg c6 G=>have⟨_,cs,eQ,A,C,q,s,E,F,_⟩:=c_.at_ b _ cL hb f;have H:=G.resolve_right λh=>R;subst H;refine⟨.pointer (U ⟨cL.blk,(dy+n.toNat)*cL.cQ+0,cM⟩),?_,.ptr b (dy+n.toNat) 0 cL f⟩;simp[qA,asIntOf,fv g,cW,Q,iu cS w o,mA,<-q,<-p,qD]
      |jj _ _ _ _ _ f=>rw[(c_.fD b).2 f]at hb;cases hb
    simp_all
   simp_all
  .rename_i m e c6;have⟨g,o⟩:=Bx cS c6;split at h
   .rename_i b y j;split at h
    .rename_i B hb;have⟨cW,Q,h⟩:=zh h;refine⟨_,h,λown M D w v u c_ cU cK=>?_⟩;rw[kr cK]
     cases cU with
     |ptr _ _ _ cL f=>refine⟨.pointer (U ⟨cL.blk,y*cL.cQ+(j+n.toNat*(T e).size),cM⟩),?_,.ptr b y _ cL f⟩;simp[qA,asIntOf,fv g,cW,Q,iu cS w o,mA,lA,EH]
     |iV _ _ _ _ f=>rw[(c_.fD b).2 f]at hb;cases hb
    simp_all
   .rename_i c j;have⟨cW,Q,h⟩:=zh h;refine⟨_,h,λown M D w v u c_ cU cK=>?_⟩;rw[kr cK]
    cases cU with
    |d _ _ cU=>
     cases cU with
     |ip _ _ b off val d8 cP=>refine⟨.pointer (U ⟨b,off+(j+n.toNat*(T e).size),cM⟩),?_,.d _ _ (.ip _ _ _ _ val d8 cP)⟩;simp[qA,asIntOf,fv g,cW,Q,iu cS w o,mA,lA,EH]
   simp_all
  simp_all
 simp_all
theorem agu{t x i K}(h:Mw T t x i K):
  ∃b,K b/\ ∀M D w v u,dV M D x v->dV M D i u->∃r,(Ev t v u).run P w=.ok r w/\dV M D b r:=by
 unfold Mw at h;split at h
 .rename_i C n;split at h
  .rename_i s;split at h
   .rename_i j;have z:=v5 cS j;have⟨cW,Q,h⟩:=zh h;refine⟨_,h,λM D w v u cU cK=>?_⟩;rw[kr cK,sg cU];have o':n.toNat<s.size:=R;refine⟨.int .u8 ((s.data.getD n.toNat 0).toNat),?_,.d _ _ (.int _ _)⟩
    have e:s[n.toNat]?=U (s.data.getD n.toNat 0):=by rw[getElem?_pos s n.toNat o'];simp only[my,show n.toNat<s.data.size from o',EI];rfl
    simp[Ev,asIntOf,fv z,cW,e]
   simp_all
  .rename_i c;split at h
   .rename_i m e j;have⟨l,a⟩:=Bx cS j;have⟨cW,Q,h⟩:=zh h;have⟨b,k,B,cP⟩:=BD h (xx cS a);refine⟨b,k,λM D w v u cU cK=>?_⟩;rw[kr cK];obtain⟨vs,rfl,y,f⟩:=xz cU
    have⟨g,q,d⟩:=cP M D (λi=>vs[i]?) (λi x o=>by
     have o':i<vs.size:=by rw[y];exact(fM.1 o).1
     exact⟨vs[i],uf,f i x _ o uf⟩)
    refine⟨_,?_,d⟩;simp[Ev,asIntOf,g2,hM,g7,fv l,cW,Q,and_self,ni,iu cS w a,part,Bz cS w a]
    cases A:(T e).k.agg with
    |true=>
     simp[ni,g2,iu cS w a,g7,hM]
     congr 2
     grind
    |false=>have:=q 0 (by have:=pV cS a;omega);simp_all
   simp_all
  simp_all
 simp_all
omit cS in
theorem ri{x:I}{y:V}{c k}(w)(cW:0<=x)(Q:x<=y):(Bs (.int k x) y c).run P w=.ok x.toNat w:=by simp[Bs,asIntOf,cW,Q]
omit cS in
theorem H6{Ni}{len cap:V}{dy cK:dB I}{k1 eF}(w)(cW:0<=dy.getD 0)(Q:dy.getD 0<=cK.getD len)(a:cK.getD len<=len)(c:len<=cap):
  (pT Ni len cap (dy.map (.int k1)) (cK.map (.int eF)) cM).run P w=.ok ((dy.getD 0).toNat,(cK.getD len).toNat,cap) w:=by
 cases dy with
 |none=>
  cases cK with|none=>rfl|some h=>simp at cW Q a;simp[pT,ri (P:=P) w (x:=h) (y:=cap) (k:=eF) Q R]
 |some l=>
  cases cK with|none=>simp at cW Q a;simp[pT,ri (P:=P) w (x:=l) (y:=len) (k:=k1) cW R]|some h=>simp at cW Q a;simp[pT,ri (P:=P) w (x:=h) (y:=cap) (k:=eF) R R,ri (P:=P) w (x:=l) (y:=h.toNat) (k:=k1) cW R]
end
def d4.cN:d4->dh
 | .row _ _ cN=>cN
 | .box _ cN=>cN
def lz.mono{M a}(h:gJ M a){cs l cQ}(r:lz M cs l cQ):lz a cs l cQ:=
 ⟨r.len,λi j e d Q c=>let ⟨v,f,b⟩:=r.den i j e d Q c;⟨v,f,b.mono h⟩⟩
def tc.mono{M a}(h:gJ M a){D cs c}(r:tc M D cs c):tc a D cs c:=
 ⟨r.size,λj x Q=>let ⟨v,b,e⟩:=r.den j x Q;⟨v,b,e.mono h⟩⟩
def agv(b x):eu b x=x\/eu b x=.dead:=by
 cases x with|own d7=>simp[eu];grind|ptr d7 i j=>simp[eu];grind|win d7 dy n c=>simp[eu];grind|agg c=>simp[eu];grind|dP c=>simp[eu];grind|fn f c=>simp[eu];grind|d x=>exact .inl Z|e4=>exact .inl Z|fd=>exact .inl Z|nil=>exact .inl Z|dead=>exact .inl Z
def EJ(b c)(j:V):(hp.cells b c)[j]?=(c[j]?).map (eu b):=by
 induction c generalizing j with
 |nil=>rfl
 |cons x r i=>
  cases j with|zero=>rfl|succ j=>simpa[hp.cells]using i j
def EK(b c):(hp.cells b c).length=c.length:=by
 induction c with
 |nil=>rfl|cons x r i=>simp[hp.cells,i]
def tc.kill{M D eg b}(h:∀a,g1 b a=L->eg a=D a){cs c}(r:tc M D cs c):tc M eg cs (hp.cells b c):=by
 refine⟨by rw[EK];exact r.size,λj x Q=>?_⟩;rw[EJ]at Q
 cases d:c[j]? with|none=>simp_all|some y=>simp[d,jp,fx]at Q;subst Q;have⟨v,f,e⟩:=r.den j y d;exact⟨v,f,(e.eu b).uk h (Mp b y)⟩
def jz.h2{M a D w w' B cL}(h:jz M D w B cL)(c7:gJ M a)(hw:w'.heap[cL.blk]?=w.heap[cL.blk]?)(ee:B.cN=L->∀o,a cL.blk o=cM):jz a D w' B cL:=by
 have⟨cs,T,Q,c5,i⟩:=h;refine⟨cs,T,hw.trans Q,c5,?_⟩
 cases B with|row l cQ cN=>have⟨b,fb,d,j,e⟩:=i;exact⟨b,fb,d,j.mono c7,λf o v g cU=>c7 _ _ _ (e.1 f o v g cU),ee⟩|box c cN=>have⟨b,fb,d,e⟩:=i;exact⟨b,fb,d.mono c7,λf o v g cU=>c7 _ _ _ (e.1 f o v g cU),ee⟩
def jz.kill{M D eg w B cL b}(d:∀d7,g1 b d7=L->eg d7=D d7)(h:jz M D w B cL):jz M eg w (hp b B) cL:=by
 have⟨cs,T,Q,c5,a⟩:=h;refine⟨cs,T,Q,c5,?_⟩
 cases B with|row l cQ cN=>exact a|box c cN=>have⟨f,fb,e,g⟩:=a;exact⟨by rwa[EK],by rwa[EK],e.kill d,by rwa[EK]⟩
def gE{α}(f t)(v:α):eO f t v t=v:=by simp[eO]
def gf{α}(f){t s}(v:α)(h:s≠t):eO f t v s=f s:=by
 have:d2 s t=L:=by
  cases b:d2 s t with|false=>rfl|true=>simp_all
 simp[eO,this]
def Nj(k O b):hL k O b=cM↔O b=cM:=by
 cases k with|none=>rfl|some k=>simp[hL];grind
def EL{k O b B}(h:hL (U k) O b=U B):∃a,O b=U a/\B=hp k a:=by simp[hL]at h;grind
def er.new{own M k D O w w'}(h:er own M D O w)(b B cL)(x:gJ M k)
  (C:own cL.blk)(A:jz k (eO D b (U (U cL))) w' B cL)
  (t:∀a ej,a≠b->D a=U (U ej)->ej.blk≠cL.blk/\w'.heap[ej.blk]?=w.heap[ej.blk]? /\ ∀gv,O a=U gv->gv.cN=L->∀o,k ej.blk o=cM):
  er own k (eO D b (U (U cL))) (eO (hL (U b) O) b (U B)) w':=by
 have n:∀a,a≠b->eO D b (U (U cL)) a=D a:=λa c=>gf _ _ c;refine⟨λa=>?_,λa f=>?_,λa gv ej g d=>?_,λp q E F Q l v=>?_⟩
 .by_cases c:a=b
  .subst c;simp[gE]
  .rw[gf _ _ c,gf _ _ c,Nj];exact h.fD a
 .by_cases c:a=b
  .subst c;rw[gE]at f;cases f
  .rw[gf _ _ c]at f;have⟨cQ,cN,e⟩:=h.iN a f;exact⟨cQ,cN,by rw[gf _ _ c];simp[hL,e,hp]⟩
 .by_cases c:a=b
  .subst c;rw[gE]at g d;simp_all
  .rw[gf _ _ c]at g d;obtain⟨m,r,rfl⟩:=EL g;have⟨y,z⟩:=h.at_ a m ej r d;have⟨_,s,u⟩:=t a ej c d;exact⟨y,jz.kill (λa c=>n a (Ed c)) (z.h2 x s (u m r))⟩
 .by_cases i:p=b
  .subst i;rw[gE]at Q;grind
  .rw[gf _ _ i]at Q
   by_cases j:q=b
   .subst j;rw[gE]at l;grind
   .rw[gf _ _ j]at l;exact h.inj p q E F Q l v
def er.BG{own M D O w}(h:er own M D O w)(b cQ cN):
  er own M (eO D b (U cM)) (eO (hL (U b) O) b (U (.row [] cQ cN))) w:=by
 have n:∀a,a≠b->eO D b (U cM) a=D a:=λa c=>gf _ _ c;refine⟨λa=>?_,λa d=>?_,λa gv ej B cL=>?_,λg i p q Q f l=>?_⟩
 .by_cases c:a=b
  .subst c;simp[gE]
  .rw[gf _ _ c,gf _ _ c,Nj];exact h.fD a
 .by_cases c:a=b
  .subst c;exact⟨cQ,cN,gE _ _ _⟩
  .rw[gf _ _ c]at d;have⟨cQ,cN,e⟩:=h.iN a d;exact⟨cQ,cN,by rw[gf _ _ c];simp[hL,e,hp]⟩
 .by_cases c:a=b
  .subst c;rw[gE]at cL;cases cL
  .rw[gf _ _ c]at B cL;obtain⟨j,k,rfl⟩:=EL B;have⟨o,m⟩:=h.at_ a j ej k cL;exact⟨o,jz.kill (λa c=>n a (Ed c)) m⟩
 .have r:g≠b:=by rintro rfl;rw[gE]at Q;cases Q
  have fb:i≠b:=by rintro rfl;rw[gE]at f;cases f
  rw[gf _ _ r]at Q;rw[gf _ _ fb]at f;exact h.inj g i p q Q f l
def er.set{own M i D O w w'}(h:er own M D O w)(b B)(j:O b≠cM)(s:gJ M i)
  (cU:D b=U cM->∃cQ cN,B=.row [] cQ cN)
  (q:∀cL,D b=U (U cL)->jz i D w' B cL)
  (t:∀a ej,a≠b->D a=U (U ej)->w'.heap[ej.blk]?=w.heap[ej.blk]? /\ ∀gv,O a=U gv->gv.cN=L->∀o,i ej.blk o=cM):
  er own i D (eO O b (U B)) w':=by
 refine⟨λa=>?_,λa g=>?_,λa gv ej c d=>?_,h.inj⟩
 .by_cases f:a=b
  .subst f;rw[gE];exact⟨rW,λe=>dQ ((h.fD a).2 e) j⟩
  .rw[gf _ _ f];exact h.fD a
 .by_cases f:a=b
  .subst f;obtain⟨cQ,cN,rfl⟩:=cU g;exact⟨cQ,cN,gE _ _ _⟩
  .rw[gf _ _ f];exact h.iN a g
 .by_cases f:a=b
  .subst f;rw[gE]at c;cases c
   refine⟨?_,q ej d⟩
   cases l:O a with|none=>simp_all|some k=>exact(h.at_ a k ej l d).1
  .rw[gf _ _ f]at c;have⟨r,u⟩:=h.at_ a gv ej c d;have⟨m,n⟩:=t a ej f d;exact⟨r,u.h2 s m (n gv c)⟩
def er.h2{own M a D O w w'}(h:er own M D O w)(s:gJ M a)
  (t:∀b ej,D b=U (U ej)->w'.heap[ej.blk]?=w.heap[ej.blk]? /\ ∀gv,O b=U gv->gv.cN=L->∀o,a ej.blk o=cM):er own a D O w':=
 ⟨h.fD,h.iN,λb gv ej B cL=>⟨(h.at_ b gv ej B cL).1,(h.at_ b gv ej B cL).2.h2 s (t b ej cL).1 ((t b ej cL).2 gv B)⟩,h.inj⟩
def er.closed{own M D O w}(h:er own M D O w){b cL}(d:D b=U (U cL)):∀B,O b=U B->B.cN=L->∀o,M cL.blk o=cM:=by
 intro B e ee;have⟨_,cs,T,_,_,a⟩:=h.at_ b B cL e d
 cases B with|row l cQ cN=>exact a.2.2.2.2.2 ee|box c cN=>exact a.2.2.2.2 ee
def er.lt{own M D O w}(h:er own M D O w){b cL}(c:D b=U (U cL)):cL.blk<w.heap.size:=by
 cases a:O b with|none=>rw[(h.fD b).1 a]at c;cases c|some B=>have⟨_,cs,T,Q,_⟩:=h.at_ b B cL a c;grind
def v7(M:eE)(blk n:V)(cs:ea dp):eE:=λb o=>if b=blk then(if o<n then cs[o]? else M b o) else M b o
def freeze{own M D O w}(dq:fq M w)(h:er own M D O w){b B gv}(hb:O b=U B)
 (t:(∃l cQ cN,B=.row l cQ cN/\gv=.row l cQ N) \/(∃c cN,B=.box c cN/\gv=.box c N)):
 ∃i,gJ M i/\fq i w/\jl own M i/\er own i D (eO O b (U gv)) w:=by
 have j:O b≠cM:=LP
 cases d:D b with
 |none=>exact dQ ((h.fD b).2 d) j
 |some y=>
  cases y with
  |none=>refine⟨M,.refl M,dq,.refl _ _,h.set b gv j (.refl M) (λ_=>?_) (λcL K=>by simp_all) (λd7 ej _ a=>⟨Z,h.closed a⟩)⟩;have⟨cQ,cN,e⟩:=h.iN b d;grind
  |some cL=>
   have⟨P,cs,eQ,u,z,x⟩:=h.at_ b B cL hb d
   cases m:B.cN with
   |true=>
    have:gv=B:=by rcases t with⟨l,cQ,cN,f,g⟩|⟨c,cN,f,g⟩<;>subst f<;>simp[d4.cN]at m<;>subst m<;>exact g
    subst this;refine⟨M,.refl M,dq,.refl _ _,h.set b gv j (.refl M) (λe=>by simp_all) (λej a=>(h.at_ b gv ej hb a).2) (λd7 ej _ a=>⟨Z,h.closed a⟩)⟩
   |false=>
    have Q:=h.closed d B hb m
    let n:=match B with| .row l cQ _=>l.length*cQ| .box c _=>c.length
    have cY:n<=cs.size:=by
     cases B with
     |row l cQ cN=>grind
     |box c cN=>grind
    have k:gJ M (v7 M cL.blk n cs):=by
     intro d7 o v cU;unfold v7
     by_cases p:d7=cL.blk
     .simp_all
     .simp_all
    have A:fq (v7 M cL.blk n cs) w:=by
     intro d7 o v cU;unfold v7 at cU
     by_cases p:d7=cL.blk
     .subst p;rw[if_pos Z]at cU;split at cU
      .rwa[si u]
      simp_all
     .rw[cT p]at cU;exact dq _ _ _ cU
    refine⟨v7 M cL.blk n cs,k,A,?_,h.set b gv j k (λe=>by simp_all) (λej a=>?_) (λd7 ej C a=>⟨Z,λE F G o=>?_⟩)⟩
    .intro d7 o v cU;unfold v7 at cU;grind
    .rw[d]at a;cases a
     refine⟨cs,eQ,u,z,?_⟩;rcases t with⟨l,cQ,cN,f,g⟩|⟨c,cN,f,g⟩
     .subst f g;have⟨q,fb,r,H,I⟩:=x;exact⟨q,fb,r,H.mono k,λ_ o v s cU=>by simp[v7,n,if_pos,s];exact cU,λe=>rZ⟩
     .subst f g;have⟨q,fb,r,I⟩:=x;exact⟨q,fb,r.mono k,λ_ o v s cU=>by simp[v7,n,if_pos,s];exact cU,λe=>rZ⟩
    .have J:=λe=>C (h.inj d7 b ej cL a d e);simp[v7,cT J];exact h.closed a E F G o
def oO(O a:V->dB d4):Prop:=∀b,a b=O b\/ ∃l cQ cN,O b=U (.row l cQ cN) /\a b=U (.row l cQ N)
theorem oO.refl(O):oO O O:=λ_=>.inl Z
theorem oO.step{hh O}(h:oO hh O){b l cQ cN}(c:hh b=U (.row l cQ cN)):oO hh (eO O b (U (.row l cQ N))):=by
 intro a
 by_cases e:a=b
 .subst e;rw[gE];simp_all
 .rw[gf _ _ e];exact h a
theorem v8{own D w hh}:∀dR M O,fq M w->er own M D O w->oO hh O->
  ∃a,gJ M a/\fq a w/\jl own M a/\er own a D (gj O (f9 hh dR)) w/\oO hh (gj O (f9 hh dR)) /\
   (∀b l cQ cN,(b∈dR\/O b=U (.row l cQ N))->hh b=U (.row l cQ cN)->gj O (f9 hh dR) b=U (.row l cQ N))
 | [],M,O,dq,c_,dw=>⟨M,.refl M,dq,.refl _ _,c_,dw,λb l cQ cN h _=>by
   rcases h with h|h
   .cases h
   .exact h⟩
 |b::dR,M,O,dq,c_,dw=>by
  have go:∀(f:V->dB d4) (d:eE),gJ M d->fq d w->jl own M d->er own d D f w->oO hh f->(∀b l cQ,O b=U (.row l cQ N)->f b=U (.row l cQ N))->
    (∀l cQ cN,hh b=U (.row l cQ cN)->f b=U (.row l cQ N))->gj O (f9 hh (b::dR))=gj f (f9 hh dR)->
    ∃a,gJ M a/\fq a w/\jl own M a/\er own a D (gj O (f9 hh (b::dR))) w/\oO hh (gj O (f9 hh (b::dR))) /\
     (∀c l cQ cN,(c∈b::dR\/O c=U (.row l cQ N))->hh c=U (.row l cQ cN)->gj O (f9 hh (b::dR)) c=U (.row l cQ N)):=by
   intro f d s1 i fh Q eD k1 eF e;have⟨a,s2,fb,m,c5,eo,n⟩:=v8 (hh:=hh) dR d f i Q eD;rw[e];refine⟨a,s1.trans s2,fb,fh.trans m,c5,eo,λc l cQ cN dg o=>?_⟩;rcases dg with dg|dg
   .grind
   .grind
  cases cW:hh b with
  |none=>exact go O M (.refl M) dq (.refl _ _) c_ dw (λ_ _ _ h=>h) (λl cQ cN e=>by simp_all) (by simp[f9,cW])
  |some B=>
   cases B with
   |box c cN=>exact go O M (.refl M) dq (.refl _ _) c_ dw (λ_ _ _ h=>h) (λl cQ cN e=>by simp_all) (by simp[f9,cW])
   |row l cQ cN=>
    have hb:∃g,O b=U (.row l cQ g):=by
     rcases dw b with e|⟨j,k,g,p,q⟩
     .simp_all
     .simp_all
    have⟨g,hb⟩:=hb;have⟨d,s1,i,fh,Q⟩:=freeze dq c_ hb (gv:=.row l cQ N) (.inl ⟨_,_,_,Z,Z⟩);refine go (eO O b (U (.row l cQ N))) d s1 i fh Q (dw.step cW) (λc j k e=>?_) (λj k g e=>by rw[cW]at e;cases e;exact gE _ _ _) (by simp[f9,cW,gj])
    by_cases dg:c=b
    .subst dg;rw[hb]at e;cases e;exact gE _ _ _
    .rwa[gf _ _ dg]
theorem Nk{O p}(h:oO O p)(x):conv.one p x=conv.one O x:=by
 cases x with
 |own b=>
  simp[conv.one];rcases h b with e|⟨l,cQ,cN,c,a⟩
  .rw[e]
  grind
 |_=>rfl
theorem H7{O p}(h:oO O p):∀c,conv.cells p c=conv.cells O c
 | []=>rfl|x::r=>by simp[conv.cells,Nk h,H7 h r]
theorem agw{O a}(h:oO O a)(x):conv.nV a x=conv.nV O x:=by
 cases x with
 |ptr b i j=>
  simp[conv.nV];rcases h b with e|⟨l,cQ,cN,c,d⟩
  .rw[e]
  grind
 |_=>rfl
theorem Uz{O p}(h:oO O p):∀c,conv.qw p c=conv.qw O c
 | []=>rfl|x::r=>by simp[conv.qw,agw h,Uz h r]
theorem DF{O a}(h:oO O a)(x):conv a x=conv O x:=by
 cases x with
 |own b=>
  simp[conv];rcases h b with e|⟨l,cQ,cN,d,g⟩
  .rw[e]
  grind
 |agg c=>simp[conv,H7 h]|fn f c=>simp[conv,Uz h]|_=>rfl
theorem H8{own M D O w}(c_:er own M D O w){b l cQ v}(hb:O b=U (.row l cQ N))(cP:dV M D (.own b) v):e1 M (.dk l) v:=by
 cases cP with
 |own _ cL cap c cY dg=>
  have⟨_,cs,eQ,n,o,p,fb,q,f,h⟩:=c_.at_ b _ cL hb c;rw[<-fb];refine .dk l cL.blk 0 cap cQ (λi j=>(cs[i*cQ+j]?).getD undef) R f.len (λi j e d Q c5=>?_) λi j e d Q c5=>?_
  .have⟨v,g,k⟩:=f.den i j e d Q c5
   have m:i*cQ+j<l.length*cQ:=by
    have cK:=(fM.1 Q).1;have dL:=(fM.1 c5).1;rw[f.len i e Q]at dL
    calc i*cQ+j<i*cQ+cQ:=R
     _=(i+1)*cQ:=Lx
     _<=l.length*cQ:=l4 _ cK
   simp[np,g,v9];exact h.1 Z _ _ m g
  .have⟨v,g,k⟩:=f.den i j e d Q c5;simp_all
 |h7 _ a c=>
  have⟨r,s,e⟩:=c_.iN b c;rw[hb]at e;cases e
  exact .emp _ _
 |ji _ _ c=>rw[(c_.fD b).2 c]at hb;cases hb
theorem UA{M D x d v}(h:conv.nj x=U d)(cP:dV M D x v):e1 M d v:=by
 cases x<;>simp[conv.nj,fx]at h<;>first|(subst h;cases cP)|cases h
 case d cP=>exact cP
 case e4=>exact .bool _
 case fd=>exact .bool _
 case nil a=>exact .emp _ _
theorem agx{c dx}(h:conv.vY c=U dx):dx.length=c.length/\ ∀(i:V) (d),dx[i]?=U d->∃x,c[i]?=U x/\conv.nj x=U d:=by
 induction c generalizing dx with
 |nil=>simp[conv.vY,fx]at h;grind
 |cons x r b=>
  simp[conv.vY]at h
  cases Q:conv.nj x with
  |none=>simp_all
  |some eW=>
   cases a:conv.vY r with
   |none=>simp_all
   |some s=>grind
section
variable {own:V->Prop} {M:eE} {D:gr} {O:V->dB d4} {w:c'} (c_:er own M D O w)
include c_
theorem v_{x d v}(h:conv.one O x=U d)(a:gU.one O x=[])(cP:dV M D x v):e1 M d v:=by
 cases x with
 |own b=>
  simp[conv.one]at h
  cases hb:O b with
  |none=>simp_all
  |some B=>
   cases B with
   |box c cN=>simp_all
   |row l cQ cN=>
    simp[hb,fx]at h;subst h
    cases cN with
    |false=>simp[gU.one,hb]at a
    |true=>exact H8 c_ hb cP
 |d x=>simp[conv.one,fx]at h;subst h;cases cP with|d _ _ cP=>exact cP
 |e4=>simp[conv.one,fx]at h;subst h;cases cP;exact .bool _
 |fd=>simp[conv.one,fx]at h;subst h;cases cP;exact .bool _
 |nil=>simp[conv.one,fx]at h;subst h;cases cP;exact .emp _ _
 |agg c=>simp[conv.one]at h
 |dP c=>simp[conv.one]at h
 |ptr b i j=>simp[conv.one]at h
 |win b dy n c=>simp[conv.one]at h
 |fn f c=>simp[conv.one]at h
 |dead=>simp[conv.one]at h
omit c_ in
theorem BH{c dx}(h:conv.cells O c=U dx):dx.length=c.length/\ ∀(i:V) (d),dx[i]?=U d->∃x,c[i]?=U x/\conv.one O x=U d/\ (gU.cells O c=[]->gU.one O x=[]):=by
 induction c generalizing dx with
 |nil=>simp[conv.cells,fx]at h;grind
 |cons x r b=>
  simp[conv.cells]at h
  cases Q:conv.one O x with
  |none=>simp_all
  |some eW=>
   cases a:conv.cells O r with
   |none=>simp_all
   |some s=>
    simp[Q,a,agy,jp,fx]at h;subst h;have⟨j,e⟩:=b a;refine⟨by simp[j],λi d cK=>?_⟩
    cases i with
    |zero=>simp only[uL,fx]at cK⊢;subst cK;exact⟨x,Z,Q,λo=>by simp[gU.cells,zj]at o;exact o.1⟩
    |succ i=>have⟨y,dG,g,f⟩:=e i d GW;exact⟨y,yH,g,λo=>by simp[gU.cells,zj]at o;grind⟩
theorem UB{x d v}(h:conv.nV O x=U d)(cP:dV M D x v):e1 M d v:=by
 cases x with
 |ptr b i j=>
  simp[conv.nV]at h
  cases hb:O b with
  |none=>simp_all
  |some B=>
   cases B with
   |row l cQ cN=>simp_all
   |box c cN=>
    cases cN with
    |false=>simp_all
    |true=>
     simp[hb]at h
     cases cK:d2 i 0 with
     |false=>simp_all
     |true=>
      have:=gs cK;subst this
      cases g:conv.vY c with
      |none=>simp_all
      |some dx=>
       simp[cK,g,fE,jp,fx]at h;subst h
       cases cP with
       |ptr _ _ _ cL e=>
        have⟨_,cs,eQ,r,s,t,fb,m,q⟩:=c_.at_ b _ cL hb e;have⟨dG,o⟩:=agx g;rw[show 0*cL.cQ+j=0+j by omega];refine .ip _ _ _ _ (λk=>(cs[k]?).getD undef) (λk d c6=>?_) λk d c6=>?_
        .have⟨x,Q,c5⟩:=o k d c6;have⟨v,a,p⟩:=m.den k x Q;simp[np,a,v9];exact q.1 Z _ _ (fM.1 Q).1 a
        .have⟨x,Q,c5⟩:=o k d c6;have⟨v,a,p⟩:=m.den k x Q;simpa[a]using UA c5 p
       |iV _ _ _ _ e=>rw[(c_.fD b).2 e]at hb;cases hb
 |d x=>simp[conv.nV,fx]at h;subst h;cases cP with|d _ _ cP=>exact cP
 |e4=>simp[conv.nV,fx]at h;subst h;cases cP;exact .bool _
 |fd=>simp[conv.nV,fx]at h;subst h;cases cP;exact .bool _
 |nil=>simp[conv.nV]at h
 |win b dy n c=>simp[conv.nV]at h
 |agg c=>simp[conv.nV]at h
 |dP c=>simp[conv.nV]at h
 |own b=>simp[conv.nV]at h
 |fn f c=>simp[conv.nV]at h
 |dead=>simp[conv.nV]at h
theorem agz{c dx}(h:conv.qw O c=U dx):dx.length=c.length/\ ∀(i:V) (d),dx[i]?=U d->∃x,c[i]?=U x/\ ∀v,dV M D x v->e1 M d v:=by
 induction c generalizing dx with
 |nil=>simp[conv.qw,fx]at h;grind
 |cons x r b=>
  simp[conv.qw]at h
  cases Q:conv.nV O x with
  |none=>simp_all
  |some eW=>
   cases a:conv.qw O r with
   |none=>simp_all
   |some s=>
    simp[Q,a,agy,jp,fx]at h;subst h;have⟨f,e⟩:=b a;refine⟨by simp[f],λi d cK=>?_⟩
    cases i with
    |zero=>simp only[uL,fx]at cK⊢;subst cK;exact⟨x,Z,λv cU=>UB c_ Q cU⟩
    |succ i=>simp_all
theorem EM{x d v}(h:conv O x=U d)(m:gU O x=[])(cP:dV M D x v):e1 M d v:=by
 cases x with
 |own b=>exact v_ c_ (x:=.own b) h (by assumption) cP
 |d x=>exact v_ c_ (x:=.d x) h Z cP
 |e4=>exact v_ c_ (x:=.e4) h Z cP
 |fd=>exact v_ c_ (x:=.fd) h Z cP
 |nil=>exact v_ c_ (x:=.nil) h Z cP
 |agg c=>
  simp only[conv]at h
  cases dg:conv.cells O c with
  |none=>simp_all
  |some dx=>simp[dg,jp,fx]at h;subst h;obtain⟨vs,rfl,c7,a⟩:=xz cP;have⟨g,e⟩:=BH dg;exact .agg _ _ R λi d v Q c5=>have⟨x,dG,k,l⟩:=e i d Q;v_ c_ k (l (by assumption)) (a i x v dG c5)
 |fn f c=>
  simp only[conv]at h
  cases dg:conv.qw O c with
  |none=>simp_all
  |some dx=>
   simp[dg,jp,fx]at h;subst h;have⟨g,e⟩:=agz c_ dg
   cases cP with
   |fn _ _ vs dw a=>refine .fn _ _ _ R λi d v Q c5=>?_;grind
 |dP c=>simp[conv]at h
 |ptr b i j=>simp[conv]at h
 |win b dy n c=>simp[conv]at h
 |dead=>simp[conv]at h
end
theorem UC{M D}{c:J c3}{vs:ea dp}(cP:∀(i:V) (d v),c[i]?=U d->vs[i]?=U v->e1 M d v):
  ∀(i:V) (x) (v),(c.map .d)[i]?=U x->vs[i]?=U v->dV M D x v:=by
 intro i x v Q a;rw[iO]at Q
 cases h:c[i]? with|none=>simp_all|some d=>simp[h,jp,fx]at Q;subst Q;exact .d _ _ (cP i d v h a)
theorem UD{M D d v}(h:e1 M d v):dV M D (lx.one d) v:=by
 cases d with
 |agg c=>
  cases h with|agg _ vs dw cP=>exact .agg _ _ vC (UC cP)
 |int k n=>exact .d _ _ h|bool b=>exact .d _ _ h|str s=>exact .d _ _ h|dk l=>exact .d _ _ h|ip c j=>exact .d _ _ h|fn f c=>exact .d _ _ h|ka=>exact .d _ _ h|mm=>exact .d _ _ h|dP c=>exact .d _ _ h
theorem EN{M D d v}(h:e1 M d v):dV M D (lx d) v:=by
 cases d with
 |agg c=>
  cases h with|agg _ vs dw cP=>exact .agg _ _ vC (UC cP)
 |dP c=>
  cases h with
  |dP _ vs dw cP=>
   refine .dP _ _ vC λi x v Q c5=>?_;rw[iO]at Q
   cases dg:c[i]? with|none=>simp_all|some d=>simp[dg,jp,fx]at Q;subst Q;exact UD (cP i d v dg c5)
 |int k n=>exact .d _ _ h|bool b=>exact .d _ _ h|str s=>exact .d _ _ h|dk l=>exact .d _ _ h|ip c j=>exact .d _ _ h|fn f c=>exact .d _ _ h|ka=>exact .d _ _ h|mm=>exact .d _ _ h
theorem agA{M e d v}(c7:pN d=N)(h:e1 M d v):e1 e d v:=by
 have one:∀(d:c3) (v:dp),pN.one d=N->e1 M d v->e1 e d v:=by
  intro d v c7 h
  cases h<;>simp[pN.one]at c7
  .exact .int _ _
  .exact .bool _
  .exact .str _
 have all:∀(c:J c3),pN.all c=N->∀d∈c,pN.one d=N:=by
  intro c
  induction c with
  |nil=>simp_all|cons x r g=>intro h d cP;simp[pN.all]at h;grind
 cases h with|int k n=>exact .int _ _|bool b=>exact .bool _|str s=>exact .str _|agg c vs dw cP=>exact .agg c vs dw λi d v Q c5=>one d v (all c c7 d (jg Q)) (cP i d v Q c5)|dP c vs dw cP=>exact .dP c vs dw λi d v Q c5=>one d v (all c c7 d (jg Q)) (cP i d v Q c5)|emp a c=>simp[pN]at c7|dk l b off cap cQ val dw Q c5 m=>simp[pN]at c7|ip c j b off val Q c5=>simp[pN]at c7|fn f c vs dw cP=>simp[pN]at c7|ka=>simp[pN]at c7|mm v=>simp[pN]at c7
section
variable {P:el}
theorem UE{f}(h:nk P f)(vs w):(callFunc f vs).run P w=.ok (.enter f vs) w:=by
 have⟨fn,Q,a,eS⟩:=h
 have b:fn.body≠cM:=by grind
 have dz:=GU;simp[callFunc,Q,b,dz]
theorem UF{o c f}(d:o.op=.call c)(b:c.callee=.value (.func f))(h:nk P f)(a:e7)(w):
  (execOp a.eval o).run P w=.ok (.enter f (c.args.map a.eval)) w:=by
 simp[execOp,d,resolve,b,Act.eval,sd,invoke,UE h]
theorem agB{o c f t vs}(d:o.op=.call c)(b:c.callee=.value (.tmp t))(h:nk P f)(a:e7)(w)(e:a.eval (.tmp t)=.func (.func f) #[] vs):
  (execOp a.eval o).run P w=.ok (.enter f (c.args.map a.eval++vs)) w:=by
 simp[execOp,d,resolve,b,e,sd,invoke,UE h]
theorem Nm{O dC}:∀ {l K},y8 O dC l K->
  ∃dx dR,K dx dR/\dx.length=l.length/\ (∀(i:V) (x) (d),l[i]?=U x->dx[i]?=U d->conv O (dC x)=U d/\ ∀b∈gU O (dC x),b∈dR)
 | [],K,h=>⟨[],[],h,Z,λi x d Q=>by simp at Q⟩
 |x::r,K,h=>by
  simp[y8]at h
  cases c:conv O (dC x) with|none=>simp_all|some d=>simp[c]at h;have⟨dx,dR,a,e,cP⟩:=Nm h;grind
theorem xA{hh a}{dR:J V}(ee:∀b l cQ cN,b∈dR->hh b=U (.row l cQ cN)->a b=U (.row l cQ N))(dw:oO hh a)(x)(f:∀b∈gU hh x,b∈dR):gU a x=[]:=by
 have one:∀y:dn,(∀b∈gU.one hh y,b∈dR)->gU.one a y=[]:=by
  intro y g
  cases y with
  |own b=>
   simp[gU.one]at g⊢
   cases hb:hh b with
   |none=>
    rcases dw b with e|⟨l,cQ,cN,i,d⟩
    .rw[e,hb]
    simp_all
   |some B=>
    cases B with
    |box c cN=>
     rcases dw b with e|⟨l,cQ,cN,i,d⟩
     .rw[e,hb]
     simp_all
    |row l cQ cN=>
     cases cN with
     |true=>
      rcases dw b with e|⟨l,cQ,cN,i,d⟩
      .rw[e,hb]
      .rw[d]
     |false=>rw[ee b l cQ L (g b (by simp[hb])) hb]
  |_=>rfl
 have cells:∀c:J dn,(∀b∈gU.cells hh c,b∈dR)->gU.cells a c=[]:=by
  intro c
  induction c with
  |nil=>intro _;rfl|cons y r j=>intro h;simp[gU.cells,h3]at h⊢;simp_all
 cases x with|own b=>exact one (.own b) f|agg c=>exact cells c f|_=>rfl
theorem agC{own M c D O h w}{dC:fu->dn}{a:e7}{l:J fu}{dx}{dR:J V}
  (s:gJ M c)(Q:er own c D h w)(j:oO O h)(n:∀b l cQ cN,b∈dR->O b=U (.row l cQ cN)->h b=U (.row l cQ N))(g:∀x,dV M D (dC x) (a.eval x))
  (e:dx.length=l.length)(cP:∀(i:V) (x d),l[i]?=U x->dx[i]?=U d->conv O (dC x)=U d/\ ∀b∈gU O (dC x),b∈dR):
  ly c dx ((l.map a.eval).toArray):=by
 refine⟨by simp[e],λi d v o f=>?_⟩;simp only[List.getElem?_toArray,iO]at f
 cases k:l[i]? with|none=>simp_all|some x=>simp[k,jp,fx]at f;subst f;have⟨dG,m⟩:=cP i x d k o;exact EM Q (by rwa[DF j]) (xA n j _ m) ((g x).mono s)
theorem xB{cV own w w'}(h:nX cV w.heap.size w w')(o:∀c,w.heap.size<=c->own c):jM (pe cV own) w w':=
 ⟨h.os,h.tape,h.output,h.size,λc b=>h.block c (by
  rcases jd c w.heap.size with a|a
  .exact a
  .exact dQ (.inl (o c a)) b) λq=>b (.inr q)⟩
theorem zk{own w M a}(h:uu w M a)(d:∀c,w.heap.size<=c->own c):jl own M a:=
 λb o v cU=>Ds (h b o v cU) (d b)
theorem er.ji{own M D O w}(h:er own M D O w){b cL}(c:D b=U (U cL)):own cL.blk:=by
 cases a:O b with|none=>rw[(h.fD b).1 a]at c;cases c|some B=>exact(h.at_ b B cL a c).1
theorem er.behind{cV own M a D O w w'}(h:er own M D O w)(b:∀c,own c->¬cV.F c)(d:nX cV w.heap.size w w')(s:gJ M a)(g:uu w M a):er own a D O w':=
 h.h2 s λi ej cL=>⟨d.block _ (h.lt cL) (b _ (h.ji cL)),λgv B f o=>by
  cases cU:a ej.blk o with
  |none=>rfl
  |some v=>
   rcases g _ _ _ cU with e|e
   .rw[h.closed cL gv B f o]at e;cases e
   .have:=h.lt cL;omega⟩
theorem gG.new{cV own M a}(h:gG cV own M)(s:gJ M a)(cY:jl own M a):gG cV own a:=
 ⟨h.own,λb o v cU=>(cY b o v cU).elim (h.mem b o v) (h.own b),λo n cU=>s _ _ _ (h.xo o n cU)⟩
theorem gG.low{cV own o M}(h:gG cV own M)(b:∀c,o c->own c):gG cV o M:=⟨λc a=>h.own c (b c a),h.mem,h.xo⟩
theorem H9{O}(dR):∀p∈f9 O dR,∃l cQ cN,p.2=.row l cQ cN:=by
 induction dR with
 |nil=>intro p O;cases O|cons b r i=>intro p h;simp[f9]at h;grind
theorem EO(k):∀ws O,(∀p∈ws,∃l cQ cN,p.2=.row l cQ cN)->gj (hL k O) ws=hL k (gj O ws)
 | [],_,_=>rfl
 |(b,B)::r,O,h=>by
  have⟨l,cQ,cN,e⟩:=h (b,B) (mz ..);have e:=e;subst e;simp[gj];rw[<-EO k r _ λp O=>h p (lD _ O)]
  congr 1
  cases k with
  |none=>rfl
  |some k=>
   funext c
   by_cases a:c=b
   .subst a;simp[hL,gE,hp]
   .rw[gf _ _ a];simp[hL];rw[gf _ _ a]
theorem zl(O):∀x y,gj O (x++y)=gj (gj O x) y
 | [],_=>rfl|(b,B)::r,y=>by simp;exact zl _ r y
theorem No{k b}(d:2000000<=k)(a:k%8=0)(e:b/8=k/8){c}(h:g1 b c=N):g1 k c=N:=by
 unfold g1 at h⊢;rw[r_ d,a]
 cases q:hn 2000000 b&&d2 (b%8) 0 with|true=>simp_all|false=>simp_all
theorem UG{k b}(F:∀c,g1 b c=N->g1 k c=N){x}(h:eu.one k x=L):eu.one b x=L:=by
 have e:∀c,g1 k c=L->g1 b c=L:=λc a=>by
  grind
 cases x<;>simp[eu.one]at h⊢<;>first|exact e _ h|exact h
theorem H_{k b}(F:∀c,g1 b c=N->g1 k c=N):∀ {c},eu.names k c=L->eu.names b c=L
 | [],_=>rfl
 |x::r,h=>by
  simp only[eu.names]at h⊢
  cases Q:eu.one k x with|true=>simp_all|false=>rw[Q]at h;rw[UG F Q];exact H_ F h
theorem UH{k b}(F:∀c,g1 b c=N->g1 k c=N):∀ {c},eu.parts k c=L->eu.parts b c=L
 | [],_=>rfl
 |x::r,h=>by
  simp only[eu.parts]at h⊢
  cases Q:eu.part k x with
  |true=>simp_all
  |false=>
   rw[Q]at h
   have:eu.part b x=L:=by cases x<;>simp[eu.part]at Q⊢<;>first|exact H_ F Q|exact UG F Q
   rw[this];exact UH F h
theorem agE{k b}(a:∀c,g1 b c=N->g1 k c=N)(x):eu b (eu k x)=eu k x:=by
 have d:∀c,g1 k c=L->g1 b c=L:=λc dg=>by
  grind
 cases x with|own c=>simp[eu];grind|ptr c i j=>simp[eu];grind|win c dy n q=>simp[eu];grind|agg c=>simp[eu];cases h:eu.names k c<;>simp[eu,H_ a,h]|dP c=>simp[eu];cases h:eu.parts k c<;>simp[eu,UH a,h]|fn f c=>simp[eu];cases h:eu.names k c<;>simp[eu,H_ a,h]|_=>rfl
theorem UI{k b}(c6:2000000<=k)(a:k%8=0)(hb:b/8=k/8)(B):hp b (hp k B)=hp k B:=by
 cases B with
 |row l cQ cN=>rfl
 |box c cN=>
  simp only[hp]
  congr 1
  induction c with
  |nil=>rfl
  |cons x r d=>simp[hp.cells,d,agE (λc=>No c6 a hb)]
theorem er.UJ{own M D O w}(h:er own M D O w)(k):er own M D (hL (U k) O) w:=by
 refine⟨λb=>by rw[Nj];exact h.fD b,λb f=>?_,λb B cL d g=>?_,h.inj⟩
 .have⟨cQ,cN,e⟩:=h.iN b f;exact⟨cQ,cN,by simp[hL,e,hp]⟩
 .obtain⟨a,c,rfl⟩:=EL d;exact⟨(h.at_ b a cL c g).1,jz.kill (λ_ _=>Z) (h.at_ b a cL c g).2⟩
def m2(a:J (V×d4)):J V:=a.map (·.1)
theorem Np{b c B r}:c∈m2 ((b,B)::r)↔c=b\/c∈m2 r:=by simp[m2]
theorem BI{c r}:c∈m2 r↔∃B,(c,B)∈r:=by simp[m2]
theorem er.Nq{own:V->Prop}{M:eE}{w:c'}{k:V}(K:2000000<=k)(lc:V->dB kR):∀(o:J (V×d4)) (D:gr) (O:V->dB d4),er own M D O w->
  (∀b B,O b=U B->∀f,f/8=k/8->hp f B=B)->
  (∀p∈o,p.1/8=k/8)->(m2 o).Nodup->
  (∀p∈o,∃l cQ,p.2=.row l cQ L/\match lc p.1 with
   |none=>l=[]
   |some cL=>own cL.blk/\jz M D w p.2 cL)->
  (∀p∈o,∀cL,lc p.1=U cL->∀f ej,D f=U (U ej)->ej.blk=cL.blk->f=p.1)->
  (∀p∈o,∀q∈o,∀cL ej,lc p.1=U cL->lc q.1=U ej->cL.blk=ej.blk->p.1=q.1)->
  er own M (λb=>if b∈m2 o then U (lc b) else D b) (gj O o) w
 | [],D,O,h,_,_,_,_,_,_=>by
  assumption
 |(b,B)::r,D,O,h,T,m,u,F,s,i=>by
  have cV:=m (b,B) (mz ..);have⟨l,cQ,I,n⟩:=F (b,B) (mz ..);have I:=I;subst I;simp[m2,kD,tm]at u
  have z:hL (U b) O=O:=by
   funext c;simp[hL]
   cases g:O c with
   |none=>rfl
   |some C=>grind
  have Q:er own M (eO D b (U (lc b))) (eO O b (U (.row l cQ L))) w:=by
   cases t:lc b with
   |none=>simp[t]at n;subst n;have:=h.BG b cQ L;grind
   |some cL=>
    simp[t]at n
    have:=h.new b (.row l cQ L) cL (.refl M) n.1 (by
      have⟨cs,eQ,v,j,R⟩:=n.2
      exact⟨cs,eQ,v,j,R⟩) λf ej A d=>⟨λy=>A (s _ (mz ..) cL t f ej d y),Z,h.closed d⟩
    grind
  have P:=er.Nq K lc r _ _ Q (λc C x f dr=>?_) (λp O=>m p (lD _ O)) u.2 (λp O=>?_) (λp O cL S f ej d y=>?_)
   λp O q dj=>i p (lD _ O) q (lD _ dj)
  .have e:(λc=>if c∈m2 ((b,d4.row l cQ L)::r) then U (lc c) else D c)=λc=>if c∈m2 r then U (lc c) else eO D b (U (lc b)) c:=by
    funext c
    by_cases g:c∈m2 r
    .rw[if_pos (Np.2 (.inr g)),if_pos g]
    .by_cases a:c=b
     .subst a;rw[if_pos (Np.2 (.inl Z)),cT g,gE]
     .rw[cT (λh=>(Np.1 h).elim a g),cT g,gf _ _ a]
   rwa[e]
  .by_cases a:c=b
   .subst a;rw[gE]at x;cases x;rfl
   .rw[gf _ _ a]at x;grind
  .have⟨da,E,v,j⟩:=F p (lD _ O);refine⟨da,E,v,?_⟩
   cases t:lc p.1 with
   |none=>grind
   |some cL=>simp[t]at j;refine⟨j.1,?_⟩;rw[v]at j⊢;have⟨cs,eQ,dG,G,H⟩:=j.2;exact⟨cs,eQ,dG,G,H⟩
  .by_cases a:f=b
   .subst a;rw[gE]at d;simp at d;exact i _ (mz ..) p (lD _ O) ej cL d S y
   .rw[gf _ _ a]at d;grind
theorem UK(cs a b):(ho a cs).length=(ho b cs).length:=by
 induction cs generalizing a b with
 |nil=>rfl
 |cons c r e=>cases c with|d x=>exact e a b|row l cQ=>simp[ho,pW,e (a+1) (b+1)]
def qE(ev:V->dB kR)(i k:V):J iC->V->dB kR
 | []=>λ_=>cM
 | .d _::r=>qE ev (i+1) k r
 | .row _ _::r=>λb=>if b=k then ev i else qE ev (i+1) (k+1) r b
def xC(cs:J iC)(j:V):V:=(ho 0 (cs.take j)).length
theorem BJ(ev):∀cs i k p,p∈ho k cs->k<=p.1/\p.1<k+(ho 0 cs).length/\
  ∃j l cQ,cs[j]?=U (.row l cQ) /\p.2=.row l cQ L/\qE ev i k cs p.1=ev (i+j) /\p.1=k+xC cs j
 | [],i,k,p,h=>by cases h
 | .d x::r,i,k,p,h=>by
  have⟨Q,a,j,l,cQ,e,c,dz,dW⟩:=BJ ev r (i+1) k p h;exact⟨Q,a,j+1,l,cQ,by simp_all,c,by rw[show i+(j+1)=i+1+j by omega];exact dz,dW⟩
 | .row e0 s::r,i,k,p,h=>by
  simp[ho,m3]at h
  have b:(ho 0 (.row e0 s::r)).length=(ho 0 r).length+1:=by simp[ho,pW,UK r (0+1) 0]
  rcases h with rfl|h
  .exact⟨fB _,by omega,0,e0,s,Z,Z,by simp[qE],by rfl⟩
  .have⟨Q,a,j,l,cQ,e,c,dz,dW⟩:=BJ ev r (i+1) (k+1) p h;refine⟨by omega,by omega,j+1,l,cQ,by simp_all,c,?_,?_⟩
   .simp[qE];grind
   .have:xC (.row e0 s::r) (j+1)=xC r j+1:=by simp[xC,List.take_succ_cons,ho,pW,UK _ (0+1) 0]
    omega
theorem H':∀cs k,(m2 (ho k cs)).Nodup
 | [],k=>by simp[ho,m2]| .d x::r,k=>H' r k
 | .row e0 s::r,k=>by
  simp only[ho,m2,kD,tm];refine⟨λh=>?_,H' r (k+1)⟩;have⟨p,O,e⟩:=h4.1 h;have:=(BJ (λ_=>cM) r 0 (k+1) p O).1;omega
theorem Ia(ev):∀cs i k j x,(mw k cs)[j]?=U x->(∃d,cs[j]?=U (.d d) /\x=.d d) \/
  ∃l cQ b,cs[j]?=U (.row l cQ) /\x=.own b/\ (b,d4.row l cQ L)∈ho k cs/\qE ev i k cs b=ev (i+j)
 | [],i,k,j,x,h=>by simp[mw]at h
 | .d y::r,i,k,0,x,h=>by
  simp[mw,uL,fx]at h;simp_all
 | .d y::r,i,k,j+1,x,h=>by
  simp[mw,UL]at h;rcases Ia ev r (i+1) k j x h with⟨d,Q,a⟩|⟨l,cQ,b,Q,a,e,f⟩
  .simp_all
  .exact .inr ⟨l,cQ,b,by simp_all,a,e,by rwa[show i+(j+1)=i+1+j by omega]⟩
 | .row e0 s::r,i,k,0,x,h=>by
  simp[mw,uL,fx]at h;exact .inr ⟨e0,s,k,Z,h.symm,by simp[ho],by simp[qE]⟩
 | .row e0 s::r,i,k,j+1,x,h=>by
  simp[mw,UL]at h;rcases Ia ev r (i+1) (k+1) j x h with⟨d,Q,a⟩|⟨l,cQ,b,Q,a,e,f⟩
  .simp_all
  .have c:=(BJ ev r (i+1) (k+1) _ e).1;refine .inr ⟨l,cQ,b,by simp_all,a,lD _ e,?_⟩;simp[qE];grind
theorem Ib(k cs):(mw k cs).length=cs.length:=by
 induction cs generalizing k with
 |nil=>rfl|cons c r i=>cases c<;>simp[mw,i]
theorem UM{k}:∀o O,(∀b B,O b=U B->hp k B=B)->(∀p∈o,hp k p.2=p.2)->∀b B,gj O o b=U B->hp k B=B
 | [],O,h,_,b,B,d=>h b B d
 |(c,C)::r,O,h,g,b,B,d=>by
  refine UM r (eO O c (U C)) (λf gv a=>?_) (λp O=>g p (.tail _ O)) b B d
  by_cases e:f=c
  .subst e;rw[gE]at a;simp_all
  .rw[gf _ _ e]at a;grind
theorem UN{f st dD O dst l dx cs dR dC K}
  (h:re P f st dD O dst (dx++cs) dR K)(aX:dx.length=l.length)(cP:∀(i:V) (x d),l[i]?=U x->dx[i]?=U d->conv O (dC x)=U d/\ ∀b∈gU O (dC x),b∈dR)
  (aY:st=N->dD=j7 dC l/\cs=[]):
  ∃e,K e/\nk P f/\ ∀(cV) (own) (M) (D) (a:e7) (w) (vs),gG cV own M->(∀c,w.heap.size<=c->own c)->fq M w->er own M D O w->(∀x,dV M D (dC x) (a.eval x))->ly M cs vs->
   uv P cV f ((l.map a.eval).toArray++vs) w λke w'=>∃v,ke=.returned v/\H2 cV own M D O w e v w':=by
 have cX:∀(own:V->Prop) (M:eE) (D:gr) (a:e7) (w:c') (vs:ea dp),fq M w->er own M D O w->(∀x,dV M D (dC x) (a.eval x))->ly M cs vs->
   ∃T,gJ M T/\fq T w/\jl own M T/\er own T D (gj O (f9 O dR)) w/\ly T (dx++cs) ((l.map a.eval).toArray++vs):=by
  intro own M D a w vs dq c_ H F;have⟨T,s1,ah,dc,Q,eD,aZ⟩:=v8 (hh:=O) dR M O dq c_ (.refl O);have A:=agC (a:=a) s1 Q eD (λb l cQ cN E e=>aZ b l cQ cN (.inl E) e) H aX cP;refine⟨T,s1,ah,dc,Q,by simp[A.1,F.1],λi d v al ar=>?_⟩
  by_cases cK:i<dx.length
  .rw[v' cK]at al;rw[agF (by simp_all)]at ar;exact A.2 i d v al ar
  .rw[xD R]at al;rw[Th (by simp;omega)]at ar;exact(F.2 _ d v al (by simp_all)).mono s1
 have h:=h.out;rcases h with⟨d,c8,ab⟩|⟨aw,cQ,t,aR,aS,ab⟩|⟨ax,e,aT,ab⟩|⟨s,t,gB,aS,a0,ab⟩|⟨s,aU,t,gB,aS,a0,ab⟩
 .cases aH:pN d with
  |true=>simp[aH,fE]at ab;exact⟨_,ab,c8.1,λcV own M D a w vs S G dq c_ H F=>have⟨T,s1,ah,dc,Q,A⟩:=cX own M D a w vs dq c_ H F;(c8.2 cV w T _ ((S.new s1 dc).low G) ah A).mono λke w' Y=>have⟨v,ac,e,E,s2,fb,ae,aI⟩:=Y;⟨v,e,M,D,xB E G,.refl M,λb o v h=>fb _ _ _ (s2 _ _ _ (s1 _ _ _ h)),.refl _ _,c_.behind S.own E (.refl M) (λ_ _ _ h=>.inl h),λ_ _=>Z,EN (agA aH aI)⟩⟩
  |false=>simp[aH,jk]at ab;exact⟨_,ab,c8.1,λcV own M D a w vs S G dq c_ H F=>have⟨T,s1,ah,dc,Q,A⟩:=cX own M D a w vs dq c_ H F;(c8.2 cV w T _ ((S.new s1 dc).low G) ah A).mono λke w' Y=>have⟨v,ac,e,E,s2,fb,ae,aI⟩:=Y;⟨v,e,ac,D,xB E G,s1.trans s2,fb,dc.trans (zk ae G),Q.behind S.own E s2 ae,λ_ _=>Z,EN aI⟩⟩
 .refine⟨_,ab,aR.1,λcV own M D a w vs S G dq c_ H F=>have⟨T,s1,ah,dc,Q,A⟩:=cX own M D a w vs dq c_ H F;(aR.2 cV w T _ ((S.new s1 dc).low G) ah A).mono λke w' Y=>?_⟩;have⟨v,ac,e,E,s2,fb,ae,g⟩:=Y;have c5:=Q.behind S.own E s2 ae
  have ay:(⟨.own t,f9 O dR++[(t,.row aw cQ L)],U t⟩:ge).O O=eO (hL (U t) (gj O (f9 O dR))) t (U (.row aw cQ L)):=by simp[ge.O,zl,gj,EO (U t) _ O (H9 dR)]
  rcases g with⟨rfl,eb,rfl⟩|⟨c,cap,C,eQ,dG,rfl,dr,am,ai,W,a1⟩
  .refine⟨_,e,ac,eO D t (U cM),xB E G,s1.trans s2,fb,dc.trans (zk ae G),?_,λb E=>gf _ _ λe=>td E e,.h7 t eb (gE _ _ _)⟩;rw[ay];exact c5.BG t cQ L
  .let cL:kR:=⟨c,cQ,C.size,aw.length⟩
   refine⟨_,e,ac,eO D t (U (U cL)),xB E G,s1.trans s2,fb,dc.trans (zk ae G),?_,λb E=>gf _ _ λe=>td E e,.own t cL cap (gE _ _ _) dr am⟩;rw[ay];refine c5.new t (.row aw cQ L) cL (.refl _) (G c dG) ⟨C,eQ,ai,Z,Z,Z,fJ (l4 _ dr) am,W,(by simp_all),λ_=>a1⟩ λd7 ej a2 m=>⟨?_,Z,c5.closed m⟩;have:=Q.lt m;grind
 .obtain⟨rfl,rfl⟩:=aY ax;refine⟨e,ab,aT.1,λcV own M D a w vs S G dq c_ H F=>?_⟩
  have a3:vs=#[]:=by have:=F.1;simpa using this
  subst a3
  have a4:y_ M D (j7 dC l) ((l.map a.eval).toArray++#[]):=by
   have az:∀l:J fu,(j7 dC l).length=l.length/\ ∀(i:V) (x:dn) (v:dp),(j7 dC l)[i]?=U x->(l.map a.eval)[i]?=U v->dV M D x v:=by
    intro l
    induction l with
    |nil=>exact⟨Z,λi x v h=>by simp_all⟩
    |cons y r aV=>
     refine⟨by simp[j7,aV.1],λi x v al ar=>?_⟩
     cases i with
     |zero=>simp[j7,kD,uL,fx]at al ar;grind
     |succ i=>exact aV.2 i x v (by assumption) (by simp_all)
   exact⟨by simp_all,λi x v al ar=>(az l).2 i x v al (by simp_all)⟩
  exact(aT.2 cV own M D w _ S G dq c_ a4).mono λke w' Y=>have⟨v,ac,eg,al,ar,a5,a6,a7,a8,a9,a_⟩:=Y;⟨v,al,ac,eg,ar,a5,a6,a7,a8,a9,a_⟩
 .have az:∀n:V,∃k:V,k=2000000+8*n/\k%8=0/\2000000<=k:=λn=>⟨_,Z,R,R⟩;have⟨k,aJ,aA,c6⟩:=az t
  have ab:K ⟨.agg (mw k s),f9 O dR++ho k s,U k⟩:=by rwa[aJ]
  refine⟨_,ab,gB.1,λcV own M D a w vs S G dq c_ H F=>have⟨T,s1,ah,dc,Q,A⟩:=cX own M D a w vs dq c_ H F;(gB.2 cV w T _ ((S.new s1 dc).low G) ah A).mono λke w' Y=>?_⟩;have⟨us,ac,ev,e,E,s2,fb,ae,a',z,aK⟩:=Y;have c5:=Q.behind S.own E s2 ae;have da:∀b,k<=b->b<k+8->b/8=k/8:=λb af aj=>R
  have ay:(⟨.agg (mw k s),f9 O dR++ho k s,U k⟩:ge).O O=gj (hL (U k) (gj O (f9 O dR))) (ho k s):=by simp[ge.O,zl,EO (U k) _ O (H9 dR)]
  have ax:∀b B,hL (U k) (gj O (f9 O dR)) b=U B->∀d7,d7/8=k/8->hp d7 B=B:=λb B ag d7 aL=>by
   obtain⟨aM,_,rfl⟩:=EL ag;exact UI c6 aA aL aM
  have g:∀p∈ho k s,k<=p.1/\p.1<k+8/\ ∃j l cQ,s[j]?=U (.row l cQ) /\p.2=.row l cQ L/\qE ev 0 k s p.1=ev j/\p.1=k+xC s j:=λp O=>by
   have⟨af,aj,j,l,cQ,ad,aa,I,an⟩:=BJ ev s 0 k p O;exact⟨af,R,j,l,cQ,ad,aa,by simpa using I,an⟩
  have aN:=er.Nq c6 (qE ev 0 k s) (ho k s) D _ (c5.UJ k) ax (λp O=>da _ (g p O).1 (g p O).2.1) (H' s k) (λp O=>by
    have⟨af,aj,j,l,cQ,ad,aa,I,an⟩:=g p O;refine⟨l,cQ,aa,?_⟩;rw[I,aa];have⟨u,dG,dr⟩:=z j _ ad;simp only at dr
    cases X:ev j with
    |none=>rw[X]at dr;exact dr.1
    |some cL=>
     rw[X]at dr;have⟨fY,cap,C,eQ,gY,ao,av,ap,aB,aC,aD,aE,aF⟩:=dr
     exact⟨G _ fY,C,eQ,aD,ap.symm,av.symm,ao.symm,by rw[ap];exact fJ (l4 _ aB) aC,aE,(by intro e;cases e),λ_=>aF⟩)
   (λp O cL ak d7 ej m he=>by
    have⟨af,aj,j,l,cQ,ad,aa,I,an⟩:=g p O;rw[I]at ak;have⟨u,dG,dr⟩:=z j _ ad;simp[ak]at dr;have:=dr.1;have:=Q.lt m
    omega)
   (λp O q Y cL ej ak m he=>by
    have⟨_,_,j,l,cQ,ad,aa,I,an⟩:=g p O;have⟨_,_,aO,aw,ba,bb,bc,aP,bd⟩:=g q Y;rw[I]at ak;rw[aP]at m;have:=aK j aO cL ej ak m he;subst this
    omega)
  refine⟨_,e,ac,_,xB E G,s1.trans s2,fb,dc.trans (zk ae G),by rwa[ay],λb E=>?_,?_⟩
  .by_cases dj:b∈m2 (ho k s)
   .have⟨B,ag⟩:=BI.1 dj;have⟨af,aj,_⟩:=g _ ag;have aQ:=da b af aj;have:=No c6 aA aQ (Hx b);have E:g1 k b=L:=E;rw[this]at E;cases E
   .simp[cT dj]
  .refine .agg _ us (by rwa[Ib]) λj x u au aq=>?_;rcases Ia ev s 0 k j x au with⟨d,dG,rfl⟩|⟨l,cQ,b,dG,rfl,dr,am⟩
   .have⟨pX,ai,W⟩:=z j _ dG;rw[aq]at ai;cases ai
    exact .d _ _ W
   .have⟨pX,ai,W⟩:=z j _ dG;rw[aq]at ai;cases ai
    have dj:=BI.2 ⟨_,dr⟩;simp at am
    cases X:ev j with
    |none=>simp[X]at W;obtain⟨_,eb,rfl⟩:=W;exact .h7 b eb (by simp[if_pos dj,am,X])
    |some cL=>simp[X]at W;obtain⟨fY,cap,C,eQ,rfl,ao,av,ap,aB,aC,aD,aE,aF⟩:=W;rw[<-ao];exact .own b cL cap (by simp[if_pos dj,am,X]) (by rwa[ao]) (by rwa[av,ap])
 .have az:∀n:V,∃k:V,k=2000000+8*n/\k%8=0/\2000000<=k:=λn=>⟨_,Z,R,R⟩;have⟨k,aJ,aA,c6⟩:=az t
  have ab:K ⟨.dP (.ptr k 0 0::aU.map lx.one),f9 O dR++(ho (k+1) s++[(k,.box (mw (k+1) s) L)]),U k⟩:=by rwa[aJ]
  refine⟨_,ab,gB.1,λcV own M D a w vs S G dq c_ H F=>have⟨T,s1,ah,dc,Q,A⟩:=cX own M D a w vs dq c_ H F;(gB.2 cV w T _ ((S.new s1 dc).low G) ah A).mono λke w' Y=>?_⟩;have⟨eT,us,bn,be,ac,ev,e,bf,bg,bh,E,s2,fb,ae,a',aW,z,aK,bi⟩:=Y;have c5:=Q.behind S.own E s2 ae;have da:∀b,k+1<=b->b<k+8->b/8=k/8:=λb af aj=>R
  have ay:(⟨.dP (.ptr k 0 0::aU.map lx.one),f9 O dR++(ho (k+1) s++[(k,.box (mw (k+1) s) L)]),U k⟩:ge).O O=eO (gj (hL (U k) (gj O (f9 O dR))) (ho (k+1) s)) k (U (.box (mw (k+1) s) L)):=by simp[ge.O,zl,gj,EO (U k) _ O (H9 dR)]
  have ax:∀b B,hL (U k) (gj O (f9 O dR)) b=U B->∀d7,d7/8=k/8->hp d7 B=B:=λb B ag d7 aL=>by
   obtain⟨aM,_,rfl⟩:=EL ag;exact UI c6 aA aL aM
  have g:∀p∈ho (k+1) s,k+1<=p.1/\p.1<k+8/\ ∃j l cQ,s[j]?=U (.row l cQ) /\p.2=.row l cQ L/\qE ev 0 (k+1) s p.1=ev j/\p.1=k+1+xC s j:=λp O=>by
   have⟨af,aj,j,l,cQ,ad,aa,I,an⟩:=BJ ev s 0 (k+1) p O;exact⟨af,R,j,l,cQ,ad,aa,by simpa using I,an⟩
  have aN:=er.Nq c6 (qE ev 0 (k+1) s) (ho (k+1) s) D _ (c5.UJ k) ax (λp O=>da _ (g p O).1 (g p O).2.1) (H' s (k+1)) (λp O=>by
    have⟨af,aj,j,l,cQ,ad,aa,I,an⟩:=g p O;refine⟨l,cQ,aa,?_⟩;rw[I,aa];have⟨u,dG,dr⟩:=z j _ ad;simp only at dr
    cases X:ev j with
    |none=>rw[X]at dr;exact dr.1
    |some cL=>
     rw[X]at dr;have⟨fY,cap,C,eQ,gY,ao,av,ap,aB,aC,aD,aE,aF⟩:=dr
     exact⟨G _ fY,C,eQ,aD,ap.symm,av.symm,ao.symm,by rw[ap];exact fJ (l4 _ aB) aC,aE,(by intro e;cases e),λ_=>aF⟩)
   (λp O cL ak d7 ej m he=>by
    have⟨af,aj,j,l,cQ,ad,aa,I,an⟩:=g p O;rw[I]at ak;have⟨u,dG,dr⟩:=z j _ ad;simp[ak]at dr;have:=dr.1;have:=Q.lt m
    omega)
   (λp O q Y cL ej ak m he=>by
    have⟨_,_,j,l,cQ,ad,aa,I,an⟩:=g p O;have⟨_,_,aO,aw,ba,bb,bc,aP,bd⟩:=g q Y;rw[I]at ak;rw[aP]at m;have:=aK j aO cL ej ak m he;subst this
    omega)
  have bj:k∉m2 (ho (k+1) s):=λdj=>by
   have⟨B,ag⟩:=BI.1 dj;have:=(g _ ag).1;simp only at this;omega
  have bk:hL (U k) (gj (hL (U k) (gj O (f9 O dR))) (ho (k+1) s))=gj (hL (U k) (gj O (f9 O dR))) (ho (k+1) s):=by
   have hw:=UM (k:=k) (ho (k+1) s) (hL (U k) (gj O (f9 O dR))) (λb B ag=>ax b B ag k Z) (λp O=>by
    have⟨_,_,j,l,cQ,_,aa,_⟩:=g p O
    rw[aa];rfl)
   funext b;simp[hL]
   cases dg:gj (hL (U k) (gj O (f9 O dR))) (ho (k+1) s) b with
   |none=>simp[hL]at dg;rw[dg]
   |some B=>have:=hw b B dg;simp[hL]at dg;rw[dg];simp[this]
  have bl:jz ac (eO (λb=>if b∈m2 (ho (k+1) s) then U (qE ev 0 (k+1) s b) else D b) k (U (U ⟨eT,us.size,us.size,1⟩))) w' (.box (mw (k+1) s) L) ⟨eT,us.size,us.size,1⟩:=by
   refine⟨us,be,bg,Z,by rwa[Ib],by rwa[Ib],⟨by rwa[Ib],λj x au=>?_⟩,(by intro e;cases e),λ_=>bh⟩;rcases Ia ev s 0 (k+1) j x au with⟨d,dG,rfl⟩|⟨l,cQ,b,dG,rfl,dr,am⟩
   .have⟨pX,ai,W⟩:=z j _ dG;exact⟨pX,ai,.d _ _ W⟩
   .have⟨pX,ai,W⟩:=z j _ dG;have dj:=BI.2 ⟨_,dr⟩;have aG:b≠k:=λe=>bj (e▸dj);simp at am;refine⟨pX,ai,?_⟩
    cases X:ev j with
    |none=>simp[X]at W;obtain⟨_,eb,rfl⟩:=W;exact .h7 b eb (by rw[gf _ _ aG];simp[if_pos dj,am,X])
    |some cL=>simp[X]at W;obtain⟨fY,cap,C,eQ,rfl,ao,av,ap,aB,aC,aD,aE,aF⟩:=W;rw[<-ao];exact .own b cL cap (by rw[gf _ _ aG];simp[if_pos dj,am,X]) (by rwa[ao]) (by rwa[av,ap])
  have bo:=aN.new k (.box (mw (k+1) s) L) ⟨eT,us.size,us.size,1⟩ (.refl ac) (G eT bf) bl λd7 ej a2 m=>⟨?_,Z,aN.closed m⟩
  .refine⟨_,e,ac,_,xB E G,s1.trans s2,fb,dc.trans (zk ae G),by rwa[ay,<-bk],λb E=>?_,?_⟩
   .have E:g1 k b=L:=E;have aG:=Ed E;rw[gf _ _ aG]
    by_cases dj:b∈m2 (ho (k+1) s)
    .have⟨B,ag⟩:=BI.1 dj;have⟨af,aj,_⟩:=g _ ag;have aQ:=da b af aj;have:=No c6 aA aQ (Hx b);rw[this]at E;cases E
    .simp[cT dj]
   .refine .dP _ _ (by simp[aW.1];omega) λj x u au aq=>?_
    cases j with
    |zero=>
     simp at au
     have aq:HY (U ⟨eT,0,cM⟩)=u:=by rw[agF dt]at aq;simpa using aq
     subst au aq;have:=dV.ptr (M:=ac) k 0 0 ⟨eT,us.size,us.size,1⟩ (gE (λb=>if b∈m2 (ho (k+1) s) then U (qE ev 0 (k+1) s b) else D b) k (U (U ⟨eT,us.size,us.size,1⟩)));simpa using this
    |succ j=>simp at au;obtain⟨d,bm,rfl⟩:=au;refine UD (aW.2 j d u bm ?_);rw[Th dt]at aq;simpa using aq
  .by_cases dj:d7∈m2 (ho (k+1) s)
   .have⟨B,ag⟩:=BI.1 dj;have⟨_,_,j,l,cQ,ad,aa,I,an⟩:=g _ ag;simp only[if_pos dj]at m;simp only at I;rw[I]at m;simp at m;exact bi j ej m
   .simp[cT dj]at m;have:=Q.lt m;show ej.blk≠eT;omega
end
abbrev ep:c3:=.dk []
abbrev gi:c3:=.int .i64 0
abbrev hx:c3:=.bool L
abbrev uW:c3:=.str .empty
abbrev jq:c3:=.int .u8 0
abbrev m4:c3:=.int .u64 0
def lG(n:V):h8:=⟨.slice n,1,24,[ep]⟩
def p1(n:V):h8:=⟨.ptr n,1,8,[.ka]⟩
def ob(k:pK)(n:V):h8:=⟨.int k,1,n,[.int k 0]⟩
def f_(t:V)(dr:h8):kB:=.node t dr .leaf .leaf
def mT(t:V)(dr:h8)(l:kB):kB:=.node t dr l .leaf
def B7:h8:=⟨.struct [(0,3),(1,3)],2,16,[gi,gi]⟩
def Fo:h8:=⟨.struct [(0,3),(1,3),(2,9)],3,32,[gi,gi,uW]⟩
def Ov:h8:=⟨.str,1,16,[uW]⟩
def WL:h8:=⟨.struct [(0,34),(1,41)],2,48,[ep,ep]⟩
def WM:h8:=⟨.struct [(0,40),(4,43),(6,44),(7,3)],8,160,[ep,ep,ep,ep,ep,ep,.ka,gi]⟩
def WN:h8:=⟨.struct [(0,118),(1,3)],2,32,[ep,gi]⟩
def WO:h8:=⟨.struct [(0,121)],1,24,[ep]⟩
def WP:h8:=⟨.struct [(0,120),(2,123),(3,124),(4,125)],5,104,[ep,gi,ep,ep,ep]⟩
def WQ:h8:=⟨.struct [(0,127),(5,43),(7,3)],8,160,[ep,gi,ep,ep,ep,ep,ep,gi]⟩
def WR:h8:=⟨.struct [(0,47),(1,139)],4,40,[gi,gi,gi,uW]⟩
def WS:h8:=⟨.struct [(0,3),(1,116),(4,141),(8,3),(9,3),(10,3)],11,104,[gi,gi,gi,uW,gi,gi,gi,uW,gi,gi,gi]⟩
def WT:h8:=⟨.struct [(0,124)],1,24,[ep]⟩
def WU:h8:=⟨.struct [(0,3),(1,3),(2,158),(3,159)],4,64,[gi,gi,ep,ep]⟩
def WV:h8:=⟨.struct [(0,96),(1,4),(2,162)],3,56,[ep,hx,ep]⟩
def WW:h8:=⟨.struct [(0,166),(1,3),(2,4)],3,40,[ep,gi,hx]⟩
def WX:h8:=⟨.struct [(0,43),(2,3),(3,170)],4,80,[ep,ep,gi,ep]⟩
def WY:h8:=⟨.struct [(0,168),(3,169),(4,172),(8,173)],9,168,[ep,gi,hx,ep,ep,ep,gi,ep,ep]⟩
def WZ:h8:=⟨.struct [(0,157),(1,129),(9,161),(13,165),(64,175),(73,3),(74,136)],75,1400,[ep,ep,gi,ep,ep,ep,ep,ep,gi,gi,gi,ep,ep,ep,hx,ep,ep,hx,ep,ep,hx,ep,ep,hx,ep,ep,hx,ep,ep,hx,ep,ep,hx,ep,ep,hx,ep,ep,hx,ep,ep,hx,ep,ep,hx,ep,ep,hx,ep,ep,hx,ep,ep,hx,ep,ep,hx,ep,ep,hx,ep,ep,hx,ep,ep,gi,hx,ep,ep,ep,gi,ep,ep,gi,ep]⟩
def W0:h8:=⟨.struct [(0,3),(1,3),(2,4)],3,24,[gi,gi,hx]⟩
def W1:h8:=⟨.struct [(0,3),(1,9)],2,24,[gi,uW]⟩
def W2:h8:=⟨.struct [(0,39),(1,3),(2,3),(3,4),(4,4),(5,3),(6,3),(7,141)],11,104,[ep,gi,gi,hx,hx,gi,gi,gi,gi,gi,uW]⟩
def W3:h8:=⟨.struct [(0,3),(1,3),(2,3),(3,9),(4,3)],5,48,[gi,gi,gi,uW,gi]⟩
def W4:h8:=⟨.struct [(0,3),(1,3),(2,3),(3,9)],4,40,[gi,gi,gi,uW]⟩
def W5:h8:=⟨.struct [(0,3),(1,3),(2,96)],3,40,[gi,gi,ep]⟩
def W6:h8:=⟨.struct [(0,3),(1,3),(2,3)],3,24,[gi,gi,gi]⟩
def W7:h8:=⟨.struct [(0,3),(1,4)],2,16,[gi,hx]⟩
def W8:h8:=⟨.struct [(0,5),(1,5)],2,2,[jq,jq]⟩
def W9:h8:=⟨.struct [(0,4),(1,191)],3,32,[hx,gi,uW]⟩
def aiQ:kB:=.node 12 (ob .u64 8) (.node 6 (ob .u8 1) (.node 4 ⟨.bool,1,1,[hx]⟩ (mT 3 (ob .i64 8) (f_ 2 (ob .i64 8))) (f_ 5 (ob .u8 1))) (.node 10 Ov (f_ 9 Ov) (f_ 11 Ov))) (.node 21 (ob .i32 4) (.node 16 (p1 438) (f_ 15 (p1 435)) (f_ 17 (p1 445))) (.node 30 ⟨.arr 4 3,4,32,[gi,gi,gi,gi]⟩ (f_ 26 (lG 5)) (f_ 33 (lG 35))))
def aiR:kB:=.node 44 (p1 177) (.node 40 ⟨.arr 4 39,4,96,[ep,ep,ep,ep]⟩ (.node 38 (p1 46) (f_ 35 (ob .u16 2)) (f_ 39 (lG 116))) (.node 42 WL (f_ 41 (lG 191)) (f_ 43 WL))) (.node 50 (p1 52) (.node 46 WM (f_ 45 WM) (f_ 47 (ob .i64 8))) (.node 62 (ob .u32 4) (f_ 59 (ob .u64 8)) (f_ 74 (p1 64))))
def aiS:kB:=.node 118 (lG 180) (.node 105 (p1 61) (.node 96 (lG 3) (mT 84 (ob .i64 8) (f_ 82 (p1 62))) (f_ 101 (p1 5))) (.node 115 Fo (f_ 107 (p1 59)) (f_ 116 Fo))) (.node 122 WO (.node 120 WN (f_ 119 WN) (f_ 121 (lG 183))) (.node 124 (lG 139) (f_ 123 WO) (f_ 125 (lG 187))))
def aiT:kB:=.node 140 WR (.node 133 (lG 39) (.node 128 WQ (f_ 127 WP) (f_ 129 WQ)) (.node 138 Fo (f_ 136 (lG 143)) (f_ 139 Fo))) (.node 144 WT (.node 142 WS (f_ 141 WR) (f_ 143 WS)) (.node 157 (lG 196) (f_ 145 WT) (f_ 158 (lG 308))))
def aiU:kB:=.node 168 WW (.node 164 WV (.node 162 (lG 315) (mT 161 WU (f_ 160 WU)) (f_ 163 WV)) (.node 166 (lG 278) (f_ 165 ⟨.arr 17 164,51,952,[ep,hx,ep,ep,hx,ep,ep,hx,ep,ep,hx,ep,ep,hx,ep,ep,hx,ep,ep,hx,ep,ep,hx,ep,ep,hx,ep,ep,hx,ep,ep,hx,ep,ep,hx,ep,ep,hx,ep,ep,hx,ep,ep,hx,ep,ep,hx,ep,ep,hx,ep]⟩) (f_ 167 WW))) (.node 172 WX (.node 170 (lG 264) (f_ 169 (lG 173)) (f_ 171 WX)) (.node 174 WY (f_ 173 (lG 211)) (f_ 175 WY)))
def aiV:kB:=.node 190 W1 (.node 182 B7 (.node 179 W0 (f_ 177 WZ) (f_ 180 W0)) (.node 186 B7 (f_ 183 B7) (f_ 187 B7))) (.node 205 (p1 196) (.node 195 W2 (f_ 191 W1) (f_ 196 W2)) (.node 211 W3 (f_ 210 W3) (f_ 215 (lG 351))))
def aiW:kB:=.node 303 B7 (.node 278 W5 (.node 264 W4 (mT 263 W4 (f_ 220 (lG 4))) (f_ 277 W5)) (.node 287 (p1 278) (f_ 279 ⟨.arr 24 5,24,24,[jq,jq,jq,jq,jq,jq,jq,jq,jq,jq,jq,jq,jq,jq,jq,jq,jq,jq,jq,jq,jq,jq,jq,jq]⟩) (f_ 302 B7))) (.node 315 W7 (.node 308 W6 (f_ 307 W6) (f_ 314 W7)) (.node 342 W8 (f_ 341 ⟨.arr 256 5,256,256,eL 256 jq⟩) (f_ 343 W8)))
def aiX:kB:=.node 413 (ob .i64 8) (.node 356 ⟨.arr 65 5,65,65,eL 65 jq⟩ (.node 351 W9 (f_ 350 W9) (f_ 355 ⟨.arr 20 59,20,160,[m4,m4,m4,m4,m4,m4,m4,m4,m4,m4,m4,m4,m4,m4,m4,m4,m4,m4,m4,m4]⟩)) (.node 410 ⟨.arr 32 5,32,32,eL 32 jq⟩ (f_ 377 (lG 170)) (f_ 411 ⟨.arr 64 5,64,64,eL 64 jq⟩))) (.node 439 (ob .u8 1) (.node 425 (p1 3) (f_ 422 (ob .u64 8)) (f_ 430 (p1 422))) (.node 442 (ob .i32 4) (f_ 440 (ob .u8 1)) (f_ 443 (ob .i32 4))))
def e4:kB:=.node 159 (lG 303) (.node 76 (ob .u64 8) (.node 34 (lG 9) aiQ aiR) (.node 126 WP aiS aiT)) (.node 219 Fo (.node 176 WZ aiU aiV) (.node 344 ⟨.arr 16 343,32,32,eL 32 jq⟩ aiW aiX))
def T:fL:=λt=>e4.get t
def sn:jB cR T:=λ_ k=>kB.M' c2 k
section
open Go.ConcN (sumTo upd sumTo_upd upd_ne upd_same RelBy WgLive AsideCell)
open Go.ConcR (KK wgBlock WgAt stA smA rd wr mk DC0)
def mo(K:Touch->Prop)(e:hB):Prop:=(∀x,(mq e).touch? =U x->K x) /\e.loc≠.mark .disable/\e.loc≠.mark .enable/\ ∀a,e.loc≠.mark (.release a)
theorem Du{e m}(h:mq e=.mark m):e.loc=.mark m:=by
 have⟨l,w,s⟩:=e
 cases l<;>cases w<;>cases s<;>simp_all [mq]
theorem LZ{K g fn pos es}(h:∀e∈es,mo K e):∀o∈gR g fn pos es,∀a,o.act≠.mark (.release a):=by intro o c a e;obtain⟨x,b,rfl⟩:=yT c;exact(h x b).2.2.2 a (Du e)
theorem DS{K g fn pos es}(h:∀e∈es,mo K e):∀o∈gR g fn pos es,∀x,o.act.touch? =U x->K x:=by intro o c x a;obtain⟨y,b,rfl⟩:=yT c;exact(h y b).1 x a
theorem DT{K es}(h:∀e∈es,mo K e)(d):deafBehind d es=d:=deafBehind_still (λe a=>⟨(h e a).2.1,(h e a).2.2.1⟩) d
section
variable {c4:V->Prop} {Wg:V} {Rd:V->Prop} {c eW d1:V} {t:j1}
theorem hm.mU(h:hm c4 Wg Rd c eW d1 t)(b:c≠0)(fn pos){es}(a:∀e∈es,mo (nR c4 Wg Rd) e):hm c4 Wg Rd c eW d1 (t++gR 0 fn pos es):=
 h.app0 b lq (DS a) (LZ a) (by rw[uj,DT a,h.xa])
theorem hm.yE(h:hm c4 Wg Rd c eW d1 t)(b:c≠0)(fn pos){es}(a:∀e∈es,mo (vJ c4 Wg Rd) e):hm c4 Wg Rd c eW d1 (t++gR c fn pos es):=
 h.Hd b lq (DS a) (LZ a) (by rw[uj,DT a,h.q7])
theorem yV{g fn pos es}(m:∀e∈es,vK e=N):∀o∈gR g fn pos es,o.act.touch? =cM/\ ∀a,o.act≠.mark (.release a):=by intro o d;obtain⟨e,h,rfl⟩:=yT d;refine⟨touch_mute (m e h),λa b=>?_⟩;have Q:=Du b;have c:=m e h;have⟨l,w,s⟩:=e;simp only at Q;subst Q;simp[vK]at c
theorem hm.xd(h:hm c4 Wg Rd c eW d1 t){i}(cW:i≠0)(cK:i≠c)(fn pos){es}(m:∀e∈es,vK e=N):hm c4 Wg Rd c eW d1 (t++gR i fn pos es):=
 h.idle (λo a=>(yV m o a).1) (λo a=>(yV m o a).2) SX (by rw[vI t cK _ lq,h.q7])
theorem hm.Tm(h:hm c4 Wg Rd c eW d1 t)(cW:c≠0)(fn pos){es}(m:∀e∈es,vK e=N):hm c4 Wg Rd c eW (deafBehind d1 es) (t++gR c fn pos es):=
 h.idle (λo a=>(yV m o a).1) (λo a=>(yV m o a).2) SX (by rw[uj,h.q7])
structure hJ(c4:V->Prop)(Wg:V)(Rd:V->Prop)(c:V)(eW d1:V)(t:j1):Prop where
 hY:hm c4 Wg Rd c eW d1 t
 rel:∃r,RelBy (stA Wg) t c r
theorem L0{a k r}(h:RelBy a t k r)(i fn pos){es}(d8:∀e∈es,vK e=N):RelBy a (t++gR i fn pos es) k r:=by
 by_cases cK:i=k
 .subst cK;exact h.appOwn fn pos es λj e he=>.inl (touch_mute (d8 e (DU he)))
 .exact h.appOther lq cK
theorem hJ.mU(h:hJ c4 Wg Rd c eW d1 t)(a:c≠0)(fn pos){es}(b:∀e∈es,mo (nR c4 Wg Rd) e):hJ c4 Wg Rd c eW d1 (t++gR 0 fn pos es):=
 ⟨h.hY.mU a fn pos b,h.rel.imp λr d=>d.appOther lq (Ne.symm a)⟩
theorem hJ.book(h:hJ c4 Wg Rd c eW d1 t)(b:c≠0)(fn pos){es}(d:∀o∈gR 0 fn pos es,∀x,o.act.touch? =U x->nR c4 Wg Rd x)(dI:∀e∈es,∀a,e.loc≠.mark (.release a)):hJ c4 Wg Rd c (deafBehind eW es) d1 (t++gR 0 fn pos es):=
 ⟨h.hY.app0 b lq d (λo w6 a e=>GS) (by rw[uj,h.hY.xa]),h.rel.imp λr dI=>dI.appOther lq (Ne.symm b)⟩
theorem hm.book(h:hm c4 Wg Rd c eW d1 t)(b:c≠0)(fn pos){es}(d:∀o∈gR 0 fn pos es,∀x,o.act.touch? =U x->nR c4 Wg Rd x)(dI:∀e∈es,∀a,e.loc≠.mark (.release a)):hm c4 Wg Rd c (deafBehind eW es) d1 (t++gR 0 fn pos es):=
 h.app0 b lq d (λo w6 a e=>GS) (by rw[uj,h.xa])
theorem hJ.xd(h:hJ c4 Wg Rd c eW d1 t){i}(cW:i≠0)(cK:i≠c)(fn pos){es}(m:∀e∈es,vK e=N):hJ c4 Wg Rd c eW d1 (t++gR i fn pos es):=
 ⟨h.hY.xd cW cK fn pos m,h.rel.imp λr a=>L0 a i fn pos m⟩
def k5(c4:V->Prop)(Wg:V)(Rd:V->Prop)(c:V)(eW:V)(t:j1):Prop:=∃d1,hJ c4 Wg Rd c eW d1 t
theorem k5.mute(h:k5 c4 Wg Rd c eW t)(a:c≠0){i}(cW:i≠0)(fn pos){es}(m:∀e∈es,vK e=N):k5 c4 Wg Rd c eW (t++gR i fn pos es):=by
 have⟨d1,h⟩:=h
 by_cases cK:i=c
 .subst cK;exact⟨_,h.hY.Tm a fn pos m,h.rel.imp λr b=>L0 b i fn pos m⟩
 .exact⟨d1,h.xd cW cK fn pos m⟩
end
def AZ(Wg:V)(x:Touch):Prop:=r2 (·=Wg) x.loc/\x.kind≠.plain
theorem AZ.fit{c4 Wg Rd}(cX:¬Rd Wg){x}(h:AZ Wg x):nR c4 Wg Rd x:=
 ⟨λ_=>h.2,λ_=>h.2,λ_ ⟨a,e,r⟩=>by obtain⟨⟨b,c,hZ⟩,_⟩:=h;simp_all⟩
def hK(Wg:V)(w w':c')(es:ea hB):Prop:=w'=w/\ ∀e∈es,mo (AZ Wg) e
theorem So{Wg}(a)(d:a.block=Wg)(b):mo (AZ Wg) ⟨.cell a,b,N⟩:=
 ⟨λx c=>by
  cases b<;>simp[mq,k6]at c<;>subst c<;>exact⟨⟨a,Z,d⟩,dt⟩,dt,dt,dt⟩
theorem L1{Wg g fn pos}:∀op∈gR g fn pos (semEvents (smA Wg)),∀x,op.act.touch? =U x->r2 (·=Wg) x.loc/\x.kind=.atomic:=by
 intro op b x a;obtain⟨e,he,rfl⟩:=yT b;simp[semEvents]at he;rcases he with rfl|rfl|rfl|rfl
 .cases a
 .simp[mq,k6]at a;subst a;exact⟨⟨_,Z,Z⟩,Z⟩
 .simp[mq,k6]at a;subst a;exact⟨⟨_,Z,Z⟩,Z⟩
 .cases a
theorem Tn{Wg}:∀e∈semEvents (smA Wg),∀a,e.loc≠.mark (.release a):=by intro e he a;simp[semEvents]at he;grind
theorem DV{g fn pos m}{K:Touch->Prop}(b:(MemAct.mark m).touch? =cM):∀o∈gR g fn pos #[mk m],∀x,o.act.touch? =U x->K x:=by intro o c x a;obtain⟨e,h,rfl⟩:=yT c;simp[mk]at h;subst h;simp[mq]at a;simp_all
theorem DW{m}(b:∀a,m≠.release a):∀e∈#[mk m],∀a,e.loc≠.mark (.release a):=by intro e h a;simp[mk]at h;simp_all
section
variable (P:el) (dm:eH) (Wg:V) (cX:c'->c'->Prop) (eK:dN->c'->Prop)
def To(g:dN)(w:c'):Prop:=g.status=.running/\ ∃g',stepG P N g w=.go g' w #[mk (.acquire (stA Wg))] /\eK g' w
def A0(g:dN)(w:c'):Prop:=g.status=.running/\ ∃g',stepG P N g w=.go g' w #[mk .enable] /\dO P N cX (hK Wg) (To P Wg eK) g' w
def L2(g:dN)(w:c'):Prop:=g.status=.running/\ (gu dm Wg w 0 0->∃g',stepG P N g w=.go g' w #[rd (stA Wg)] /\dO P N cX (hK Wg) (A0 P Wg cX eK) g' w)
def xe(g:dN)(w:c'):Prop:=
 g.status=.running/\g.offers=cM/\ ((∃st,gu dm Wg w st 0)->stepG P N g w=.go {g with status:=.blocked} w #[]) /\
  (gu dm Wg w 0 1->∃g',stepG P N g w=.go g' (w.setCell (smA Wg) (.int .u32 0)) (semEvents (smA Wg)) /\dO P N cX (hK Wg) (L2 P dm Wg cX eK) g' (w.setCell (smA Wg) (.int .u32 0)))
def L3(gq:dN->c'->Prop)(g:dN)(w:c'):Prop:=
 g.status=.running/\
  (gu dm Wg w KK 0->∃g',stepG P N g w=.go g' (w.setCell (stA Wg) (.int .u64 (KK+1))) #[rd (stA Wg),wr (stA Wg)] /\dO P N cX (hK Wg) (xe P dm Wg cX eK) g' (w.setCell (stA Wg) (.int .u64 (KK+1)))) /\
  (gu dm Wg w 0 0->∃g',stepG P N g w=.go g' w #[rd (stA Wg)] /\dO P N cX (hK Wg) gq g' w)
def r4(gq:dN->c'->Prop)(g:dN)(w:c'):Prop:=
 g.status=.running/\
  (gu dm Wg w KK 0->∃g',stepG P N g w=.go g' w #[rd (stA Wg)] /\dO P N cX (hK Wg) (L3 P dm Wg cX eK gq) g' w) /\
  (gu dm Wg w 0 0->∃g',stepG P N g w=.go g' w #[rd (stA Wg)] /\dO P N cX (hK Wg) (A0 P Wg cX eK) g' w)
def Hi(gq:dN->c'->Prop)(g:dN)(w:c'):Prop:=g.status=.running/\ ∃g',stepG P N g w=.go g' w #[mk .disable] /\dO P N cX (hK Wg) gq g' w
end
section
variable {P:el} {dm:eH} {Wg c:V} {c4 Rd:V->Prop} {cX:c'->c'->Prop} {eK:dN->c'->Prop} {dM:dp->c'->Prop}
theorem nS{eW eU}(a:c≠0)(W:∀w d,eU w->eU (w.at d)):vL 0 (k5 c4 Wg Rd c eW) eU:=⟨λT i fn pos es h cW _ m=>h.mute a cW fn pos m,W⟩
theorem yW{eW eU}(f:c≠0)(cX:¬Rd Wg):s5 0 (k5 c4 Wg Rd c eW) eU (hK Wg):=λT fn pos es w w' h hw cP=>by
 obtain⟨rfl,b⟩:=cP;exact⟨h.imp λd1 h=>h.mU f fn pos λe d=>⟨λx a=>((b e d).1 x a).fit cX,(b e d).2⟩,hw⟩
variable (P dm Wg c c4 Rd cX eK dM) in
structure xf:Prop where
 eT:c≠0
 rd:¬Rd Wg
 mr:l0 cX
 set:∀w x,(∃st j2,gu dm Wg w st j2)->cX w (w.setCell (stA Wg) (.int .u64 x))
 Tp:∀w x,(∃st j2,gu dm Wg w st j2)->cX w (w.setCell (smA Wg) (.int .u32 x))
 fin:∀cZ sl T q g w,cZ[0]?=U g->e2 P 0 cZ T q->ku (λb=>c4 b\/b=Wg) 0 T->eK g w->fa P dM (crowd cZ w sl) T
theorem oB{M T cZ w w' sl g g' es}(s:stepT P M=runT P (crowd cZ w sl) 0)(cW:cZ[0]?=U g)(h:stepG P N g w=.go g' w' es)
  (k:fa P dM (crowd ((cZ.map (woken P g g' w')).setIfInBounds 0 g') w' sl) (T++gR 0 g.frame.fn g.frame.place es)):fa P dM M T:=
 fa.step (s.trans (vN (P:=P) (sl:=sl) (i:=0) cW (show stepG P (0==0) g w=_ from h))) k
theorem iq{cZ:ea dN}{g}(cW:cZ[0]?=U g):0<cZ.size:=(kv.1 cW).1
theorem DX(g fn pos e):gR g fn pos #[e]=#[{g,fn,pos,act:=.ofEvent e}]:=by simp[gR]
theorem aeR (dc:xf P dm Wg c c4 Rd cX eK dM) {a} {w} (h:dO P N cX (hK Wg) (To P Wg eK) a w) (cZ) (sl) (T) (q) (cW:cZ[0]?=U a) (O:e2 P 0 cZ T q) (cS:k5 c4 Wg Rd c 0 T):fa P dM (crowd cZ w sl) T:=by refine s7 (l1:=default) (c:=0) (cL:=k5 c4 Wg Rd c 0) (eU:=fun _=>True) (nS dc.eT fun _ _ h=>h) dc.mr (yW dc.eT dc.rd) (fun _ _ h=>h.1) (fun M T g cZ w sl q s cW O _ cS _ d=>have⟨_,g',o,f⟩:=d;have⟨d1,cS⟩:=cS;have⟨r,b⟩:=cS.rel;oB s cW o (dc.fin _ _ _ q g' w (iU (iq cW)) (O.own (.inl Z) (iq cW) _ _ _) ?_ f)) h cZ sl T q cW O (fun h=>dQ h R) cS dU;rw [DX];exact cS.hY.acquire dc.eT b hg
theorem Tq (dc:xf P dm Wg c c4 Rd cX eK dM) {a} {w} (h:dO P N cX (hK Wg) (A0 P Wg cX eK) a w) (cZ) (sl) (T) (q) (cW:cZ[0]?=U a) (O:e2 P 0 cZ T q) (cS:k5 c4 Wg Rd c 1 T):fa P dM (crowd cZ w sl) T:=by exact s7 (l1:=default) (c:=0) (cL:=k5 c4 Wg Rd c 1) (eU:=fun _=>True) (nS dc.eT fun _ _ h=>h) dc.mr (yW dc.eT dc.rd) (fun _ _ h=>h.1) (fun M T g cZ w sl q s cW O _ cS _ b=>have⟨_,g',o,f⟩:=b;have⟨d1,cS⟩:=cS;oB s cW o (aeR dc f _ _ _ q (iU (iq cW)) (O.own (.inl Z) (iq cW) _ _ _) ⟨d1,cS.book dc.eT _ _ (es:=#[mk .enable]) (DV Z) (DW dt)⟩)) h cZ sl T q cW O (fun h=>dQ h R) cS dU
theorem aeS (dc:xf P dm Wg c c4 Rd cX eK dM) {a} {w} (h:dO P N cX (hK Wg) (L2 P dm Wg cX eK) a w) (cZ) (sl) (T) (q) (cW:cZ[0]?=U a) (b:e2 P 0 cZ T q) (cS:k5 c4 Wg Rd c 1 T) (hw:gu dm Wg w 0 0):fa P dM (crowd cZ w sl) T:=by exact s7 (l1:=default) (c:=0) (cL:=k5 c4 Wg Rd c 1) (eU:=fun w=>gu dm Wg w 0 0) (nS dc.eT fun _ _ h=>h) dc.mr (yW dc.eT dc.rd) (fun _ _ h=>h.1) (fun M T g cZ w sl q d cW b _ cS hw c7=>have⟨_,c7⟩:=c7;have⟨g',f,ee⟩:=c7 hw;oB d cW f (Tq dc ee _ _ _ q (iU (iq cW)) (b.own (.inl Z) (iq cW) _ _ _) (cS.imp fun d1 h=>h.mU dc.eT _ _ fun e he=>Ls))) h cZ sl T q cW b (fun h=>dQ h R) cS hw
theorem aeT (dc:xf P dm Wg c c4 Rd cX eK dM) {a} {w} (h:dO P N cX (hK Wg) (xe P dm Wg cX eK) a w) (cZ) (sl) (T) (q) (cW:cZ[0]?=U a) (b:e2 P 0 cZ T q) (cS:k5 c4 Wg Rd c 1 T) (hw:gu dm Wg w 0 1):fa P dM (crowd cZ w sl) T:=by
 refine s7 (l1:=default) (c:=0) (cL:=k5 c4 Wg Rd c 1) (eU:=fun w=>gu dm Wg w 0 1) (nS dc.eT fun _ _ h=>h) dc.mr (yW dc.eT dc.rd) (fun _ _ h=>h.1) (fun M T g cZ w sl q f cW b _ cS hw c7=>have⟨_,_,_,c7⟩:=c7;have⟨g',i,ee⟩:=c7 hw;oB f cW i (aeS dc ee _ _ _ q (iU (iq cW)) (b.own (.inl Z) (iq cW) _ _ _) (cS.imp fun d1 h=>?_) (hw.setSm 0))) h cZ sl T q cW b (fun h=>dQ h R) cS hw;have:=h.book dc.eT g.frame.fn g.frame.place (es:=semEvents (smA Wg)) (fun op d x e=>AZ.fit dc.rd ⟨(L1 op d x e).1,by rw [(L1 op d x e).2];simp⟩) Tn
 assumption
variable {gq:dN->c'->Prop}
theorem L4 (dc:xf P dm Wg c c4 Rd cX eK dM) {a} {w} (h:dO P N cX (hK Wg) (r4 P dm Wg cX eK gq) a w) (cZ) (sl) (T) (q) (cW:cZ[0]?=U a) (b:e2 P 0 cZ T q) (cS:k5 c4 Wg Rd c 1 T) (hw:gu dm Wg w 0 0):fa P dM (crowd cZ w sl) T:=by exact s7 (l1:=default) (c:=0) (cL:=k5 c4 Wg Rd c 1) (eU:=fun w=>gu dm Wg w 0 0) (nS dc.eT fun _ _ h=>h) dc.mr (yW dc.eT dc.rd) (fun _ _ h=>h.1) (fun M T g cZ w sl q d cW b _ cS hw c7=>have⟨_,_,c7⟩:=c7;have⟨g',f,ee⟩:=c7 hw;oB d cW f (Tq dc ee _ _ _ q (iU (iq cW)) (b.own (.inl Z) (iq cW) _ _ _) (cS.imp fun d1 h=>h.mU dc.eT _ _ fun e he=>Ls))) h cZ sl T q cW b (fun h=>dQ h R) cS hw
theorem aeU (dc:xf P dm Wg c c4 Rd cX eK dM) (d:∀ g w,gq g w->dO P N cX (hK Wg) (r4 P dm Wg cX eK gq) g w) {a} {w} (h:dO P N cX (hK Wg) (L3 P dm Wg cX eK gq) a w) (cZ) (sl) (T) (q) (cW:cZ[0]?=U a) (b:e2 P 0 cZ T q) (cS:k5 c4 Wg Rd c 1 T) (hw:gu dm Wg w 0 0):fa P dM (crowd cZ w sl) T:=by exact s7 (l1:=default) (c:=0) (cL:=k5 c4 Wg Rd c 1) (eU:=fun w=>gu dm Wg w 0 0) (nS dc.eT fun _ _ h=>h) dc.mr (yW dc.eT dc.rd) (fun _ _ h=>h.1) (fun M T g cZ w sl q f cW b _ cS hw c7=>have⟨_,_,c7⟩:=c7;have⟨g',i,ee⟩:=c7 hw;oB f cW i (L4 dc (ee.bind dc.mr.refl d) _ _ _ q (iU (iq cW)) (b.own (.inl Z) (iq cW) _ _ _) (cS.imp fun d1 h=>h.mU dc.eT _ _ fun e he=>Ls) hw)) h cZ sl T q cW b (fun h=>dQ h R) cS hw
theorem Tr (dc:xf P dm Wg c c4 Rd cX eK dM) (d:∀ g w,gq g w->dO P N cX (hK Wg) (r4 P dm Wg cX eK gq) g w) {a} {w} (h:dO P N cX (hK Wg) (Hi P Wg cX gq) a w) (cZ) (sl) (T) (q) (cW:cZ[0]?=U a) (b:e2 P 0 cZ T q) (cS:k5 c4 Wg Rd c 0 T) (hw:gu dm Wg w 0 0):fa P dM (crowd cZ w sl) T:=by exact s7 (l1:=default) (c:=0) (cL:=k5 c4 Wg Rd c 0) (eU:=fun w=>gu dm Wg w 0 0) (nS dc.eT fun _ _ h=>h) dc.mr (yW dc.eT dc.rd) (fun _ _ h=>h.1) (fun M T g cZ w sl q e cW b _ cS hw c7=>have⟨_,g',f,ee⟩:=c7;oB e cW f (L4 dc (ee.bind dc.mr.refl d) _ _ _ q (iU (iq cW)) (b.own (.inl Z) (iq cW) _ _ _) (cS.imp fun d1 h=>h.book dc.eT _ _ (es:=#[mk .disable]) (DV Z) (DW dt)) hw)) h cZ sl T q cW b (fun h=>dQ h R) cS hw
