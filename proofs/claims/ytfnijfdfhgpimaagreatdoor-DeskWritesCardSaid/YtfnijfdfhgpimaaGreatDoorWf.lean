/- What is proved here: what functions of the program compute, and what follows; no condition beyond each theorem's own. -/
import Derived.Test.YtfnijfdfhgpimaaGreatDoorWe
set_option linter.all false
noncomputable section
set_option maxHeartbeats 0
open Bool renaming false->L,or_false->QV,or_true->aa9,true->N
open ByteArray renaming empty->fI
open Classical renaming not_forall->J4
open Decidable renaming decide->gV
open Go renaming FuncId->ig
open Go.IntKind renaming bits->OQ
open Go.Proofs.Tryz renaming func108->acE,func110->aqZ,func111->abB,func112->arh,func113->abD,func116->abq,func138->aqC,func156->aqn,func247->aqy,func268->QL,func47->asR,func70->asy,func80->Rl,prog->cR
open Int renaming le_trans->Rg
open List renaming drop_left'->ap4,drop_length->aqX,eraseIdx_sublist->aqU,flatMap_cons->asS,flatten_append->QW,foldl_cons->arp,foldl_nil->abG,getElem?_mapIdx->Q0,getElem_map->JH,getElem_take->QC,length->pY,length_singleton->QB,map_drop->aqj,mem_flatMap->as0,mem_of_mem_take->QQ,range->iB,replicate->eL,replicate_succ'->aqG,take->BZ,takeWhile_cons->Qk,take_append_of_le_length->apG
open List.Pairwise renaming nil->aaB
open List.Sublist renaming append->aoZ
open Nat renaming ble->hn,lt_succ_self->aqk,zero_lt_succ->aaC
open Option renaming none->cM,some->U,toList->asG
open _root_ renaming Bool->dh,ByteArray->dS,Int->I,List->J,Nat->V,Option->dB,absurd->dQ,rfl->Z,trivial->dU
namespace Go.Lk
def Au:=@Proofs.Tryz.func79
def Gt:=@List.not_mem_nil
def K2:=@or_false
open Go.Proofs Go.RowKit
def Km{l}(o:gN 3 l=N)(b:l.length<=1000000):j5 cR 209 [.dk l] l 3:=by
 refine lH Tryz.func209 1 Z c2 (cO (oG (cO ?_)));intro r a
 conv=>whnf
 refine m8 (λh=>?_) λh=>?_
 .have:=a h;exact⟨2,Z,.inr ⟨Z,this⟩⟩
 .refine fC o (cO ?_);refine fV 1000100 100 sZ c1 c1 c1 (cO ?_);exact⟨2,Z,.inl ⟨5,Z,Z⟩⟩
def aaO{l}(o:gN 2 l=N)(b:l.length<=1000000):j5 cR 200 [.dk l] l 2:=by
 refine lH Tryz.func200 1 Z c2 (cO (oG (cO ?_)));intro r a
 conv=>whnf
 refine m8 (λh=>?_) λh=>?_
 .have:=a h;exact⟨2,Z,.inr ⟨Z,this⟩⟩
 .refine fC o (cO ?_);refine fV 1000100 100 sZ c1 c1 c1 (cO ?_);exact⟨2,Z,.inl ⟨5,Z,Z⟩⟩
def Qy{l}(o:gN 2 l=N)(b:l.length<=1000000):j5 cR 206 [.dk l] l 2:=by
 refine lH Tryz.func206 1 Z c2 (cO (oG (cO ?_)));intro r a
 conv=>whnf
 refine m8 (λh=>?_) λh=>?_
 .have:=a h;exact⟨2,Z,.inr ⟨Z,this⟩⟩
 .refine fC o (cO ?_);refine fV 1000100 100 sZ c1 c1 c1 (cO ?_);exact⟨2,Z,.inl ⟨5,Z,Z⟩⟩
def Ge{l}(o:gN 1 l=N)(b:l.length<=1000000):j5 cR 187 [.dk l] l 1:=by
 refine lH Tryz.func187 1 Z c2 (cO (oG (cO ?_)));intro r a
 conv=>whnf
 refine m8 (λh=>?_) λh=>?_
 .have:=a h;exact⟨2,Z,.inr ⟨Z,this⟩⟩
 .refine fC o (cO ?_);refine fV 1000100 100 sZ c1 c1 c1 (cO ?_);exact⟨2,Z,.inl ⟨5,Z,Z⟩⟩
def aaP{l}(o:gN 3 l=N)(b:l.length<=1000000):j5 cR 186 [.dk l] l 3:=by
 refine lH Tryz.func186 1 Z c2 (cO (oG (cO ?_)));intro r a
 conv=>whnf
 refine m8 (λh=>?_) λh=>?_
 .have:=a h;exact⟨2,Z,.inr ⟨Z,this⟩⟩
 .refine fC o (cO ?_);refine fV 1000100 100 sZ c1 c1 c1 (cO ?_);exact⟨2,Z,.inl ⟨5,Z,Z⟩⟩
def apC{l}(o:gN 4 l=N)(b:l.length<=1000000):j5 cR 188 [.dk l] l 4:=by
 refine lH Tryz.func188 1 Z c2 (cO (oG (cO ?_)));intro r a
 conv=>whnf
 refine m8 (λh=>?_) λh=>?_
 .have:=a h;exact⟨2,Z,.inr ⟨Z,this⟩⟩
 .refine fC o (cO ?_);refine fV 1000100 100 sZ c1 c1 c1 (cO ?_);exact⟨2,Z,.inl ⟨5,Z,Z⟩⟩
def aaQ{l}(o:gN 1 l=N)(b:l.length<=1000000):j5 cR 136 [.dk l] l 1:=by
 refine lH Tryz.func136 1 Z c2 (cO (oG (cO ?_)));intro r a
 conv=>whnf
 refine m8 (λh=>?_) λh=>?_
 .have:=a h;exact⟨2,Z,.inr ⟨Z,this⟩⟩
 .refine fC o (cO ?_);refine fV 1000100 100 sZ c1 c1 c1 (cO ?_);exact⟨2,Z,.inl ⟨5,Z,Z⟩⟩
def Qz{l}(o:gN 5 l=N)(b:l.length<=1000000):j5 cR 137 [.dk l] l 5:=by
 refine lH Tryz.func137 1 Z c2 (cO (oG (cO ?_)));intro r a
 conv=>whnf
 refine m8 (λh=>?_) λh=>?_
 .have:=a h;exact⟨2,Z,.inr ⟨Z,this⟩⟩
 .refine fC o (cO ?_);refine fV 1000100 100 sZ c1 c1 c1 (cO ?_);exact⟨2,Z,.inl ⟨5,Z,Z⟩⟩
def apD{l}(o:gN 2 l=N)(b:l.length<=1000000):j5 cR 97 [.dk l] l 2:=by
 refine lH Tryz.func97 1 Z c2 (cO (oG (cO ?_)));intro r a
 conv=>whnf
 refine m8 (λh=>?_) λh=>?_
 .have:=a h;exact⟨2,Z,.inr ⟨Z,this⟩⟩
 .refine fC o (cO ?_);refine fV 1000100 100 sZ c1 c1 c1 (cO ?_);exact⟨2,Z,.inl ⟨5,Z,Z⟩⟩
def apE{l}(o:gN 3 l=N)(b:l.length<=1000000):j5 cR 101 [.dk l] l 3:=by
 refine lH Tryz.func101 1 Z c2 (cO (oG (cO ?_)));intro r a
 conv=>whnf
 refine m8 (λh=>?_) λh=>?_
 .have:=a h;exact⟨2,Z,.inr ⟨Z,this⟩⟩
 .refine fC o (cO ?_);refine fV 1000100 100 sZ c1 c1 c1 (cO ?_);exact⟨2,Z,.inl ⟨5,Z,Z⟩⟩
structure sK{α:Type}(enc:α->J c3)(p:α->dh)(cQ:V)(l:J α)(F:J (J c3))(s:V×J (J c3)):Prop where
 le:s.1<=l.length
 len:s.2.length=F.length
 fst:s.2.take ((l.take s.1).filter λx=>!p x).length=((l.take s.1).filter λx=>!p x).map enc
 apF:s.2.drop s.1=F.drop s.1
 lt:((l.take s.1).filter λx=>!p x).length<s.1
 cQ:∀e∈s.2,e.length=cQ
def QA{α:Type}{p:α->dh}{l:J α}{k}(a:k<l.length)(h:p l[k]=N):(l.take (k+1)).filter (λx=>!p x)=(l.take k).filter λx=>!p x:=by rw[lX a,wh,BY,h];simp
def aaR{α:Type}{p:α->dh}{l:J α}{k}(a:k<l.length)(h:p l[k]=L):(l.take (k+1)).filter (λx=>!p x)=(l.take k).filter (λx=>!p x)++[l[k]]:=by rw[lX a,wh,BY,h];simp
def sK.skip{α:Type}{enc:α->J c3}{p:α->dh}{cQ:V}{l:J α}{F cX}{j:V}(h:sK enc p cQ l F (j,cX))(b:j<l.length)(O:p l[j]=N):sK enc p cQ l F (j+1,cX):=by
 have⟨Q,a,d,c,dz,dW⟩:=h;simp only[]at Q a d c dz dW;refine⟨b,a,?_,?_,?_,dW⟩
 .simp only[];rwa[QA b O]
 .simp only[];rw[<-BM,c,BM]
 grind
def sK.put{α:Type}{enc:α->J c3}{p:α->dh}{cQ:V}{l:J α}{F cX}{j:V}(h:sK enc p cQ l F (j,cX))(a:j<l.length)(c:l.length<=F.length)(O:p l[j]=L)(e:∀x,(enc x).length=cQ):
  sK enc p cQ l F (j+1,cX.set ((l.take j).filter λx=>!p x).length (enc l[j])):=by
 have⟨Q,b,d,f,dz,dW⟩:=h;simp only[]at Q b d f dz dW;refine⟨a,by simp_all,?_,?_,?_,?_⟩
 .simp only[];rw[aaR a O,kG,QB,jt,<-d]
  have cK:((l.take j).filter λx=>!p x).length<(cX.set ((l.take j).filter λx=>!p x).length (enc l[j])).length:=by rw[h'];omega
  rw[lX cK,tN,List.take_set_of_le (fB _)];rfl
 .simp only[];rw[List.drop_set_of_lt R,<-BM,f,BM]
 .grind
 grind
def sK.get{α:Type}{enc:α->J c3}{p:α->dh}{cQ:V}{l:J α}{cX}{j n:V}{u:J c3}(h:sK enc p cQ l (l.map enc++eL n u) (j,cX))(a:j<l.length):cX[j]?=U (enc l[j]):=by have b:=h.apF;simp only[]at b;have:=eR (λx=>x[0]?) b;grind
def sK.init{α:Type}{enc:α->J c3}{p:α->dh}{cQ:V}{l:J α}{n:V}{i:V}(cK:i<l.length)(cY:∀j (c:j<i),p (l[j]' R)=L)(O:p l[i]=N)(k:∀x,(enc x).length=cQ):
  sK enc p cQ l (l.map enc++eL n (eL cQ c3.mm)) (i+1,l.map enc++eL n (eL cQ c3.mm)) /\ ((l.take (i+1)).filter λx=>!p x).length=i:=by
 have e:(l.take (i+1)).filter (λx=>!p x)=l.take i:=by rw[QA cK O,List.filter_eq_self.2];intro a f;obtain⟨j,c,rfl⟩:=kg.1 f;rw[QC,cY j (by rw[pn]at c;omega)];rfl
 have b:(l.take i).length=i:=GR;refine⟨⟨cK,Z,?_,Z,?_,?_⟩,by rw[e,b]⟩
 .simp only[];rw[e,b,apG S7,xN]
 .simp_all
 .intro x d;simp only[]at d;rcases h3.1 d with g|g
  .grind
  simp_all
def aaS{α:Type}{p:α->dh}:∀ {l:J α} {k i:V},fP p l k=((k+i:V):I)->∃cK:i<l.length,p l[i]=N/\ ∀j (c:j<i),p (l[j]' R)=L
 | [],k,i,h=>by rw[fP]at h;omega
 |x::r,k,i,h=>by
  rw[fP]at h;split at h
  .grind
  .rename_i e
   cases i with
   |zero=>
    exfalso
    by_cases g:0<=fP p r (k+1)
    .have⟨j,_,a,_⟩:=Ak (k:=k+1) (wP.1 ((Kj p r (k+1)).1 g));omega
    .omega
   |succ i=>obtain⟨cK,Q,b⟩:=aaS (l:=r) (k:=k+1) (i:=i) (by rw[h];omega);grind
def apH{α:Type}{p}{l:J α}{k:V}(h:fP p l k=-1):∀x∈l,p x=L:=by
 intro x a
 cases e:p x with|false=>rfl|true=>have⟨i,_,b,_⟩:=Ak (k:=k) ⟨x,a,e⟩;omega
def apI{α:Type}(p)(l:J α):fP p l 0=-1\/ ∃i:V,fP p l 0=(i:I):=by
 by_cases h:∃x∈l,p x=N
 .have⟨i,_,e,_⟩:=Ak (k:=0) h;grind
 .left;refine wQ λx a=>?_;simp_all
def apJ {cX:J (J c3)} {j cQ:V} {e v:J c3} (Q:e.length=cQ) (c5:v.length=cQ):cX.set (0+j) (iM e 0 v)=cX.set j v:=by rw [U0 (by omega) (by omega),np]
def Kn {q:Prop} (h:q:=by
  refine g_ Am 2 rfl (by kernel_rfl) (by rfl) (cO ?_);refine eZ (D:=Nat) (fun k=>[(0,.win 1000000 0 l.length (some c)),(1,.d (.fn g cs)),(7,.d (.int .i64 l.length)),(8,.d (.int .i64 k))]) (fun _=>[(1000000,.row cX mJ false)])
   (fun k=>k<=l.length/\fP p (l.drop k) k=fP p l 0) (fun k=>l.length-k) 0 ⟨Nat.zero_le _,rfl⟩ (dZ (dT ⟨rfl,rfl,rfl,rfl,trivial⟩ ⟨rfl,trivial⟩ ⟨rfl,rfl,rfl,rfl⟩)) ?_
  rintro k ⟨c6,fX⟩
  conv=>whnf
  refine pc (fun h=>?_) (fun h=>?_)<;>conv=>whnf
  .have eM:k<l.length:=by omega
   have apK:cX[0+k]?=some (pE l[k]):=by
    rw [Nat.zero_add]
    have:(cX.take l.length)[k]?=some (pE l[k]):=by rw [CX,List.getElem?_map,List.getElem?_eq_getElem eM];rfl
    rwa [List.getElem?_take_of_lt eM] at this
   refine di ?_;refine ec (by omega) (cO ?_);refine dY apK (c9 ?_);rw [rq eM,fP] at fX;refine df (qn l[k]) (cO ?_)
   refine y5 (fun c5=>?_) (fun c5=>?_)<;>conv=>whnf
   .rw [if_pos c5] at fX;exact f7 rfl (by rw [<-fX];rfl) rfl ⟨rfl,trivial⟩
   .rw [if_neg (by rw [c5];decide)] at fX;refine dH ?_;exact ⟨k+1,⟨by omega,fX⟩,by omega,(dZ (dT ⟨rfl,rfl,rfl,rfl,trivial⟩ ⟨rfl,trivial⟩ ⟨rfl,rfl,rfl,rfl⟩))⟩
  .have:k=l.length:=by omega
   subst this;simp [fP] at fX
   exact f7 rfl (by rw [<-fX];rfl) rfl ⟨rfl,trivial⟩):q:=h
def Ko {q:Prop} (h:q:=by
  apply OL An 2 rfl (by kernel_rfl) (by rfl);refine ⟨fun cap Kp=>?_,fun cW=>?_⟩
  .have d8:(l.map pE).length=l.length:=List.length_map ..
   rw [d8] at Kp⊢;have⟨F,qm⟩:∃ F,F=l.map pE++List.replicate (cap-l.length) (List.replicate mJ c3.mm):=⟨_,rfl⟩
   have awi:F.length=cap:=by rw [qm];simp;omega
   have aaT:F.take l.length=l.map pE:=by rw [qm];exact List.take_left' d8
   rw [<-qm]
   conv=>whnf
   refine ga (Kq g cs p qn l F cap dw aaT) [(1000000,1000004)] rfl ⟨rfl,trivial⟩ rfl (cO ?_)
   rcases apI p l with e|⟨i,e⟩
   .rw [e];refine di ?_;refine zJ rfl rfl rfl (by omega) ?_ rfl trivial;rw [aaT,List.filter_eq_self.2];intro x eC
    rw [apH e x eC];rfl
   .rw [e];obtain⟨cK,O,hb⟩:=aaS (i:=i) (k:=0) (by rw [e];congr 1;omega);have⟨aaU,apL⟩:=sK.init (enc:=pE) (cQ:=mJ) (n:=cap-l.length) cK hb O (fun _=>rfl);rw [<-qm] at aaU;refine di ?_;refine eZ (D:=Nat×List (List c3)) (fun s=>[(0,.win 1000004 0 l.length (some cap)),(1,.d (.fn g cs)),(5,.d (.int .i64 ((l.take s.1).filter fun x=>!p x).length)),(6,.d (.int .i64 s.1))]) (fun s=>[(1000004,.row s.2 mJ false)])
     (sK pE p mJ l F) (fun s=>l.length-s.1) (i+1,F) aaU (dZ (dT ⟨rfl,rfl,by rw [apL];rfl,rfl,trivial⟩ ⟨rfl,trivial⟩ ⟨rfl,rfl,rfl,rfl⟩)) ?_
    rintro ⟨j,cX⟩ wR;have apM:=wR.le;have apN:=wR.len;have tV:=wR.fst;have yn:=wR.lt;simp only [] at apM apN tV yn⊢
    conv=>whnf
    refine pc (fun dz=>?_) (fun dz=>?_)<;>conv=>whnf
    .have dL:j<l.length:=by omega
     have apO:cX[0+j]?=some (pE l[j]):=by rw [Nat.zero_add];rw [qm] at wR;exact wR.get dL
     refine ec (by omega) (cO ?_);refine dY apO (di ?_);refine df (qn l[j]) (cO ?_)
     cases c5:p l[j] with
     |true=>refine di ?_;exact ⟨(j+1,cX),wR.skip dL c5,by dsimp only;omega,dZ (dT ⟨rfl,rfl,by rw [QA dL c5];rfl,rfl,trivial⟩ ⟨rfl,trivial⟩ ⟨rfl,rfl,rfl,rfl⟩)⟩
     |false=>
      have aaV:((l.take j).filter fun x=>!p x).length<cX.length:=by omega
      have awj:((l.take j).filter fun x=>!p x).length<l.length:=by omega
      have yN:=wR.cQ _ (List.getElem_mem aaV);have f':=wR.put dL (by omega) c5 (fun _=>rfl);have es:=apJ (cX:=cX) (j:=((l.take j).filter fun x=>!p x).length) (e:=cX[((l.take j).filter fun x=>!p x).length]) (v:=pE l[j]) yN rfl;rw [<-es] at f'
      have QD:((l.take (j+1)).filter fun x=>!p x).length=((l.take j).filter fun x=>!p x).length+1:=by rw [aaR dL c5,List.length_append];rfl
      refine di ?_;refine ec (by omega) (cO ?_);refine dY (x:=cX[((l.take j).filter fun x=>!p x).length]) (by rw [Nat.zero_add,List.getElem?_eq_getElem aaV]) (cO ?_);refine ajL (by rw [yN];rfl) (di ?_);refine ⟨(j+1,_),f',by dsimp only;omega,dZ (dT ⟨rfl,rfl,by rw [QD];rfl,rfl,trivial⟩ ⟨rfl,trivial⟩ ⟨rfl,rfl,rfl,rfl⟩)⟩
    .have apP:j=l.length:=by omega
     subst apP;rw [List.take_length] at tV yn⊢;refine di ?_;refine ur (by omega) (by show l.length<=cap;omega) (cO ?_)
     have awk:(l.filter fun x=>!p x).length<=l.length:=List.length_filter_le ..
     refine fC ⟨by omega,rfl⟩ (di ?_);refine Bd (by show _<=cap;omega) (cO ?_);refine zJ rfl rfl rfl ?_ ?_ rfl trivial
     .simp;omega
     .rw [Nat.zero_add,<-tV];exact List.take_left' (by rw [List.length_take];omega)
  .have:l=[]:=List.map_eq_nil_iff.1 cW;subst this
   conv=>whnf
   refine df (Kr g cs p qn [] (by simp)) (di ?_)
   exact ajZ rfl rfl rfl trivial):q:=h
namespace Cl
abbrev pE:=fO
abbrev mJ:V:=3
abbrev Am:=Tryz.func261
abbrev An:=Tryz.func216
abbrev Kr:=@aaD
def Kq (g:ig) (cs:J c3) (p:V×dh->dh) (qn:∀ c:V×dh,dX cR g (.agg (fO c)::cs) (.bool (p c))) (l:J (V×dh)) (cX:J (J c3)) (c:V) (dw:l.length<=1000000) (CX:cX.take l.length=l.map pE):
  fG cR 261 [.win 1000000 0 l.length (U c),.d (.fn g cs)] [(1000000,.row cX mJ L)] [(1000000,.row cX mJ L)] (.int .i64 (fP p l 0)):=Kn
def Ao(g:ig)(cs:J c3)(p:V×dh->dh)(qn:∀c:V×dh,dX cR g (.agg (fO c)::cs) (.bool (p c)))(l:J (V×dh))(dw:l.length<=1000000):u0 cR 216 (l.map fO) 3 [.d (.fn g cs)] [] [] ((l.filter λx=>!p x).map fO):=Ko
end Cl
namespace Tk
abbrev pE:=iI
abbrev mJ:V:=2
abbrev Am:=Tryz.func263
abbrev An:=Tryz.func218
abbrev Kr:=@aaE
def Kq (g:ig) (cs:J c3) (p:V->dh) (qn:∀ c:V,dX cR g (.agg (iI c)::cs) (.bool (p c))) (l:J (V)) (cX:J (J c3)) (c:V) (dw:l.length<=1000000) (CX:cX.take l.length=l.map pE):
  fG cR 263 [.win 1000000 0 l.length (U c),.d (.fn g cs)] [(1000000,.row cX mJ L)] [(1000000,.row cX mJ L)] (.int .i64 (fP p l 0)):=Kn
def Ao(g:ig)(cs:J c3)(p:V->dh)(qn:∀c:V,dX cR g (.agg (iI c)::cs) (.bool (p c)))(l:J (V))(dw:l.length<=1000000):u0 cR 218 (l.map iI) 2 [.d (.fn g cs)] [] [] ((l.filter λx=>!p x).map iI):=Ko
end Tk
namespace Nn
abbrev pE:=f1
abbrev mJ:V:=1
abbrev Am:=Tryz.func274
abbrev An:=Tryz.func212
abbrev Kr:=@aps
def Kq (g:ig) (cs:J c3) (p:V->dh) (qn:∀ c:V,dX cR g (.int .i64 c::cs) (.bool (p c))) (l:J (V)) (cX:J (J c3)) (c:V) (dw:l.length<=1000000) (CX:cX.take l.length=l.map pE):
  fG cR 274 [.win 1000000 0 l.length (U c),.d (.fn g cs)] [(1000000,.row cX mJ L)] [(1000000,.row cX mJ L)] (.int .i64 (fP p l 0)):=Kn
def Ao(g:ig)(cs:J c3)(p:V->dh)(qn:∀c:V,dX cR g (.int .i64 c::cs) (.bool (p c)))(l:J (V))(dw:l.length<=1000000):u0 cR 212 (l.map f1) 1 [.d (.fn g cs)] [] [] ((l.filter λx=>!p x).map f1):=Ko
end Nn
namespace Wt
abbrev pE:=ie
abbrev mJ:V:=2
abbrev Am:=Tryz.func275
abbrev An:=Tryz.func214
abbrev Kr:=@aaG
def Kq (g:ig) (cs:J c3) (p:V×dh->dh) (qn:∀ c:V×dh,dX cR g (.agg (ie c)::cs) (.bool (p c))) (l:J (V×dh)) (cX:J (J c3)) (c:V) (dw:l.length<=1000000) (CX:cX.take l.length=l.map pE):
  fG cR 275 [.win 1000000 0 l.length (U c),.d (.fn g cs)] [(1000000,.row cX mJ L)] [(1000000,.row cX mJ L)] (.int .i64 (fP p l 0)):=Kn
def Ao(g:ig)(cs:J c3)(p:V×dh->dh)(qn:∀c:V×dh,dX cR g (.agg (ie c)::cs) (.bool (p c)))(l:J (V×dh))(dw:l.length<=1000000):u0 cR 214 (l.map ie) 2 [.d (.fn g cs)] [] [] ((l.filter λx=>!p x).map ie):=Ko
end Wt
def OM(v l)(c:l.length<=1000000):dX cR 265 [.dk (l.map f1),.int .i64 v] (.int .i64 (fP (k4 v) l 0)):=by
 refine d6 Tryz.func265 2 Z c2 (cO ?_);refine eZ (D:=V) (λk=>[(0,.d (.dk (l.map f1))),(1,.d v),(7,.d (.int .i64 (l.map f1).length)),(8,.d (.int .i64 k))]) (λ_=>[])
  (λk=>k<=l.length/\fP (k4 v) (l.drop k) k=fP (k4 v) l 0) (λk=>l.length-k) 0 ⟨e3 _,Z⟩ (dZ (dT fj dU d0)) ?_
 rintro k ⟨b,fX⟩
 conv=>whnf
 refine d3 (λh=>?_) λh=>?_
 .have eM:k<l.length:=by simpa using h
  refine ec R (cO ?_);refine dY (x:=f1 l[k]) iy (c9 ?_);rw[rq eM,fP]at fX
  refine d3 (λa=>?_) λa=>?_
  .rw[if_pos (by rw[k4,a];simp)]at fX;exact dd Z oA
  .rw[cT (by rw[k4];grind)]at fX;refine dH ?_;exact⟨k+1,⟨R,fX⟩,R,(dZ (dT fj dU d0))⟩
 .have:k=l.length:=by simp at h;omega
  subst this;simp at fX;exact dd Z oA
def Ap(v l)(a:l.length<=1000000):dX cR 202 [.dk (l.map f1),.int .i64 v] (.bool (decide (0<=fP (k4 v) l 0))):=by refine d6 Tryz.func202 2 Z c2 (cO ?_);refine df (OM v l a) (c9 ?_);rfl
def i1.cls{h}(o:i1 h):CV h.ds:=
 ⟨by have:=o.len;omega,λc a=>o.lt c.1 (n8 _ (rJ a)),(py.1 o.eI).1⟩
def i1.apQ{h}(o:i1 h){k}(a:k<h.q.length):h.q[k]<4:=o.lt _ (po _ (hS a))
def i1.apR{h}(o:i1 h){k}(a:k<h.q.length):fP (nH h.q[k]) h.ds 0=-1:=by refine wQ λx b=>?_;have:=(py.1 o.eI).2.2 x.1 (rJ b) h.q[k] (hS a);rw[nH,decide_eq_false];omega
def i1.apS{h}(o:i1 h){k}(b:k<h.q.length):fP (k4 h.q[k]) (h.q.take k) 0=-1:=by refine wQ λx c=>?_;obtain⟨j,a,rfl⟩:=kg.1 c;rw[pn]at a;have:=Kk (py.1 o.eI).2.1 (show j<k by omega) b;rw[QC,k4,decide_eq_false];omega
def i1.Ks{h}(o:i1 h):Gd h=L:=by have:=o.shut;rw[Gd];grind
def Kt(h)(o:i1 h):dX cR 196 [qb h] (.bool N):=by
 have a:=o.fh;have g:=o.tQ;have n:=o.len;have l:=o.held
 have m:(h.ds.map fO).length=h.ds.length:=ef ..
 have q:(h.q.map iI).length=h.q.length:=ef ..
 refine d6 Tryz.func196 1 Z c2 (di ?_);refine df (aaL h.ds o.cls) (di ?_);refine eZ (D:=V) (λk=>[(1,.ptr 1 0 0),(41,.d (.dk (h.ds.map fO))),(42,.d (h.ds.map fO).length),(43,.d k)]) (λ_=>[(1,.box (h.cells.map dn.d) L)])
  (λk=>k<=h.ds.length) (λk=>h.ds.length-k) 0 (e3 _) (dZ (dT fj eN d0)) ?_
 intro k d
 conv=>whnf
 refine d3 (λdz=>?_) λdz=>?_
 .have eM:k<h.ds.length:=R
  refine ec R (cO ?_);refine dY (x:=fO h.ds[k]) iy (c9 ?_);refine df (Qw h a) (c9 ?_);exact⟨k+1,R,R,(dZ (dT fj eN d0))⟩
 refine di ?_;refine eZ (D:=V) (λk=>[(1,.ptr 1 0 0),(54,.d (.dk (h.q.map iI))),(55,.d (h.q.map iI).length),(56,.d k)]) (λ_=>[(1,.box (h.cells.map dn.d) L)])
  (λk=>k<=h.q.length) (λk=>h.q.length-k) 0 (e3 _) (dZ (dT fj eN d0)) ?_
 intro k d
 conv=>whnf
 refine d3 (λdz=>?_) λdz=>?_
 .have eM:k<h.q.length:=R
  have f:=o.apQ eM
  have t:dX cR 199 [.dk (((h.q.map iI).take k).drop 0),h.q[k]] (fP (k4 h.q[k]) (h.q.take k) 0):=by rw[Cg,<-xN];exact aaF _ _ GR
  rw[o.apS eM]at t;have c:=Gc (h.q[k]:I) h.ds R;rw[o.apR eM]at c;refine ec R (cO ?_);refine dY (x:=iI h.q[k]) iy (c9 ?_);refine di ?_;refine df (Qw h a) (di ?_);refine df c (di ?_);refine fC (λe b=>aaH b) (cO ?_);refine oE R (di ?_);refine df t (di ?_);exact⟨k+1,R,R,(dZ (dT fj eN d0))⟩
 refine di ?_;refine df (aaJ h R R) (di ?_);refine df (aaN _ h.ds o.cls R R R) (di ?_);refine df (aaK h R R) (cO ?_);rw[o.Ks];refine di ?_;exact dd Z Z
def rL(n:V):J (V×dh)->J V->J V
 |_,[]=>[]
 |ds,w::q=>if ds.length<2*n then w::rL n (ds++[(w,L)]) q else []
def aaW(n):∀ds q,(rL n ds q).length<=q.length
 |_,[]=>fB _
 |ds,w::q=>by
  rw[rL];split
  .have:=aaW n (ds++[(w,L)]) q;simp;omega
  simp_all
structure apT(n:V)(QE:J (V×dh))(tz:J V)(s:J (V×dh)×J V×J V):Prop where
 len:s.1.length+s.2.1.length=QE.length+tz.length
 nQ:s.2.2.length+s.2.1.length=tz.length
 eq:il n s.1 s.2.1=il n QE tz
 apU:s.2.2++rL n s.1 s.2.1=rL n QE tz
def aaX(h)(p:h.n<=8)(m:h.ds.length+h.q.length<=7):dX cR 201 [qb h] (.dP [qb (wO h.n (il h.n h.ds h.q)),.dk ((rL h.n h.ds h.q).map f1)]):=by
 have⟨n,c,j⟩:=h;simp only[]at p m⊢;refine d6 Tryz.func201 1 Z c2 (di ?_);refine gK (Km (Gb c) g3) (di ?_);refine eZ (D:=J (V×dh)×J V×J V) (λs=>[(1,.ptr 1 0 0),(2,.ptr 2 0 0),(4,.own 34)]) (λs=>[(1,.box [.d n,.d (.int .i64 1),.own 8,.d (.dk (s.2.1.map iI))] L),(2,.box [.d (.int .i64 0),.d (.int .i64 0),.nil,.nil] L),(8,.row (s.1.map fO) 3 L),(34,.row (s.2.2.map f1) 1 L)])
  (apT n c j) (λs=>s.2.1.length) (c,j,[]) ⟨Z,np _,Z,Z⟩ (oI (.row 4 34 1) hg (dT eJ fj d0)) ?_
 rintro⟨ds,q,nQ⟩ dr;have⟨d,f,a,b⟩:=dr;simp only[]at d f a b⊢;refine di ?_;refine df (aaK ⟨n,ds,q⟩ g3 g3) (cO ?_)
 cases q with
 |nil=>rw[Gd];refine di ?_;rw[il]at a;rw[rL,p0]at b;rw[<-a,<-b];exact dd Z Z
 |cons w q=>
  rw[Gd]
  refine d3 (λg=>?_) λg=>?_
  .replace g:(ds.length:I)+1<=2*n:=g;have es:((((w::q).map iI).take ((w::q).map iI).length).drop 1)=q.map iI:=Lz;refine di ?_;refine ec (i:=0) dt (cO ?_);refine dY (x:=iI w) Z (di ?_);refine fC (λe k=>aaH k) (cO ?_);refine pd (l:=1) dt (di ?_);simp at d f
   have o:(ds.map fO).length=ds.length:=ef ..
   have r:(nQ.map f1).length=nQ.length:=ef ..
   refine fV 1000 100 (by show(ds.map fO).length+1<=1000;omega) c1 c1 c1 (di ?_);refine fV 1000 100 LA c1 c1 c1 (cO ?_);rw[il,if_pos R]at a;rw[rL,if_pos R]at b;refine⟨(ds++[(w,L)],q,nQ++[w]),⟨hd,hd,a,by simp_all⟩,dt,dZ (dT eJ ⟨by rw[<-es];rfl,Z,w5,w5,dU⟩ d0)⟩
  .replace g:¬(ds.length:I)+1<=2*n:=g;refine di ?_;rw[il,cT R]at a;rw[rL,cT R,p0]at b;rw[<-a,<-b];exact dd Z Z
def apV{h:hH}{w}(cY:w∉h.all):fP (nH w) h.ds 0=-1:=by refine wQ λx a=>?_;rw[nH,decide_eq_false];exact λe=>cY (n8 _ (h4.2 ⟨x,a,R⟩))
def apW{h:hH}{w}(cY:w∉h.all):fP (k4 w) h.q 0=-1:=by refine wQ λx a=>?_;rw[k4,decide_eq_false];exact λe=>cY (po _ g3)
def apX(h)(o:i1 h)(w)(hw:w<4)(cY:w∉h.all)(l:h.ds.length+h.q.length<=3):
  dX cR 145 [qb h,w,.int .i64 1] (.dP [qb (Ad h w),.bool (decide (0<=fP (k4 w) (rL h.n h.ds (h.q++[w])) 0)),.int .i64 0]):=by
 have n:=o.fh;have b:=o.tQ;have c:=Gc (w:I) h.ds R;have t:=aaF (w:I) h.q R;rw[apV cY]at c;rw[apW cY]at t
 have m:(h.ds.map fO).length=h.ds.length:=ef ..
 have q:(h.q.map iI).length=h.q.length:=ef ..
 have a:dX cR 201 [.agg [h.n,.int .i64 1,.dk (h.ds.map fO),.dk (h.q.map iI++[iI w])]] (.dP [qb (Ad h w),.dk ((rL h.n h.ds (h.q++[w])).map f1)]):=by have:=aaX ⟨h.n,h.ds,h.q++[w]⟩ b (by simp;omega);have e:(h.q++[w]).map iI=h.q.map iI++[iI w]:=w5;rwa[<-e]
 have i:=aaW h.n h.ds (h.q++[w]);rw[kG,QB]at i;refine d6 Tryz.func145 3 Z c2 (di ?_);refine df (Kt h o) (di ?_);refine df (Qw h n) (di ?_);refine df c (di ?_);refine df t (di ?_);refine gK (aaO (Qv h.q) R) (di ?_);refine fV 1000 100 (by show(h.q.map iI).length+1<=1000;omega) c1 c1 c1 (di ?_);refine df a (di ?_);refine df (Ap (w:I) (rL h.n h.ds (h.q++[w])) R) (di ?_);exact dd Z Z
def QF{h}(o:i1 h){w b}(n:(w,b)∈h.ds):∃i,∃cK:i<h.ds.length,fP (nH w) h.ds 0=(i) /\h.ds[i]=(w,b) /\ ∀c,hW h.ds w c=h.ds.set i (w,c):=by
 have⟨i,cK,e,O⟩:=Ak (p:=nH w) (l:=h.ds) (k:=0) ⟨_,n,by simp[nH]⟩
 have a:h.ds[i].1=w:=by rw[nH,FV]at O;omega
 have⟨j,q,f⟩:=kg.1 n
 have d:i=j:=by
  have r:=o.cls.eI;rcases Nat.lt_trichotomy i j with g|g|g
  .exact dQ (a.trans (by rw[f])) (o.cls.ne g q)
  .exact g
  .exact dQ ((by rw[f]:h.ds[j].1=w).trans a.symm) (o.cls.ne g cK)
 subst d;refine⟨i,cK,by omega,f,λc=>List.ext_getElem (by rw[hW,ef,h']) λk Q m=>?_⟩;rw[h']at m;simp[hW,JH,zX]
 by_cases g:i=k
 .subst g;rw[if_pos a,if_pos Z,a]
 .rw[cT g,cT];intro e;rcases Nat.lt_or_gt_of_ne g with g|g
  .exact o.cls.ne g m (a.trans e.symm)
  .exact o.cls.ne g cK (e.trans a.symm)
def QG{h w}(e:jV h w=N):(w,lP h w)∈h.ds:=by
 have⟨⟨a,b⟩,Q,d⟩:=h4.1 (Ai.1 e)
 cases d
 cases c:lP h a with
 |true=>exact F9.1 c
 |false=>
  cases b with
  |false=>exact Q
  |true=>rw[F9.2 Q]at c;cases c
def wS(h:hH)(w:V):hH×I:=if h.n<=hU h.ds then(h,6) else(qc h w,0)
def QH(h)(o:i1 h)(w)(d:jV h w=N)(c_:lP h w=L):
  dX cR 151 [qb h,w] (.dP [qb (wS h w).1,(wS h w).2]):=by
 have q:=o.fh;have r:=o.tQ;have n:=o.len;have l:=o.held;have m:=QG d;rw[c_]at m;have⟨i,cK,j,f,es⟩:=QF o m;have c:=Gc (w:I) h.ds R;rw[j]at c
 have k:(h.ds.map fO).length=h.ds.length:=ef ..
 have a:(h.ds.map fO)[i]?=U (fO (w,L)):=by rw[iO,fe cK,f];rfl
 refine d6 Tryz.func151 2 Z c2 (di ?_);refine df (Kt h o) (di ?_);refine df c (di ?_);refine ec R (cO ?_);refine dY a (di ?_);refine ec R (cO ?_);refine dY a (di ?_);refine df (aaJ h R R) (cO ?_);rw[wS];refine di ?_
 refine d3 (λg=>?_) λg=>?_
 .rw[if_pos (show h.n<=hU h.ds by omega)];refine di ?_;exact dd Z Z
 .rw[cT (show ¬h.n<=hU h.ds by omega)];have p:=Qt o d c_ R
  have e:(h.ds.map fO).set i (iM (fO (w,L)) 2 [c3.int .i64 1])=(hW h.ds w N).map fO:=by rw[es,sv];rfl
  have dj:=Qi (b:=N) o.cls.eI m;simp at dj;have s:=aaN ((h.n:I)-hU h.ds-1) (hW h.ds w N) p.cls R R R;rw[<-e]at s;refine di ?_;refine gK (Km (Gb h.ds) R) (di ?_);refine ec R (cO ?_);refine dY a (di ?_);refine ec R (cO ?_);refine dY a (di ?_);refine df s (di ?_);apply dd Z;show _=c3.dP [c3.agg [h.n,.int .i64 1,c3.dk ((hW h.ds w N).map fO),.dk (h.q.map iI)],.int .i64 0];rw[<-e];rfl
def apY(h)(o:i1 h)(w)(d:jV h w=N)(c_:lP h w=N):
  dX cR 155 [qb h,w] (.dP [qb (Ae h w),.int .i64 0]):=by
 have n:=o.fh;have j:=o.tQ;have l:=o.len;have m:=QG d;rw[c_]at m;have⟨i,cK,b,a,es⟩:=QF o m;have c:=Gc (w:I) h.ds R;rw[b]at c
 have f:(h.ds.map fO).length=h.ds.length:=ef ..
 have g:(h.ds.map fO)[i]?=U (fO (w,N)):=by rw[iO,fe cK,a];rfl
 have e:(h.ds.map fO).set i (iM (fO (w,N)) 2 [c3.int .i64 0])=(hW h.ds w L).map fO:=by rw[es,sv];rfl
 refine d6 Tryz.func155 2 Z c2 (di ?_);refine df (Kt h o) (di ?_);refine df c (di ?_);refine ec R (cO ?_);refine dY g (di ?_);refine gK (Km (Gb h.ds) R) (di ?_);refine e' ?_;apply dd Z;show _=c3.dP [c3.agg [h.n,.int .i64 1,c3.dk ((hW h.ds w L).map fO),.dk (h.q.map iI)],.int .i64 0];rw[<-e];rfl
def aaY(w:V)(l:J (V×dh)):(l.filter λx=>!nH w x)=l.filter λc=>c.1 !=w:=by congr 1;funext c;rw[BC];simp[nH];omega
def aaZ(w:V)(l:J V):(l.filter λx=>!k4 w x)=l.filter λx=>x !=w:=by congr 1;funext c;rw[BC];simp[k4];omega
def aa0(h)(o:i1 h)(w)(hw:w<4)(dg:jV h w=N):
 ∃nQ:J V,dX cR 157 [qb h,w] (.dP [qb (tR h w),.dk (nQ.map f1),.int .i64 0]):=by
 have fh:=o.fh;have tQ:=o.tQ;have f:=o.len;obtain⟨i,cK,e,g,es⟩:=QF o (QG dg);have a:=Gc (w:I) h.ds R;rw[e]at a;have b:=Cl.Ao 217 [.ip [w] 0] (nH w) (λc=>by refine d6 Tryz.func217 2 Z c2 (di ?_);rfl) h.ds R;have d:=Tk.Ao 219 [.ip [w] 0] (k4 w) (λc=>by refine d6 Tryz.func219 2 Z c2 (di ?_);rfl) h.q R;rw[aaY]at b;rw[aaZ]at d;have eD:=CA (λc:V×dh=>c.1 !=w) h.ds;have eo:=CA (λc:V=>c !=w) h.q;have he:=aaX ⟨h.n,h.ds.filter λc=>c.1 !=w,h.q.filter λx=>x !=w⟩ tQ g3
 have j:(h.ds.map fO).length=h.ds.length:=ef ..
 have l:(h.q.map iI).length=h.q.length:=ef ..
 refine⟨rL h.n (h.ds.filter λc=>c.1 !=w) (h.q.filter λx=>x !=w),d6 Tryz.func157 2 Z c2 (di ?_)⟩;refine df (Kt h o) (di ?_);refine df a (di ?_);refine gK (Km (Gb h.ds) R) (di ?_);refine wt b [] Z eN Z (di ?_);refine gK (aaO (Qv h.q) R) (di ?_);refine wt d [] Z eN Z (di ?_);refine df he (di ?_);exact dd Z Z
def Ku:∀(l:J (V×dh)),gN 2 (l.map ie)=N
 | []=>rfl|_::r=>Ku r
def Gf:∀(l:J V),gN 1 (l.map f1)=N
 | []=>rfl|_::r=>Gf r
def QI{l:J (V×dh)}{e}(h:e∈l.map ie):e.length=2:=by obtain⟨x,_,rfl⟩:=h4.1 h;rfl
def QJ(w l)(b:l.length<=1000000):dX cR 205 [.dk (l.map ie),.int .i64 w] (.bool (decide (0<=fP (nH w) l 0))):=by
 have a:dX cR 269 [.dk (l.map ie),.fn 270 [.ip [.int .i64 w] 0]] (.bool (decide (0<=fP (nH w) l 0))):=by refine d6 Tryz.func269 2 Z c2 (cO ?_);exact df (aaG 270 _ _ (λc=>by refine d6 Tryz.func270 2 Z c2 (di ?_);rfl) l b) (c9 (dd Z Z))
 refine d6 Tryz.func205 2 Z c2 (di ?_);refine e' ?_;rfl
def Aq(l:hz):dh:=match l.q with
 | []=>L
 |x::_=>match l.c7 with
  | []=>N
  |_::_=>!l.ex&&!x.2
def QK(l):dX cR 268 [vg l] (.bool (Aq l)):=by
 have⟨s,e,q⟩:=l
 cases q with
 |nil=>refine d6 QL 1 Z c2 (di ?_);rfl
 |cons x q=>
  cases s with
  |nil=>refine d6 QL 1 Z c2 (di ?_);exact dd Z Z
  |cons y s=>
   cases e with
   |true=>refine d6 QL 1 Z c2 (di ?_);exact dd Z Z
   |false=>refine d6 QL 1 Z c2 (di ?_);refine ec (i:=0) dt (cO ?_);refine dY (x:=ie x) Z (di ?_);exact dd Z Z
def qX.Ks{l}(o:qX l):Aq l=L:=by
 have:=o.shut;rw[Aq];split
 .rfl
 grind
def yo(l:J V):V->I
 |0=>-1
 |k+1=>((l[k]?.getD 0:V):I)
def QM{l}(h:l.Pairwise (·<·)){k}(a:k<l.length):yo l k<(l[k]:I):=by
 cases k with|zero=>rw[yo];omega|succ k=>rw[yo,fe R,v9];have:=(xO.1 h) k (k+1) R a R;omega
def QN{l k}(h:k<l.length):yo l (k+1)=(l[k]:I):=by rw[yo,fe h,v9]
def QO{l}{w:V}(h:w∉l):fP (k4 w) l 0=-1:=by refine wQ λx a=>?_;rw[k4,decide_eq_false];grind
def QP{l}{w:V}(h:w∉l.map (·.1)):fP (nH w) l 0=-1:=by refine wQ λx a=>?_;rw[nH,decide_eq_false];grind
def Kv(l)(o:qX l):dX cR 204 [vg l] (.bool N):=by
 have s:=o.len;have Q:=o.one
 have u:(l.c7.map f1).length=l.c7.length:=ef ..
 have v:(l.q.map ie).length=l.q.length:=ef ..
 have n:=py.1 o.eI;refine d6 Tryz.func204 1 Z c2 (di ?_)
 refine iD (λg=>?_) λg=>?_
 .have:=Q g;refine di ?_;refine eZ (D:=V) (λk=>[(1,.ptr 1 0 0),(3,.d (yo l.c7 k)),(25,.d (.dk (l.c7.map f1))),(26,.d (l.c7.map f1).length),(27,.d k)]) (λ_=>[(1,.box (l.cells.map dn.d) L)])
   (λk=>k<=l.c7.length) (λk=>l.c7.length-k) 0 (e3 _) (dZ (dT ih eN d0)) ?_
  intro k i
  conv=>whnf
  refine d3 (λdz=>?_) λdz=>?_
  .have a:k<l.c7.length:=R
   have q:=QM o.up a;have b:=o.lt l.c7[k] (n8 _ (hS a));refine ec R (cO ?_);refine dY (x:=f1 l.c7[k]) (by simp[a]) (c9 ?_);refine di ?_;exact⟨k+1,by omega,by omega,dZ (dT ⟨Z,by rw[QN a];rfl,Z,Z,Z,dU⟩ eN d0)⟩
  refine di ?_;refine eZ (D:=V) (λk=>[(1,.ptr 1 0 0),(41,.d (.dk (l.q.map ie))),(42,.d (l.q.map ie).length),(43,.d k)]) (λ_=>[(1,.box (l.cells.map dn.d) L)])
   (λk=>k<=l.q.length) (λk=>l.q.length-k) 0 (e3 _) (dZ (dT fj eN d0)) ?_
  intro k i
  conv=>whnf
  refine d3 (λdz=>?_) λdz=>?_
  .have a:k<l.q.length:=R
   have m:l.q[k].1∈l.q.map (·.1):=rJ (hS a);have b:=o.lt l.q[k].1 (po _ m);have c:=Ap (l.q[k].1:I) l.c7 R;rw[QO λg=>n.2.2 _ g _ m Z]at c
   have t:dX cR 205 [.dk (((l.q.map ie).take k).drop 0),l.q[k].1] (.bool (decide (0<=fP (nH l.q[k].1) (l.q.take k) 0))):=by rw[Cg,<-xN];exact QJ _ _ g3
   rw[QP (w:=l.q[k].1) λg=>by
    have⟨x,r,e⟩:=h4.1 g;obtain⟨j,f,rfl⟩:=kg.1 r;rw[pn]at f;rw[QC]at e
    exact Kk n.2.1 (show j<k by omega) (by rwa[ef]) (by simpa using e)]at t
   refine ec R (cO ?_);refine dY (x:=ie l.q[k]) (by simp[a]) (c9 ?_);refine di ?_;refine df c (di ?_);refine fC (λe d=>QI d) (cO ?_);refine oE R (di ?_);refine df t (di ?_);exact⟨k+1,by omega,by omega,(dZ (dT fj eN d0))⟩
  refine di ?_;refine df (QK l) (cO ?_);rw[o.Ks];rfl
 .refine di ?_;refine eZ (D:=V) (λk=>[(1,.ptr 1 0 0),(3,.d (yo l.c7 k)),(25,.d (.dk (l.c7.map f1))),(26,.d (l.c7.map f1).length),(27,.d k)]) (λ_=>[(1,.box (l.cells.map dn.d) L)])
   (λk=>k<=l.c7.length) (λk=>l.c7.length-k) 0 (e3 _) (dZ (dT ih eN d0)) ?_
  intro k i
  conv=>whnf
  refine d3 (λdz=>?_) λdz=>?_
  .have a:k<l.c7.length:=R
   have q:=QM o.up a;have b:=o.lt l.c7[k] (n8 _ (hS a));refine ec R (cO ?_);refine dY (x:=f1 l.c7[k]) (by simp[a]) (c9 ?_);refine di ?_;exact⟨k+1,by omega,by omega,dZ (dT ⟨Z,by rw[QN a];rfl,Z,Z,Z,dU⟩ eN d0)⟩
  refine di ?_;refine eZ (D:=V) (λk=>[(1,.ptr 1 0 0),(41,.d (.dk (l.q.map ie))),(42,.d (l.q.map ie).length),(43,.d k)]) (λ_=>[(1,.box (l.cells.map dn.d) L)])
   (λk=>k<=l.q.length) (λk=>l.q.length-k) 0 (e3 _) (dZ (dT fj eN d0)) ?_
  intro k i
  conv=>whnf
  refine d3 (λdz=>?_) λdz=>?_
  .have a:k<l.q.length:=R
   have m:l.q[k].1∈l.q.map (·.1):=rJ (hS a);have b:=o.lt l.q[k].1 (po _ m);have c:=Ap (l.q[k].1:I) l.c7 R;rw[QO λg=>n.2.2 _ g _ m Z]at c
   have t:dX cR 205 [.dk (((l.q.map ie).take k).drop 0),l.q[k].1] (.bool (decide (0<=fP (nH l.q[k].1) (l.q.take k) 0))):=by rw[Cg,<-xN];exact QJ _ _ g3
   rw[QP (w:=l.q[k].1) λg=>by
    have⟨x,r,e⟩:=h4.1 g;obtain⟨j,f,rfl⟩:=kg.1 r;rw[pn]at f;rw[QC]at e
    exact Kk n.2.1 (show j<k by omega) (by rwa[ef]) (by simpa using e)]at t
   refine ec R (cO ?_);refine dY (x:=ie l.q[k]) (by simp[a]) (c9 ?_);refine di ?_;refine df c (di ?_);refine fC (λe d=>QI d) (cO ?_);refine oE R (di ?_);refine df t (di ?_);exact⟨k+1,by omega,by omega,(dZ (dT fj eN d0))⟩
  refine di ?_;refine df (QK l) (cO ?_);rw[o.Ks];rfl
def aa1(l)(o:qX l)(w:V):dX cR 150 [vg l,w] (.dP [.bool (vi l w),.bool (vi l w&&l.ex)]):=by
 have n:=o.len;have c:=Ap (w:I) l.c7 R
 have e:decide (0<=fP (k4 w) l.c7 0)=vi l w:=by
  rw[BC,FV,Kj,vi];simp only[wP,List.contains_eq_any_beq];constructor
  .rintro⟨x,a,g⟩;exact⟨x,a,by simp[k4]at g⊢;omega⟩
  .rintro⟨x,a,g⟩;exact⟨x,a,by simp[k4]at g⊢;omega⟩
 rw[e]at c;refine d6 Tryz.func150 2 Z c2 (di ?_);refine df (Kv l o) (di ?_);refine df c (di ?_)
 cases g:vi l w with|false=>refine di ?_;exact dd Z Z|true=>refine di ?_;apply dd Z;rfl
structure iK(s:J dS):Prop where
 n:35<=s.length
 m:s.length<=64
 z:∀i,(h:i<s.length)->s[i].size=16
def iK.u9{s}(h:iK s){l}(a:l.length<=200)(hw:∀w∈l,su s.length w=N):pu ⟨s,l⟩:=
 ⟨by have:=h.n;grind,h.m,a,h.z,λi cK=>hw _ (hS cK)⟩
def iK.us{s}(h:iK s):ix ⟨s,[]⟩:=⟨h.u9 dt dt,h.n⟩
def iK.set{s}(h:iK s)(i){b}(a:b.size=16):iK (s.set i b):=by
 refine⟨by rw[h'];exact h.n,by rw[h'];exact h.m,λj c=>?_⟩;rw[zX];split
 .exact a
 .exact h.z _ _
def Q5{s}(h:iK s){l}{n:I}{b}(c:l.length<200)(hw:∀w∈l,su s.length w=N)(cW:0<=n)(Q:n<s.length)(a:b.size=16):
  oR ⟨s,l⟩ (pw n b)=⟨s,l++[(n,b)]⟩ /\ ∀w∈l++[(n,b)],su s.length w=N:=by
 have k:su s.length (n,b)=N:=x8.2 ⟨cW,Q,a⟩;constructor
 .show(qP ⟨s,l⟩ (n,b)).1=_;rw[qP,if_pos ⟨h.u9 R hw,k⟩,cT lV]
 grind
def abE{s}(h:iK s){l}(a:l.length<=200)(hw:∀w∈l,su s.length w=N):oR ⟨s,l⟩ tE=⟨pv s l,[]⟩:=by show wC ⟨s,l⟩=_;rw[wC,if_pos (h.u9 a hw)]
def abF{s}(h:iK s){n:I}{b}(cW:0<=n)(Q:n<s.length)(a:b.size=16):[pw n b,tE].foldl oR ⟨s,[]⟩=⟨s.set n.toNat b,[]⟩:=by have⟨c,w1⟩:=Q5 h (l:=[]) dt dt cW Q a;simp only[arp,abG,c];rw[abE h dt w1];rfl
def abH{s}(h:iK s){n m:I}{b c}(cW:0<=n)(Q:n<s.length)(d:b.size=16)(a:0<=m)(g:m<s.length)(f:c.size=16):[pw n b,pw m c,tE].foldl oR ⟨s,[]⟩=⟨(s.set n.toNat b).set m.toNat c,[]⟩:=by have⟨i,w1⟩:=Q5 h (l:=[]) dt dt cW Q d;have⟨e,w⟩:=Q5 h (l:=[]++[(n,b)]) dt w1 a g f;simp only[arp,abG,i,e];rw[abE h dt w];rfl
def pF(s:J dS)(p:V)(a b:dS):J dS:=(((((s.set 1 a).set 2 b).set 0 (yb p)).set (2*p+1) a).set (2*p+2) b).set 0 jE
def abI:jE.size=16:=wB 16
def Q6{s:dS}(h:s.size=32):(s.extract 0 16).size=16/\ (s.extract 16 32).size=16:=eG
def abJ{s:dS}(h:s.size=32):s.extract 0 16++s.extract 16 32=s:=by
 have b:(ev s).length=32:=by rwa[YR]
 apply JN;rw[JO,Po,Po,Cg];rw[u1 (show((ev s).drop 16).length<=32-16 by simp_all)];simp_all
def Q7{s}(h:iK s){p}(Q:1<=p)(d:p<=16){x}(e:x.size=32):(u_ p x).foldl oR ⟨s,[]⟩=⟨pF s p (x.extract 0 16) (x.extract 16 32),[]⟩:=by
 have⟨a,b⟩:=Q6 e;have cY:=h.n;rw[u_,FR,FR,FR];rw[abH h c1 R a c1 R b];have r:=(h.set 1 a).set 2 b
 have eD:((s.set 1 (x.extract 0 16)).set 2 (x.extract 16 32)).length=s.length:=dt
 rw[show((1:I).toNat)=1 from Z,show((2:I).toNat)=2 from Z];rw[abF r c1 R (Pv p)];have c:=r.set 0 (Pv p)
 have eo:(((s.set 1 (x.extract 0 16)).set 2 (x.extract 16 32)).set 0 (yb p)).length=s.length:=dt
 rw[show((0:I).toNat)=0 from Z];rw[abH c R R a R R b];rw[show(2*(p:I)+1).toNat=2*p+1 by omega,show(2*(p:I)+1+1).toNat=2*p+2 by omega];have f:=(c.set (2*p+1) a).set (2*p+2) b;rw[abF f c1 (by simp;omega) abI];rfl
def iK.pF {s:J dS} (h:iK s) {p:V} {a b:dS} (dq:a.size=16) (hb:b.size=16):iK (pF s p a b):=
 (((((h.set 1 dq).set 2 hb).set 0 (Pv p)).set _ dq).set _ hb).set 0 abI
def abK(s p a b):(pF s p a b).length=s.length:=by simp[pF]
def rO(s:J dS)(p:V):dS:=s[2*p+1]?.getD fI++s[2*p+2]?.getD fI
def abL{s}(h:iK s){p}(Q:1<=p)(c:p<=16){a b}:rO (pF s p a b) p=a++b:=by have cY:=h.n;simp only[rO,pF,lF,h'];simp;grind
def abM{s p q}(Q:1<=q)(n:p≠q){a b}:rO (pF s p a b) q=rO s q:=by simp only[rO,pF,lF,h'];rw[cT R,cT R,cT R,cT R,cT R,cT R,cT R,cT R,cT R,cT R,cT R,cT R]
def yr(s:J dS)(x:e_):J dS:=pF s x.1.toNat ((l9 x).extract 0 16) ((l9 x).extract 16 32)
def ys(s:J dS)(p:V):J dS:=pF s p ((k0 32).extract 0 16) ((k0 32).extract 16 32)
def iL(s:J dS)(p:V):e_×I:=
 if(lL (rO s p)).2≠0 then(d',(lL (rO s p)).2) else if(lL (rO s p)).1.1≠(p:I) then(d',9) else((lL (rO s p)).1,0)
def arq{s}(h:iK s){p:V}(Q:1<=p)(a:p<=16):k2 ⟨s,[]⟩ p=iL s p:=by
 rw[anr ⟨h.us,by omega,by omega⟩]
 have e:i' ⟨s,[]⟩ (2*(p:I)+1)++i' ⟨s,[]⟩ (2*(p:I)+1+1)=rO s p:=by simp[i',pick,abG,rO];rfl
 rw[e,iL]
def abN{s}(h:iK s){p:V}(Q:1<=p)(a:p<=16){x}(b:x.size=32):p4 ⟨s,[]⟩ p x=(⟨pF s p (x.extract 0 16) (x.extract 16 32),[]⟩,0) /\lf ⟨s,[]⟩ p x=(u_ p x,0):=by
 have e:lf ⟨s,[]⟩ p x=(u_ p x,0):=by rw[lf,if_pos ⟨h.us,⟨R,R⟩,b⟩,gl]
 refine⟨?_,e⟩;rw[p4,e,if_pos Z,u'];simp;rw[Q7 h Q a b]
def abO{x}(h:gp x=N):∃p:V,x.1=(p) /\1<=p/\p<=16:=by have:=kJ.1 h;exact⟨x.1.toNat,R,R,R⟩
def abP{s}(h:iK s){x}(a:gp x=N):qR ⟨s,[]⟩ x=(⟨yr s x,[]⟩,0) /\sx ⟨s,[]⟩ x=u_ x.1.toNat (l9 x) /\iK (yr s x) /\ (yr s x).length=s.length:=by
 have cU:=kJ.1 a;have⟨p,e,Q,b⟩:=abO a;have z:=z1 cU.2.2.2.2;have⟨fY,gY⟩:=Q6 z;have⟨g6,c⟩:=abN h Q b z;refine⟨?_,?_,iK.pF h fY gY,abK _ _ _ _⟩
 .rw[qR,if_pos a,e,g6,yr,e,gl]
 .rw[sx,if_pos (.inl R),if_pos a,e,c,gl]
def abQ{s}(h:iK s){p:V}(Q:1<=p)(a:p<=16):yc ⟨s,[]⟩ p=(⟨ys s p,[]⟩,0) /\sx ⟨s,[]⟩ ((p),0,fI)=u_ p (k0 32) /\iK (ys s p) /\ (ys s p).length=s.length:=by have z:=wB 32;have⟨fY,gY⟩:=Q6 z;have⟨g6,b⟩:=abN h Q a z;refine⟨by assumption,?_,iK.pF h fY gY,abK _ _ _ _⟩;rw[sx,cT dt,b]
def abR{s}(h:iK s){x}(a:gp x=N){q}(Q:1<=q)(d:q<=16):iL (yr s x) q=if x.1=(q) then(x,0) else iL s q:=by
 have⟨p,c,fA,b⟩:=abO a;have z:=z1 (kJ.1 a).2.2.2.2;rw[yr,c,gl]
 by_cases e:p=q
 .subst e;rw[if_pos Z,iL,abL h fA b,abJ z,amT a,cT (λq=>q Z),cT (λq=>q c)]
 .rw[cT R,iL,abM Q e];rfl
def KQ{s}(h:iK s){p q}(fA:1<=p)(a:p<=16)(Q:1<=q)(b:q<=16):iL (ys s p) q=if p=q then(d',3) else iL s q:=by
 have z:=wB 32;rw[ys]
 by_cases e:p=q
 .subst e;rw[if_pos Z,iL,abL h fA a,abJ z,YU,if_pos (show(3:I)≠0 by decide)]
 .rw[cT e,iL,abM Q e];rfl
def Q8:iK (eL 35 jE):=⟨dt,dt,λi h=>by rw[List.getElem_replicate];rfl⟩
def ars:jE++jE=k0 32:=JN f0
def Q9{q}(h:q<=16):iL (eL 35 jE) q=(d',3):=by
 have e:rO (eL 35 jE) q=k0 32:=by simp only[rO,zo];rw[if_pos R,if_pos R,v9,ars]
 rw[iL,e,YU,if_pos (show(3:I)≠0 by decide)]
def art{s}(h:iK s)(cW:s[0]?.getD fI=jE):JW ⟨s,[]⟩=⟨s,[]⟩:=by
 have e:ry ⟨s,[]⟩=[]:=by rwa[ry,if_pos h.us,if_pos]
 rw[JW,e];rfl
def Q_{s}(h:iK s){p a b}:(pF s p a b)[0]?.getD fI=jE:=by have:=h.n;simp[pF,lF,h'];grind
def aru{f}(h:ew f){p}(O:p≠0)(cY:∀i (cK:i<f.cN.length),f.cN[i].1≠p):Tb.ia f.eh p=(0,L):=by
 rcases h.wL O with⟨e,_⟩|⟨i,_,c8⟩
 .exact e
 .exact dQ c8.cN (cY i c8.cK)
def Q'{f}(h:ew f){x}(a:x∈f.dK):∃i,hG f x.1 i:=by have⟨k,b⟩:=h.tJ x a;have cU:=aai h.dK a;have⟨i,_,cK,e⟩:=h.frame cU.1 b;exact⟨i,p_ h R cK e⟩
def arv{f}(h:ew f){p t}(d:1<=p)(g:p<=16)(cW:0<=t)(Q:t<=2147483647)(cY:∀i (cK:i<f.cN.length),f.cN[i].1≠p)(j:∀x∈f.dK,x.2<=t):Dt.hO f.dK p t=(f.dK++[(p,t)],0):=by
 have a:¬0<=Dt.gy f.dK p 0:=λq=>by
  have⟨x,b,e⟩:=Dt.qT.1 q;have⟨i,c8⟩:=Q' h b;exact cY i c8.cK (c8.cN.trans e)
 have dw:Dt.m9 f.dK t=L:=by
  unfold Dt.m9
  by_cases c:0<f.dK.length
  .grind
  .simp[c]
 rw[Dt.hO,cT,cT eG,cT a];intro q;rcases q with q|q|q
 .rw[h.dK]at q;cases q
 .simp[Dt.oS]at q;omega
 .simp[Dt.qS]at q;omega
def arw{f p now}(gb)(h:ew f)(O:gp p=N)(cW:0<=now)(Q:now<=2147483647)(cY:∀i (cK:i<f.cN.length),f.cN[i].1≠p.1)(b:∃i,∃cK:i<f.cN.length,f.cN[i].1=0)(a:∀x∈f.dK,x.2<=now):
  ∃i,∃cK,f.cN[i].1=0/\mI f p now gb=({mc f p i with dK:=bif gb then f.dK++[(p.1,now)] else f.dK},0) /\
   ew {mc f p i with dK:=bif gb then f.dK++[(p.1,now)] else f.dK} /\hG {mc f p i with dK:=bif gb then f.dK++[(p.1,now)] else f.dK} p.1 i:=by
 have cU:=kJ.1 O;have n:=aru h (show p.1≠0 by omega) cY;rcases F6 f.cN with⟨_,o⟩|⟨i,e,cK,z⟩
 .simp_all
 have m:=arv h cU.1 cU.2.1 cW Q cY a;have⟨c,d,_⟩:=P2 h cU.1 cU.2.1 cK n
 have M:=ew.P3 (l:=bif gb then f.dK++[(p.1,now)] else f.dK) h O cK z n (by
  cases gb with
  |false=>exact h.dK
  |true=>
   have:=Dt.ZA (l:=f.dK) (p:=p.1) (t:=now) (by rw[m])
   simp_all) (by
  grind)
 refine⟨i,cK,z,?_,M.1,M.2⟩;rw[mI,cT,n,cT (show ¬L=N by decide),e,cT (show ¬N=L by decide),gl,d,cT (λq=>q Z)]
 .cases gb with
  |false=>rw[cT c1];rfl
  |true=>rw[if_pos Z,m,cT (λq=>q Z)];rfl
 .intro q;rcases q with q|q|q|q
  .exact q (sD.2 h)
  .simp_all
  .omega
  .omega
def arx{p}(h:ew p.f)(f:∃i,∃cK:i<p.f.cN.length,p.f.cN[i].1=0):km p=(p,[],0):=by
 rcases CI h with⟨i,cK,_,e⟩|⟨n,_⟩|⟨n,_⟩
 .show om (16+1) p []=_;rw[om,e,cT (λq=>q Z),if_pos Z]
 .simp_all
 simp_all
def ary{p}(h:ew p.f)(o:∀i (cK:i<p.f.cN.length),p.f.cN[i].1≠0)(n:∀i (cK:i<p.f.cN.length),p.f.cN[i].2.1≠0):km p=(p,[],6):=by
 rcases CI h with⟨i,cK,z,e⟩|⟨_,_,e⟩|⟨_,l,a,q,c8,_,_,cW,_⟩
 .simp_all
 .show om (16+1) p []=_;rw[om,e,if_pos (show(6:I)≠0 by decide)]
 simp_all
def arz{f p i}(c8:hG f p i)(O:(f.cN[i]'c8.cK).2.1≠0):mb f p=(vd f i (CH (f.cN[i]'c8.cK)),0):=by
 have h:=c8.right
 have e:hF f p=((i:I),0):=by rw[hF,if_pos (sD.2 h),(pA h.eh).2 ⟨c8.fA,c8.mem⟩];rfl
 rw[mb,e,cT (λq=>q Z),gl,jT c8.cK,cT O]
def arA{f p i}(c8:hG f p i)(O:(f.cN[i]'c8.cK).2.1<2147483647):lN f p=(vd f i (Aa (f.cN[i]'c8.cK)),0):=by
 have cX:=c8.right
 have e:hF f p=((i:I),0):=by rw[hF,if_pos (sD.2 cX),(pA cX.eh).2 ⟨c8.fA,c8.mem⟩];rfl
 rw[lN,e,cT (λq=>q Z),gl,jT c8.cK,cT R]
structure Gm(p:fW):Prop where
 fm:ew p.f
 rest:iK p.d.sec
 fz:p.d.fz=[]
 sM:p.d.sec[0]?.getD fI=jE
 l6:0<=p.now
 fh:p.now<=2147483647
 dK:∀x∈p.f.dK,x.2<=p.now
def Gm.d{p}(h:Gm p):p.d=⟨p.d.sec,[]⟩:=by have⟨f,⟨s,c⟩,n⟩:=p;have:=h.fz;simp_all
def Gm.get{p}(h:Gm p){q:V}(Q:1<=q)(a:q<=16):k2 p.d q=iL p.d.sec q:=by have:=arq h.rest Q a;rwa[<-h.d]at this
def arB(id:I):e_:=(id,1,fI)
def abS{id}(Q:1<=id)(h:id<=16):gp (arB id)=N:=kJ.2 ⟨Q,h,show(1:I) <=1 by decide,show(1:I) <=2147483647 by decide,show fI.size<=16 by decide⟩
def Ra{p k id b}(Q:1<=id)(a:id<=16)(c:k=3\/k=4\/k=5):iS p (k,id,b)=((oW p (k,id,b)).1,(oW p (k,id,b)).2.1,[],(oW p (k,id,b)).2.2):=by rw[iS,cT lV,cT lV,cT lV,cT lV,cT lV,cT lV,cT lV]
def abT{p r l x}(m:km p=(r,l,0))(a:ew r.f)(b:gp x=N)(cW:0<=r.now)(Q:r.now<=2147483647)(gb)(cY:∀i (cK:i<r.f.cN.length),r.f.cN[i].1≠x.1)(h:∃i,∃cK:i<r.f.cN.length,r.f.cN[i].1=0)(t:∀y∈r.f.dK,y.2<=r.now):
  ∃i,∃cK,r.f.cN[i].1=0/\rF p x gb=(⟨{mc r.f x i with dK:=bif gb then r.f.dK++[(x.1,r.now)] else r.f.dK},r.d,r.now⟩,x,l,0) /\
   ew {mc r.f x i with dK:=bif gb then r.f.dK++[(x.1,r.now)] else r.f.dK} /\hG {mc r.f x i with dK:=bif gb then r.f.dK++[(x.1,r.now)] else r.f.dK} x.1 i:=by
 have⟨i,cK,z,e,c,g⟩:=arw gb a b cW Q cY h t;refine⟨i,cK,z,?_,c,g⟩;rw[rF,m,cT (λq=>q Z)];simp only[];simp_all
def Rb{p a i}(c8:hG p.f a.2.1 i)(O:(p.f.cN[i]'c8.cK).2.1≠0):oW p a=
  if a.1=4 then(if(iR p.f a.2.1 a.2.2 p.now).2≠0 then(p,d',(iR p.f a.2.1 a.2.2 p.now).2) else(⟨(iR p.f a.2.1 a.2.2 p.now).1,p.d,p.now⟩,nB (iR p.f a.2.1 a.2.2 p.now).1.dE i,0))
  else if a.1=5 then(if(mb p.f a.2.1).2≠0 then(p,d',(mb p.f a.2.1).2) else(⟨(mb p.f a.2.1).1,p.d,p.now⟩,d',0))
  else(p,p.f.dE[i]'c8.O,0):=by
 rw[oW,qa c8,cT,gl,nC c8.O];rintro (g|g)
 .cases g
 .rw[gl,jT c8.cK]at g;exact O g
def hI{α:Type}(P:V->α)(q:V)(x:α):V->α:=λk=>if k=q then x else P k
def jZ{α}(P q)(x:α):hI P q x q=x:=if_pos Z
def mK{α}(P){q k}(x:α)(h:k≠q):hI P q x k=P k:=cT h
structure yt(s:J dS)(l:J (I×I))(P:V->e_)(v:I):Prop where
 lS:∀q:V,1<=q->q<=16->(∀x∈l,x.1≠(q:I))->iL s q=if(P q).1=0 then(d',3) else(P q,0)
 sN:∀q:V,1<=q->q<=16->P q=d'\/ (gp (P q)=N/\ (P q).1=(q:I))
 rP:∀q,(P q).2.1<=v
 gX:∀q:V,1<=q->q<=16->iL s q=(d',3) \/ ((iL s q).2=0/\ (iL s q).1.2.1<=v)
structure ft(p:fW)(P:V->e_)(W:V->I)(v u:I):Prop where
 ei:Gm p
 pins:jU p.f.cN W
 at_:∀(q:V) (i:V) (c8:hG p.f (q:I) i),p.f.dE[i]'c8.O=P q
 on:yt p.d.sec p.f.dK P v
 tY:∀q,W q<=u
def yt.vq{s l P v}(h:yt s l P v){q}(Q:1<=q)(a:q<=16)(z:(P q).1≠0):gp (P q)=N/\ (P q).1=(q):=by
 rcases h.sN q Q a with e|e
 .rw[e]at z;exact dQ Z z
 .exact e
def ft.out{p P W v u}(h:ft p P W v u){q:V}(Q:1<=q)(cY:∀i (cK:i<p.f.cN.length),p.f.cN[i].1≠(q)):∀x∈p.f.dK,x.1≠(q):=λx a e=>by
 have⟨i,c8⟩:=Q' h.ei.fm a;exact cY i c8.cK (c8.cN.trans e)
def ft.KR{p P W v u}(h:ft p P W v u){q:V}(Q:1<=q)(a:q<=16)(cY:∀i (cK:i<p.f.cN.length),p.f.cN[i].1≠(q)):W q=0:=by
 rcases h.pins q Q a with⟨i,cK,e,_⟩|⟨_,e⟩
 .simp_all
 .exact e
def ft.As{p P W v u}(h:ft p P W v u){q i:V}(c8:hG p.f (q) i):W q=(p.f.cN[i]'c8.cK).2.1:=by have:=h.pins.at c8;assumption
def ft.J7{p P W v u}(h:ft p P W v u){l a}(s:px p.f.cN p.f.hand.toNat l a):ft ⟨tM p.f (l,a),p.d,p.now⟩ P W v u:=by have⟨c,d,o,f⟩:=s.out;have m:=h.ei.fm.J7 (q:=(l,a)) s;exact⟨⟨m,h.ei.rest,h.ei.fz,h.ei.sM,h.ei.l6,h.ei.fh,h.ei.dK⟩,jU.same h.pins c o,λq i c8=>have cK:i<l.length:=c8.cK;have b:(q:I)≠0:=AN;have e:=c8.cN;h.at_ q i (p_ h.ei.fm b R (by rwa[<-(o i R cK).1])),h.on,h.tY⟩
def ft.clean{p P W v u}(h:ft p P W v u){q i:V}(c8:hG p.f (q) i):ft ⟨yg p.f q,⟨yr p.d.sec (p.f.dE[i]'c8.O),[]⟩,p.now⟩ P W v u:=by
 have m:=Qa h.ei.fm q;have⟨s1,s2,s,l⟩:=abP h.ei.rest c8.wJ;have g:=c8.dE;have f:=AN;refine⟨⟨m,s,Z,Q_ h.ei.rest,h.ei.l6,h.ei.fh,λx b=>h.ei.dK x (n9.1 b).1⟩,h.pins,λk j B=>?_,⟨λk Q a cY=>?_,h.on.sN,h.on.rP,λk Q a=>?_⟩,h.tY⟩
 .exact h.at_ k j (p_ h.ei.fm (by have:=B.fA;omega) B.cK B.cN)
 .rw[abR h.ei.rest c8.wJ Q a]
  by_cases e:(p.f.dE[i]'c8.O).1=(k:I)
  .rw[if_pos e];have c:q=k:=R;subst c;rw[<-h.at_ q i c8,cT R]
  .rw[cT e];refine h.on.lS k Q a λx b d=>cY x (n9.2 ⟨b,?_⟩) d;grind
 .rw[abR h.ei.rest c8.wJ Q a];split
  .exact .inr ⟨Z,by rw[h.at_ q i c8];exact h.on.rP q⟩
  .exact h.on.gX k Q a
def ft.rel{p P W v u}(h:ft p P W v u){q i:V}(c8:hG p.f (q) i)(cW:(p.f.cN[i]'c8.cK).2.1=0){s' P'}(A:iK s')(E:s'[0]?.getD fI=jE)
  (c:∀k,k≠q->P' k=P k)(l:∀k,1<=k->k<=16->k≠q->iL s' k=iL p.d.sec k)(F:iL s' q=if(P' q).1=0 then(d',3) else(P' q,0))(w:P' q=d'\/ (gp (P' q)=N/\ (P' q).1=(q:I)))(cU:(P' q).2.1<=v):
  ft ⟨mH p.f i q,⟨s',[]⟩,p.now⟩ P' W v u:=by
 have t:=ew.rel c8;have z:=AN;have cK:=c8.cK;have⟨g6,D⟩:=P1 (p:=(q:I)) h.ei.fm.dK;have cP:=D;have r:(mH p.f i q).cN=p.f.cN.set i (0,0,L):=Z;have y:(mH p.f i q).dE=p.f.dE.set i mG:=Z;refine⟨⟨t,A,Z,E,h.ei.l6,h.ei.fh,λx g=>h.ei.dK x ((cP x).1 g).1⟩,?_,λk j B=>?_,⟨λk Q a cY=>?_,λk Q a=>?_,λk=>?_,λk Q a=>?_⟩,h.tY⟩
 .refine jU.set h.pins cK c8.uniq λk Q a=>⟨λe=>?_,λ_ e=>?_,λ_ _=>Z⟩
  .omega
  .have m:k=q:=by rw[c8.cN]at e;omega
   subst m;rw[h.As c8,cW]
 .have dL:j<(p.f.cN.set i (0,0,L)).length:=B.cK;have f:(p.f.cN.set i (0,0,L))[j].1=(k:I):=B.cN;have s:=B.fA
  have n:i≠j:=λe=>by
   grind
  rw[wK n]at f;have b:=GZ;have C:=p_ h.ei.fm R b f;have d:j<(p.f.dE.set i mG).length:=B.O;show(p.f.dE.set i mG)[j]'d=_;rw[wK n,h.at_ k j C,c];intro e;subst e;exact n (c8.wI b f).symm
 .by_cases e:k=q
  .simp_all
  .rw[l k Q a e,c k e];exact h.on.lS k Q a λx g o=>cY x ((cP x).2 ⟨g,R⟩) o
 .by_cases e:k=q
  .simp_all
  .rw[c k e];exact h.on.sN k Q a
 .by_cases e:k=q
  .simp_all
  .rw[c k e];exact h.on.rP k
 .by_cases e:k=q
  .grind
  .rw[l k Q a e];exact h.on.gX k Q a
def ft.arC{p P W v u}(h:ft p P W v u){q i:V}(c8:hG p.f (q) i)(cW:(p.f.cN[i]'c8.cK).2.1=0)(cY:∀x∈p.f.dK,x.1≠(q)):ft ⟨mH p.f i q,p.d,p.now⟩ P W v u:=by
 have b:1<=q:=AN
 have a:q<=16:=by have:=c8.z';omega
 have:=h.rel c8 cW (s':=p.d.sec) (P':=P) h.ei.rest h.ei.sM (λ_ _=>Z) (λ_ _ _ _=>Z) (h.on.lS q b a cY) (h.on.sN q b a) (h.on.rP q);rwa[<-h.ei.d]at this
def ft.arD{p P W v u}(h:ft p P W v u){q:V}(Q:1<=q)(b:q<=16)(cU:0<=v)(cY:∀i (cK:i<p.f.cN.length),p.f.cN[i].1≠(q)):ft ⟨p.f,⟨ys p.d.sec q,[]⟩,p.now⟩ (hI P q d') W v u:=by
 have⟨d1,f,d,g⟩:=abQ h.ei.rest Q b;refine⟨⟨h.ei.fm,d,Z,Q_ h.ei.rest,h.ei.l6,h.ei.fh,h.ei.dK⟩,h.pins,λk j c8=>?_,⟨λk k1 a c=>?_,λk k1 a=>?_,λk=>?_,λk k1 a=>?_⟩,h.tY⟩
 .have:k≠q:=λe=>by subst e;exact cY j c8.cK c8.cN
  rw[mK _ _ this];exact h.at_ k j c8
 .rw[KQ h.ei.rest Q b k1 a]
  by_cases e:q=k
  .subst e;rw[if_pos Z,jZ,if_pos (show d'.1=0 from Z)]
  .rw[cT e,mK _ _ (λq=>e q.symm)];exact h.on.lS k k1 a c
 .by_cases e:k=q
  .subst e;rw[jZ];simp_all
  .rw[mK _ _ e];exact h.on.sN k k1 a
 .by_cases e:k=q
  .subst e;rwa[jZ]
  .rw[mK _ _ e];exact h.on.rP k
 .rw[KQ h.ei.rest Q b k1 a];split
  .simp_all
  .exact h.on.gX k k1 a
def ft.Ab{p P W v u}(h:ft p P W v u){q i:V}(c8:hG p.f (q) i){y}(g:x6 y=N)(Q:y.1=(q)){pX}(c:y.2.1<=pX)(d:u<=pX):ft ⟨vd p.f i y,p.d,p.now⟩ P (hI W q y.2.1) v pX:=by
 have m:=ew.pins c8 g Q;have cK:=c8.cK;refine⟨⟨m,h.ei.rest,h.ei.fz,h.ei.sM,h.ei.l6,h.ei.fh,h.ei.dK⟩,?_,λk j B=>?_,h.on,λk=>?_⟩
 .refine jU.set h.pins cK c8.uniq λk k1 l=>⟨λe=>?_,λn b=>?_,λn b=>?_⟩
  .have:k=q:=R
   subst this;exact jZ _ _ _
  .rw[c8.cN]at b;omega
  .exact mK _ _ R
 .have dL:j<(p.f.cN.set i y).length:=B.cK;have f:(p.f.cN.set i y)[j].1=(k:I):=B.cN;have a:=GZ;refine h.at_ k j (p_ h.ei.fm (by have:=B.fA;omega) a ?_)
  by_cases e:i=j
  .subst e;rw[tN]at f;rw[c8.cN,<-Q,f]
  simp_all
 .by_cases e:k=q
  .subst e;rwa[jZ]
  .rw[mK _ _ e];have:=h.tY k;omega
def ft.load{p P W v u}(h:ft p P W v u){q i:V}(Q:1<=q)(o:q<=16)(cK:i<p.f.cN.length)(z:p.f.cN[i].1=0)(cY:∀j (dL:j<p.f.cN.length),p.f.cN[j].1≠(q)){x}(C:gp x=N)(g:x.1=(q))(gb)(A:gb=L->x=P q)(cU:x.2.1<=v)(t:1<=u)
  (s:ew {mc p.f x i with dK:=bif gb then p.f.dK++[(x.1,p.now)] else p.f.dK}):
  ft ⟨{mc p.f x i with dK:=bif gb then p.f.dK++[(x.1,p.now)] else p.f.dK},p.d,p.now⟩ (hI P q x) (hI W q 1) v u:=by
 refine⟨⟨s,h.ei.rest,h.ei.fz,h.ei.sM,h.ei.l6,h.ei.fh,λy l=>?_⟩,?_,λk j B=>?_,⟨λk k1 a m=>?_,λk k1 a=>?_,λk=>?_,h.on.gX⟩,λk=>?_⟩
 .cases gb with
  |false=>exact h.ei.dK y l
  |true=>
   rcases h3.1 l with e|e
   .exact h.ei.dK y e
   simp_all
 .refine jU.set h.pins cK (λj dL n D=>dQ (D.trans z) n) λk k1 a=>⟨λe=>?_,λ_ e=>?_,λe _=>?_⟩
  .have e:=e;have:k=q:=R;subst this;exact jZ _ _ _
  .omega
  .have e:=e;exact mK _ _ R
 .have dL:j<(p.f.cN.set i (x.1,1,N)).length:=B.cK;have f:(p.f.cN.set i (x.1,1,N))[j].1=(k:I):=B.cN;have c:=GZ;have r:=B.fA;have d:j<(p.f.dE.set i x).length:=B.O;show(p.f.dE.set i x)[j]'d=_
  by_cases e:i=j
  .subst e;rw[tN]at f⊢;have f:=f;have:k=q:=R;subst this;rw[jZ]
  .rw[wK e]at f⊢
   have:k≠q:=λw=>by simp_all
   rw[mK _ _ this];exact h.at_ k j (p_ h.ei.fm R c f)
 .have b:∀y∈p.f.dK,y.1≠(k:I):=λy l=>m y (by
   grind)
  by_cases e:k=q
  .subst e
   cases gb with
   |true=>exact dQ g (m (x.1,p.now) (po _ (lE.2 Z)))
   |false=>rw[jZ];have:=h.on.lS k k1 a b;simp_all
  .rw[mK _ _ e];exact h.on.lS k k1 a b
 .by_cases e:k=q
  .subst e;rw[jZ];simp_all
  .rw[mK _ _ e];exact h.on.sN k k1 a
 .by_cases e:k=q
  .subst e;rwa[jZ]
  .rw[mK _ _ e];exact h.on.rP k
 .by_cases e:k=q
  .subst e;rwa[jZ]
  .rw[mK _ _ e];exact h.tY k
def nK(d:gm)(l:J ld):gm:=l.foldl oR d
def Gn(d a b):nK d (a++b)=nK (nK d a) b:=FR ..
def abU{p P W v u}(h:ft p P W v u){q i:V}(c8:hG p.f (q) i)(cP:∃x∈p.f.dK,x.1=(q)):
  ∃p' l,i0 p q=(p',l,0) /\ft p' P W v u/\p'.f=yg p.f q/\p'.now=p.now/\nK p.d l=p'.d/\l.length=10:=by
 have a:=c8.dE;have⟨s1,s2,c,g⟩:=abP h.ei.rest c8.wJ;have hw:=aaf c8;rw[if_pos (Dt.qT.2 cP),h.ei.d,s1,cT (λq=>q Z),s2,a,gl]at hw;refine⟨_,_,hw,h.clean c8,Z,Z,?_,Z⟩;have:=(kJ.1 c8.wJ);have b:=z1 this.2.2.2.2;have e:=Q7 h.ei.rest (p:=q) R R b;rw[nK,h.ei.d];rw[e,yr,a,gl]
def ft.abV{p P W v u}(h:ft p P W v u){i}(cK:i<p.f.cN.length)(z:p.f.cN[i].1=0):p.f.cN[i].2.1=0:=by
 rcases h.ei.fm.place i cK cK (by rwa[h.ei.fm.len]) with q|⟨q,_⟩
 .exact q.2.1
 .omega
def abW:∀(n) {p P W v u} (l),ft p P W v u->p.f.dK.length<n->(∃i,∃cK:i<p.f.cN.length,p.f.cN[i].2.1=0)->
  ∃p' C,om n p l=(p',l++C,0) /\ft p' P W v u/\ (∃i,∃cK:i<p'.f.cN.length,p'.f.cN[i].1=0) /\p'.now=p.now/\p'.f.cN.length=p.f.cN.length/\nK p.d C=p'.d/\C.length<=10*n/\
   (∀q,q≠0->(∀i (cK:i<p.f.cN.length),p.f.cN[i].1≠q)->∀i (cK:i<p'.f.cN.length),p'.f.cN[i].1≠q)
 |0,p,P,W,v,u,l,h,cY,_=>dQ cY (ps _)
 |n+1,p,P,W,v,u,l,h,cY,j=>by
  rw[om];rcases CI h.ei.fm with⟨i,cK,z,e⟩|⟨_,dj,e⟩|⟨O,t,a,q,c8,F,A,cW,e⟩
  .rw[e,cT (λq=>q Z),if_pos Z];exact⟨p,[],by simp_all,h,⟨i,cK,z⟩,Z,Z,Z,by simp,λ_ _ g=>g⟩
  .have⟨i,cK,z⟩:=j;exact dQ z (dj i cK)
  have⟨D,ab,cV,dc,X⟩:=F.out;have dr:=h.J7 F;obtain⟨d,rfl⟩:∃d:V,q=d:=⟨q.toNat,by have:=c8.fA;omega⟩;have m:=c8.dE
  by_cases s:(Dt.p7 p.f.dK d).2=N
  .rw[if_pos s]at e;rw[e,cT (λq=>q Z),cT (show ¬N=L by decide)];simp only[m];have cP:=Dt.qT.1 (P_ s);have⟨p',eD,J,B,E,cX,Y,G⟩:=abU (p:=⟨tM p.f (t,a),p.d,p.now⟩) dr A cP;rw[J,cT (λq=>q Z)];simp only[];have c:=aae (f:=tM p.f (t,a)) (p:=d) (P_ s);have c:=c
   have r:p'.f.cN=t:=by rw[E];rfl
   have⟨Q,eo,K,da,M,S,T,aa,H,o⟩:=abW n (l++eD) B (by rw[E];exact ro c (Nat.le_of_lt_succ cY)) ⟨a,by rwa[r],by simp[r];exact X⟩;refine⟨Q,eD++eo,by rw[K,jC],da,M,S.trans cX,by rw[T,r,D],by rw[Gn,Y,aa],by simp;omega,λq w cY=>o q w ?_⟩;intro i cK
   have b:i<t.length:=by rwa[<-r]
   simp[r];rw[(cV i R b).1];exact cY i R
  .rw[cT s]at e;rw[e,cT (λq=>q Z),if_pos Z]
   have k:∀x∈(fW.mk (tM p.f (t,a)) p.d p.now).f.dK,x.1≠(d:I):=λx y cL=>s (by
    have y:=y
    rw[Dt.PG h.ei.fm.dK (p:=(d:I)) (t:=x.2) (by rwa[<-cL])])
   have B:=dr.arC A (by assumption) k;refine⟨_,[],by rw[p0],B,?_,Z,?_,Z,by simp,λq w cY i cK=>?_⟩
   .refine⟨a,by show a<(t.set a (0,0,L)).length;simp_all,?_⟩;show((t.set a (0,0,L))[a]' eG).1=0;rw[tN]
   .show(t.set a (0,0,L)).length=_;simp_all
   .have b:i<(t.set a (0,0,L)).length:=cK;show((t.set a (0,0,L))[i]'b).1≠q;rw[zX];split
    .exact λg=>w g.symm
    .rw[(cV i (by rw[h']at b;omega) (by rwa[h']at b)).1];exact cY i _
def arE{p P W v u}(h:ft p P W v u):
  ((∀i (cK:i<p.f.cN.length),p.f.cN[i].2.1≠0) /\km p=(p,[],6)) \/ ((∃i,∃cK:i<p.f.cN.length,p.f.cN[i].2.1=0) /\
  ∃p' a,km p=(p',a,0) /\ft p' P W v u/\ (∃i,∃cK:i<p'.f.cN.length,p'.f.cN[i].1=0) /\p'.now=p.now/\p'.f.cN.length=p.f.cN.length/\nK p.d a=p'.d/\a.length<=170/\
   (∀q,q≠0->(∀i (cK:i<p.f.cN.length),p.f.cN[i].1≠q)->∀i (cK:i<p'.f.cN.length),p'.f.cN[i].1≠q)):=by
 by_cases hb:∀i (cK:i<p.f.cN.length),p.f.cN[i].2.1≠0
 .exact .inl ⟨hb,ary h.ei.fm (λi cK e=>hb i cK (h.abV cK e)) hb⟩
 .refine .inr ?_;have⟨i,cK⟩:=J4.1 hb;have⟨cK,he⟩:=J4.1 cK;have he:=lv he;have dw:=(Dt.tH h.ei.fm.dK).1;have⟨p',a,b,r⟩:=abW 17 [] h (Nat.lt_succ_of_le dw) ⟨i,cK,he⟩;exact⟨⟨i,cK,he⟩,p',a,b,r⟩
def Rc:∀ {a b:J I},a.Nodup->(∀x∈a,x∈b)->a.length<=b.length
 | [],b,_,_=>e3 _
 |y::r,b,cY,h=>by
  rw[tm]at cY;have d:=h y (mz ..);have:=Rc (b:=b.erase y) cY.2 λz c=>(List.mem_erase_of_ne (λe=>cY.1 eG)).2 (h z (lD _ c));grind
def tZ(W:V->I):V->V
 |0=>0
 |k+1=>tZ W k+(if 0<W (k+1) then 1 else 0)
def t0(W:V->I):V->J I
 |0=>[]
 |k+1=>if 0<W (k+1) then((k+1:V):I)::t0 W k else t0 W k
def abX(W):∀k,(t0 W k).length=tZ W k
 |0=>rfl
 |k+1=>by
  rw[t0,tZ,<-abX W k];grind
def C5{W x}:∀ {k},x∈t0 W k↔∃q:V,x=q/\1<=q/\q<=k/\0<W q
 |0=>by simp[t0];omega
 |k+1=>by
  rw[t0];constructor
  .intro f;split at f
   .rename_i hw;rcases m3.1 f with e|e
    .grind
    .have⟨q,a,b,c,d⟩:=C5.1 e;grind
   .have⟨q,a,b,c,d⟩:=C5.1 f;grind
  .rintro⟨q,a,b,c,d⟩
   by_cases e:q=k+1
   .simp_all
   .have:=C5 (W:=W) (k:=k) (x:=x) |>.2 ⟨q,a,b,R,d⟩;grind
def Re(W):∀k,(t0 W k).Nodup
 |0=>FX
 |k+1=>by
  rw[t0];split
  .rw[tm];refine⟨λh=>?_,Re W k⟩;have⟨q,a,_,c,_⟩:=C5.1 h;omega
  .exact Re W k
def pinned(l:J f6):J I:=(l.filter λx=>!decide (x.2.1=0)).map (·.1)
def Rf{l p}:p∈pinned l↔∃i,∃h:i<l.length,l[i].1=p/\l[i].2.1≠0:=by
 unfold pinned;rw[h4];constructor
 .rintro⟨x,a,rfl⟩;have⟨Q,b⟩:=n9.1 a;obtain⟨i,cK,rfl⟩:=kg.1 Q;grind
 grind
def abY:∀ {l},(∀i j,(cK:i<l.length)->(dL:j<l.length)->l[i].2.1≠0->l[i].1=l[j].1->i=j)->(pinned l).Nodup
 | [],_=>by simp[pinned]
 |x::r,h=>by
  have a:=abY (l:=r) λi j cK dL cW e=>by
   have:=h (i+1) (j+1) GW w8 yG LJ;omega
  unfold pinned at a⊢
  by_cases eC:x.2.1=0
  .simp_all
  .rw[List.filter_cons_of_pos G7,kD,tm];refine⟨λm=>?_,a⟩;have⟨j,dL,e,_⟩:=Rf.1 m;have:=h 0 (j+1) dt w8 SQ eG;omega
def ft.busy{p P W v u}(h:ft p P W v u):tZ W 16=p.f.cN.length↔∀i (cK:i<p.f.cN.length),p.f.cN[i].2.1≠0:=by
 have f:∀i (cK:i<p.f.cN.length),p.f.cN[i].2.1≠0->1<=p.f.cN[i].1/\p.f.cN[i].1<=16:=λi cK cW=>by
  have b:=λe=>cW (h.abV cK e);have c8:=p_ h.ei.fm b cK Z;exact⟨c8.fA,c8.z'⟩
 have n:=abY λi j cK k cW e=>h.ei.fm.wI cK k g3 e
 have s1:∀x∈pinned p.f.cN,x∈t0 W 16:=λx a=>by
  have⟨i,cK,e,cW⟩:=Rf.1 a;have o:=f i cK cW;have c8:=p_ h.ei.fm (p:=((x.toNat:V):I)) R cK R;have hw:=h.As c8;have r:=oe.1 (h.ei.fm.ic.all i cK);exact C5.2 ⟨x.toNat,R,R,R,by omega⟩
 have s2:∀x∈t0 W 16,x∈pinned p.f.cN:=λx a=>by
  have⟨q,e,m,c,hw⟩:=C5.1 a;rcases h.pins q m c with⟨i,cK,s,d⟩|⟨_,d⟩
  .exact Rf.2 ⟨i,cK,by rw[s,e],R⟩
  .omega
 have l:(pinned p.f.cN).length=tZ W 16:=by rw[<-abX];exact Nat.le_antisymm (Rc n s1) (Rc (Re W 16) s2)
 rw[<-l];unfold pinned;rw[ef,List.length_filter_eq_length_iff];constructor
 .grind
 .intro g x a;obtain⟨i,cK,rfl⟩:=kg.1 a;simp_all
def q3(q:V):e_:=((q:I),1,fI)
abbrev abZ:=(V->e_)×(V->I)×e_×I
def yu(P:V->e_)(W:V->I)(n:V)(k:I)(q:V):abZ:=
 if k=1/\ (P q).1=0 then(P,W,d',3)
 else if k=2/\ (P q).1≠0 then(P,W,d',4)
 else if W q=0/\tZ W 16=n then(P,W,d',6)
 else if k=2 then(hI P q (q3 q),hI W q (W q+1),q3 q,0)
 else(hI P q (P q),hI W q (W q+1),P q,0)
def ab0{α}(P:V->α)(q):hI P q (P q)=P:=by funext k;rw[hI];simp_all
def ft.mono{p P W v u fN pX}(h:ft p P W v u)(cU:v<=fN)(b:u<=pX):ft p P W fN pX:=
 ⟨h.ei,h.pins,h.at_,⟨h.on.lS,h.on.sN,λq=>Rg (h.on.rP q) cU,λq Q a=>(h.on.gX q Q a).imp id λg=>⟨g.1,Rg g.2 cU⟩⟩,λq=>Rg (h.tY q) b⟩
structure qg(p:fW)(v u:I)(m:abZ)(r:sF):Prop where
 told:r.2.1=m.2.2.1
 err:r.2.2.2=m.2.2.2
 inv:ft r.1 m.1 m.2.1 v u
 now:r.1.now=p.now
 len:r.1.f.cN.length=p.f.cN.length
 run:nK p.d r.2.2.1=r.1.d
 arF:r.2.2.1.length<=170
 none:r.2.2.2≠0->r.2.2.1=[]
def qg.same{p P W v u}(h:ft p P W v u)(x e):qg p v u (P,W,x,e) (p,x,[],e):=⟨Z,Z,h,Z,Z,Z,dt,λ_=>Z⟩
def ft.where{p P W v u}(h:ft p P W v u){q:V}(Q:1<=q):(∀i (cK:i<p.f.cN.length),p.f.cN[i].1≠(q)) \/ ∃i,hG p.f (q) i:=by
 have a:(q:I)≠0:=R
 by_cases cY:∀i (cK:i<p.f.cN.length),p.f.cN[i].1≠(q:I)
 .grind
 .have⟨i,cK⟩:=J4.1 cY;have⟨cK,he⟩:=J4.1 cK;exact .inr ⟨i,p_ h.ei.fm a cK (lv he)⟩
def ft.vq{p P W v u}(h:ft p P W v u){q i:V}(c8:hG p.f (q) i):(P q).1≠0:=by rw[<-h.at_ q i c8,c8.dE];have:=c8.fA;omega
def ab1{p P W v u}(h:ft p P W v u)(G:1<=u){q:V}(Q:1<=q)(a:q<=16)(cY:∀i (cK:i<p.f.cN.length),p.f.cN[i].1≠(q)){x}(A:gp x=N)(s:x.1=(q))(gb)(F:gb=L->x=P q)(cU:x.2.1<=v){n}(y:p.f.cN.length=n):
  qg p v u (if W q=0/\tZ W 16=n then(P,W,d',6) else(hI P q x,hI W q (W q+1),x,0)) (rF p x gb):=by
 have hw:=h.KR Q a cY;rcases arE h with⟨E,e⟩|⟨d,p',dr,e,b,⟨i,cK,H⟩,o,l,r,f,t⟩
 .rw[if_pos ⟨hw,by rw[<-y];exact h.busy.2 E⟩,rF,e,if_pos (show(6:I)≠0 by decide)];exact qg.same h d' 6
 .have z:¬(W q=0/\tZ W 16=n):=λg=>by
   rw[<-y]at g;have⟨j,c,C⟩:=d;exact h.busy.1 g.2 j c C
  have m:(q:I)≠0:=R
  have k:=t q m cY;have⟨j,c,w,B,D,J⟩:=abT e b.ei.fm A b.ei.l6 b.ei.fh gb eG ⟨i,cK,H⟩ b.ei.dK;rw[cT z,B,hw];exact⟨Z,Z,b.load Q a c w k A s gb F cU G D,o,by show(p'.f.cN.set j _).length=_;rw[h',l],r,f,λg=>dQ Z g⟩
def arG{f}(h:ew f){p t}(b:1<=p)(a:p<=16)(cW:0<=t)(Q:t<=2147483647)(c:∀x∈f.dK,x.2<=t):Dt.hO f.dK p t=(if 0<=Dt.gy f.dK p 0 then f.dK else f.dK++[(p,t)],0):=by
 by_cases cP:0<=Dt.gy f.dK p 0
 .rw[if_pos cP];have l:Dt.m9 f.dK t=L:=by
   unfold Dt.m9
   by_cases z:0<f.dK.length
   .grind
   .simp[z]
  rw[Dt.hO,cT,cT eG,if_pos cP];intro q;rcases q with q|q|q
  .rw[h.dK]at q;cases q
  .simp[Dt.oS]at q;omega
  .simp[Dt.qS]at q;omega
 .rw[cT cP]
  have l:Dt.m9 f.dK t=L:=by
   unfold Dt.m9
   by_cases z:0<f.dK.length
   .grind
   .simp[z]
  rw[Dt.hO,cT,cT eG,cT cP];intro q;rcases q with q|q|q
  .rw[h.dK]at q;cases q
  .simp[Dt.oS]at q;omega
  .simp[Dt.qS]at q;omega
def arH{s}(h:iK s){q}(Q:1<=q)(a:q<=16):nK ⟨s,[]⟩ (u_ q (k0 32))=⟨ys s q,[]⟩:=
 Q7 h Q a (wB 32)
def ab2{p P W v u}(h:ft p P W v u)(cU:0<=v){q}(Q:1<=q)(b:q<=16):qg p v u (if 0<W q then(P,W,d',6) else if(P q).1=0 then(P,W,d',3) else(hI P q d',W,d',0)) (wM p q):=by
 have⟨d1,l,m,s⟩:=abQ h.ei.rest Q b;have r:=arH h.ei.rest Q b;rw[wM];rcases h.where Q with cY|⟨i,c8⟩
 .rw[qW h.ei.fm cY R,cT (show ¬L=N by decide),h.ei.get Q b,h.on.lS q Q b (h.out Q cY),h.KR Q b cY,cT (show ¬(0:I)<0 by decide)]
  by_cases z:(P q).1=0
  .rw[if_pos z,if_pos z,if_pos (show(3:I)≠0 by decide)];exact qg.same h d' 3
  .rw[cT z,cT z,cT (show ¬((0:I)≠0) from λg=>g Z),vf,h.ei.get Q b,h.on.lS q Q b (h.out Q cY),cT z,cT (show ¬(0:I)=3 by decide)];rw[h.ei.d,d1,l,cT (show ¬((0:I)≠0) from λg=>g Z)];exact⟨Z,Z,h.arD Q b cU cY,Z,Z,by rw[h.ei.d];exact r,show(10:V) <=170 by decide,λg=>dQ Z g⟩
 .have cK:=c8.cK;have hw:=h.As c8;have d:=oe.1 (h.ei.fm.ic.all i cK);rw[qa c8,if_pos Z,gl,jT cK,hw]
  by_cases z:0<p.f.cN[i].2.1
  .rw[if_pos z,if_pos z];exact qg.same h d' 6
  rw[cT z,cT z,cT (h.vq c8)]
  have e:hF p.f q=((i:I),0):=by rw[hF,if_pos (sD.2 c8.right),(pA c8.right.eh).2 ⟨c8.fA,c8.mem⟩];rfl
  have o:og p.f q=(mH p.f i q,0):=by rw[og,e,cT (λg=>g Z),gl,jT cK,cT z]
  rw[o,cT (show ¬((0:I)≠0) from λg=>g Z),vf,h.ei.get Q b]
  have cW:p.f.cN[i].2.1=0:=R
  by_cases c:(iL p.d.sec q).2=3
  .rw[if_pos c]
   have f:iL p.d.sec q=(d',3):=by
    have t:∀a:dS,(lL a).2≠0->True:=λ_ _=>dU;rw[iL]at c⊢;split
    .simp_all
    .rename_i g;rw[cT g]at c;grind
   have:=h.rel c8 cW (s':=p.d.sec) (P':=hI P q d') h.ei.rest h.ei.sM (λk d=>mK _ _ d) (λ_ _ _ _=>Z) (by rw[jZ,if_pos (show d'.1=0 from Z)];exact f) (by rw[jZ];simp_all) (by rw[jZ];exact cU);rw[<-h.ei.d]at this;exact⟨Z,Z,this,Z,by show(p.f.cN.set i _).length=_;simp_all,Z,by simp,λg=>dQ Z g⟩
  .rw[cT c,h.ei.d,d1,l,cT (show ¬((0:I)≠0) from λg=>g Z)];have:=h.rel c8 cW (s':=ys p.d.sec q) (P':=hI P q d') m (Q_ h.ei.rest) (λk d=>mK _ _ d) (λk k1 j n=>by rw[KQ h.ei.rest Q b k1 j,cT (λe=>n e.symm)]) (by rw[jZ,if_pos (show d'.1=0 from Z),KQ h.ei.rest Q b Q b,if_pos Z]) (by rw[jZ];simp_all) (by rw[jZ];exact cU);exact⟨Z,Z,this,Z,by show(p.f.cN.set i _).length=_;simp_all,by rw[h.ei.d];exact r,show(10:V) <=170 by decide,λg=>dQ Z g⟩
def ab3{ja}:∀ {d q P W v u l},ft q P W v u->d.Nodup->(∀id∈d,∃x∈q.f.dK,x.1=id)->
  ∃a b,oo ja d q l=(a,d',l++b,0) /\ft a P W v u/\a.now=q.now/\a.f.cN.length=q.f.cN.length/\nK q.d b=a.d/\b.length<=10*d.length/\ ∀x,x∈a.f.dK↔x∈q.f.dK/\x.1∉d
 | [],q,P,W,v,u,l,h,_,_=>⟨q,[],by rw[oo,p0],h,Z,Z,Z,dt,λx=>dt⟩
 |id::r,q,P,W,v,u,l,h,cY,cP=>by
  rw[tm]at cY;have⟨x,k,c⟩:=cP id (mz ..);have⟨i,c8⟩:=Q' h.ei.fm k;rw[c]at c8;obtain⟨n,rfl⟩:∃n:V,id=n:=⟨id.toNat,AN⟩;have⟨p',eD,e,w,f,B,F,o⟩:=abU h c8 ⟨x,k,c⟩
  have m:∀y,y∈p'.f.dK↔y∈q.f.dK/\y.1≠(n:I):=λy=>by
   rw[f];show y∈q.f.dK.filter _↔_;simp_all
  have⟨E,eo,t,z,C,p,G,s,H⟩:=ab3 (ja:=ja) (l:=l++eD) w cY.2 λA j=>by
   grind
  refine⟨E,eD++eo,?_,z,C.trans B,by rw[p,f];rfl,by rw[Gn,F,G],by grind,λy=>?_⟩
  .rw[oo,e,cT (show ¬((0:I)≠0) from λg=>g Z),t,jC]
  grind
def ab4{now gD}:∀ {l:J (I×I)},l.Pairwise (λa b=>a.1≠b.1)->(l.filterMap (Dt.va now gD)).Nodup
 | [],_=>FX
 |x::r,h=>by
  rw[uT]at h;have i:=ab4 (now:=now) (gD:=gD) h.2;rw[List.filterMap_cons];split
  .exact i
  .rename_i b e;rw[tm];refine⟨λm=>?_,i⟩;have⟨y,d,c⟩:=J_.1 m;rw[Dt.va]at e c;grind
def arI{l}(h:Dt.ha l=N)(now gD):(Dt.oT l now gD).Nodup:=by
 rw[Dt.oT];split
 .simp_all
 .exact ab4 (Dt.FY.1 h).2.2.1
def arJ{p P W v u}(h:ft p P W v u)(gD):qg p v u (P,W,d',0) (wN p gD) /\ (0<=gD->∀x,x∈(wN p gD).1.f.dK↔x∈p.f.dK/\p.now-x.2<gD):=by
 have⟨q,m,e,f,j,o,r,n,d1⟩:=ab3 (ja:=p) (l:=[]) h (arI h.ei.fm.dK p.now gD) λid i=>by
  have⟨_,t,c,_⟩:=Qe i;grind
 have d:=Qf (now:=p.now) (gD:=gD) h.ei.fm.dK;rw[wN,e];refine⟨⟨Z,Z,f,j,o,r,by grind,λg=>dQ Z g⟩,λcW x=>?_⟩;simp only[];rw[d1];constructor
 .rintro⟨a,b⟩;refine⟨a,lv λg=>b ?_⟩;rw[Dt.oT,cT]
  .exact J_.2 ⟨x,a,by rw[Dt.va,if_pos R]⟩
  .rintro (g|g|g)
   .omega
   .have:=h.ei.l6;omega
   .rw[h.ei.fm.dK]at g;cases g
 .rintro⟨a,b⟩;refine⟨a,λg=>?_⟩;have⟨_,t,c,k⟩:=Qe g;have s1:=Dt.PG h.ei.fm.dK c;rw[Dt.PG h.ei.fm.dK (p:=x.1) (t:=x.2) a]at s1;grind
def ft.new{n}(Q:1<=n)(g:n<=8){s}(c:iK s)(z:s[0]?.getD fI=jE){P v u}(h:yt s [] P v)(d:0<=u):ft ⟨m_ n,⟨s,[]⟩,0⟩ P (λ_=>0) v u:=by
 have f:∀i (cK:i<(m_ n).cN.length),(m_ n).cN[i]=(0,0,L):=λi cK=>by
  have a:i<(eL n ((0,0,L):f6)).length:=cK;show(eL n ((0,0,L):f6))[i]'a=_;simp_all
 refine⟨⟨ew.new Q g,c,Z,z,SW,by simp_all,λx eC=>uh⟩,λq Q b=>.inr ⟨λi cK e=>?_,Z⟩,λq i c8=>?_,h,λq=>d⟩
 .grind
 .have e:=c8.cN;rw[f i c8.cK]at e;have e:=e;have:=c8.fA;omega
def yt.new{v}(cU:0<=v):yt (eL 35 jE) [] (λ_=>d') v:=
 ⟨λq _ h _=>by rw[Q9 h,if_pos (show d'.1=0 from Z)],λ_ _ _=>.inl Z,λ_=>cU,λq _ h=>.inl (Q9 h)⟩
def Rh:(eL 35 jE)[0]?.getD fI=jE:=by rfl
def ja(n:V):fW:=⟨m_ n,iw,0⟩
def arK{n}(Q:1<=n)(a:n<=8):ft (ja n) (λ_=>d') (λ_=>0) 1 0:=ft.new Q a Q8 Rh (yt.new c1) c1
def qg.eq{p v u P' W x e r}(h:qg p v u (P',W,x,e) r):∃q l,r=(q,x,l,e) /\ft q P' W v u/\q.now=p.now/\q.f.cN.length=p.f.cN.length/\nK p.d l=q.d/\l.length<=170/\ (e≠0->l=[]):=by have⟨q,y,l,f⟩:=r;have Q:=h.told;have a:=h.err;simp only at Q a;subst Q a;exact⟨q,l,Z,h.inv,h.now,h.len,h.run,h.arF,h.none⟩
def ab5{n:V}:∀l s,(∀i,(h:i<s.length)->s[i].size=16)->(∀w∈l,w.2.size=16)->∀i,(h:i<(pv s l).length)->(pv s l)[i].size=16
 | [],s,a,_=>a
 |w::r,s,a,hw=>ab5 (n:=n) r (s.set w.1.toNat w.2) (λi h=>by
   grind) λx b=>hw x (.tail _ b)
def pu.sync{d}(h:pu d):pu ⟨pv d.sec d.fz,[]⟩:=by refine⟨by rw[FN];exact h.s1,by rw[FN];exact h.s2,e3 _,ab5 (n:=0) _ _ h.s λw hw=>?_,λi cK=>dQ cK (ps _)⟩;obtain⟨i,cK,rfl⟩:=kg.1 hw;exact(x8.1 (h.c i cK)).2.2
def arL{d}(h:pu d)(o):pu (oR d o):=by
 rw[oR];split
 .rw[wC,if_pos h];exact h.sync
 .rw[qP];split
  .rename_i g;split
   .exact h
   .refine⟨h.s1,h.s2,by grind,h.s,λi cK=>?_⟩
    by_cases e:i<d.fz.length
    .rw[List.getElem_append_left e];exact h.c i e
    simp_all
  .exact h
def arM(d o):(oR d o).sec.length=d.sec.length:=by
 rw[oR];split
 .rw[wC];split
  .exact FN ..
  .rfl
 .rw[qP];grind
def ab6:∀(l:J ld) {d},ix d->ix (l.foldl oR d)
 | [],_,h=>h|o::r,_,h=>ab6 r (⟨arL h.u9 o,by rw[arM];exact h.n⟩)
def arN{d}(h:ix d)(l n):ix (u' d l n):=ab6 _ h
def ab7{d}(h:ix d)(p s):ix (p4 d p s).1:=by
 rw[p4];split
 .exact arN h _ _
 .exact h
def arP{d}(h:ix d)(x):ix (qR d x).1:=by
 rw[qR];split
 .exact ab7 h _ _
 .exact h
def Gp{f}(h:ew f):∃w,jU f.cN w:=by
 refine⟨λq=>if e:∃i,∃cK:i<f.cN.length,f.cN[i].1=(q:I) then(f.cN[e.choose]'e.choose_spec.choose).2.1 else 0,λq Q a=>?_⟩
 by_cases e:∃i,∃cK:i<f.cN.length,f.cN[i].1=(q:I)
 .left;refine⟨e.choose,e.choose_spec.choose,e.choose_spec.choose_spec,?_⟩;simp[EI e]
 .right;simp_all
def arQ{f}(h:ew f)(id):ew (lN f id).1:=by have⟨w,hw⟩:=Gp h;exact(oh.Ab (a:=⟨1,id,0,fI,d'⟩) h hw Z).fm
def arR{f}(h:ew f)(id):ew (mb f id).1:=by have⟨w,hw⟩:=Gp h;exact(oh.aop (a:=⟨2,id,0,fI,d'⟩) h hw Z).fm
def arS{f}(h:ew f)(id b n):ew (iR f id b n).1:=by have⟨w,hw⟩:=Gp h;exact(oh.write (a:=⟨3,id,n,b,d'⟩) h hw Z).fm
def arT{f}(h:ew f)(id):ew (og f id).1:=by have⟨w,hw⟩:=Gp h;exact(oh.drop (a:=⟨5,id,0,fI,d'⟩) h hw Z).fm
def arU{f}(h:ew f)(x n gb):ew (mI f x n gb).1:=by have⟨w,hw⟩:=Gp h;exact(oh.load (a:=⟨6,0,n,fI,x⟩) gb h hw Z).fm
structure gc(m:I)(p:fW):Prop where
 fm:ew p.f
 us:ix p.d
 now:p.now=m
def gc.KS{m p}(h:gc m p)(id):gc m (i0 p id).1:=by
 refine⟨Qc h.fm id,?_,?_⟩
 .rw[i0]
  repeat' split
  all_goals first|exact h.us|exact arP h.us _
 .rw[i0]
  repeat' split
  all_goals exact h.now
def gc.room{m p}(h:gc m p):gc m ⟨(ht p.f).1,p.d,p.now⟩:=⟨J8 h.fm,h.us,h.now⟩
def gc.ab8{m}:∀n p l,gc m p->gc m (om n p l).1/\ (om n p l).2.1.length<=l.length+10*n
 |0,p,l,h=>⟨h,LC⟩
 |n+1,p,l,h=>by
  rw[om];split
  .simp_all
  split
  .exact⟨h.room,LC⟩
  split
  .exact⟨h.room,LC⟩
  .have i:=gc.ab8 n _ (l++(i0 ⟨(ht p.f).1,p.d,p.now⟩ (ht p.f).2.1.1).2.1) (h.room.KS (ht p.f).2.1.1);refine⟨i.1,?_⟩;have a:=i.2;have b:=J9 ⟨(ht p.f).1,p.d,p.now⟩ (ht p.f).2.1.1;rw[kG]at a;omega
def gc.make{m p}(h:gc m p):gc m (km p).1/\ (km p).2.1.length<=170:=by have:=gc.ab8 17 p [] h;assumption
def wU(m:I)(r:sF):Prop:=gc m r.1/\r.2.2.1.length<=170
def gc.same{m p}(h:gc m p)(x e):wU m (p,x,[],e):=⟨h,e3 _⟩
def gc.load{m p}(h:gc m p)(x gb):wU m (rF p x gb):=by
 have⟨Q,a⟩:=h.make;rw[rF];split
 .exact Q.same _ _
 split
 .exact Q.same _ _
 .exact⟨⟨arU Q.fm _ _ _,Q.us,Q.now⟩,a⟩
def gc.arV{m p}(h:gc m p)(id):wU m (tO p id):=by
 rw[tO];split
 .split
  .exact h.same _ _
  .exact gc.same (p:=⟨(lN p.f id).1,p.d,p.now⟩) ⟨arQ h.fm _,h.us,h.now⟩ _ _
 split
 .exact h.same _ _
 .exact h.load _ _
def gc.create{m p}(h:gc m p)(id):wU m (tP p id):=by
 rw[tP];split
 .exact h.same _ _
 split
 .exact h.load _ _
 split<;>exact h.same _ _
def gc.tail{m p q}(h:gc m p)(a:gc m q)(id):wU m (vf p q id):=by
 rw[vf];split
 .exact a.same _ _
 split
 .exact h.same _ _
 .exact⟨⟨a.fm,ab7 h.us _ _,a.now⟩,by
   show(sx p.d (id,0,fI)).length<=170;have:=Qb p.d (id,0,fI)
   omega⟩
def gc.remove{m p}(h:gc m p)(id):wU m (wM p id):=by
 rw[wM];split
 .split
  .exact h.same _ _
  split
  .exact h.same _ _
  .exact h.tail (q:=⟨(og p.f id).1,p.d,p.now⟩) ⟨arT h.fm _,h.us,h.now⟩ _
 split
 .exact h.same _ _
 .exact h.tail h _
def gc.flush{m p}(h:gc m p)(id):wU m (CJ p id):=by
 rw[CJ];split
 .split<;>exact h.same _ _
 split
 .exact h.same _ _
 split
 .exact h.same _ _
 .exact⟨h.KS id,fJ (J9 p id) c1⟩
def gc.oo {m p} (h:gc m p):∀ (lO:J I) {q:fW} (l:J ld),gc m q->gc m (oo p lO q l).1/\ (oo p lO q l).2.2.1.length<=l.length+10*lO.length
 | [],q,l,a=>⟨a,by show l.length<=_;omega⟩
 |id::r,q,l,a=>by
  rw [Lk.oo]
  split
  ·exact ⟨h,e3 _⟩
  ·have b:=gc.oo h r (l++(i0 q id).2.1) (a.KS id);refine ⟨b.1,?_⟩;have c5:=b.2;have c:=J9 q id;rw [kG] at c5;show _<=l.length+10*(r.length+1);omega
def gc.gD{m p}(h:gc m p)(n):wU m (wN p n):=by have Q:=h.oo (Dt.oT p.f.dK p.now n) [] h;have a:=Qf (now:=p.now) (gD:=n) h.fm.dK;refine⟨Q.1,?_⟩;have b:=Q.2;rw[wN];grind
def gc.pinned{m p}(h:gc m p)(a):gc m (oW p a).1:=by
 rw[oW];split
 .exact h
 split
 .split
  .exact h
  .exact⟨arS h.fm _ _ _,h.us,h.now⟩
 split
 .split
  .exact h
  .exact⟨arR h.fm _,h.us,h.now⟩
 .exact h
def gc.act{m p}(h:gc m p)(a):wU m (iS p a):=by
 rw[iS]
 repeat' split
 .exact h.same _ _
 .exact h.same _ _
 .exact h.arV _
 .exact h.create _
 .exact h.remove _
 .exact h.flush _
 .exact h.gD _
 .exact⟨h.pinned a,e3 _⟩
def ew.iX{f}(h:ew f):1<=f.cN.length/\f.cN.length<=8:=⟨h.ic.one,h.ic.gW⟩
def asc(f id):(lN f id).1.cN.length=f.cN.length:=by
 rw[lN];repeat' split
 all_goals first|rfl|simp[vd]
def asd(f id):(mb f id).1.cN.length=f.cN.length:=by
 rw[mb];repeat' split
 all_goals first|rfl|simp[vd]
def ase(f id b n):(iR f id b n).1.cN.length=f.cN.length:=by rw[iR];grind
def asf(f id):(qV f id).1.cN.length=f.cN.length:=by rw[qV];grind
def asg(f id):(og f id).1.cN.length=f.cN.length:=by
 rw[og];repeat' split
 all_goals first|rfl|simp[mH]
def ash(f x n b):(mI f x n b).1.cN.length=f.cN.length:=by
 rw[mI];repeat' split
 all_goals first|rfl|simp[mc]
def asi{f}(h:ew f):(ht f).1.cN.length=f.cN.length:=by
 rcases CI h with⟨i,cK,_,e⟩|⟨_,_,e⟩|⟨_,l,a,p,c8,s,A,_,e⟩
 .rw[e]
 .rw[e]
 .have b:l.length=f.cN.length:=by have⟨o,_⟩:=s.out;exact o
  rw[e];split
  .exact b
  .show(l.set _ _).length=_;simp_all
def Rm(p id):(i0 p id).1.f.cN.length=p.f.cN.length:=by
 rw[i0];repeat' split
 all_goals first|rfl|exact asf _ _
def aci{t}:∀n p l,gc t p->(om n p l).1.f.cN.length=p.f.cN.length
 |0,p,l,_=>rfl
 |n+1,p,l,h=>by
  have r:=asi h.fm;rw[om];split
  .rfl
  split
  .exact r
  split
  .exact r
  .rwa[aci n _ _ (h.room.KS _),Rm]
def Rn{t p}(h:gc t p):(km p).1.f.cN.length=p.f.cN.length:=aci 17 p [] h
def acj{t p}(h:gc t p)(x b):(rF p x b).1.f.cN.length=p.f.cN.length:=by
 rw[rF];repeat' split
 .exact Rn h
 .exact Rn h
 .exact(ash _ _ _ _).trans (Rn h)
def ack{t p}(O:gc t p):∀i q l,q.f.cN.length=p.f.cN.length->(oo p i q l).1.f.cN.length=p.f.cN.length
 | [],q,l,h=>h
 |id::r,q,l,h=>by
  rw[oo];split
  .rfl
  .exact ack O r _ _ ((Rm q id).trans h)
def acm(p q id)(h:q.f.cN.length=p.f.cN.length):(vf p q id).1.f.cN.length=p.f.cN.length:=by rw[vf];grind
def KT{t p}(h:gc t p)(a):(iS p a).1.f.cN.length=p.f.cN.length:=by
 rw[iS];repeat' split
 .rfl
 .rfl
 .rw[tO];repeat' split
  all_goals first|rfl|exact asc _ _|exact acj h _ _
 .rw[tP];repeat' split
  all_goals first|rfl|exact acj h _ _
 .rw[wM];repeat' split
  all_goals first|rfl|exact acm _ _ _ (asg _ _)|exact acm _ _ _ Z
 .rw[CJ];repeat' split
  all_goals first|rfl|exact Rm _ _
 .exact ack h _ _ _ Z
 .rw[oW];repeat' split
  all_goals first|rfl|exact ase _ _ _ _|exact asd _ _
def gc.do{t p}(h:gc t p)(a):gc t (iS p a).1:=(h.act a).1
def RP{s}(h:iK s)(z:s[0]?.getD fI=jE){n}(Q:1<=n)(a:n<=8):iH ⟨s,[]⟩ n=(⟨m_ n.toNat,⟨s,[]⟩,0⟩,0):=by
 rw[iH,cT,cT R,art h z];rintro (g|g)
 .apply g;rw[p5,if_pos ⟨h.us,by decide,by decide⟩]
 simp_all
def Gg {cQ:V} {l:J (J c3)} (h:gN cQ l=N) (n:V):gN cQ (l.drop n)=N:=by simp only [gN,n0] at h⊢;exact λx a=>h x (List.mem_of_mem_drop a)
def Kw {cQ:V} {l:J (J c3)} (h:gN cQ l=N) (n:V):gN cQ (l.take n)=N:=by simp only [gN,n0] at h⊢;exact λx a=>h x (QQ a)
def ap2 {α:Type} {A a dc B X Y:J α} {i m n:V} (c8:A.length=i) (b:dc.length=m) (c:B.length=n-i) (cK:i<=n) (k:V) (c6:k=n+m):
  (((A++a).take i++(dc++X)).take (i+m)++(B++Y)).take k=A++(dc++B):=by
 have Q:(A++a).take i=A:=zP c8
 have c5:(A++(dc++X)).take (i+m)=A++dc:=by rw [<-jC];exact zP (by simp [c8,b])
 rw [Q,c5]
 have d:(A++dc++(B++Y))=(A++(dc++B))++Y:=by simp
 rw [d];exact zP (by simp [c8,b,c,c6];omega)
def ap3 {α:Type} {cX dc B Y:J α} {i m n:V} (e:n+m<=cX.length) (a:dc.length=m) (b:B.length=n-i) (cK:i<=n) (k:V) (c6:k=n+m):
  ((cX.take (i+m)++(B++Y)).take i++(dc++(cX.take (i+m)++(B++Y)).drop (i+m))).take k=cX.take i++(dc++B):=by
 have Q:(cX.take (i+m)).length=i+m:=by rw [pn];omega
 have c5:(cX.take i).length=i:=by rw [pn];omega
 have c:(cX.take (i+m)++(B++Y)).take i=cX.take i:=by rw [apG (by omega),List.take_take,Nat.min_eq_left (by omega)]
 have d:(cX.take (i+m)++(B++Y)).drop (i+m)=B++Y:=ap4 Q;rw [c,d]
 have dz:cX.take i++(dc++(B++Y))=(cX.take i++(dc++B))++Y:=by simp
 rw [dz];exact zP (by simp [c5,a,b,c6];omega)
def aa2 {q:Prop} (h:q:=by
  apply OL Am 3 rfl (by kernel_rfl) (by rfl);refine ⟨fun cap Kp=>?_,fun cW=>?_⟩
  .have⟨cX,fX⟩:∃ cX,cX=l++List.replicate (cap-l.length) (List.replicate mJ c3.mm):=⟨_,rfl⟩
   have CX:cX.length=cap:=by rw [fX];simp;omega
   have Kx:cX.take l.length=l:=by rw [fX];simp
   have aa3:cX.take i=l.take i:=by rw [fX,List.take_append_of_le_length cK]
   rw [<-fX]
   conv=>whnf
   refine ur (by omega) Kp (c9 ?_)
   refine pc (fun QR=>?_) (fun QR=>?_)<;>conv=>whnf
   .omega
   refine dH ?_
   refine pc (fun ap5=>?_) (fun ap5=>?_)<;>conv=>whnf
   .have ap6:i=l.length:=by omega
    subst ap6;refine dH ?_;refine fC O (cO ?_);refine ⟨fun ee=>?_,fun ee=>?_⟩
    .conv=>whnf
     refine fC (by omega) (cO ?_);refine zJ rfl rfl rfl ?_ ?_ rfl ⟨rfl,trivial⟩
     .simp;omega
     .rw [Nat.zero_add,Kx,<-List.append_assoc];rw [List.take_append_of_le_length (by simp)];rw [List.take_of_length_le (by simp)];simp
    .conv=>whnf
     refine fC (by omega) (cO ?_);refine HA (Nat.le_trans (Nat.mul_le_mul_right _ (by show l.length+vs.length<=1001000;omega)) (by decide)) (by omega) (cO ?_);refine zJ rfl rfl rfl ?_ ?_ rfl ⟨rfl,trivial⟩
     .simp [CX];omega
     .rw [List.drop_zero,Kx];rw [List.take_of_length_le (by simp)];simp
   .have awl:i<l.length:=by omega
    refine dH ?_
    refine pc (fun ap7=>?_) (fun ap7=>?_)<;>conv=>whnf
    .refine Bd (by simp;omega) (c9 ?_)
     have QD:((l.length:Nat):Int)+((vs.length:Nat):Int)-(i:Int)=((l.length+vs.length-i:Nat):Int):=by omega
     rw [QD];simp only [Int.toNat_natCast,Nat.sub_zero,Nat.zero_add];refine HA (Nat.le_trans (Nat.mul_le_mul_right _ (by show i+(l.length+vs.length-i) <=1001000;omega)) (by decide)) (by omega) (cO ?_);refine ur (by omega) (by simp) (cO ?_);have em:Nat.min vs.length (i+(l.length+vs.length-i)-i)=vs.length:=Nat.min_eq_left (by omega);rw [em,List.take_length];refine fC ⟨by simp;omega,O⟩ (c9 ?_);refine ur (by omega) (by simp) (cO ?_);refine ur (by omega) Kp (cO ?_);refine fC (by omega) (cO ?_)
     have es:List.take (l.length-i) (List.drop (0+i) cX)=l.drop i:=by rw [Nat.zero_add,<-List.drop_take,Kx]
     rw [es];have ap8:Nat.min (l.drop i).length (i+(l.length+vs.length-i)-(i+vs.length))=(l.drop i).length:=Nat.min_eq_left (by rw [List.length_drop];omega);rw [ap8,List.take_length];refine fC ⟨by simp;omega,Gg QS i⟩ (c9 ?_);refine zJ rfl rfl rfl ?_ ?_ rfl ⟨rfl,trivial⟩
     .simp;omega
     .have t':(cX.take i).length=i:=by rw [List.length_take];omega
      have sk:(l.take i).length=i:=by rw [List.length_take];omega
      have ui:(l.drop i).length=l.length-i:=List.length_drop ..
      simp only [List.drop_zero,Nat.zero_add,aa3];exact ap2 sk rfl ui cK _ (by omega)
    .refine dH ?_;refine Bd (by show l.length+vs.length<=cap;omega) (c9 ?_);refine ur (by omega) (by show l.length+vs.length-0<=cap-0;omega) (cO ?_);refine afL (ap1 (t:=aa4) (CY:=4) sn An (by kernel_rfl) (by kernel_rfl) (by kernel_rfl) (by kernel_rfl) rfl rfl rfl (by decide) (by intro e;rw [e] at QT;exact absurd QT (by decide)) (by omega) (by decide)) (c9 ?_);refine ur (by omega) (by show l.length+vs.length-0<=cap-0;omega) (cO ?_);refine ur (by omega) (by show l.length+vs.length-0<=cap-0;omega) (cO ?_);refine fC (by omega) (cO ?_)
     have es:(List.take (l.length+vs.length-0-i) (List.drop (0+0+i) cX)).length=l.length+vs.length-i:=by rw [List.length_take,List.length_drop];omega
     have em:Nat.min (List.take (l.length+vs.length-0-i) (List.drop (0+0+i) cX)).length (l.length+vs.length-0-(i+vs.length))=l.length-i:=by rw [es];exact (Nat.min_eq_right (by omega)).trans (by omega)
     rw [em]
     have ap9:List.take (l.length-i) (List.take (l.length+vs.length-0-i) (List.drop (0+0+i) cX))=l.drop i:=by rw [List.take_take,Nat.min_eq_left (by omega),show 0+0+i=i by omega,<-List.drop_take,Kx]
     rw [ap9];refine fC ⟨by omega,Gg QS i⟩ (c9 ?_);refine ur (by omega) (by show l.length+vs.length-0<=cap-0;omega) (cO ?_);have aqa:Nat.min vs.length (l.length+vs.length-0-i)=vs.length:=Nat.min_eq_left (by omega);rw [aqa,List.take_length];refine fC ⟨by simp;omega,O⟩ (c9 ?_);refine zJ rfl rfl rfl ?_ ?_ rfl ⟨rfl,trivial⟩
     .simp;omega
     .have t':(0:Nat)+0+i=i:=by omega
      have sk:(0:Nat)+0+(i+vs.length)=i+vs.length:=by omega
      have ui:(l.drop i).length=l.length-i:=List.length_drop ..
      rw [t',sk,<-aa3];exact ap3 (n:=l.length) (by omega) rfl ui cK _ (by omega)
  .conv=>whnf
   refine pd (by rw [cW] at cK;exact cK) (cO ?_)
   have aqb:i=0:=by rw [cW] at cK;simpa using cK
   subst aqb;refine dH ?_
   refine pc (fun QR=>?_) (fun QR=>?_)<;>conv=>whnf
   .omega
   refine dH ?_;refine fC O (cO ?_);refine HA (Nat.le_trans (Nat.mul_le_mul_right _ (by show vs.length<=1001000;omega)) (by decide)) (by omega) (cO ?_);subst cW;refine ajY rfl rfl ?_ rfl ⟨rfl,trivial⟩;show some (d4.row vs mJ false)=some (d4.row ([].take 0++(vs++[].drop 0)) mJ false)
   simp):q:=h
namespace P9
abbrev mJ:V:=1
abbrev aa4:V:=96
abbrev Am:=Tryz.func272
abbrev An:=Tryz.func303
end P9
section
open P9
def aqc {l vs:J (J c3)} {i:V} (cK:i<=l.length) (dw:l.length<=1000000) (QT:0<vs.length) (cU:vs.length<=1000) (QS:gN 1 l=N) (O:gN 1 vs=N):
  u0 cR 272 l 1 [.d (.int .i64 i),.own 1000000] [(1000000,.row vs 1 L)] [(1000000,.row vs 1 L)] (l.take i++(vs++l.drop i)):=aa2
end
def sL(w:V)(l:J V):V:=(l.takeWhile λx=>gV (x<w)).length
def CE{w:V}:∀ {l:J V} {i:V},i<=l.length->(∀j (dL:j<i) (dw:j<l.length),l[j]<w)->(∀(dw:i<l.length),¬l[i]<w)->sL w l=i
 | [],i,cK,_,_=>by simp at cK;subst cK;rfl
 |x::r,0,_,_,h=>by
  have:=h (aaC _)
  rw[sL,Qk,decide_eq_false (by simpa using this)];rfl
 |x::r,i+1,cK,Q,c5=>by
  have a:x<w:=Q 0 (Nat.succ_pos _) (aaC _);rw[sL,Qk,decide_eq_true a];show(List.takeWhile _ r).length+1=_
  congr 1
  refine CE (by simpa using cK) (λj dL dw=>?_) λdw=>?_
  .have:=Q (j+1) (by omega) (by simpa using dw);simpa using this
  .have:=c5 (by simpa using dw);simpa using this
def aqd(w:V)(l:J V):nE w l=l.take (sL w l)++w::l.drop (sL w l):=by
 have e:l.takeWhile (λx=>gV (x<w))++l.dropWhile (λx=>gV (x<w))=l:=List.takeWhile_append_dropWhile
 have Q:l.take (sL w l)=l.takeWhile λx=>gV (x<w):=by
  have:=zP (l₁:=l.takeWhile λx=>gV (x<w)) (l₂:=l.dropWhile λx=>gV (x<w)) Z
  rw[e]at this;exact this
 have c5:l.drop (sL w l)=l.dropWhile λx=>gV (x<w):=by
  have:=ap4 (l₁:=l.takeWhile λx=>gV (x<w)) (l₂:=l.dropWhile λx=>gV (x<w)) Z
  rw[e]at this;exact this
 rw[Q,c5];rfl
structure aqe (w:V) (l:J V) (s:V×V):Prop where
 le:s.1<=s.2
 n:s.2<=l.length
 dy:∀ j (dL:j<s.1) (dw:j<l.length),l[j]<w
 cK:∀ j (dL:s.2<=j) (dw:j<l.length),w<l[j]
def aqf {a b:V}:Int.fdiv (((a:I)+(b:I))) (2^(min (1:I).toNat (OQ .u64)))=(((a+b)/2:V):I):=by rw [show (2:I)^(min (1:I).toNat (OQ .u64))=2 from Z,Jm _ (by decide)];omega
def aqg (x:I):dX cR 302 [.int .i64 x] (.bool L):=by refine d6 Tryz.func302 1 Z (by kernel_rfl) (di ?_);exact dd Z (by simp)
def aqh(w:V)(l:J V)(m:l.Pairwise (·<·))(cY:w∉l)(dw:l.length<=1000)(hw:w<1000):dX cR 271 [.dk (l.map f1),.int .i64 w] (.dP [.int .i64 (sL w l),.bool L]):=by
 have d8:(l.map f1).length=l.length:=ef ..
 refine d6 Tryz.func271 2 Z (by kernel_rfl) (di ?_);refine eZ (D:=V×V) (λs=>[(0,.d (.dk (l.map f1))),(1,.d (.int .i64 w)),(6,.d (.int .i64 (l.map f1).length)),(7,.d (.int .i64 s.1)),(8,.d (.int .i64 s.2))]) (λ_=>[])
  (aqe w l) (λs=>s.2-s.1) (0,l.length) ⟨e3 _,fB _,λj dL _=>dQ dL (ps _),λj dL dw=>dQ dL (by dsimp only;omega)⟩ (dZ (dT ⟨Z,Z,Z,Z,by rw[<-d8];rfl,dU⟩ dU ⟨Z,Z,Z,Z⟩)) ?_
 rintro⟨i,j⟩ ⟨Q,c5,f,b⟩;simp only[]at Q c5 f b⊢
 conv=>whnf
 refine d3 (λdz=>?_) λdz=>?_
 .refine di ?_;refine lZ (by rw[IntKind.wrap_u64];omega) (di ?_);rw[aqf];refine di ?_
  have c:(i+j)/2<l.length:=by omega
  refine ec (by omega) (cO ?_);refine dY (x:=f1 l[(i+j)/2]) (by simp[c]) (di ?_);refine df (ZH _ _) (cO ?_)
  have o:l[(i+j)/2]≠w:=λe=>cY (e▸hS c)
  refine d3 (λdW=>?_) λdW=>?_
  .refine di ?_;refine⟨((i+j)/2+1,j),⟨by dsimp only;omega,c5,λk c6 a=>?_,b⟩,by dsimp only;omega,(dZ (dT ⟨Z,Z,Z,Z,Z,dU⟩ dU ⟨Z,Z,Z,Z⟩))⟩;dsimp only at c6;have:=xO.1 m k ((i+j)/2) a c
   rcases jd k ((i+j)/2) with g|g
   .have:=this g;omega
   .have:k=(i+j)/2:=by omega
    subst this;omega
  .refine di ?_;refine⟨(i,(i+j)/2),⟨by dsimp only;omega,by dsimp only;omega,f,λk c6 a=>?_⟩,by dsimp only;omega,(dZ (dT ⟨Z,Z,Z,Z,Z,dU⟩ dU ⟨Z,Z,Z,Z⟩))⟩;dsimp only at c6;have:=xO.1 m ((i+j)/2) k c a
   rcases jd ((i+j)/2) k with g|g
   .have:=this g;omega
   .have:k=(i+j)/2:=by omega
    subst this;omega
 .have n:i=j:=by omega
  subst n
  have O:=CE (w:=w) c5 (λk c6 a=>f k c6 a) λdw=>by have:=b i (fB _) dw;omega
  rw[O];refine di ?_
  refine d3 (λdW=>?_) λdW=>?_
  .have h:i<l.length:=by omega
   have:=b i (fB _) h;refine di ?_;refine ec (by omega) (cO ?_);refine dY (x:=f1 l[i]) (by simp[h]) (di ?_);refine ec (by omega) (cO ?_);refine dY (x:=f1 l[i]) (by simp[h]) (di ?_);refine df (aqg _) (di ?_);exact dd Z Z
  .refine di ?_;exact dd Z Z
def qZ:J V->dh->J (V×dh)->J V
 |_,_,[]=>[]
 |c7,ex,(w,x)::q=>if c7=[] \/ (ex=L/\x=L) then w::qZ (nE w c7) (ex||x) q else []
def aa5:∀q h e,(qZ h e q).length<=q.length
 | [],_,_=>fB _
 |(w,x)::q,h,e=>by
  rw[qZ];split
  .have:=aa5 q (nE w h) (e||x);simp;omega
  simp_all
structure aqi(QU:J V)(aa6:dh)(tz:J (V×dh))(s:J V×dh×J (V×dh)×J V):Prop where
 up:s.1.Pairwise (·<·)
 eI:(s.1++s.2.2.1.map (·.1)).Nodup
 lt:∀w∈s.1++s.2.2.1.map (·.1),w<4
 len:s.1.length+s.2.2.1.length=QU.length+tz.length
 apU:s.2.2.2.length+s.2.2.1.length=tz.length
 eq:rG s.1 s.2.1 s.2.2.1=rG QU aa6 tz
 awm:s.2.2.2++qZ s.1 s.2.1 s.2.2.1=qZ QU aa6 tz
def aa7{h e x w q}:Aq ⟨h,e,(w,x)::q⟩=N↔(h=[] \/ (e=L/\x=L)):=by rw[Aq];grind
def aa8(l)(cL:l.c7.length+l.q.length<=5)(E:l.c7.Pairwise (·<·))(cP:(l.c7++l.q.map (·.1)).Nodup)(p:∀w∈l.c7++l.q.map (·.1),w<4):
  dX cR 207 [vg l] (.dP [vg (rG l.c7 l.ex l.q),.dk ((qZ l.c7 l.ex l.q).map f1)]):=by
 have⟨k,m,H⟩:=l;simp only[]at cL E cP p⊢;refine d6 Tryz.func207 1 Z c2 (di ?_);refine gK (Ge (Gf k) g3) (di ?_);refine eZ (D:=J V×dh×J (V×dh)×J V) (λs=>[(1,.ptr 1 0 0),(2,.ptr 2 0 0),(4,.own 45)]) (λs=>[(1,.box [.own 10,.d (.bool s.2.1),.d (.dk (s.2.2.1.map ie))] L),(2,.box [.nil,.d (.bool L),.nil] L),(10,.row (s.1.map f1) 1 L),(45,.row (s.2.2.2.map f1) 1 L)])
  (aqi k m H) (λs=>s.2.2.1.length) (k,m,H,[]) ⟨E,cP,p,Z,np _,Z,Z⟩ (oI (.row 4 45 1) hg (dT eJ fj d0)) ?_
 rintro⟨c,v,q,nQ⟩ ⟨A,B,F,G,I,d,f⟩;simp only[]at A B F G I d f⊢;refine di ?_;refine df (QK ⟨c,v,q⟩) (cO ?_)
 cases q with
 |nil=>rw[Aq];refine di ?_;rw[rG]at d;rw[qZ,p0]at f;rw[<-d,<-f];exact dd Z Z
 |cons P q=>
  have⟨w,x⟩:=P
  cases g:Aq ⟨c,v,(w,x)::q⟩ with
  |false=>
   have n:¬(c=[] \/ (v=L/\x=L)):=λh=>by rw[aa7.2 h]at g;cases g
   rw[rG,cT n]at d;rw[qZ,cT n,p0]at f;rw[<-d,<-f];refine di ?_;exact dd Z Z
  |true=>
   have n:=aa7.1 g;rw[rG,if_pos n]at d;rw[qZ,if_pos n]at f;have z:=F w dt
   have o:=λh=>by
    have:=(py.1 B).2.2 w h w dt;exact this Z
   have es:((((w,x)::q).map ie).take (((w,x)::q).map ie).length).drop 1=q.map ie:=Lz;simp at G I
   have M:(c.map f1).length=c.length:=ef ..
   have dj:(nQ.map f1).length=nQ.length:=ef ..
   have O:sL w c<=c.length:=(List.takeWhile_sublist _).length_le
   have C:(nE w c).map f1=(c.map f1).take (sL w c)++([f1 w]++(c.map f1).drop (sL w c)):=by rw[aqd,jt,kD,xN,aqj];rfl
   have u:=Ke A o;have K:=Kd w c
   have r:(nE w c++q.map (·.1)).Nodup:=by
    refine py.2 ⟨?_,((py.1 B).2.1.sublist (List.sublist_cons_self _ _)),λa dr b da=>?_⟩
    .exact List.nodup_iff_pairwise_ne.2 (u.imp λh=>Nat.ne_of_lt h)
    .rcases yj.1 dr with rfl|h
     .grind
     grind
   have t:∀y∈nE w c++q.map (·.1),y<4:=λy Q=>by
    rcases h3.1 Q with h|h
    .rcases yj.1 h with rfl|h
     .exact z
     simp_all
    simp_all
   refine di ?_;refine ec (i:=0) dt (cO ?_);refine dY (x:=ie (w,x)) Z (di ?_);refine fC (λe cV=>QI cV) (cO ?_);refine pd (l:=1) dt (di ?_);refine df (aqh w c A o R R) (di ?_);refine wt (aqc (l:=c.map f1) (vs:=[f1 w]) (i:=sL w c) R R (aqk 0) dt (Gf c) Z) [(1000000,35)] Z lr Z (di ?_)
   refine iD (λj=>?_) λj=>?_
   .refine di ?_;refine fV 1000 100 LA c1 c1 c1 (cO ?_);have j:=j;subst j;rw[aa9]at d f;refine⟨(nE w c,N,q,nQ++[w]),⟨u,r,t,AJ,GV,d,by rw[<-f];simp⟩,by dsimp only;simp_all,oI (.Bp 1 1 (.d (.bool N))) ⟨⟨_,Z,MO⟩,Z⟩ (dT eJ ⟨by rw[<-es];rfl,Z,by rw[C];rfl,w5,dU⟩ d0)⟩
   .refine di ?_;refine fV 1000 100 LA c1 c1 c1 (cO ?_);have j:=j;subst j;rw[QV]at d f;refine⟨(nE w c,v,q,nQ++[w]),⟨u,r,t,AJ,GV,d,by rw[<-f];simp⟩,by dsimp only;simp_all,dZ (dT eJ ⟨by rw[<-es];rfl,Z,by rw[C];rfl,w5,dU⟩ d0)⟩
def aql(l)(o:qX l)(w x)(hw:w<4)(cY:w∉l.c7++l.q.map (·.1))(n:l.c7.length+l.q.length<=3):
  ∃b,dX cR 149 [vg l,w,.bool x] (.dP [vg (vh l w x),.bool b,.int .i64 0]):=by
 have c:=Ap (w:I) l.c7 R;rw[QO λg=>cY (n8 _ g)]at c;have t:=QJ (w:I) l.q R;rw[QP λg=>cY (po _ g)]at t
 have m:(l.c7.map f1).length=l.c7.length:=ef ..
 have q:(l.q.map ie).length=l.q.length:=ef ..
 have d:dX cR 207 [.agg [.dk (l.c7.map f1),.bool l.ex,.dk (l.q.map ie++[ie (w,x)])]] (.dP [vg (vh l w x),.dk ((qZ l.c7 l.ex (l.q++[(w,x)])).map f1)]):=by
  have:=aa8 ⟨l.c7,l.ex,l.q++[(w,x)]⟩ (by simp;omega) o.up
   (by
    rw[jt,<-jC]
    exact py.2 ⟨o.eI,dt,λa j b k e=>cY eG⟩)
   (by
    rw[jt,<-jC];intro y f;rcases h3.1 f with h|h
    .exact o.lt y h
    simp_all)
  have e:(l.q++[(w,x)]).map ie=l.q.map ie++[ie (w,x)]:=w5;rwa[<-e]
 have i:=aa5 (l.q++[(w,x)]) l.c7 l.ex;rw[kG,QB]at i;refine⟨gV (0<=fP (k4 w) (qZ l.c7 l.ex (l.q++[(w,x)])) 0),d6 Tryz.func149 3 Z c2 (di ?_)⟩;refine df (Kv l o) (di ?_);refine df c (di ?_);refine df t (di ?_);refine gK (Qy (Ku l.q) R) (di ?_);refine fV 1000 100 (by show(l.q.map ie).length+1<=1000;omega) c1 c1 c1 (di ?_);refine df d (di ?_);refine df (Ap (w:I) (qZ l.c7 l.ex (l.q++[(w,x)])) R) (di ?_);exact dd Z Z
def aqm(l)(o:qX l)(w)(c_:w∈l.c7):
 ∃nQ:J V,dX cR 156 [vg l,w] (.dP [vg (tS l w),.dk (nQ.map f1),.int .i64 0]):=by
 have i:=o.len;have dg:=Ap (w:I) l.c7 R
 have f:decide (0<=fP (k4 w) l.c7 0)=N:=by
  rw[FV,Kj,wP];exact⟨w,c_,by simp[k4]⟩
 rw[f]at dg;have a:=Nn.Ao 213 [.ip [w] 0] (k4 w) (λc=>by refine d6 Tryz.func213 2 Z c2 (di ?_);rfl) l.c7 R;have b:=Wt.Ao 215 [.ip [w] 0] (nH w) (λc=>by refine d6 Tryz.func215 2 Z c2 (di ?_);rfl) l.q R;rw[aaZ]at a;rw[aaY]at b;have eD:=CA (λc:V=>c !=w) l.c7;have eo:=CA (λc:V×dh=>c.1 !=w) l.q
 have j:(l.c7.map f1).length=l.c7.length:=ef ..
 have m:(l.q.map ie).length=l.q.length:=ef ..
 have sub:(l.c7.filter (λx=>x !=w)++(l.q.filter λx=>x.1 !=w).map (·.1)).Sublist (l.c7++l.q.map (·.1)):=aoZ (CS) ((CS).map _)
 have he:=λex=>aa8 ⟨l.c7.filter λx=>x !=w,ex,l.q.filter λx=>x.1 !=w⟩ g3 (o.up.sublist CS) (o.eI.sublist sub) (λy h=>o.lt y (sub.mem h))
 by_cases g:(l.c7.filter λx=>x !=w)=[]
 .refine⟨qZ (l.c7.filter λx=>x !=w) L (l.q.filter λx=>x.1 !=w),?_⟩;have he:=he L
  have d:tS l w=rG (l.c7.filter λx=>x !=w) L (l.q.filter λx=>x.1 !=w):=by rw[tS,if_pos g]
  rw[d];refine d6 aqn 2 Z c2 (di ?_);refine df (Kv l o) (di ?_);refine df dg (di ?_);refine gK (Ge (Gf l.c7) R) (di ?_);refine wt a [] Z eN Z (di ?_);refine gK (Qy (Ku l.q) R) (di ?_);refine wt b [] Z eN Z (di ?_);refine r7 (by rw[g];rfl) (di ?_);refine df he (di ?_);exact dd Z Z
 .refine⟨qZ (l.c7.filter λx=>x !=w) l.ex (l.q.filter λx=>x.1 !=w),?_⟩;have he:=he l.ex
  have d:tS l w=rG (l.c7.filter λx=>x !=w) l.ex (l.q.filter λx=>x.1 !=w):=by rw[tS,cT g]
  rw[d];refine d6 aqn 2 Z c2 (di ?_);refine df (Kv l o) (di ?_);refine df dg (di ?_);refine gK (Ge (Gf l.c7) R) (di ?_);refine wt a [] Z eN Z (di ?_);refine gK (Qy (Ku l.q) R) (di ?_);refine wt b [] Z eN Z (di ?_);refine vU (by rw[It,ef];exact λe=>g (List.length_eq_zero_iff.1 R)) (di ?_);refine df he (di ?_);exact dd Z Z
def aba{db:V->dn}{O:V->dB d4}{s:J ResultVar}{l}{cQ t b n:V}{c r}(Q:s=[.tmp t])(h:db t=.win b 0 n c)(a:O b=U (.row r cQ L))(d:n<=r.length)(dz:r.take n=l):
  ∃t,s=[.tmp t] /\ ((∃b r n p,db t=.win b 0 n p/\O b=U (.row r cQ L) /\n<=r.length/\r.take n=l) \/ (db t=.nil/\l=[])):=
 ⟨t,Q,.inl ⟨b,r,n,c,h,a,d,dz⟩⟩
def aqp(n:V)(cY:n<=1000)(O t):rc cR 276 [.nil,.d n] O ⟨.own t,[(t,.row [] 4 L)],U t⟩:=by
 refine XG Tryz.func276 2 Z c2 Z ?_ O t
 conv=>whnf
 refine di ?_
 refine d3 (λg=>?_) λg=>?_
 .refine di ?_;refine oE (h:=0) R (di ?_);refine fV 1000 100 R c1 c1 c1 (di ?_);refine Bd (h:=0) R (di ?_);exact aba Z Z Z (e3 _) Z
 .refine di ?_;exact⟨4,Z,.inr hg⟩
def aqq(n:V)(cY:n<=1000)(O t):rc cR 224 [.nil,.d n] O ⟨.own t,[(t,.row [] 5 L)],U t⟩:=by
 refine XG Tryz.func224 2 Z c2 Z ?_ O t
 conv=>whnf
 refine di ?_
 refine d3 (λg=>?_) λg=>?_
 .refine di ?_;refine oE (h:=0) R (di ?_);refine fV 1000 100 R c1 c1 c1 (di ?_);refine Bd (h:=0) R (di ?_);exact aba Z Z Z (e3 _) Z
 .refine di ?_;exact⟨4,Z,.inr hg⟩
def nI(l:J (J c3)):J c3:=[.dk l]
def m'(ls:J (J (J c3))):V:=ls.flatten.length
def Ky{ls:J (J (J c3))}{k}(h:k<ls.length):m' (ls.take (k+1))=m' (ls.take k)+ls[k].length:=by rw[m',m',lX h,QW,kG,List.flatten_cons,List.flatten_nil,p0]
def Kz{ls k}:m' (ls.take k) <=m' ls:=by
 rw[m',m']
 conv=>rhs;rw[<-E9 k ls,QW,kG]
 omega
def aqr(ls)(o:∀l∈ls,gN 4 l=N)(i:ls.length<=1000)(f:m' ls<=1000):j5 cR 220 [.dk (ls.map nI)] ls.flatten 4:=by
 apply lH Tryz.func220 1 Z c2
 have m:(ls.map nI).length=ls.length:=ef ..
 refine di ?_;refine eZ (D:=V) (λk=>[(0,.d (.dk (ls.map nI))),(3,.d (m' (ls.take k))),(9,.d (.dk (ls.map nI))),(10,.d (ls.map nI).length),(11,.d k)]) (λ_=>[])
  (λk=>k<=ls.length) (λk=>ls.length-k) 0 (e3 _) (dZ (dT ih dU d0)) ?_
 intro k g
 conv=>whnf
 refine d3 (λdz=>?_) λdz=>?_
 .have a:k<ls.length:=R
  have e:=Ky a;have c:=Kz (ls:=ls) (k:=k+1);refine ec R (cO ?_);refine dY (x:=nI ls[k]) (by simp[a]) (di ?_);rw[show((m' (ls.take k):V):I)+((ls[k].length:V):I)=((m' (ls.take (k+1)):V):I) by omega];refine di ?_;exact⟨k+1,by omega,by omega,(dZ (dT ih dU d0))⟩
 have b:k=ls.length:=R
 subst b;rw[p9];refine di ?_;refine HE (aqp (m' ls) f _ 24) (di ?_);refine eZ (D:=V) (λk=>[(6,.own 24),(25,.d (.dk (ls.map nI))),(26,.d (ls.map nI).length),(27,.d k)]) (λk=>[(24,.row (ls.take k).flatten 4 L)])
  (λk=>k<=ls.length) (λk=>ls.length-k) 0 (e3 _) (dZ (dT fj eN d0)) ?_
 intro k g
 conv=>whnf
 refine d3 (λdW=>?_) λdW=>?_
 .have a:k<ls.length:=R
  have e:=Ky a;have c:=Kz (ls:=ls) (k:=k+1)
  have d:(ls.take (k+1)).flatten=(ls.take k).flatten++ls[k]:=by rw[lX a,QW];simp
  refine ec R (cO ?_);refine dY (x:=nI ls[k]) (by simp[a]) (di ?_);refine fC (o _ (hS a)) (cO ?_);refine fV 1000 100 (by rw[<-kG,<-d];exact fJ c f) c1 c1 c1 (di ?_);exact⟨k+1,by omega,by omega,dZ (dT fj ⟨by rw[d];rfl,dU⟩ d0)⟩
 .have b:k=ls.length:=R
  subst b;rw[p9];refine di ?_;exact⟨2,Z,.inl ⟨24,Z,Z⟩⟩
def aqs(ls)(o:∀l∈ls,gN 5 l=N)(i:ls.length<=1000)(f:m' ls<=1000):j5 cR 159 [.dk (ls.map nI)] ls.flatten 5:=by
 apply lH Tryz.func159 1 Z c2
 have m:(ls.map nI).length=ls.length:=ef ..
 refine di ?_;refine eZ (D:=V) (λk=>[(0,.d (.dk (ls.map nI))),(3,.d (m' (ls.take k))),(9,.d (.dk (ls.map nI))),(10,.d (ls.map nI).length),(11,.d k)]) (λ_=>[])
  (λk=>k<=ls.length) (λk=>ls.length-k) 0 (e3 _) (dZ (dT ih dU d0)) ?_
 intro k g
 conv=>whnf
 refine d3 (λdz=>?_) λdz=>?_
 .have a:k<ls.length:=R
  have e:=Ky a;have c:=Kz (ls:=ls) (k:=k+1);refine ec R (cO ?_);refine dY (x:=nI ls[k]) (by simp[a]) (di ?_);rw[show((m' (ls.take k):V):I)+((ls[k].length:V):I)=((m' (ls.take (k+1)):V):I) by omega];refine di ?_;exact⟨k+1,by omega,by omega,(dZ (dT ih dU d0))⟩
 have b:k=ls.length:=R
 subst b;rw[p9];refine di ?_;refine HE (aqq (m' ls) f _ 24) (di ?_);refine eZ (D:=V) (λk=>[(6,.own 24),(25,.d (.dk (ls.map nI))),(26,.d (ls.map nI).length),(27,.d k)]) (λk=>[(24,.row (ls.take k).flatten 5 L)])
  (λk=>k<=ls.length) (λk=>ls.length-k) 0 (e3 _) (dZ (dT fj eN d0)) ?_
 intro k g
 conv=>whnf
 refine d3 (λdW=>?_) λdW=>?_
 .have a:k<ls.length:=R
  have e:=Ky a;have c:=Kz (ls:=ls) (k:=k+1)
  have d:(ls.take (k+1)).flatten=(ls.take k).flatten++ls[k]:=by rw[lX a,QW];simp
  refine ec R (cO ?_);refine dY (x:=nI ls[k]) (by simp[a]) (di ?_);refine fC (o _ (hS a)) (cO ?_);refine fV 1000 100 (by rw[<-kG,<-d];exact fJ c f) c1 c1 c1 (di ?_);exact⟨k+1,by omega,by omega,dZ (dT fj ⟨by rw[d];rfl,dU⟩ d0)⟩
 .have b:k=ls.length:=R
  subst b;rw[p9];refine di ?_;exact⟨2,Z,.inl ⟨24,Z,Z⟩⟩
structure KA(fk:V)(iX:J md):Prop where
 len:iX.length<=4
 nW:fk<=2147483647
 up:(iX.map (·.kt)).Pairwise (·<·)
 lt:∀f∈iX,f.kt<fk/\1<=f.dE/\f.dE<=16
def Ar(fk:V)(iX:J md)(d:gm):J c3:=[.dk (d.sec.map hN),.dk (d.fz.map fw),fk,.dk (iX.map lh)]
def KB:∀(l:J md),gN 4 (l.map lh)=N
 | []=>rfl|_::r=>KB r
def KC:∀(l:J md),gN 5 (l.map jb)=N
 | []=>rfl|_::r=>KC r
def abb{l:J md}{e}(h:e∈l.map lh):e.length=4:=by obtain⟨x,_,rfl⟩:=h4.1 h;rfl
def CZ{l:J md}{e}(h:e∈l.map jb):e.length=5:=by obtain⟨x,_,rfl⟩:=h4.1 h;rfl
def abc(p)(Q:1<=p)(a:p<=16):dX cR 177 [.int .i64 1,.int .i64 p,.str fI] (.bool N):=by refine d6 Tryz.func177 3 Z c2 (di ?_);apply dd Z;simp;rfl
def KD(fk f d)(o:KA fk f)(h:ix d):dX cR 132 [.agg (Ar fk f d)] (.bool N):=by
 have e:=o.len;have n:=o.nW;have cY:=h.n
 have i:(f.map lh).length=f.length:=ef ..
 have m:(d.sec.map hN).length=d.sec.length:=ef ..
 have t:(f.map (·.kt)).length=f.length:=ef ..
 have r:=FM d;rw[z2.2 h.u9]at r;refine d6 Tryz.func132 1 Z c2 (di ?_);refine df r (di ?_);refine eZ (D:=V) (λk=>[(1,.ptr 1 0 0),(3,.d (yo (f.map (·.kt)) k)),(32,.d (.dk (f.map lh))),(33,.d (f.map lh).length),(34,.d k)]) (λ_=>[(1,.box ((Ar fk f d).map dn.d) L)])
  (λk=>k<=f.length) (λk=>f.length-k) 0 (e3 _) (dZ (dT ih eN d0)) ?_
 intro k c
 conv=>whnf
 refine d3 (λdz=>?_) λdz=>?_
 .have eM:k<f.length:=R
  have a:=QM o.up (k:=k) R;have s:=QN (l:=f.map (·.kt)) (k:=k) R;rw[JH]at a s;have⟨dG,g,b⟩:=o.lt f[k] (hS eM);refine ec R (cO ?_);refine dY (x:=lh f[k]) iy (c9 ?_);refine di ?_;refine df (abc f[k].dE g b) (di ?_);exact⟨k+1,R,R,dZ (dT ⟨Z,by rw[s];rfl,Z,Z,Z,dU⟩ eN d0)⟩
 rfl
def abd(fk f d)(o:KA fk f)(b:ix d)(p w t)(Q:1<=p)(a:p<=16)(l:f.length<4)(cY:fk<2147483647):
  dX cR 139 [.agg (Ar fk f d),.int .i64 1,.int .i64 p,.str fI] (.dP [.agg (Ar (fk+1) (f++[(⟨fk,w,p,t⟩:md)]) d),.int .i64 fk,.int .i64 0]):=by
 have m:(f.map lh).length=f.length:=ef ..
 refine d6 Tryz.func139 4 Z c2 (di ?_);refine df (KD fk f d o b) (di ?_);refine df (abc p Q a) (di ?_);refine gK (apC (KB f) R) (di ?_);refine fV 1000 100 (by show(f.map lh).length+1<=1000;omega) c1 c1 c1 (di ?_);apply dd Z;show _=c3.dP [c3.agg [.dk (d.sec.map hN),.dk (d.fz.map fw),.int .i64 ((fk+1:V):I),.dk ((f++[(⟨fk,w,p,t⟩:md)]).map lh)],.int .i64 fk,.int .i64 0];rw[jt];rfl
def abe(p)(Q:1<=p)(a:p<=16):dX cR 221 [.int .i64 p] (.int .i64 (2*p+1)):=by refine d6 Tryz.func221 1 Z c2 (di ?_);rfl
def aqt(d:gm)(f:md)(a:dh):J c3:=[f.kt,.int .i64 1,f.dE,.str (bif a then fI else(qQ d (2*f.dE+1)).1++(qQ d (2*f.dE+1+1)).1)]
def abf{d}(a:ix d)(n):(qQ d n).1.size<=16:=by
 rw[qQ];split
 .rename_i h;rw[Px a.u9 h.2.1 h.2.2];decide
 .decide
def QX(enc:md->J c3)(f:J md)(i):[(((f.map enc).take i).drop 0),(((f.map enc).take (f.map enc).length).drop (i+1))].flatten=(f.eraseIdx i).map enc:=by rw[List.eraseIdx_eq_take_drop_succ,p9];simp_all
def abg(enc)(f:J md)(i):m' [(((f.map enc).take i).drop 0),(((f.map enc).take (f.map enc).length).drop (i+1))] <=f.length:=by rw[m',QX,ef];grind
def QY(fk f d)(o:KA fk f)(h:ix d)(i)(cK:i<f.length)(a):
  dX cR 158 [.agg (Ar fk f d),i,.bool a] (.dP [.agg (Ar fk (f.eraseIdx i) d),.agg (aqt d f[i] a),.int .i64 (if a=N then 8 else 0)]):=by
 have u:(f.map lh).length=f.length:=ef ..
 have q:=o.len
 have t:(f.map lh)[i]?=U (lh f[i]):=by rw[iO,fe cK];rfl
 have⟨dG,j,k⟩:=o.lt f[i] (hS cK)
 have m:=aqr [(((f.map lh).take i).drop 0),(((f.map lh).take (f.map lh).length).drop (i+1))] (λl n=>by
  simp at n;rcases n with rfl|rfl
  .exact Kw (KB f) _
  .exact Gg (Kw (KB f) _) _) dt (fJ (abg lh f i) R)
 rw[QX]at m;have b:=z4 d (2*f[i].dE+1);have c:=z4 d (2*f[i].dE+1+1);refine d6 Tryz.func158 3 Z c2 (di ?_);refine df (KD fk f d o h) (di ?_);refine e' ?_;refine fC (λe g=>abb g) (cO ?_);refine oE R (di ?_);refine fC (λe g=>abb g) (cO ?_);refine pd (l:=i+1) R (di ?_);refine gK m (cO ?_)
 cases a with|true=>refine di ?_;exact dd Z Z|false=>refine di ?_;refine df (abe f[i].dE j k) (di ?_);refine df b (di ?_);refine df (abe f[i].dE j k) (di ?_);refine df c (di ?_);have r:=abf h (2*f[i].dE+1);have s:=abf h (2*f[i].dE+1+1);refine e' ?_;exact dd Z Z
abbrev nJ:=dB I
def kN:nJ->J (J c3)
 |none=>[]
 |some _=>[[.int .i64 2]]
def aqu(j:nJ):g4 j=[.int .i64 1,.int .i64 0,.dk (kN j)]:=by cases j<;>rfl
def abh(j):(kN j).length<=1:=by cases j<;>simp[kN]
def QZ:∀(l:J nJ),gN 3 (l.map g4)=N
 | []=>rfl
 |x::r=>by
  have:=QZ r;assumption
def rM(C0:J nJ)(at':V)(g:dh):J c3:=[.dk (C0.map g4),at',.bool g]
def abi{j:J nJ}{k}(h:k<j.length):(j.map g4)[k]?=U [.int .i64 1,.int .i64 0,.dk (kN j[k])]:=by rw[iO,fe h,<-aqu];rfl
def KE{j q}(h:q<(kN j).length):(kN j)[q]?=U [.int .i64 2]:=by
 cases j with|none=>simp[kN]at h|some x=>simp[kN]at h;subst h;rfl
def KF(j a g)(Q:1<=j.length)(n:j.length<=4)(e:a<j.length):dX cR 182 [.agg (rM j a g)] (.bool N):=by
 have m:(j.map g4).length=j.length:=ef ..
 refine d6 Tryz.func182 1 Z c2 (di ?_);refine eZ (D:=V) (λk=>[(1,.ptr 1 0 0),(32,.d (.dk (j.map g4))),(33,.d (j.map g4).length),(34,.d k)]) (λ_=>[(1,.box ((rM j a g).map dn.d) L)])
  (λk=>k<=j.length) (λk=>j.length-k) 0 (e3 _) (dZ (dT fj eN d0)) ?_
 intro k f
 conv=>whnf
 refine d3 (λdz=>?_) λdz=>?_
 .have c:k<j.length:=R
  have l:=abh j[k];refine ec R (cO ?_);refine dY (abi c) (di ?_)
  refine d3 (λh=>?_) λh=>?_
  .refine di ?_
   refine iD (λi=>?_) λi=>?_
   .refine di ?_;refine eZ (D:=V) (λq=>[(1,.ptr 1 0 0),(32,.d (.dk (j.map g4))),(33,.d (j.map g4).length),(34,.d k),(71,.d (.dk (kN j[k]))),(72,.d (kN j[k]).length),(73,.d q)]) (λ_=>[(1,.box ((rM j a g).map dn.d) L)])
     (λq=>q<= (kN j[k]).length) (λq=>(kN j[k]).length-q) 0 (e3 _) (dZ (dT vG eN d0)) ?_
    intro q d
    conv=>whnf
    refine d3 (λdW=>?_) λdW=>?_
    .have b:q<(kN j[k]).length:=R
     refine ec R (cO ?_);refine dY (x:=[.int .i64 2]) (KE b) (di ?_);exact⟨q+1,R,R,(dZ (dT vG eN d0))⟩
    .refine di ?_;exact⟨k+1,R,R,(dZ (dT fj eN d0))⟩
   .refine di ?_;refine eZ (D:=V) (λq=>[(1,.ptr 1 0 0),(32,.d (.dk (j.map g4))),(33,.d (j.map g4).length),(34,.d k),(71,.d (.dk (kN j[k]))),(72,.d (kN j[k]).length),(73,.d q)]) (λ_=>[(1,.box ((rM j a g).map dn.d) L)])
     (λq=>q<= (kN j[k]).length) (λq=>(kN j[k]).length-q) 0 (e3 _) (dZ (dT vG eN d0)) ?_
    intro q d
    conv=>whnf
    refine d3 (λdW=>?_) λdW=>?_
    .have b:q<(kN j[k]).length:=R
     refine ec R (cO ?_);refine dY (x:=[.int .i64 2]) (KE b) (di ?_);exact⟨q+1,R,R,(dZ (dT vG eN d0))⟩
    .refine di ?_;exact⟨k+1,R,R,(dZ (dT fj eN d0))⟩
  .refine di ?_;refine eZ (D:=V) (λq=>[(1,.ptr 1 0 0),(32,.d (.dk (j.map g4))),(33,.d (j.map g4).length),(34,.d k),(71,.d (.dk (kN j[k]))),(72,.d (kN j[k]).length),(73,.d q)]) (λ_=>[(1,.box ((rM j a g).map dn.d) L)])
    (λq=>q<= (kN j[k]).length) (λq=>(kN j[k]).length-q) 0 (e3 _) (dZ (dT vG eN d0)) ?_
   intro q d
   conv=>whnf
   refine d3 (λdW=>?_) λdW=>?_
   .have b:q<(kN j[k]).length:=R
    refine ec R (cO ?_);refine dY (x:=[.int .i64 2]) (KE b) (di ?_);exact⟨q+1,R,R,(dZ (dT vG eN d0))⟩
   .refine di ?_;exact⟨k+1,R,R,(dZ (dT fj eN d0))⟩
 rfl
def aqv{j:J nJ}{k}(x:nJ):(j.map g4).set k (g4 x)=(j.set k x).map g4:=DK
def aqw(j:J nJ)(a g)(Q:1<=j.length)(f:j.length<=4)(c:a<j.length)(k)(d:k<j.length)(cY:j[k]=cM)(p):
  dX cR 211 [.agg (rM j a g),k,.int .i64 2] (.dP [.agg (rM (j.set k (U p)) a g),.int .i64 0]):=by
 have m:(j.map g4).length=j.length:=ef ..
 have b:(j.map g4)[k]?=U (g4 cM):=by rw[iO,fe d,cY];rfl
 refine d6 Tryz.func211 3 Z c2 (di ?_);refine df (KF j a g Q f c) (di ?_);refine ec R (cO ?_);refine dY b (di ?_);refine gK (aaP (QZ j) R) (di ?_);refine e' ?_;refine gK (Ge (l:=[]) Z dt) (di ?_);refine fV 1000 100 (by show 0+1<=1000;omega) c1 c1 c1 (di ?_);refine ec R (di ?_);refine dY b (di ?_);have e:(j.map g4).set k (iM (g4 cM) 2 [c3.dk [[.int .i64 2]]])=(j.set k (U p)).map g4:=aqv (U p);apply dd Z;show _=c3.dP [c3.agg [.dk ((j.set k (U p)).map g4),a,.bool g],.int .i64 0];rw[<-e];rfl
def wT(j:nJ):dh:=gV ((0:I)<(kN j).length)
def aqx(j:nJ):dX cR 247 [.agg (g4 j)] (.bool (wT j)):=by
 cases j with|none=>refine d6 aqy 1 Z c2 (di ?_);exact dd Z Z|some p=>refine d6 aqy 1 Z c2 (di ?_);exact dd Z Z
def aqz(g cs p)(a:∀c,dX cR g (.agg (g4 c)::cs) (.bool (p c)))(l:J nJ)(d:l.length<=1000000):dX cR 293 [.dk (l.map g4),.fn g cs] (fP p l 0):=by
 refine d6 Tryz.func293 2 Z c2 (cO ?_);refine eZ (D:=V) (λk=>[(0,.d (.dk (l.map g4))),(1,.d (.fn g cs)),(7,.d (l.map g4).length),(8,.d k)]) (λ_=>[])
  (λk=>k<=l.length/\fP p (l.drop k) k=fP p l 0) (λk=>l.length-k) 0 ⟨e3 _,Z⟩ (dZ (dT fj dU d0)) ?_
 rintro k ⟨b,fX⟩
 conv=>whnf
 refine d3 (λh=>?_) λh=>?_
 .have eM:k<l.length:=by simpa using h
  refine ec R (cO ?_);refine dY (x:=g4 l[k]) iy (c9 ?_);rw[rq eM,fP]at fX;refine df (a l[k]) (cO ?_)
  refine iD (λc5=>?_) λc5=>?_
  .rw[if_pos c5]at fX;exact dd Z oA
  .rw[cT yI]at fX;refine dH ?_;exact⟨k+1,⟨R,fX⟩,R,(dZ (dT fj dU d0))⟩
 .have:k=l.length:=by simp at h;omega
  subst this;simp at fX;exact dd Z oA
def abj(j a g)(l:j.length<=1000):dX cR 185 [.agg (rM j a g)] (.bool (j.any wT)):=by
 have b:dX cR 246 [.dk (j.map g4),.fn 247 []] (.bool (j.any wT)):=by
  have e:decide (0<=fP wT j 0)=j.any wT:=by rw[BC,FV];exact Kj wT j 0
  rw[<-e];refine d6 Tryz.func246 2 Z c2 (cO ?_);refine df (aqz 247 [] wT aqx j R) (c9 ?_);exact dd Z Z
 refine d6 Tryz.func185 1 Z c2 (di ?_);refine e' ?_;rfl
def KG{j:J nJ}(cY:0<j.length):∀m k,oX j m (k%j.length)=oX j m k
 |0,_=>rfl
 |m+1,k=>by
  rw[oX,oX,Nat.mod_mod,<-KG cY m (k+1),<-KG cY m (k%j.length+1)];simp_all
structure C1(C0:J nJ)(K:V)(s:V×dh×V):Prop where
 a:s.1<C0.length
 go:oX C0 s.2.2 (if s.2.1=N then s.1+1 else s.1)=U K
def C1.next{j K a m g}(h:C1 j K (a,g,m))(d:g=N\/j[a]'h.a=cM):∃c,C1 j K ((a+1)%j.length,L,c) /\2*c<2*m+(if g=N then 1 else 0):=by
 have b:=h.a;have o:=h.go;simp only[]at b o;have O:0<j.length:=R
 cases g with
 |true=>refine⟨m,⟨mu _ O,?_⟩,dt⟩;simp;rw[KG O];simp_all
 |false=>
  have z:=d.resolve_left c1;simp at o
  cases m with
  |zero=>cases o
  |succ m=>rw[oX,nq b,fe b,z]at o;refine⟨m,⟨mu _ O,?_⟩,dt⟩;simp;rw[KG O];simp_all
def C1.here{j K a m}(h:C1 j K (a,L,m)){p}(s:j[a]'h.a=U p):a=K:=by
 have b:=h.a;have g:=h.go;simp at b g
 cases m with|zero=>cases g|succ m=>rw[oX,nq b,fe b,s]at g;simp_all
def vn{cX:J (J c3)}{a x}(h:a<cX.length):(cX.set a x)[a]?=U x:=DI
def aqA{cX:J (J c3)}{a e v}(h:cX[a]?=U e)(cU:v=e):cX.set a v=cX:=by subst cU;obtain⟨b,rfl⟩:=fM.1 h;simp_all
def aqB(j:J nJ)(t g)(Q:1<=j.length)(h:j.length<=4)(u:t<j.length)(K)(r:oX j j.length (if g=N then t+1 else t)=U K):
  dX cR 138 [.agg (rM j t g)] (.dP [.agg (rM (j.set K cM) K N),K,.int .i64 2,.bool N]):=by
 have w:(j.map g4).length=j.length:=ef ..
 have o:j≠[]:=λe=>by simp_all
 have⟨F,p,k⟩:=F_ o r;have hw:=abj j t g R;have n:j.any wT=N:=wP.2 ⟨U p,jg k,Z⟩;rw[n]at hw;refine d6 aqC 1 Z c2 (di ?_);refine df (KF j t g Q h u) (di ?_);refine df hw (di ?_);refine gK (aaP (QZ j) R) (di ?_);refine eZ (D:=V×dh×V) (λs=>[(1,.ptr 1 0 0),(2,.ptr 2 0 0)]) (λs=>[(1,.box [.own 19,.d s.1,.d (.bool s.2.1)] L),(2,.box [.nil,.d (.int .i64 0),.d (.bool L)] L),(19,.row (j.map g4) 3 L)])
  (C1 j K) (λs=>2*s.2.2+(if s.2.1=N then 1 else 0)) (t,g,j.length) ⟨u,r⟩ (dZ (dT lr eJ d0)) ?_
 rintro⟨a,g,m⟩ dr;have y:=dr.a;simp only[]at y⊢
 have b:(j.map g4)[a]?=U (g4 j[a]):=by rw[iO,fe y];rfl
 refine di ?_;refine ec R (di ?_)
 cases z:j[a]with
 |none=>
  rw[z]at b;have es:=aqA b Z;have⟨q,cV,c⟩:=dr.next (.inr z);refine dY b (di ?_);refine dY b (di ?_);refine AV eG R (cO ?_)
  have d:((a:I)+1)%(((j.map g4).set a (iM (g4 cM) 1 [c3.int .i64 0])).length:V)=(((a+1)%j.length:V):I):=by rw[h',w];rfl
  refine di ?_;exact⟨((a+1)%j.length,L,q),cV,c,oI (.Bp 1 2 (.d (.bool L))) ⟨⟨_,Z,HN⟩,Z⟩ (dT lr ⟨by rw[<-d];rfl,Z,eR (λcX=>U (d4.row cX 3 L)) es,dU⟩ d0)⟩
 |some p'=>
  rw[z]at b;refine e' ?_
  cases g with
  |true=>
   have⟨q,cV,c⟩:=dr.next (.inl Z);refine di ?_
   repeat (first|refine dY b (di ?_)|refine ec (i:=0) dt (cO ?_)|refine dY (x:=[c3.int .i64 2]) Z (di ?_))
   refine e' ?_
   have d:((a:I)+1)%((j.map g4).length:V)=(((a+1)%j.length:V):I):=by rw[w];rfl
   refine di ?_;exact⟨((a+1)%j.length,L,q),cV,c,oI (.Bp 1 2 (.d (.bool L))) ⟨⟨_,Z,HN⟩,Z⟩ (dT lr ⟨by rw[<-d];rfl,Z,Z,dU⟩ d0)⟩
  |false=>
   have f:=dr.here z;subst f;refine di ?_
   repeat (first|refine dY b (di ?_)|refine ec (i:=0) dt (cO ?_)|refine dY (x:=[c3.int .i64 2]) Z (di ?_)|refine dY (vn hd) (di ?_))
   refine fC (λe v=>by simp at v;subst v;rfl) (cO ?_);refine pd (l:=1) dt (di ?_);refine gK (Ge (l:=[]) Z dt) (di ?_)
   repeat (first|refine ec (i:=0) dt (cO ?_)|refine dY (vn hd) (di ?_))
   have E:∀A B C:J c3,((((j.map g4).set a A).set a B).set a C).set a (g4 cM)=(j.set a cM).map g4:=λA B C=>by
    simp_all
   exact dd Z (eR (λcX=>c3.dP [c3.agg [.dk cX,a,.bool N],a,.int .i64 2,.bool N]) (E _ _ _))
def aqD(j:J nJ)(a g)(Q:1<=j.length)(f:j.length<=4)(c:a<j.length)(K:oX j j.length (if g=N then a+1 else a)=cM):
  dX cR 138 [.agg (rM j a g)] (.dP [.agg (rM j a g),.int .i64 0,.int .i64 0,.bool L]):=by
 have b:j≠[]:=λe=>by simp_all
 have hw:=abj j a g R
 have n:j.any wT=L:=by rw[List.any_eq_false];intro x d;obtain⟨i,cK,rfl⟩:=kg.1 d;have:=aan b K i cK;rw[fe cK,fx]at this;rw[this];decide
 rw[n]at hw;refine d6 aqC 1 Z c2 (di ?_);refine df (KF j a g Q f c) (di ?_);refine df hw (di ?_);exact dd Z Z
def vo(n k:V):J (J c3):=eL k (g4 cM)++eL (n-k) [.int .i64 0,.int .i64 0,.dk []]
def aqE{n k}(h:k<=n):(vo n k).length=n:=by simp[vo];omega
def aqF{n k}(h:k<n):(vo n k).set k (g4 cM)=vo n (k+1):=by have e:n-k=(n-(k+1))+1:=R;rw[vo,vo,e,List.replicate_succ,aqG,jC];simp_all
def aqH(n)(Q:1<=n)(c:n<=4):dX cR 133 [.dk (eL n [c3.int .i64 1])] (.dP [.agg (rM (eL n cM) 0 L),.int .i64 0]):=by
 have m:(eL n [c3.int .i64 1]).length=n:=uO
 have g:∀k,k<n->(eL n [c3.int .i64 1])[k]?=U [c3.int .i64 1]:=λk b=>by simp_all
 refine d6 Tryz.func133 1 Z c2 (di ?_);rw[m,gl];refine fV 1000 100 R c1 c1 c1 (di ?_);refine eZ (D:=V) (λk=>[(2,.ptr 2 0 0),(4,.own 18),(19,.d (.dk (eL n [c3.int .i64 1]))),(20,.d (eL n [c3.int .i64 1]).length),(21,.d k)]) (λk=>[(2,.box [.nil,.d (.int .i64 0),.d (.bool L)] L),(18,.row (vo n k) 3 L)])
  (λk=>k<=n) (λk=>n-k) 0 (e3 _) (dZ (dT ih lr d0)) ?_
 intro k b
 conv=>whnf
 refine d3 (λdz=>?_) λdz=>?_
 .have a:k<n:=R
  have l:=aqE b;refine ec R (cO ?_);refine dY (g k a) (di ?_);refine ec R (cO ?_);refine dY (by have h:=a;rw[vo,xD dt,uO,Nat.sub_self,zo,if_pos R]) (di ?_);refine⟨k+1,R,R,dZ (dT ih ⟨Z,?_,dU⟩ d0)⟩;rw[<-aqF a];rfl
 .have:k=n:=R
  subst this;refine di ?_
  have e:vo k k=(eL k cM).map g4:=by simp[vo]
  exact dd Z (eR (λcX=>c3.dP [c3.agg [.dk cX,.int .i64 0,.bool L],.int .i64 0]) e)
def vp(s:gn)(d:gm):c3:=.agg (s.cells d)
def qf(w:V):nJ->J (J c3)
 |none=>[]
 |some p=>[Af w p 0]
def aqI(w)(j:nJ):yi w j=[.dk (qf w j)]:=by cases j<;>rfl
def o0(C0:J nJ):J (J c3):=C0.mapIdx yi
def Gh(j):(o0 j).length=j.length:=by simp[o0]
def KH{j k}(h:k<j.length):(o0 j)[k]?=U [.dk (qf k j[k])]:=by rw[o0,Q0,fe h,<-aqI];rfl
def aqJ(w j):(qf w j).length=(kN j).length:=by cases j<;>rfl
def aqK{w j q}(h:q<(qf w j).length):∃p,j=U p/\ (qf w j)[q]?=U (Af w p 0):=by
 cases j with|none=>simp[qf]at h|some p=>simp[qf]at h;subst h;exact⟨p,Z,Z⟩
def rH.Gi{s}(o:rH s):KA s.next s.out:=⟨o.iX,o.fk,o.up,λf h=>⟨(o.lt f h).1,(o.lt f h).2.2.1⟩⟩
def abk(w p t)(Q:1<=p)(a:p<=16):dX cR 183 [.agg (Af w p t)] (.bool N):=by refine d6 Tryz.func183 1 Z c2 (di ?_);apply dd Z;simp;rfl
def abl:dX cR 184 [.int .i64 1] (.int .i64 2):=by refine d6 Tryz.func184 1 Z c2 (di ?_);rfl
def Gj(s d)(o:rH s)(h:ix d):dX cR 135 [vp s d] (.bool N):=by
 have n:=o.fh;have i:=o.iJ;have t:=o.iX;have l:=Gh s.ez;have e:(s.ez.mapIdx yi).length=s.ez.length:=l
 have A:(s.ez.map g4).length=s.ez.length:=ef ..
 have m:(s.out.map jb).length=s.out.length:=ef ..
 have r:(s.out.map lh).length=s.out.length:=ef ..
 refine d6 Tryz.func135 1 Z c2 (di ?_);refine df (KF s.ez s.at' s.gM n i o.Ag) (di ?_);refine df (KD s.next s.out d o.Gi h) (di ?_);refine eZ (D:=V) (λk=>[(1,.ptr 1 0 0),(40,.d (.dk (o0 s.ez))),(41,.d (o0 s.ez).length),(42,.d k)]) (λ_=>[(1,.box ((s.cells d).map dn.d) L)])
  (λk=>k<=s.ez.length) (λk=>s.ez.length-k) 0 (e3 _) (dZ (dT fj eN d0)) ?_
 intro k b
 conv=>whnf
 refine d3 (λdz=>?_) λdz=>?_
 .have eM:k<s.ez.length:=R
  have c:=aqJ k s.ez[k];refine ec R (cO ?_);refine dY (KH eM) (di ?_);refine ec R (cO ?_);refine dY (abi eM) (di ?_);refine eZ (D:=V) (λq=>[(1,.ptr 1 0 0),(3,.d k),(5,.d (.dk (kN s.ez[k]))),(40,.d (.dk (o0 s.ez))),(41,.d (o0 s.ez).length),(42,.d k),(59,.d (.dk (qf k s.ez[k]))),(60,.d (qf k s.ez[k]).length),(61,.d q)]) (λ_=>[(1,.box ((s.cells d).map dn.d) L)])
   (λq=>q<= (qf k s.ez[k]).length) (λq=>(qf k s.ez[k]).length-q) 0 (e3 _) (dZ (dT yQ eN d0)) ?_
  intro q B
  conv=>whnf
  refine d3 (λdW=>?_) λdW=>?_
  .have a:q<(qf k s.ez[k]).length:=R
   have⟨p,j,z⟩:=aqK a;have f:=abh s.ez[k];have g:=o.dE p g3;refine e' ?_;refine df (abk k p 0 g.1 g.2) (di ?_);refine df abl (di ?_);refine ec R (cO ?_);refine dY (KE R) (di ?_);exact⟨q+1,R,R,(dZ (dT yQ eN d0))⟩
  .refine di ?_;exact⟨k+1,R,R,(dZ (dT fj eN d0))⟩
 refine di ?_;refine eZ (D:=V) (λk=>[(1,.ptr 1 0 0),(93,.d (.dk (s.out.map jb))),(94,.d (s.out.map jb).length),(95,.d k)]) (λ_=>[(1,.box ((s.cells d).map dn.d) L)])
  (λk=>k<=s.out.length) (λk=>s.out.length-k) 0 (e3 _) (dZ (dT fj eN d0)) ?_
 intro k b
 conv=>whnf
 refine d3 (λdz=>?_) λdz=>?_
 .have eM:k<s.out.length:=R
  have⟨dG,u,v,w,y⟩:=o.lt s.out[k] (hS eM);refine ec R (cO ?_);refine dY (x:=jb s.out[k]) iy (c9 ?_);refine ec R (cO ?_);refine dY (x:=lh s.out[k]) iy (di ?_);exact⟨k+1,R,R,(dZ (dT fj eN d0))⟩
 rfl
def abm(j):gN 1 (o0 j)=N:=by
 rw[gN,n0];intro x a;obtain⟨i,cK,rfl⟩:=kg.1 a
 have h:i<j.length:=by rwa[Gh]at cK
 have:=KH h;rw[fe cK,fx]at this;rw[this];rfl
def abn{j k}(h:k<j.length)(x:nJ):(o0 j).set k (yi k x)=o0 (j.set k x):=by refine EP λi=>?_;rw[o0,o0,lF,Q0,Q0,lF];grind
def aqL(n):eL n [c3.dk []]=o0 (eL n cM):=by refine EP λi=>?_;rw[o0,Q0,zo,zo];split<;>rfl
def aqM(n:V):gn:=⟨0,L,eL n cM,0,[]⟩
def aqN(n d)(Q:1<=n)(b:n<=4)(c:ix d):dX cR 102 [.agg (Ar 0 [] d),.dk (eL n [c3.int .i64 1])] (.dP [vp (aqM n) d,.int .i64 0]):=by have m:(eL n [c3.int .i64 1]).length=n:=uO;refine d6 Tryz.func102 2 Z c2 (di ?_);refine df (KD 0 [] d ⟨e3 _,e3 _,aaB,λf a=>by cases a⟩ c) (di ?_);refine df (aqH n Q b) (di ?_);rw[m,gl];exact fV 1000 100 R c1 c1 c1 (di (dd Z (eR (λcX=>c3.dP [c3.agg [.dk ((eL n cM).map g4),.int .i64 0,.bool L,.dk cX,.dk (d.sec.map hN),.dk (d.fz.map fw),.int .i64 0,.dk [],.dk []],.int .i64 0]) (aqL n))))
def aqO(s d)(o:rH s)(f:ix d)(w)(hw:w<s.ez.length)(cY:s.ez[w]=cM)(p)(Q:1<=p)(a:p<=16):
  dX cR 152 [vp s d,.agg (Af w p 0)] (.dP [vp (tT s w p) d,.int .i64 0]):=by
 have n:=o.fh;have e:=o.iJ;have b:=Gh s.ez;have c:(s.ez.mapIdx yi).length=s.ez.length:=b
 have g:(o0 s.ez)[w]?=U [.dk []]:=by have:=KH hw;rwa[cY]at this
 have es:=abn hw (U p);refine d6 Tryz.func152 2 Z c2 (di ?_);refine df (Gj s d o f) (di ?_);refine df (abk w p 0 Q a) (di ?_);refine ec R (cO ?_);refine dY g (di ?_);refine df abl (di ?_);refine df (aqw s.ez s.at' s.gM n e o.Ag w hw cY p) (di ?_);refine gK (aaQ (abm s.ez) R) (di ?_);refine e' ?_;refine gK (Qz (l:=[]) Z dt) (di ?_);refine fV 1000 100 (by show 0+1<=1000;omega) c1 c1 c1 (di ?_);refine ec R (di ?_);refine dY g (di ?_);exact dd Z (eR (λcX=>c3.dP [c3.agg [.dk ((s.ez.set w (U p)).map g4),s.at',.bool s.gM,.dk cX,.dk (d.sec.map hN),.dk (d.fz.map fw),s.next,.dk (s.out.map lh),.dk (s.out.map jb)],.int .i64 0]) es)
structure aqP(gh:gn)(s:gn×V):Prop where
 hf:lj s.1
 m:4<s.1.out.length+s.2
 eq:nF s.2 s.1=sG gh
def aqQ(s:gn)(d:gm)(cV O:V):J dn:=[.d (.dk (s.ez.map g4)),.d s.at',.d (.bool s.gM),.own cV,.d (.dk (d.sec.map hN)),.d (.dk (d.fz.map fw)),.d s.next,.d (.dk (s.out.map lh)),.own O]
def abo{s r}(h:F8 s=r):oX s.ez s.ez.length (if s.gM=N then s.at'+1 else s.at')=r:=h
set_option maxRecDepth 20000 in
def aqR(s d)(o:lj s)(h:ix d):dX cR 104 [vp s d] (vp (sG s) d):=by
 have A:=Gh s.ez;have B:(s.ez.mapIdx yi).length=s.ez.length:=A
 have F:(s.out.map jb).length=s.out.length:=ef ..
 have cV:=o.iJ;have dr:=o.iX;refine d6 Tryz.func104 1 Z c2 (de ?_);refine df (Gj s d o.torH h) (de ?_);refine gK (aaQ (abm s.ez) R) (de ?_);refine gK (Qz (KC s.out) R) (de ?_);refine eZ (D:=gn×V) (λs=>[(1,.ptr 1 0 0),(2,.ptr 2 0 0)]) (λs=>[(1,.box (aqQ s.1 d 14 18) L),(2,.box [.nil,.d (.int .i64 0),.d (.bool L),.nil,.nil,.nil,.d (.int .i64 0),.nil,.nil] L),(14,.row (o0 s.1.ez) 1 L),(18,.row (s.1.out.map jb) 5 L)])
  (aqP s) (λs=>4-s.1.out.length) (s,5) ⟨o,AJ,Z⟩ (dZ (dT lr fj d0)) ?_
 rintro⟨r,m⟩ ⟨b,E,a⟩;simp only[]at b E a⊢
 have G:(r.out.map lh).length=r.out.length:=ef ..
 have y:(r.out.map jb).length=r.out.length:=ef ..
 have z:=b.iX;have n:=b.iJ;have C:=Gh r.ez;obtain⟨m,rfl⟩:∃q,m=q+1:=⟨m-1,R⟩;rw[nF]at a
 conv=>whnf
 refine dH ?_
 refine d3 (λdz=>?_) λdz=>?_
 .refine de ?_
  refine d3 (λdW=>?_) λdW=>?_
  .have t:r.out.length<4/\r.next<2147483647:=⟨R,R⟩;rw[if_pos t]at a
   cases f:F8 r with
   |none=>rw[f]at a;refine de ?_;refine df (aqD r.ez r.at' r.gM b.fh n b.Ag (abo f)) (de ?_);rw[<-a];exact dd Z Z
   |some k=>
    rw[f]at a;have⟨j,p,O⟩:=F_ b.ne f
    have w:r.ez[k]=U p:=by rw[fe j,fx]at O;exact O
    have c:=b.dE p g3;have v:=KH j;rw[w]at v;have es:=abn j cM;have H:=Qn (g:=N) b j O t.1 t.2
    have u:(r.ez[k]?.getD cM).getD 0=p:=by rw[O];rfl
    simp[u]at a;refine de ?_;refine df (aqB r.ez r.at' r.gM b.fh n b.Ag k (abo f)) (de ?_);refine ec R (cO ?_);refine dY v (de ?_);refine ec (i:=0) (by simp[qf]) (cO ?_);refine dY (x:=Af k p 0) Z (de ?_);refine ec R (de ?_);refine dY v (de ?_);refine fC (λe a=>by simp[qf]at a;subst a;rfl) (cO ?_);refine pd (l:=1) (by simp[qf]) (de ?_);refine gK (Qz (l:=[]) Z dt) (de ?_);refine e' ?_;refine df (abd r.next r.out d b.torH.Gi h p k 1 c.1 c.2 t.1 t.2) (de ?_);refine fV 1000 100 (by show(r.out.map jb).length+1<=1000;omega) c1 c1 c1 (de ?_);refine⟨(⟨k,N,r.ez.set k cM,r.next+1,r.out++[⟨r.next,k,p,1⟩]⟩,m),⟨H,GV,a⟩,GV,dZ (dT lr ⟨?_,?_,?_,?_,dU⟩ d0)⟩
    .kernel_rfl
    .kernel_rfl
    .exact eR (λcX=>U (d4.row cX 1 L)) es
    .dsimp only
     rw[jt];kernel_rfl
  .have t:¬(r.out.length<4/\r.next<2147483647):=R
   rw[cT t]at a;refine de ?_;rw[<-a];exact dd Z Z
 .have t:¬(r.out.length<4/\r.next<2147483647):=R
  rw[cT t]at a;refine de ?_;rw[<-a];exact dd Z Z
def aqS(d:gm)(f:md)(a:dh):J c3:=[f.fi,.int .i64 1,f.dE,.str (bif a then fI else(qQ d (2*f.dE+1)).1++(qQ d (2*f.dE+1+1)).1),f.hc]
def Gk(s:gn)(i:V):gn:={s with out:=s.out.eraseIdx i}
def abp(s:gn)(i:V)(j:md):gn:={s with next:=s.next+1,out:=s.out.eraseIdx i++[⟨s.next,j.fi,j.dE,j.hc+1⟩]}
def Q1(s)(o:rH s)(i):j5 cR 159 [.dk ([(((s.out.map jb).take i).drop 0),(((s.out.map jb).take (s.out.map jb).length).drop (i+1))].map nI)] ((s.out.eraseIdx i).map jb) 5:=by
 have e:=o.iX
 have c:=aqs [(((s.out.map jb).take i).drop 0),(((s.out.map jb).take (s.out.map jb).length).drop (i+1))] (λl a=>by
  simp at a;rcases a with rfl|rfl
  .exact Kw (KC s.out) _
  .exact Gg (Kw (KC s.out) _) _) dt (fJ (abg jb s.out i) R)
 rwa[QX]at c
set_option maxRecDepth 20000 in
def aqT(s d)(o:rH s)(p:ix d)(i)(cK:i<s.out.length)(t:(s.out[i]).hc<3)(cY:s.next<2147483647):
  dX cR 116 [vp s d,i,.bool N] (.dP [vp (abp s i s.out[i]) d,.agg [.int .i64 0,.int .i64 0,.int .i64 0,.str fI,.int .i64 0],.int .i64 0,.bool L]):=by
 have u:=(aqU s.out i).length_le
 have b:(s.out.eraseIdx i).length+1=s.out.length:=by rw[List.length_eraseIdx_of_lt cK];omega
 have m:((s.out.eraseIdx i).map jb).length=(s.out.eraseIdx i).length:=ef ..
 have f:(s.out.map jb).length=s.out.length:=ef ..
 have n:=o.iX
 have r:(s.out.map jb)[i]?=U (jb s.out[i]):=by rw[iO,fe cK];rfl
 have⟨dG,j,g,k,q⟩:=o.lt s.out[i] (hS cK);have c:=Q1 s o i;refine d6 abq 3 Z c2 (di ?_);refine df (Gj s d o p) (di ?_);refine e' ?_;refine df (QY s.next s.out d o.Gi p i cK N) (di ?_);refine fC (λe a=>CZ a) (cO ?_);refine oE R (di ?_);refine fC (λe a=>CZ a) (cO ?_);refine pd (l:=i+1) R (di ?_);refine gK c (cO ?_)
 conv=>whnf
 refine de ?_;refine r7 f0 (de ?_);refine df (abd s.next (s.out.eraseIdx i) d (by have h:=aqU s.out i;exact⟨fJ h.length_le o.iX,o.fk,o.up.sublist (h.map _),λf a=>⟨(o.lt f (h.mem a)).1,(o.lt f (h.mem a)).2.2.1⟩⟩) p s.out[i].dE s.out[i].fi (s.out[i].hc+1) g.1 g.2 R cY) (de ?_);refine fV 1000 100 (by show((s.out.eraseIdx i).map jb).length+1<=1000;omega) c1 c1 c1 (de ?_);apply dd Z;show _=c3.dP [c3.agg [.dk (s.ez.map g4),s.at',.bool s.gM,.dk (s.ez.mapIdx yi),.dk (d.sec.map hN),.dk (d.fz.map fw),((s.next+1:V):I),.dk ((s.out.eraseIdx i++[(⟨s.next,s.out[i].fi,s.out[i].dE,s.out[i].hc+1⟩:md)]).map lh),.dk ((s.out.eraseIdx i++[(⟨s.next,s.out[i].fi,s.out[i].dE,s.out[i].hc+1⟩:md)]).map jb)],_,_,_];rw[jt,jt];rfl
set_option maxRecDepth 20000 in
def aqV(s d)(o:rH s)(h:ix d)(i)(cK:i<s.out.length)(f)(p:¬(f=N/\ (s.out[i]).hc<3/\s.next<2147483647)):
  dX cR 116 [vp s d,i,.bool f] (.dP [vp (Gk s i) d,.agg (aqS d s.out[i] f),.int .i64 (if f=N then 8 else 0),.bool N]):=by
 cases f with
 |false=>
  have m:(s.out.map jb).length=s.out.length:=ef ..
  have n:=o.iX
  have q:(s.out.map jb)[i]?=U (jb s.out[i]):=by rw[iO,fe cK];rfl
  have⟨dG,g,b,j,k⟩:=o.lt s.out[i] (hS cK);have c:=Q1 s o i;refine d6 abq 3 Z c2 (di ?_);refine df (Gj s d o h) (di ?_);refine e' ?_;refine df (QY s.next s.out d o.Gi h i cK L) (di ?_);refine fC (λe a=>CZ a) (cO ?_);refine oE R (di ?_);refine fC (λe a=>CZ a) (cO ?_);refine pd (l:=i+1) R (di ?_);refine gK c (cO ?_)
  conv=>whnf
  refine de ?_;refine vU f0 (de ?_);exact dd Z Z
 |true=>
  have m:(s.out.map jb).length=s.out.length:=ef ..
  have n:=o.iX
  have q:(s.out.map jb)[i]?=U (jb s.out[i]):=by rw[iO,fe cK];rfl
  have⟨dG,g,b,j,k⟩:=o.lt s.out[i] (hS cK);have c:=Q1 s o i;refine d6 abq 3 Z c2 (di ?_);refine df (Gj s d o h) (di ?_);refine e' ?_;refine df (QY s.next s.out d o.Gi h i cK N) (di ?_);refine fC (λe a=>CZ a) (cO ?_);refine oE R (di ?_);refine fC (λe a=>CZ a) (cO ?_);refine pd (l:=i+1) R (di ?_);refine gK c (cO ?_)
  conv=>whnf
  refine de ?_;refine r7 f0 (de ?_)
  refine d3 (λdW=>?_) λdW=>?_
  .refine de ?_
   refine d3 (λr=>?_) λr=>?_
   .exact dQ ⟨Z,R,R⟩ p
   .exact de (dd Z Z)
  .exact de (dd Z Z)
def hV(l:J hz)(i:V):hz:=l[i]?.getD yh
def lc(l:J hz)(i:V):J dn:=(hV l i).cells.map dn.d
def Gl(l:J hz):J dn:=lc l 0++(lc l 1++(lc l 2++(lc l 3++(lc l 4++(lc l 5++(lc l 6++(lc l 7++(lc l 8++(lc l 9++(lc l 10++(lc l 11++(lc l 12++(lc l 13++(lc l 14++(lc l 15++lc l 16)))))))))))))))
def rN(m:ey):J dn:=.own 1000001::(m.p.box++(m.h.cells.map dn.d++(Gl m.ek++((m.s.cells m.p.d).map dn.d++[.d m.d5,.own 1000004]))))
def e9(m:ey):J (V×d4):=[(1000000,.box (rN m) L),(1000001,.row (m.ws.map jX) 11 L),(1000004,.row (m.du.map pC) 11 L)]
def im:J (V×V):=[(1000000,1000000),(1000001,1000001),(1000004,1000004)]
def ot{m:ey}{k:V}{w}(h:m.ws[k]?=U w):(m.ws.map jX)[k]?=U (jX w):=eG
def Q2{ws:J fH}{k}(w'):(ws.map jX).set k (jX w')=(ws.set k w').map jX:=DK
def C2{ws:J fH}{k}(x w'):((ws.map jX).set k x).set k (jX w')=(ws.set k w').map jX:=eG
def aqW{ws:J fH}{k}(x y w'):(((ws.map jX).set k x).set k y).set k (jX w')=(ws.set k w').map jX:=eG
def tW{cX a}(h:cX=a):U (d4.row cX 11 L)=U (d4.row a 11 L):=by rw[h]
def q0{m:ey}{k w}(h:m.ws[k]?=U w):k<(m.ws.map jX).length:=g3
def tX(m k):fG cR 109 [.ptr 1000000 0 0,.d (.int .i64 k)] (e9 m) (e9 m) (.bool (decide (0<=k)&&decide (k<m.ws.length))):=by
 refine g_ Tryz.func109 2 Z c2 f0 (cO ?_)
 refine d3 (λh=>?_) λh=>?_
 .refine de ?_;exact f7 Z eG Z eJ
 .refine de ?_;exact f7 Z (by rw[decide_eq_false h];rfl) Z eJ
def Q3(m)(k:V)(l:m.h.ds.length<=1000):fG cR 146 [.ptr 1000000 0 0,.d k] (e9 m) (e9 m) (.bool (jV m.h k)):=by
 have d:(m.h.ds.map fO).length=m.h.ds.length:=ef ..
 refine g_ Tryz.func146 2 Z c2 f0 (de ?_);refine eZ (D:=V) (λi=>[(0,.ptr 1000000 0 0),(1,.d k),(11,.d (.dk (m.h.ds.map fO))),(12,.d (m.h.ds.map fO).length),(13,.d i)]) (λ_=>e9 m)
  (λi=>i<=m.h.ds.length/\jV m.h k=(m.h.ds.drop i).any λc=>c.1==k) (λi=>m.h.ds.length-i) 0 ⟨e3 _,Z⟩ (dZ (dT ih eJ d0)) ?_
 rintro i ⟨cK,e⟩
 conv=>whnf
 refine d3 (λdz=>?_) λdz=>?_
 .have a:i<m.h.ds.length:=R
  rw[rq a,List.any_cons]at e;refine ec R (cO ?_);refine dY (x:=fO m.h.ds[i]) (by simp[a]) (c9 ?_)
  refine d3 (λdW=>?_) λdW=>?_
  .have b:(m.h.ds[i].1==k)=N:=by simpa using(show m.h.ds[i].1=k by omega)
   rw[b,Bool.true_or]at e;rw[e];refine de ?_;exact f7 Z Z Z eJ
  .have b:(m.h.ds[i].1==k)=L:=by simpa using(show ¬m.h.ds[i].1=k by omega)
   rw[b,Bool.false_or]at e;refine de ?_;exact⟨i+1,⟨by omega,e⟩,by omega,(dZ (dT ih eJ d0))⟩
 .have:i=m.h.ds.length:=R
  subst this;rw[aqX]at e;rw[e];refine de ?_;exact f7 Z Z Z eJ
def aqY(m)(k:V)(w)(now:I)(a:m.ws[k]?=U w)(cP:w.todo.length<=w.ended):
  fG cR 110 [.ptr 1000000 0 0,.d k,.ptr 1000001 k 0,.d now] (e9 m) (e9 m) (.bool L):=by
 have g:=ot a
 have t:(w.todo.map kn).length=w.todo.length:=ef ..
 refine g_ aqZ 4 Z c2 f0 (de ?_);refine e' ?_;exact f7 Z Z Z eJ
def aq0(m:ey)(k w now)(b:m.ws[k]?=U w)(cP:¬w.todo.length<=w.ended)(o:i1 m.h)(a:k<4)(cY:k∉m.h.all)(l:m.h.ds.length+m.h.q.length<=3):
  fG cR 110 [.ptr 1000000 0 0,.d k,.ptr 1000001 k 0,.d (.int .i64 now)] (e9 m) (e9 {qd m k {w with jW:=now,st:=1} with h:=Ad m.h k}) (.bool N):=by
 have g:=ot b
 have t:(w.todo.map kn).length=w.todo.length:=ef ..
 refine g_ aqZ 4 Z c2 f0 (de ?_);refine e' ?_;refine df (apX m.h o k a cY l) (de ?_);refine dY g (de ?_);refine dY (vn (q0 b)) (de ?_);exact f7 Z Z Z ⟨c2,tW (C2 _ {w with jW:=now,st:=1}),Z,dU⟩
namespace Hy
open Go.Proofs Go.RowKit
namespace P9
abbrev mJ:V:=3
abbrev aa4:V:=124
abbrev Am:=Tryz.func266
abbrev An:=Tryz.func299
end P9
section
open Go.Lk.Hy.P9
def aq1 {l vs:J (J c3)} {i:V} (cK:i<=l.length) (dw:l.length<=1000000) (QT:0<vs.length) (cU:vs.length<=1000) (QS:gN 3 l=N) (O:gN 3 vs=N):
  u0 cR 266 l 3 [.d i,.own 1000000] [(1000000,.row vs 3 L)] [(1000000,.row vs 3 L)] (l.take i++(vs++l.drop i)):=aa2
end
def aq2{l}{i j:V}(cK:i<j)(d:j<=l.length)(m:l.length<=1000000)(o:gN 3 l=N):
  u0 cR 267 l 3 [.d i,.d j] [] [] (l.take i++l.drop j):=by
 apply OL Tryz.func267 3 Z c2 f0;refine⟨λcap c=>?_,λcW=>by rw[cW]at d;simp at d;omega⟩;have⟨cX,h⟩:∃cX,cX=l++eL (cap-l.length) (eL 3 c3.mm):=⟨_,Z⟩
 have e:cX.length=cap:=by rw[h];simp;omega
 have t:cX.take l.length=l:=by rw[h];simp
 have a:cX.take i=l.take i:=g3
 rw[<-h]
 conv=>whnf
 refine fC ⟨eG,by omega,by simp_all⟩ (cO ?_);refine T2 R R (c9 ?_)
 refine l7 (λb=>?_) λb=>?_
 .omega
 refine Bd g3 (cO ?_);refine ur R (by assumption) (cO ?_)
 have es:BZ (l.length-j) (List.drop (0+j) cX)=l.drop j:=g3
 have g:(l.drop j).length=l.length-j:=List.length_drop ..
 rw[es];refine fC ⟨by omega,Gg o j⟩ (cO ?_);refine⟨λf=>?_,λf=>dQ (show i-0+(l.drop j).length<=cap-0 by omega) f⟩
 conv=>whnf
 refine fC R (c9 ?_);refine T2 R (by assumption) (cO ?_);refine fC ⟨by simp;omega,Z⟩ (c9 ?_);refine zJ Z Z Z ?_ ?_ Z dU
 .simp;omega
 .have n:(l.take i).length=i:=by rw[pn];omega
  have k:(0:V)+0+(i-0)=i:=R
  have Q:∀Y:J (J c3),(BZ (0+(i-0)) cX++(l.drop j++Y)).take (0+(i-0+(l.drop j).length))=l.take i++l.drop j:=by intro Y;rw[show 0+(i-0)=i by omega,a,<-jC];exact zP eG
  rw[Q];exact zP eG
open Go.Lk.St
abbrev e_:=I×I×dS
def eB(x:e_):J c3:=[x.1,x.2.1,.str x.2.2]
def zY:∀(l:J e_),gN 3 (l.map eB)=N
 | []=>rfl|_::r=>zY r
def gp(x:e_):dh:=gV (1<=x.1)&&(decide (x.1<=16)&&(decide (1<=x.2.1)&&(decide (x.2.1<=2147483647)&&decide (x.2.2.size<=16))))
def kJ{x}:gp x=N↔1<=x.1/\x.1<=16/\1<=x.2.1/\x.2.1<=2147483647/\x.2.2.size<=16:=by simp[gp]
def FK(x):dX cR 193 [.agg (eB x)] (.bool (gp x)):=by
 refine d6 Tryz.func193 1 Z c2 (c9 ?_)
 refine d3 (λQ=>?_) λQ=>?_
 .exact dd Z (eR c3.bool w_)
 refine dH ?_
 refine d3 (λc=>?_) λc=>?_
 .exact dd Z (eR c3.bool w_)
 refine dH ?_
 refine d3 (λd=>?_) λd=>?_
 .exact dd Z (eR c3.bool w_)
 refine dH ?_
 refine d3 (λf=>?_) λf=>?_
 .exact dd Z (eR c3.bool w_)
 refine dH ?_
 exact dd Z (eR c3.bool (by
  have g:decide (1<=x.1)=N:=hd;have e:decide (x.1<=16)=N:=hd;have a:decide (1<=x.2.1)=N:=hd;have b:decide (x.2.1<=2147483647)=N:=hd
  rw[gp,g,e,a,b];simp;omega))
def Cr(l:J e_)(b:l.length<=1000000):j5 cR 96 [.dk (l.map eB)] (l.map eB) 3:=by
 refine lH Tryz.func96 1 Z c2 (cO (oG (cO ?_)));intro r a
 conv=>whnf
 refine m8 (λh=>?_) λh=>?_
 .have:=a h;exact⟨2,Z,.inr ⟨Z,this⟩⟩
 .refine fC (zY l) (cO ?_);refine fV 1000100 100 AL c1 c1 c1 (cO ?_);exact⟨2,Z,.inl ⟨5,Z,Z⟩⟩
structure KJ(l:J e_):Prop where
 one:∀x∈l,gp x=N
 KL:∀i,(cK:i+1<l.length)->l[i].1<l[i+1].1
open Classical in
def q1(l:J e_):dh:=gV (KJ l)
def KM{l}:q1 l=N↔KJ l:=by simp[q1]
def abr{l}:q1 l=L↔¬KJ l:=by simp[q1]
structure KN(l:J e_)(k:V):Prop where
 le:k<=l.length
 one:∀i,i<k->(cK:i<l.length)->gp l[i]=N
 KL:∀i,i+1<k->(cK:i+1<l.length)->l[i].1<l[i+1].1
def aq3{l k}(h:KN l k)(c6:¬k<l.length):q1 l=N:=by
 have c6:k=l.length:=by have:=h.le;omega
 subst c6;refine KM.2 ⟨λx a=>?_,λi cK=>h.KL i cK cK⟩;obtain⟨i,cK,rfl⟩:=kg.1 a;exact h.one i cK cK
def abt{l k}(h:KN l k)(c6:k<l.length)(Q:gp l[k]=N)(c5:∀i,i+1=k->(cK:i<l.length)->l[i].1<l[k].1):KN l (k+1):=by
 refine⟨R,λi cK a=>?_,λi cK a=>?_⟩
 .by_cases e:i=k
  .simp_all
  .exact h.one i R a
 .by_cases e:i+1=k
  .simp_all
  .exact h.KL i R a
def aq4{l k}(c6:k<l.length)(Q:gp l[k]=L):q1 l=L:=abr.2 λh=>by
 have:=h.one l[k] (hS c6);simp_all
def aq5{l:J e_}{i:V}(cK:i+1<l.length)(h:l[i+1].1<=l[i].1):q1 l=L:=abr.2 λa=>by
 have:=a.KL i cK;omega
def abu(l)(dw:l.length<=1000000):dX cR 143 [.agg [.dk (l.map eB)]] (.bool (q1 l)):=by
 refine d6 Tryz.func143 1 Z c2 (c9 ?_)
 have d8:(l.map eB).length=l.length:=ef ..
 refine eZ (D:=V) (λk=>[(1,.ptr 1 0 0),(6,.d (.dk (l.map eB))),(7,.d (l.map eB).length),(8,.d k)]) (λ_=>[(1,.box [.d (.dk (l.map eB))] L)])
  (λk=>KN l k) (λk=>l.length-k) 0 (⟨R,R,R⟩) (dZ (dT fj eN d0)) ?_
 intro k c6
 conv=>whnf
 refine l7 (λdz=>?_) λdz=>?_
 .have a:k<l.length:=R
  refine ec R (cO ?_);refine dY (x:=eB l[k]) (by simp[a]) (c9 ?_);refine df (FK l[k]) (c9 ?_)
  refine iD (λdG=>?_) λdG=>?_
  .exact dd Z (eR c3.bool (aq4 a eG).symm)
  have dG:gp l[k]=N:=by simpa using dG
  refine dH ?_
  refine l7 (λc=>?_) λc=>?_
  .obtain⟨j,rfl⟩:∃j,k=j+1:=⟨k-1,by omega⟩
   have e:(((j+1:V):I))-1=((j:V):I):=R
   refine dH ?_;rw[e];refine ec R (cO ?_);refine dY (x:=eB l[j]) g3 (c9 ?_)
   refine d3 (λb=>?_) λb=>?_
   .exact dd Z (eR c3.bool (aq5 a b).symm)
   .refine dH ?_
    exact⟨j+2,abt c6 a dG λi cK f=>by
     simp_all,by omega,(dZ (dT fj eN d0))⟩
  .exact⟨k+1,abt c6 a dG λi cK f=>by omega,by omega,(dZ (dT fj eN d0))⟩
 .exact dd Z (eR c3.bool (aq3 c6 R).symm)
def lk(l:J e_)(id:I):V:=l.findIdx λp=>gV (id<=p.1)
def q2(l:J e_)(id:I):dh:=match l[lk l id]? with|some p=>decide (p.1=id)|none=>L
def abv{l id k}(c6:k<l.length)(Q:id<=l[k].1)(h:∀i,i<k->(cK:i<l.length)->l[i].1<id):lk l id=k:=by unfold lk;grind
def aq6{l id}(h:∀i,i<l.length->(cK:i<l.length)->l[i].1<id):lk l id=l.length:=by unfold lk;grind
def sz(l id)(dw:l.length<=1000000):dX cR 144 [.agg [.dk (l.map eB)],.int .i64 id] (.dP [.int .i64 (lk l id),.bool (q2 l id)]):=by
 refine d6 Tryz.func144 2 Z c2 (c9 ?_)
 have d8:(l.map eB).length=l.length:=ef ..
 refine eZ (D:=V) (λk=>[(1,.d id),(2,.ptr 2 0 0),(9,.d (.dk (l.map eB))),(10,.d (.int .i64 (l.map eB).length)),(11,.d (.int .i64 k))]) (λ_=>[(2,.box [.d (.dk (l.map eB))] L)])
  (λk=>k<=l.length/\ ∀i,i<k->(cK:i<l.length)->l[i].1<id) (λk=>l.length-k) 0 ⟨R,R⟩ (dZ (dT ih eN d0)) ?_
 rintro k ⟨c6,b⟩
 conv=>whnf
 refine l7 (λdz=>?_) λdz=>?_
 .have eM:k<l.length:=by omega
  refine ec R (cO ?_);refine dY (x:=eB l[k]) iy (c9 ?_)
  refine iv (λg=>?_) λg=>?_
  .have e:=abv eM g b
   have a:q2 l id=gV (l[k].1=id):=by simp[q2,e,eM]
   rw[a,e];exact dd Z Z
  .refine dH ?_
   exact⟨k+1,⟨R,λi cK c=>by
    grind⟩,R,(dZ (dT ih eN d0))⟩
 .have e:=aq6 λi cK c=>b i R c
  have a:q2 l id=L:=by simp[q2,e]
  rw[a,e,<-d8];rfl
abbrev Op:=I×I×dS
def aq7(o:Op):J c3:=[o.1,o.2.1,.str o.2.2]
abbrev abw:=I×e_
def d':e_:=(0,0,fI)
def abx(r:abw):J c3:=[r.1,r.2.1,r.2.2.1,.str r.2.2.2]
def o1(l:J e_)(o:Op):J e_×abw:=
 if q1 l=L\/o.1<1\/4<o.1\/o.2.1<1\/16<o.2.1 then(l,(1,d')) else
 if o.1=1 then(if q2 l o.2.1=N then(l,(4,d')) else(l.take (lk l o.2.1)++(o.2.1,1,fI)::l.drop (lk l o.2.1),(0,(o.2.1,1,fI)))) else
 if q2 l o.2.1=L then(l,(3,d')) else
 match l[lk l o.2.1]? with
 |none=>(l,(0,d'))
 |some p=>if o.1=2 then(l,(0,p)) else
  if o.1=4 then(l.take (lk l o.2.1)++l.drop (lk l o.2.1+1),(0,d')) else
  if 16<o.2.2.size then(l,(5,d')) else
  if 2147483647<=p.2.1 then(l,(7,d')) else(l.set (lk l o.2.1) (p.1,p.2.1+1,o.2.2),(0,(p.1,p.2.1+1,o.2.2)))
def aq8(l o)(dw:l.length<=1000):dX cR 203 [.agg [.dk (l.map eB)],.agg (aq7 o)] (.dP [.agg [.dk ((o1 l o).1.map eB)],.agg (abx (o1 l o).2)]):=by
 refine d6 Tryz.func203 2 Z c2 (c9 ?_);refine df (abu l R) (c9 ?_)
 refine j9 (λb=>?_) λb=>?_
 .have e:o1 l o=(l,(1,d')):=if_pos (.inl eG);rw[e];exact dd Z Z
 have b:q1 l=N:=by simpa using b
 refine dH ?_
 refine iv (λdG=>?_) λdG=>?_
 .have e:o1 l o=(l,(1,d')):=if_pos (.inr (.inl dG));rw[e];exact dd Z Z
 refine dH ?_
 refine iv (λp=>?_) λp=>?_
 .have e:o1 l o=(l,(1,d')):=if_pos (.inr (.inr (.inl p)));rw[e];exact dd Z Z
 refine dH ?_
 refine iv (λq=>?_) λq=>?_
 .have e:o1 l o=(l,(1,d')):=if_pos (.inr (.inr (.inr (.inl q))));rw[e];exact dd Z Z
 refine dH ?_
 refine iv (λr=>?_) λr=>?_
 .have e:o1 l o=(l,(1,d')):=if_pos (.inr (.inr (.inr (.inr r))));rw[e];exact dd Z Z
 have c:¬(q1 l=L\/o.1<1\/4<o.1\/o.2.1<1\/16<o.2.1):=by rw[b];simp;omega
 refine dH ?_;refine df (sz l o.2.1 R) (c9 ?_)
 refine d3 (λk1=>?_) λk1=>?_
 .refine dH ?_
  refine m8 (λa=>?_) λa=>?_
  .refine dH ?_
   have e:o1 l o=(l,(4,d')):=by rw[o1,cT c,if_pos k1,if_pos a]
   rw[e];exact dd Z Z
  refine gK (Cr l R) (c9 ?_)
  have d8:(l.map eB).length=l.length:=ef ..
  refine wt (aq1 (l:=l.map eB) (vs:=[eB (o.2.1,1,fI)]) (i:=lk l o.2.1) (by rw[d8];exact List.findIdx_le_length) R (aqk 0) dt (zY l) Z) [(1000000,57)] Z lr Z (c9 ?_)
  have e:o1 l o=(l.take (lk l o.2.1)++(o.2.1,1,fI)::l.drop (lk l o.2.1),(0,(o.2.1,1,fI))):=by rw[o1,cT c,if_pos k1,cT eG]
  rw[e]
  have f:(l.take (lk l o.2.1)++(o.2.1,1,fI)::l.drop (lk l o.2.1)).map eB=(l.map eB).take (lk l o.2.1)++([eB (o.2.1,1,fI)]++(l.map eB).drop (lk l o.2.1)):=dt
  rw[f];exact dd Z Z
 refine dH ?_
 refine iD (λa=>?_) λa=>?_
 .refine dH ?_
  have e:o1 l o=(l,(3,d')):=by rw[o1,cT c,cT k1,if_pos eG]
  rw[e];exact dd Z Z
 have a:q2 l o.2.1=N:=by simpa using a
 have⟨n,cY⟩:∃n,lk l o.2.1=n:=⟨_,Z⟩;rw[cY]
 have d8:(l.map eB).length=l.length:=ef ..
 have⟨d,u⟩:∃h:n<l.length,l[n].1=o.2.1:=by have hb:=a;unfold q2 at hb;grind
 have s:o1 l o=(if o.1=2 then(l,(0,l[n])) else
  if o.1=4 then(l.take n++l.drop (n+1),(0,d')) else
  if 16<o.2.2.size then(l,(5,d')) else
  if 2147483647<=l[n].2.1 then(l,(7,d')) else(l.set n (l[n].1,l[n].2.1+1,o.2.2),(0,(l[n].1,l[n].2.1+1,o.2.2)))):=by
  rw[o1,cT c,cT k1,cT eG,cY,fe d]
 rw[s];clear s;refine dH ?_;refine ec R (cO ?_);refine dY (x:=eB l[n]) (by simp[d]) (c9 ?_)
 refine d3 (λeF=>?_) λeF=>?_
 .rw[if_pos eF];refine dH ?_;exact dd Z Z
 rw[cT eF];refine dH ?_
 refine d3 (λg=>?_) λg=>?_
 .rw[if_pos g];refine dH ?_;refine gK (Cr l R) (c9 ?_);refine wt (aq2 (l:=l.map eB) (i:=n) (j:=n+1) R R R (zY l)) [] Z eN Z (c9 ?_);rw[jt,xN,aqj];exact dd Z Z
 rw[cT g];refine dH ?_
 refine d3 (λt=>?_) λt=>?_
 .rw[if_pos (show 16<o.2.2.size by omega)];refine dH ?_;exact dd Z Z
 rw[cT (show ¬16<o.2.2.size by omega)];refine dH ?_
 refine d3 (λm=>?_) λm=>?_
 .rw[if_pos m];refine dH ?_;exact dd Z Z
 rw[cT m];have cU:=kJ.1 ((KM.1 b).one l[n] (hS d));refine dH ?_;refine gK (Cr l R) (c9 ?_);refine ec R (cO ?_);refine dY (x:=eB l[n]) (by simp[d]) (c9 ?_)
 have f:(l.set n (l[n].1,l[n].2.1+1,o.2.2)).map eB=(l.map eB).set n (eB (l[n].1,l[n].2.1+1,o.2.2)):=sv ..
 apply dd Z;show c3.dP [.agg [.dk ((l.map eB).set n (eB (l[n].1,l[n].2.1+1,o.2.2)))],.agg (abx (0,(l[n].1,l[n].2.1+1,o.2.2)))]=_;rw[<-f]
end Hy
open Go.Proofs Go.RowKit
def aby(o):dX cR 148 [.agg (kn o)] (.bool (lR o)):=by
 have h:=Hy.aq8 [] o dt;have d8:Hy.q1 []=N:=Hy.KM.2 ⟨λx eC=>uh,λi cK=>dQ cK dt⟩
 have e:decide ((Hy.o1 [] o).2.1=1)=lR o:=by
  rw[Hy.o1,lR,d8]
  by_cases Q:o.1<1
  .rw[if_pos aeJ];simp[Q]
  by_cases c5:4<o.1
  .rw[if_pos (by simp[c5])];simp[c5]
  by_cases a:o.2.1<1
  .rw[if_pos (by simp[a])];simp[a]
  by_cases b:16<o.2.1
  .rw[if_pos (by simp[b])];simp[b]
  rw[cT eG,decide_eq_false Q,decide_eq_false c5,decide_eq_false a,decide_eq_false b]
  by_cases dz:o.1=1
  .rw[if_pos dz];rfl
  .rw[cT dz];rfl
 rw[<-e];refine d6 Tryz.func148 1 Z c2 (di ?_);refine e' ?_;exact dd Z Z
def aq9{l i x}(h:i<l.length)(j):hV (l.set i x) j=if i=j then x else hV l j:=by unfold hV;grind
def ara(m):∀i,i<17->((rN m).drop (13+i*3)).take 3=lc m.ek i
 |0,_=>rfl|1,_=>rfl|2,_=>rfl|3,_=>rfl|4,_=>rfl|5,_=>rfl|6,_=>rfl|7,_=>rfl|8,_=>rfl|9,_=>rfl|10,_=>rfl|11,_=>rfl|12,_=>rfl|13,_=>rfl|14,_=>rfl|15,_=>rfl|16,_=>rfl|n+17,h=>dQ h R
def abz(m):(rN m).length=75:=rfl
def KO{m i j s K}(cK:i<17)(a:j=13+i*3)(b:s=3)(k:K (lc m.ek i)):bif hn (j+s) (rN m).length then qt (((rN m).drop j).take s) K else False:=by subst a b;rwa[ara m i cK,abz,r_ R]
def arb(m x)(b:m.ek.length=17):∀i,i<17->Bg (rN m) (13+i*3) (x.cells.map dn.d)=rN {m with ek:=m.ek.set i x}:=by
 intro i cK;have s:=λj=>aq9 (l:=m.ek) (i:=i) (x:=x) R j
 have a:∀j,lc (m.ek.set i x) j=if i=j then x.cells.map dn.d else lc m.ek j:=λj=>by
  unfold lc;grind
 have e:rN {m with ek:=m.ek.set i x}=.own 1000001::(m.p.box++(m.h.cells.map dn.d++(Gl (m.ek.set i x)++((m.s.cells m.p.d).map dn.d++[.d m.d5,.own 1000004])))):=Z;rw[e,Gl];simp[a]
 match i,cK with
 |0,_=>rfl|1,_=>rfl|2,_=>rfl|3,_=>rfl|4,_=>rfl|5,_=>rfl|6,_=>rfl|7,_=>rfl|8,_=>rfl|9,_=>rfl|10,_=>rfl|11,_=>rfl|12,_=>rfl|13,_=>rfl|14,_=>rfl|15,_=>rfl|16,_=>rfl|n+17,h=>exact dQ h R
def abA{m i j s l x K}(cK:i<17)(b:m.ek.length=17)(a:j=13+i*3)(c:s=3)(d:l=x.cells.map dn.d)(k:K (rN {m with ek:=m.ek.set i x})):
  bif hn (j+s) (rN m).length then HF (rN m) j (.agg l) K else False:=by
 subst a c d;rw[abz,r_ R];show K (Bg (rN m) (13+i*3) (x.cells.map dn.d));rw[arb m x b i cK];exact k
def KP(ws:J fH):J (V×d4):=[(1000001,.row (ws.map jX) 11 L)]
def yp(ws k w)(a:ws[k]?=U w)(b:w.ended<w.todo.length):fG cR 147 [.ptr 1000001 k 0] (KP ws) (KP ws) (.agg (kn w.op)):=by
 have g:(ws.map jX)[k]?=U (jX w):=by rw[iO,a];rfl
 have m:(w.todo.map kn).length=w.todo.length:=ef ..
 have o:(w.todo.map kn)[w.ended]?=U (kn w.op):=by rw[iO,fH.op,fe b];rfl
 refine g_ Tryz.func147 1 Z c2 f0 (de ?_);refine e' ?_;exact f7 Z Z Z eN
def yq(ws k w)(a:ws[k]?=U w)(r now):fG cR 117 [.ptr 1000001 k 0,.agg ((Ka r).map dn.d),.d (.int .i64 now)] (KP ws) (KP (ws.set k (me w r now))) (.dP []):=by
 have g:(ws.map jX)[k]?=U (jX w):=by rw[iO,a];rfl
 have l:k<(ws.map jX).length:=by rw[ef];exact(fM.1 a).1
 refine g_ Tryz.func117 3 Z c2 f0 (de ?_);refine dY g (de ?_);refine dY (vn l) (de ?_);refine dY (vn eG) (de ?_);exact f7 Z Z Z ⟨tW (aqW _ _ (me w r now)),dU⟩
def Q4(m:ey)(k:V)(w:fH):ey:={qd m k {w with asked:=N,st:=2} with ek:=vj m.ek w.op.2.1 (vh (jY m w.op.2.1) k (decide (w.op.1≠2)))}
def C3{o}(h:lR o=L):1<=o.1/\o.1<=4/\1<=o.2.1/\o.2.1<=16:=by simp[lR,Bool.or_eq_false_iff,It]at h;omega
set_option maxRecDepth 20000 in
def arc(m k)(w:fH)(now:I)(l:m.h.ds.length<=1000)(c:jV m.h k=L):
  fG cR 111 [.ptr 1000000 0 0,.d k,.ptr 1000001 k 0,.d now] (e9 m) (e9 m) (.bool L):=by
 have cK:=Q3 m k l;rw[c]at cK;refine g_ abB 4 Z c2 f0 (de ?_);refine ga cK im Z eJ Z (de ?_);exact f7 Z Z Z eJ
set_option maxRecDepth 20000 in
def ard(m k w now)(a:m.ws[k]?=U w)(b:w.ended<w.todo.length)(l:m.h.ds.length<=1000)(c:jV m.h k=N)(d:lR w.op=N):
  fG cR 111 [.ptr 1000000 0 0,.d k,.ptr 1000001 k 0,.d (.int .i64 now)] (e9 m) (e9 (qd m k (me w (1,d') now))) (.bool N):=by
 have cK:=Q3 m k l;rw[c]at cK;have r:=aby w.op;rw[d]at r;refine g_ abB 4 Z c2 f0 (de ?_);refine ga cK im Z eJ Z (de ?_);refine ga (yp m.ws k w a b) [(1000001,1000001)] Z eN Z (de ?_);refine df r (de ?_);refine ga (yq m.ws k w a (1,d') now) [(1000001,1000001)] Z eN Z (de ?_);exact f7 Z Z Z eJ
set_option maxRecDepth 20000 in
def are(m k w)(now:I)(f:m.ws[k]?=U w)(s:w.ended<w.todo.length)(v:m.h.ds.length<=1000)(t:jV m.h k=N)(n:lR w.op=L)
  (e:m.ek.length=17)(g:k<4)(o:qX (jY m w.op.2.1))(cY:k∉(jY m w.op.2.1).c7++(jY m w.op.2.1).q.map (·.1))(l:(jY m w.op.2.1).c7.length+(jY m w.op.2.1).q.length<=3):
  fG cR 111 [.ptr 1000000 0 0,.d k,.ptr 1000001 k 0,.d now] (e9 m) (e9 (Q4 m k w)) (.bool N):=by
 have cK:=Q3 m k v;rw[t]at cK;have r:=aby w.op;rw[n]at r;have⟨y,z,A,B⟩:=C3 n;have⟨i,d⟩:∃i:V,w.op.2.1=(i:I):=⟨w.op.2.1.toNat,R⟩;have c:i<17:=R
 have cL:jY m w.op.2.1=hV m.ek i:=by rw[jY,d];rfl
 rw[cL]at o cY l;have⟨b,a⟩:=aql (hV m.ek i) o k (decide (w.op.1≠2)) g cY l;have u:=ot f;have j:decide (w.op.1≠2)=!decide (w.op.1=2):=decide_not;rw[j]at a;refine g_ abB 4 Z c2 f0 (de ?_);refine ga cK im Z eJ Z (de ?_);refine ga (yp m.ws k w f s) [(1000001,1000001)] Z eN Z (de ?_);refine df r (de ?_);rw[d];refine ec R (de ?_);refine KO c f0 Z (de ?_);refine df a (de ?_);refine ec R (de ?_);refine abA (m:=m) (x:=vh (hV m.ek i) k (!decide (w.op.1=2))) c e f0 Z Z (de ?_);refine dY u (de ?_);refine dY (vn (q0 f)) (de ?_)
 have q:Q4 m k w={qd m k {w with asked:=N,st:=2} with ek:=m.ek.set i (vh (hV m.ek i) k (!decide (w.op.1=2)))}:=by rw[Q4,j,cL,vj,d];rfl
 rw[q];exact f7 Z Z Z ⟨c2,tW (C2 _ {w with asked:=N,st:=2}),Z,dU⟩
def abC{O}:∀ {l},nZ O l->gj O l=O
 | [],_=>rfl
 |(b,B)::r,h=>by
  have e:eO O b (U B)=O:=by
   funext t
   by_cases q:t=b
   .subst q;rw[gE];exact h.1.symm
   .rw[gf _ _ q]
  rw[gj,e];exact abC h.2
def C4{P f args dD p d O K}(H:fG P f args p p d)(s)
  (u:(wm s p&&zE s)=N)(z:et s 1000004=cM)(c:nZ O (kj s p))(x:n' s args=dD)(k:K ⟨lx d,[],cM⟩):y' P f dD O K:=by
 have h:=H.2 s O (I2 u) (zF c);rw[z,x]at h;refine MF (e:=⟨lx d,[],cM⟩) ⟨h.1,λcV own M D w vs o r q c_ cP=>(h.2 cV own M D w vs o r q c_ cP).mono λy w' t=>have⟨v,b,eg,A,g,i,j,l,a,m,n⟩:=t;⟨v,b,eg,A,g,i,j,l,?_,m,n⟩⟩ k;have:(⟨lx d,kj s p,cM⟩:ge).O O=O:=abC c;rwa[this]at a
set_option maxRecDepth 20000 in
def arf(m k w)(d:m.ws[k]?=U w)(c:w.ended<w.todo.length)(b:0<=w.op.2.1)(i:w.op.2.1.toNat<17)(l:qX (hV m.ek w.op.2.1.toNat))(o:vi (hV m.ek w.op.2.1.toNat) k=L):
  fG cR 112 [.ptr 1000000 0 0,.d k,.ptr 1000001 k 0] (e9 m) (e9 m) (.bool L):=by
 have a:=aa1 (hV m.ek w.op.2.1.toNat) l k;rw[o]at a;refine g_ arh 3 Z c2 f0 (de ?_);refine C4 (yp m.ws k w d c) [(1000001,1000001)] Z Z eN Z (de ?_);refine kb b R (de ?_);refine KO i Sv Z (de ?_);refine df a (de ?_);exact f7 Z Z Z eJ
set_option maxRecDepth 20000 in
def ari(m k w)(c:m.ws[k]?=U w)(d:w.ended<w.todo.length)(b:0<=w.op.2.1)(i:w.op.2.1.toNat<17)(l:qX (hV m.ek w.op.2.1.toNat))(o:vi (hV m.ek w.op.2.1.toNat) k=N):
  fG cR 112 [.ptr 1000000 0 0,.d k,.ptr 1000001 k 0] (e9 m) (e9 (qd m k {w with st:=3})) (.bool N):=by
 have g:=ot c;have a:=aa1 (hV m.ek w.op.2.1.toNat) l k;rw[o]at a;refine g_ arh 3 Z c2 f0 (de ?_);refine C4 (yp m.ws k w c d) [(1000001,1000001)] Z Z eN Z (de ?_);refine kb b R (de ?_);refine KO i Sv Z (de ?_);refine df a (de ?_);refine e' ?_;exact f7 Z Z Z ⟨Z,tW (Q2 {w with st:=3}),Z,dU⟩
set_option maxRecDepth 20000 in
def arj(m k w)(a:m.ws[k]?=U w)(b:w.ended<w.todo.length)(o:i1 m.h)(c:jV m.h k=N)(c_:lP m.h k=L)(F:ew m.p.f)(r:wS m.h k=(m.h,6)):
  fG cR 113 [.ptr 1000000 0 0,.d k,.ptr 1000001 k 0] (e9 m) (e9 m) (.bool L):=by
 have g:=ot a;have O:=QH m.h o k c c_;rw[r]at O;have f:=tL m.p.f w.op.2.1 F.hY F.dl;refine g_ abD 3 Z c2 f0 (de ?_);refine e' ?_;exact f7 Z Z Z eJ
def ark(m:ey)(k:V)(w:fH):ey:={qd m k {w with pinned:=N,st:=5} with h:=qc m.h k}
def arl(m:ey)(k:V)(w:fH):ey:={qd m k {w with pinned:=N,st:=4} with h:=qc m.h k,s:=tT m.s k w.op.2.1}
set_option maxRecDepth 20000 in
def arn(m k w)(a:m.ws[k]?=U w)(c:w.ended<w.todo.length)(o:i1 m.h)(d:jV m.h k=N)(c_:lP m.h k=L)(F:ew m.p.f)(r:wS m.h k=(qc m.h k,0))(n:¬(rI m.p w.op.2.1=L/\ (w.op.1=2\/w.op.1=3))):
  fG cR 113 [.ptr 1000000 0 0,.d k,.ptr 1000001 k 0] (e9 m) (e9 (ark m k w)) (.bool N):=by
 have b:=ot a;have O:=QH m.h o k d c_;rw[r]at O;have f:=tL m.p.f w.op.2.1 F.hY F.dl;refine g_ abD 3 Z c2 f0 (de ?_);refine df O (de ?_);refine C4 (yp m.ws k w a c) [(1000001,1000001)] Z Z eN Z (de ?_);refine df f (de ?_)
 refine iD (λe=>?_) λe=>?_
 .refine de ?_;refine dY b (de ?_);refine dY (vn (q0 a)) (de ?_);exact f7 Z Z Z ⟨c2,tW (C2 _ {w with pinned:=N,st:=5}),Z,dU⟩
 .have i:¬(w.op.1=2\/w.op.1=3):=λg=>n ⟨e,g⟩;refine de ?_;refine dY b (de ?_);refine dY (vn (q0 a)) (de ?_);exact f7 Z Z Z ⟨c2,tW (C2 _ {w with pinned:=N,st:=5}),Z,dU⟩
set_option maxRecDepth 20000 in
def aro(m k w)(a:m.ws[k]?=U w)(l:w.ended<w.todo.length)(s:i1 m.h)(o:jV m.h k=N)(c_:lP m.h k=L)(F:ew m.p.f)(r:wS m.h k=(qc m.h k,0))(n:rI m.p w.op.2.1=L)(i:w.op.1=2\/w.op.1=3)
  (os:rH m.s)(t:ix m.p.d)(c:k<m.s.ez.length)(j:m.s.ez[k]=cM)(Q:1<=w.op.2.1)(b:w.op.2.1<=16):
  fG cR 113 [.ptr 1000000 0 0,.d k,.ptr 1000001 k 0] (e9 m) (e9 (arl m k w)) (.bool N):=by
 have d:=aqO m.s m.p.d os t k c j w.op.2.1 Q b;have f:=ot a;have O:=QH m.h s k o c_;rw[r]at O;have q:=tL m.p.f w.op.2.1 F.hY F.dl;refine g_ abD 3 Z c2 f0 (de ?_);refine df O (de ?_);refine C4 (yp m.ws k w a l) [(1000001,1000001)] Z Z eN Z (de ?_);refine df q (de ?_)
 refine iD (λe=>?_) λe=>?_
 .rw[rI,e]at n;cases n
 .refine de ?_
  refine d3 (λg=>?_) λg=>?_
  .refine de ?_;refine df d (de ?_);refine dY f (de ?_);refine dY (vn (q0 a)) (de ?_);exact f7 Z Z Z ⟨c2,tW (C2 _ {w with pinned:=N,st:=4}),Z,dU⟩
  .refine de ?_;refine df d (de ?_);refine dY f (de ?_);refine dY (vn (q0 a)) (de ?_);exact f7 Z Z Z ⟨c2,tW (C2 _ {w with pinned:=N,st:=4}),Z,dU⟩
def arW(k):j5 cR 153 [.int .i64 k] ((kM k).map hT) 1:=by
 apply lH Tryz.func153 1 Z c2;rw[kM]
 conv=>whnf
 refine d3 (λQ=>?_) λQ=>?_
 .rw[if_pos Q];refine de ?_;exact⟨2,Z,.inl ⟨6,Z,Z⟩⟩
 rw[cT Q];refine de ?_
 refine d3 (λa=>?_) λa=>?_
 .rw[if_pos a];refine de ?_;exact⟨2,Z,.inl ⟨9,Z,Z⟩⟩
 rw[cT a];refine de ?_
 refine d3 (λb=>?_) λb=>?_
 .rw[if_pos b];refine de ?_;exact⟨2,Z,.inl ⟨12,Z,Z⟩⟩
 rw[cT b];refine de ?_
 refine d3 (λc=>?_) λc=>?_
 .rw[if_pos c];refine de ?_;exact⟨2,Z,.inl ⟨15,Z,Z⟩⟩
 rw[cT c];refine de ?_;exact⟨2,Z,.inr hg⟩
def ab9(m:ey)(d:gm):J dn:=.own 1000001::(m.p.box++(m.h.cells.map dn.d++(Gl m.ek++((m.s.cells d).map dn.d++[.d m.d5,.own 1000004]))))
def C6(m:ey)(d:gm):J (V×d4):=[(1000000,.box (ab9 m d) L),(1000001,.row (m.ws.map jX) 11 L),(1000004,.row (m.du.map pC) 11 L)]
def At(m:ey)(p:fW):ey:={m with p:=p}
def aca(m d id)(F:ew m.p.f)(cW:id≠0):fG cR 154 [.ptr 1000000 0 0,.d (.int .i64 id)] (C6 m d) (C6 m d) (.bool (vk m.p id)):=by
 have f:=tL m.p.f id F.hY F.dl
 have a:(m.p.f.cN.map fp).length=m.p.f.cN.length:=ef ..
 apply g_ Tryz.func154 2 Z c2 f0;rw[vk]
 conv=>whnf
 refine de ?_;rcases F.wL cW with⟨_,n⟩|⟨i,_,c8⟩
 .rw[qW F n cW]at f⊢;refine e' ?_;exact f7 Z Z Z eJ
 .rw[qa c8]at f⊢;have cK:=c8.cK;refine df f (de ?_);refine ec R (cO ?_);refine dY (x:=fp m.p.f.cN[i]) Ly (c9 ?_);exact f7 Z (by simp only[Bool.true_and,gl,jT cK];rfl) Z eJ
structure arX(o:gH)(ja:fW)(t:I)(uS:J I)(s:V×fW×lQ):Prop where
 le:s.1<=uS.length
 nL:gc t s.2.1
 eq:oY o (uS.drop s.1) s.2.1 s.2.2=oY o uS ja (0,d')
def arY(k):(kM k).length<=2:=by rw[kM];grind
set_option maxRecDepth 20000 in
def ar0(m k w now t)(j:m.ws[k]?=U w)(E:w.ended<w.todo.length)(g:gc t m.p)(A:t<=2147483647)(H:lR w.op=L):
  fG cR 114 [.ptr 1000000 0 0,.ptr 1000001 k 0,.d (.int .i64 now)] (e9 m) (e9 {qd m k (me w (gI m.p w.op).2 now) with p:=(gI m.p w.op).1}) (.dP []):=by
 have⟨dr,cV,K,cL⟩:=C3 H;have C:=arY w.op.1
 have F:((kM w.op.1).map hT).length=(kM w.op.1).length:=ef ..
 refine g_ Tryz.func114 3 Z c2 f0 (de ?_);refine C4 (yp m.ws k w j E) [(1000001,1000001)] Z Z eN Z (de ?_);refine gK (arW w.op.1) (de ?_);refine eZ (D:=V×fW×lQ) (λs=>[(0,.ptr 1000000 0 0),(1,.ptr 1000001 k 0),(2,.d now),(6,.ptr 6 0 0),(7,.ptr 7 0 0),(22,.own 22),(23,.d ((kM w.op.1).map hT).length),(24,.d s.1)])
  (λs=>[(1000000,.box (ab9 (At m s.2.1) m.p.d) L),(1000001,.row (m.ws.map jX) 11 L),(1000004,.row (m.du.map pC) 11 L),(6,.box ((kn w.op).map dn.d) L),(7,.box ((Ka s.2.2).map dn.d) L),(22,.row ((kM w.op.1).map hT) 1 L)])
  (arX w.op m.p t (kM w.op.1)) (λs=>(kM w.op.1).length-s.1) (0,m.p,(0,d')) ⟨e3 _,g,Z⟩ (dZ (dT lY mS d0)) ?_
 rintro⟨i,p,r⟩ ⟨cK,l,f⟩;simp only[]at cK l f⊢
 conv=>whnf
 refine d3 (λdz=>?_) λdz=>?_
 .have u:i<(kM w.op.1).length:=R
  rw[rk u,oY]at f;have o:=J' p ((kM w.op.1)[i],w.op.2.1,w.op.2.2) l.fm (by rwa[l.now]);have c:=(l.act ((kM w.op.1)[i],w.op.2.1,w.op.2.2)).1;have⟨q,G⟩:∃q,iS p ((kM w.op.1)[i],w.op.2.1,w.op.2.2)=q:=⟨_,Z⟩;rw[G]at o f c;refine ec R (cO ?_);refine dY (x:=hT (kM w.op.1)[i]) (by simp[u]) (c9 ?_);refine de ?_;refine df o (de ?_)
  refine d3 (λv=>?_) λv=>?_
  .rw[cT (λz=>z v)]at f;refine de ?_;refine⟨(i+1,q.1,(r.1,q.2.1)),⟨AJ,c,f⟩,AJ,(dZ (dT lY mS d0))⟩
  .rw[if_pos v]at f;have dG:=c;have d:=J' q.1 (5,w.op.2.1,fI) dG.fm (by rwa[dG.now]);have⟨h,e⟩:∃h,iS q.1 (5,w.op.2.1,fI)=h:=⟨_,Z⟩;rw[e]at d;have a:=aca (At m q.1) m.p.d w.op.2.1 dG.fm R;replace a:fG cR 154 [.ptr 1000000 0 0,.d (.int .i64 w.op.2.1)] (C6 (At m q.1) m.p.d) (C6 (At m q.1) m.p.d) (.bool (vk q.1 w.op.2.1)):=a
   have W:gI m.p w.op=sI w.op (q.1,(q.2.2.2,d')):=by rw[gI,<-f]
   rw[sI]at W;simp only[]at W;refine de ?_;refine ga a im Z eJ Z (cO ?_)
   cases n:vk q.1 w.op.2.1 with
   |true=>
    rw[if_pos n,e]at W;refine e' ?_
    have b:gI m.p w.op=(h.1,(q.2.2.2,d')):=by rw[W,cT (λz=>v z.1)]
    refine de ?_;refine ga (yq m.ws k w j (q.2.2.2,d') now) [(1000001,1000001)] Z eN Z (de ?_);rw[b];exact f7 Z Z Z ⟨c2,Z,Z,dU⟩
   |false=>rw[cT (by rw[n];decide)]at W;have b:=W;refine de ?_;refine ga (yq m.ws k w j (q.2.2.2,d') now) [(1000001,1000001)] Z eN Z (de ?_);rw[b];exact f7 Z Z Z ⟨c2,Z,Z,dU⟩
 .have y:i=(kM w.op.1).length:=R
  subst y;rw[aqX,oY]at f;have dG:=l;have d:=J' p (5,w.op.2.1,fI) dG.fm (by rwa[dG.now]);have⟨h,e⟩:∃h,iS p (5,w.op.2.1,fI)=h:=⟨_,Z⟩;rw[e]at d;have a:=aca (At m p) m.p.d w.op.2.1 dG.fm R;replace a:fG cR 154 [.ptr 1000000 0 0,.d w.op.2.1] (C6 (At m p) m.p.d) (C6 (At m p) m.p.d) (.bool (vk p w.op.2.1)):=a
  have W:gI m.p w.op=sI w.op (p,r):=by rw[gI,<-f]
  rw[sI]at W;simp only[]at W;refine de ?_;refine ga a im Z eJ Z (cO ?_)
  cases n:vk p w.op.2.1 with
  |true=>
   rw[if_pos n,e]at W;refine e' ?_
   refine d3 (λI=>?_) λI=>?_
   .refine de ?_
    refine d3 (λB=>?_) λB=>?_
    .have b:gI m.p w.op=(h.1,r):=by simp_all
     refine de ?_;refine ga (yq m.ws k w j r now) [(1000001,1000001)] Z eN Z (de ?_);rw[b];exact f7 Z Z Z ⟨c2,Z,Z,dU⟩
    .have b:gI m.p w.op=(h.1,(h.2.2.2,d')):=by simp_all
     refine de ?_;refine ga (yq m.ws k w j (h.2.2.2,d') now) [(1000001,1000001)] Z eN Z (de ?_);rw[b];exact f7 Z Z Z ⟨c2,Z,Z,dU⟩
   .have b:gI m.p w.op=(h.1,r):=by simp_all
    refine de ?_;refine ga (yq m.ws k w j r now) [(1000001,1000001)] Z eN Z (de ?_);rw[b];exact f7 Z Z Z ⟨c2,Z,Z,dU⟩
  |false=>rw[cT (by rw[n];decide)]at W;have b:=W;refine de ?_;refine ga (yq m.ws k w j r now) [(1000001,1000001)] Z eN Z (de ?_);rw[b];exact f7 Z Z Z ⟨c2,Z,Z,dU⟩
def acb:∀ (l:J sH),gN 11 (l.map pC)=N
 | []=>rfl|_::r=>acb r
def acd (w:fH):fH:=⟨w.todo,w.ended+1,0,L,L,0,0,(0,d')⟩
def Ri (m:ey) (k:V) (w:fH) (now:I):ey:={m with
 ws:=m.ws.set k (acd w)
 h:=tR (if w.pinned=N then Ae m.h k else m.h) k
 ek:=if w.asked=N then vj m.ek w.op.2.1 (tS (jY m w.op.2.1) k) else m.ek
 du:=m.du++[⟨k,w.op,w.res,w.jW,w.done,now⟩]}
set_option maxRecDepth 20000 in
def ar1(m:ey)(k:V)(w:fH)(now:I)(c6:m.ws[k]?=U w)(hb:w.ended<w.todo.length)(d8:w.todo.length<=1000)(he:m.du.length<=900000)(b:i1 m.h)(c:k<4)(dg:jV m.h k=N)(c_:w.pinned=L\/w.pinned=N/\lP m.h k=N)(dw:w.asked=L\/w.asked=N/\m.ek.length=17/\0<=w.op.2.1/\w.op.2.1.toNat<17/\qX (hV m.ek w.op.2.1.toNat)/\k∈(hV m.ek w.op.2.1.toNat).c7):
 fG cR 115 [.ptr 1000000 0 0,.d k,.ptr 1000001 k 0,.d now] (e9 m) (e9 (Ri m k w now)) (.dP []):=by
 have⟨nQ,g⟩:=aa0 m.h b k c dg;have⟨nQ,i⟩:=aa0 (Ae m.h k) (aaz b k) k c ((Kh m.h k k L).trans dg);have a:=ot c6
 have o:(m.du.map pC).length=m.du.length:=ef ..
 rcases c_ with O|⟨O,c_⟩<;>rcases dw with dq|⟨dq,j,e,f,ol,l⟩<;>(
  simp only[Ri,O,dq,ni,rh,qp];refine g_ Tryz.func115 4 Z c2 f0 (de ?_);refine C4 (yp m.ws k w c6 hb) [(1000001,1000001)] Z Z ⟨Z,dU⟩ Z (de ?_);refine dY a (de ?_);rw[O];refine de ?_
  try refine df (apY m.h b k dg c_) (de ?_)
  refine dY a (de ?_);rw[dq];refine de ?_
  try (
   refine Exists.elim (aqm (hV m.ek w.op.2.1.toNat) ol k l) λp n=>?_
   refine kb e R (de ?_);refine KO (m:={m with h:=_}) f (by show 0+13+w.op.2.1.toNat*3=_;omega) Z (de ?_);refine df n (de ?_);refine kb e R (de ?_)
   refine abA (m:={m with h:=_}) (x:=tS (hV m.ek w.op.2.1.toNat) k) f j (by show 0+13+w.op.2.1.toNat*3=_;omega) Z Z (de ?_))
  first|refine df g (de ?_)|refine df i (de ?_)
  iterate 3 refine dY a (de ?_)
  refine fV 1000000 1000 (by show(m.du.map pC).length+1<=1000000;omega) c1 c1 c1 (de ?_)
  iterate 3 refine dY a (de ?_)
  exact f7 Z Z Z ⟨by kernel_rfl,tW (Q2 (acd w)),tW (by rw[jt];rfl),dU⟩)
def mh(m:ey):ey:={m with d5:=m.d5+1}
def ace(m k)(cY:¬(0<=k/\k<m.ws.length)):fG cR 79 [.ptr 1000000 0 0,.d (.int .i64 k)] (e9 m) (e9 m) (.bool L):=by
 have cK:=tX m k
 have e:(decide (0<=k)&&decide (k<m.ws.length))=L:=by rw[Bool.eq_false_iff];simpa using λh=>R
 rw[e]at cK;refine g_ Au 2 Z c2 f0 (de ?_);refine ga cK im Z eJ Z (de ?_);exact f7 Z Z Z eJ
set_option maxRecDepth 20000 in
def acf(m c)(k:V)(w b)(a:m.ws[k]?=U w)(s:w.st=0)(d:-1000000<=m.d5)(f:m.d5<=1000000)
  (H:fG cR 110 [.ptr 1000000 0 0,.d k,.ptr 1000001 k 0,.d m.d5] (e9 (mh m)) (e9 c) (.bool b)):
  fG cR 79 [.ptr 1000000 0 0,.d k] (e9 m) (e9 c) (.bool b):=by
 have cK:=tX m k
 have e:(decide (0<= (k:I))&&decide ((k:I)<m.ws.length))=N:=by have:=(fM.1 a).1;simp;omega
 rw[e]at cK;have g:=ot a;have l:=q0 a;refine g_ Au 2 Z c2 f0 (de ?_);refine ga cK im Z eJ Z (de ?_);refine e' ?_;refine ga H im Z ⟨c2,Z,Z,dU⟩ Z (de ?_);exact f7 Z Z Z eJ
set_option maxRecDepth 20000 in
def Rj(m c)(k:V)(w b)(a:m.ws[k]?=U w)(s:w.st=1)(d:-1000000<=m.d5)(f:m.d5<=1000000)
  (H:fG cR 111 [.ptr 1000000 0 0,.d k,.ptr 1000001 k 0,.d m.d5] (e9 (mh m)) (e9 c) (.bool b)):
  fG cR 79 [.ptr 1000000 0 0,.d k] (e9 m) (e9 c) (.bool b):=by
 have cK:=tX m k
 have e:(decide (0<= (k:I))&&decide ((k:I)<m.ws.length))=N:=by have:=(fM.1 a).1;simp;omega
 rw[e]at cK;have g:=ot a;have l:=q0 a;refine g_ Au 2 Z c2 f0 (de ?_);refine ga cK im Z eJ Z (de ?_);refine e' ?_;refine ga H im Z ⟨c2,Z,Z,dU⟩ Z (de ?_);exact f7 Z Z Z eJ
set_option maxRecDepth 20000 in
def acg(m c)(k:V)(w b)(a:m.ws[k]?=U w)(s:w.st=2)(d:-1000000<=m.d5)(f:m.d5<=1000000)
  (H:fG cR 112 [.ptr 1000000 0 0,.d k,.ptr 1000001 k 0] (e9 (mh m)) (e9 c) (.bool b)):
  fG cR 79 [.ptr 1000000 0 0,.d k] (e9 m) (e9 c) (.bool b):=by
 have cK:=tX m k
 have e:(decide (0<= (k:I))&&decide ((k:I)<m.ws.length))=N:=by have:=(fM.1 a).1;simp;omega
 rw[e]at cK;have g:=ot a;have l:=q0 a;refine g_ Au 2 Z c2 f0 (de ?_);refine ga cK im Z eJ Z (de ?_);refine e' ?_;refine ga H im Z ⟨c2,Z,Z,dU⟩ Z (de ?_);exact f7 Z Z Z eJ
set_option maxRecDepth 20000 in
def Rk(m c)(k:V)(w b)(a:m.ws[k]?=U w)(s:w.st=3)(d:-1000000<=m.d5)(f:m.d5<=1000000)
  (H:fG cR 113 [.ptr 1000000 0 0,.d k,.ptr 1000001 k 0] (e9 (mh m)) (e9 c) (.bool b)):
  fG cR 79 [.ptr 1000000 0 0,.d k] (e9 m) (e9 c) (.bool b):=by
 have cK:=tX m k
 have e:(decide (0<= (k:I))&&decide ((k:I)<m.ws.length))=N:=by have:=(fM.1 a).1;simp;omega
 rw[e]at cK;have g:=ot a;have l:=q0 a;refine g_ Au 2 Z c2 f0 (de ?_);refine ga cK im Z eJ Z (de ?_);refine e' ?_;refine ga H im Z ⟨c2,Z,Z,dU⟩ Z (de ?_);exact f7 Z Z Z eJ
set_option maxRecDepth 20000 in
def ar2(m b k w)(a:m.ws[k]?=U w)(s:w.st=5)(c:-1000000<=m.d5)(d:m.d5<=1000000)
  (H:fG cR 114 [.ptr 1000000 0 0,.ptr 1000001 k 0,.d m.d5] (e9 (mh m)) (e9 b) (.dP [])):
  fG cR 79 [.ptr 1000000 0 0,.d k] (e9 m) (e9 b) (.bool N):=by
 have cK:=tX m k
 have e:(decide (0<= (k:I))&&decide ((k:I)<m.ws.length))=N:=by have:=(fM.1 a).1;simp;omega
 rw[e]at cK;have g:=ot a;have l:=q0 a;refine g_ Au 2 Z c2 f0 (de ?_);refine ga cK im Z eJ Z (de ?_);refine e' ?_;refine ga H im Z ⟨c2,Z,Z,dU⟩ Z (de ?_);exact f7 Z Z Z eJ
set_option maxRecDepth 20000 in
def ar3(m b)(k:V)(w)(a:m.ws[k]?=U w)(s:w.st=6)(c:-1000000<=m.d5)(d:m.d5<=1000000)
  (H:fG cR 115 [.ptr 1000000 0 0,.d k,.ptr 1000001 k 0,.d m.d5] (e9 (mh m)) (e9 b) (.dP [])):
  fG cR 79 [.ptr 1000000 0 0,.d k] (e9 m) (e9 b) (.bool N):=by
 have cK:=tX m k
 have e:(decide (0<= (k:I))&&decide ((k:I)<m.ws.length))=N:=by have:=(fM.1 a).1;simp;omega
 rw[e]at cK;have g:=ot a;have l:=q0 a;refine g_ Au 2 Z c2 f0 (de ?_);refine ga cK im Z eJ Z (de ?_);refine e' ?_;refine ga H im Z ⟨c2,Z,Z,dU⟩ Z (de ?_);exact f7 Z Z Z eJ
set_option maxRecDepth 20000 in
def ach(m)(o:lj m.s)(a:ix m.p.d):fG cR 72 [.ptr 1000000 0 0] (e9 m) (e9 (mf m)) (.dP []):=by have O:=aqR m.s m.p.d o a;refine g_ Tryz.func72 1 Z c2 f0 (de ?_);refine e' ?_;exact f7 Z Z Z ⟨c2,Z,Z,dU⟩
set_option maxRecDepth 20000 in
def ar4(m gD t)(g:gc t m.p)(b:t<=2147483647)(a:0<=t):fG cR 81 [.ptr 1000000 0 0,.d (.int .i64 gD)] (e9 m) (e9 (CK m gD)) (.dP []):=by
 have Q:=aor m.p 1 (by rwa[g.now]) (by rwa[g.now])
 have F:ew (oj m.p 1).f:=by
  rw[oj];repeat' split
  all_goals exact g.fm
 have cY:(oj m.p 1).now<=2147483647:=by
  have:=g.now;rw[oj];repeat' split
  all_goals (try dsimp only)
  all_goals omega
 have c:=J' (oj m.p 1) (8,gD,fI) F cY;refine g_ Tryz.func81 2 Z c2 f0 (de ?_);refine e' ?_;exact f7 Z Z Z ⟨c2,Z,Z,dU⟩
def ar5(m:ey)(k:I):fG cR 83 [.ptr 1000000 0 0,.d k] (e9 m) (e9 m) (.int .i64 (if 0<=k then(match m.ws[k.toNat]? with|some w=>(w.st:I)|none=>0) else 0)):=by
 have cK:=tX m k
 have b:(m.ws.map jX).length=m.ws.length:=ef ..
 apply g_ Tryz.func83 2 Z c2 f0
 by_cases h:0<=k/\k<m.ws.length
 .rw[show(decide (0<=k)&&decide (k<m.ws.length))=N by grind]at cK;have a:k.toNat<m.ws.length:=R;rw[if_pos h.1,fe a]
  conv=>whnf
  refine de ?_;refine ga cK im Z eJ Z (de ?_);refine e' ?_;refine dY (ot (fe a)) (de ?_);exact f7 Z Z Z eJ
 .rw[show(decide (0<=k)&&decide (k<m.ws.length))=L by simp_all]at cK
  have e:(if 0<=k then(match m.ws[k.toNat]? with|some w=>(w.st:I)|none=>0) else 0)=0:=by
   split
   .simp_all
   .rfl
  rw[e]
  conv=>whnf
  refine de ?_;refine ga cK im Z eJ Z (de ?_);exact f7 Z Z Z eJ
def Gq(m):fG cR 78 [.ptr 1000000 0 0] (e9 m) (e9 m) m.s.out.length:=by refine g_ Tryz.func78 1 Z c2 f0 (de ?_);exact f7 Z eG Z eJ
def ar6(m):fG cR 77 [.ptr 1000000 0 0] (e9 m) (e9 m) m.d5:=by refine g_ Tryz.func77 1 Z c2 f0 (de ?_);exact f7 Z Z Z eJ
def ar7{l}(o:gN 11 l=N)(b:l.length<=1000000):fG cR 105 [.own 1000000] [(1000000,.row l 11 L)] [(1000000,.row l 11 L)] (.dk l):=by
 refine g_ Tryz.func105 1 Z c2 f0 (cO (oG (cO ?_)));intro r a
 conv=>whnf
 refine iD (λh=>?_) λh=>?_
 .have:=a h;subst this;refine de ?_;exact f7 Z Z Z eN
 .refine de ?_;refine fC o (cO ?_);refine fV 1000100 1000 sZ c1 c1 c1 (de ?_);exact f7 Z Z Z eN
def ar8(m)(l:m.du.length<=1000000):fG cR 75 [.ptr 1000000 0 0] (e9 m) (e9 m) (.dk (m.du.map pC)):=by have c:=ar7 (acb m.du) eG;refine g_ Tryz.func75 1 Z c2 f0 (de ?_);refine I3 c [(1000000,1000004)] Z eN Z (de ?_);exact f7 Z Z Z eJ
def ar9(m:ey)(k:I)(b:∀w∈m.ws,w.ended<=1000000/\w.todo.length<=1000000):fG cR 84 [.ptr 1000000 0 0,.d k] (e9 m) (e9 m) (.int .i64 (if 0<=k then(match m.ws[k.toNat]? with|some w=>((w.todo.length:I)-w.ended)|none=>0) else 0)):=by
 have cK:=tX m k
 have d:(m.ws.map jX).length=m.ws.length:=ef ..
 apply g_ Tryz.func84 2 Z c2 f0
 by_cases h:0<=k/\k<m.ws.length
 .rw[show(decide (0<=k)&&decide (k<m.ws.length))=N by grind]at cK;have a:k.toNat<m.ws.length:=R;rw[if_pos h.1,fe a];have c:=b _ (hS a)
  have t:(m.ws[k.toNat].todo.map kn).length=m.ws[k.toNat].todo.length:=ef ..
  have g:=ot (fe a)
  conv=>whnf
  refine de ?_;refine ga cK im Z eJ Z (de ?_);refine e' ?_;exact f7 Z (by rw[t];rfl) Z eJ
 .rw[show(decide (0<=k)&&decide (k<m.ws.length))=L by simp_all]at cK
  have e:(if 0<=k then(match m.ws[k.toNat]? with|some w=>((w.todo.length:I)-w.ended)|none=>0) else 0)=0:=by
   split
   .simp_all
   .rfl
  rw[e]
  conv=>whnf
  refine de ?_;refine ga cK im Z eJ Z (de ?_);exact f7 Z Z Z eJ
set_option maxRecDepth 20000 in
def asa(m:ey)(i)(o:rH m.s)(a:ix m.p.d)(cK:i<m.s.out.length)(b:(m.s.out[i]).hc<3)(cY:m.s.next<2147483647):
  fG cR 80 [.ptr 1000000 0 0,.d i,.d (.bool N)] (e9 m) (e9 {m with s:=abp m.s i m.s.out[i]}) (.bool N):=by
 have cP:=aqT m.s m.p.d o a i cK b cY;have f:=Gq m;refine g_ Rl 3 Z c2 f0 (de ?_);refine ga f im Z eJ Z (de ?_);refine df cP (de ?_);exact f7 Z Z Z ⟨c2,Z,Z,dU⟩
set_option maxRecDepth 20000 in
def asb(m:ey)(i b)(o:rH m.s)(h:ix m.p.d)(cK:i<m.s.out.length)(j:¬(b=N/\ (m.s.out[i]).hc<3/\m.s.next<2147483647))(w)(k:m.ws[(m.s.out[i]).fi]?=U w)(e:w.st=4)(c:0<=m.d5)(d:m.d5<=1000000):
  fG cR 80 [.ptr 1000000 0 0,.d i,.d (.bool b)] (e9 m) (e9 {m with s:=Gk m.s i,ws:=m.ws.set (m.s.out[i]).fi (qe m w b)}) (.bool N):=by
 have cP:=aqV m.s m.p.d o h i cK b j;have g:=ot k;have l:=q0 k;have a:=tX {m with s:=Gk m.s i} (m.s.out[i]).fi
 rw[show(decide (0<= ((m.s.out[i]).fi:I))&&decide (((m.s.out[i]).fi:I)<({m with s:=Gk m.s i}:ey).ws.length))=N by
  have:=(fM.1 k).1
  simp;omega]at a
 have x:({m with s:=Gk m.s i}:ey).d5=m.d5:=rfl
 cases b with|false=>have f:=Gq m;refine g_ Rl 3 Z c2 f0 (de ?_);refine ga f im Z eJ Z (de ?_);refine df cP (de ?_);refine ga a im Z ⟨c2,Z,Z,dU⟩ Z (de ?_);refine ec R (de ?_);refine dY g (de ?_);refine r7 f0 (de ?_);refine dY g (de ?_);exact f7 Z Z Z ⟨c2,tW (Q2 (qe m w L)),Z,dU⟩|true=>have f:=Gq m;refine g_ Rl 3 Z c2 f0 (de ?_);refine ga f im Z eJ Z (de ?_);refine df cP (de ?_);refine ga a im Z ⟨c2,Z,Z,dU⟩ Z (de ?_);refine ec R (de ?_);refine dY g (de ?_);refine vU f0 (de ?_);refine ga (yq m.ws (m.s.out[i]).fi w k (8,d') (m.d5-1)) [(1000001,1000001)] Z eN Z (de ?_);exact f7 Z Z Z ⟨c2,Z,Z,dU⟩
def KU:∀(n) (l:J V),l.Nodup->(∀x∈l,x<n)->l.length<=n
 |0,[],_,_=>fB _|0,x::_,_,h=>dQ (h x (.head _)) (ps _)
 |n+1,l,cP,h=>by
  by_cases m:n∈l
  .have e:=List.length_erase_of_mem m
   have:=KU n (l.erase n) (cP.erase n) λx a=>by
    grind
   omega
  .have:=KU n l cP λx a=>by
    grind
   omega
def acn{l:J V}{k}(cP:l.Nodup)(h:∀x∈l,x<4)(a:k<4)(cY:k∉l):l.length<=3:=by
 have:=KU 4 (k::l) (tm.2 ⟨cY,cP⟩) λx b=>by
  grind
 simp_all
def vl.Ro{x n l}(h:vl x n l)(a:n<=4):qX l:=by
 have dw:=KU 4 _ h.li.eI λw hw=>by have:=h.lt w hw;omega
 exact⟨vC,λw hw=>by have:=h.lt w hw;omega,h.li.up,h.li.eI,h.li.one,h.shut⟩
def aco{t}(o):∀s p r,gc t p->gc t (oY o s p r).1/\ (oY o s p r).1.f.cN.length=p.f.cN.length
 | [],p,r,h=>⟨h,Z⟩
 |k::s,p,r,h=>by
  rw[oY];split
  .exact⟨h.do _,KT h _⟩
  .have i:=aco o s _ (r.1,(iS p (k,o.2.1,o.2.2)).2.1) (h.do (k,o.2.1,o.2.2));exact⟨i.1,i.2.trans (KT h _)⟩
def asj{t p}(h:gc t p)(o):gc t (gI p o).1/\ (gI p o).1.f.cN.length=p.f.cN.length:=by
 have⟨Q,a⟩:=aco o (kM o.1) p (0,d') h;rw[gI,sI];split
 .exact⟨Q.do _,(KT Q _).trans a⟩
 simp_all
structure mi(work:J (J gH))(t:I)(m:ey):Prop where
 ok:hk m
 nL:gc t m.p
 oM:m.ws.map (·.todo)=work
 du:(m.du.length:I) <=m.d5
def mi.eT{work t m}(g:mi work t m):0<=m.d5:=by have:=g.du;omega
def mi.ek{work t m}(g:mi work t m){i}(cK:i<17):∃l,m.ek[i]?=U l/\hV m.ek i=l/\vl (oq m.ws) m.ws.length l:=by have a:=g.ok.sJ;refine⟨m.ek[i]' R,fe R,?_,g.ok.li i _ (fe R)⟩;rw[hV,fe R];rfl
def acp{ws:J fH}{k w w'}(b:ws[k]?=U w)(e:w'.todo=w.todo):(ws.set k w').map (·.todo)=ws.map (·.todo):=by
 obtain⟨l,rfl⟩:=fM.1 b;rw[sv,e]
 have a:k<(ws.map (·.todo)).length:=by rwa[ef]
 have:ws[k].todo=(ws.map (·.todo))[k]:=dt;rw[this];exact List.set_getElem_self a
def mi.step{work t m}(g:mi work t m)(k):mi work t (gz m k).1:=by
 rw[gz];split
 .exact g
 split
 .exact g
 .rename_i w a;have h:=asj g.nL w.op;have o:=(g.ok.d5 (m.d5+1)).stepW (m:={m with d5:=m.d5+1}) a m.d5 h.2;have e:=g.du;refine⟨o,?_,?_,?_⟩
  .unfold stepW;repeat' split
   all_goals first|exact g.nL|exact h.1
  .rw[<-g.oM];unfold stepW;repeat' split
   all_goals first|rfl|exact acp a Z
  .unfold stepW;repeat' split
   all_goals first|(show(m.du.length:I) <=m.d5+1;omega)|(show(((m.du++[_]).length:V):I) <=m.d5+1;rw[kG,QB];omega)
def Rp (m:ey) (k:I):jY m k=hV m.ek k.toNat:=rfl
def acr{work t m}(g:mi work t m)(G:t<=2147483647)(hw:∀l∈work,l.length<=1000)(dg:m.d5<=900000)(k:I):
 fG cR 79 [.ptr 1000000 0 0,.d k] (e9 m) (e9 (gz m k).1) (.bool (gz m k).2):=by
 have o:=g.ok;have y:=o.iJ
 by_cases z:k<0
 .rw[gz,if_pos z];exact ace m k R
 cases c6:m.ws[k.toNat]? with
 |none=>rw[gz,cT z,c6];have:=List.getElem?_eq_none_iff.1 c6;exact ace m k R
 |some w=>
  obtain⟨i,rfl⟩:∃i:V,k=(i:I):=⟨k.toNat,by omega⟩;rw[gl]at c6;have v:=o.w i w c6;have H:=(fM.1 c6).1
  have r:i<4:=R
  have a:-1000000<=m.d5:=by have:=g.eT;omega
  have b:m.d5<=1000000:=R
  have A:m.h.ds.length<=1000:=by have:=o.kp.len;omega
  have e:gz m i=stepW (mh m) i w m.d5:=by rw[gz,cT z,gl,c6];rfl
  have J:w.todo.length<=1000:=hw _ (by rw[<-g.oM];exact rJ (jg c6))
  have K:m.du.length<=900000:=by have:=g.du;omega
  have f:(mh m).ws[i]?=U w:=c6;rw[e];have dW:=v.CP
  have M:w.st=0\/w.st=1\/w.st=2\/w.st=3\/w.st=4\/w.st=5\/w.st=6:=R
  rcases M with c7|c7|c7|c7|c7|c7|c7
  .simp only[stepW,c7]
   split
   .rename_i cP;exact acf m _ i w L c6 c7 a b (aqY (mh m) i w m.d5 f cP)
   .rename_i cP
    have cY:i∉m.h.all:=λh=>(v.mF.1 h) c7
    have j:=acn o.kp.eI o.kp.lt r cY;exact acf m _ i w N c6 c7 a b (aq0 (mh m) i w m.d5 f cP o.kp r cY (by have j:m.h.ds.length+m.h.q.length<=3:=(by simpa using j);exact j))
  .have hb:=v.ju R;simp only[stepW,c7]
   split
   .rename_i c;exact Rj m _ i w L c6 c7 a b (arc (mh m) i w m.d5 A c)
   rename_i c
   replace c:jV m.h i=N:=by simpa[mh]using c
   split
   .rename_i dI;exact Rj m _ i w N c6 c7 a b (ard (mh m) i w m.d5 f hb A c dI)
   .rename_i dI
    replace dI:lR w.op=L:=by simpa using dI
    have⟨B,C,u,x⟩:=C3 dI;have⟨l,dw,is,sh⟩:=g.ek (i:=w.op.2.1.toNat) R
    have ol:qX (jY m w.op.2.1):=by rw[Rp,is];exact sh.Ro y
    have P:i∉l.all:=λh=>by
     have:=((v.lt w.op.2.1.toNat l dw).1 h).1
     rw[v.CQ R]at this;cases this
    have cY:i∉(jY m w.op.2.1).c7++(jY m w.op.2.1).q.map (·.1):=by rw[Rp,is];exact P
    have j:=acn ol.eI ol.lt r cY;exact Rj m _ i w N c6 c7 a b (are (mh m) i w m.d5 f hb A c dI o.sJ r ol cY (by have j:(jY m w.op.2.1).c7.length+(jY m w.op.2.1).q.length<=3:=(by simpa using j);exact j))
  .have hb:=v.ju R;have⟨B,C,u,x⟩:=C3 (v.val (v.ask R R));have⟨l,dw,is,sh⟩:=g.ek (i:=w.op.2.1.toNat) R
   have ol:qX (hV m.ek w.op.2.1.toNat):=by rw[is];exact sh.Ro y
   simp only[stepW,c7]
   split
   .rename_i c_;exact acg m _ i w L c6 c7 a b (arf (mh m) i w f hb R R ol c_)
   .rename_i c_;exact acg m _ i w N c6 c7 a b (ari (mh m) i w f hb R R ol (by simpa[Rp]using c_))
  .have hb:=v.ju R;have dq:=v.ask R R;have⟨B,C,u,x⟩:=C3 (v.val dq);have c:=v.ds R
   have c_:lP m.h i=L:=by rw[v.held];exact v.yK R
   simp only[stepW,c7]
   split
   .rename_i ee;exact Rk m _ i w L c6 c7 a b (arj (mh m) i w f hb o.kp c c_ g.nL.fm (by rw[wS,if_pos ee]))
   rename_i ee;replace ee:¬m.h.n<=hU m.h.ds:=ee
   have D:wS m.h i=(qc m.h i,0):=by rw[wS,cT ee]
   split
   .rename_i E
    have F:i<m.s.ez.length:=by rw[o.rY];exact H
    have Q:m.s.ez[i]=cM:=by
     cases q:m.s.ez[i]with
     |none=>rfl
     |some p=>have:=(v.pD p).1 (.inl (by rw[fe F,q]));omega
    exact Rk m _ i w N c6 c7 a b (aro (mh m) i w f hb o.kp c c_ g.nL.fm D E.1 E.2 o.hf.torH g.nL.us F Q u x)
   .rename_i dz;exact Rk m _ i w N c6 c7 a b (arn (mh m) i w f hb o.kp c c_ g.nL.fm D dz)
  .simp only[stepW,c7];have cK:=tX m i
   have e:(decide (0<=(i:I))&&decide ((i:I)<m.ws.length))=N:=by have:=(fM.1 c6).1;simp;omega
   rw[e]at cK;have g:=ot c6;have l:=q0 c6;refine g_ Au 2 Z c2 f0 (de ?_);refine ga cK im Z eJ Z (de ?_);refine e' ?_;exact f7 Z Z Z ⟨c2,Z,Z,dU⟩
  .have hb:=v.ju R;have dq:=v.ask R R;simp only[stepW,c7];exact ar2 m _ i w c6 c7 a b (ar0 (mh m) i w m.d5 t f hb g.nL G (v.val dq))
  .have hb:=v.ju R;have c:=v.ds R;simp only[stepW,c7];refine ar3 m (Ri (mh m) i w m.d5) i w c6 c7 a b (ar1 (mh m) i w m.d5 f hb J K o.kp r c ?_ ?_)
   .cases O:w.pinned with
    |false=>exact .inl Z
    |true=>exact .inr ⟨Z,v.held.trans O⟩
   .cases dq:w.asked with
    |false=>exact .inl Z
    |true=>have⟨B,C,u,x⟩:=C3 (v.val dq);have⟨l,dw,is,sh⟩:=g.ek (i:=w.op.2.1.toNat) R;exact .inr ⟨Z,o.sJ,by omega,by omega,by show qX (hV m.ek w.op.2.1.toNat);rw[is];exact sh.Ro y,by show i∈(hV m.ek w.op.2.1.toNat).c7;rw[is];exact v.hold dq R l dw⟩
def Rq{work t m}(g:mi work t m)(c:m.d5<=900000)(i b):
  fG cR 80 [.ptr 1000000 0 0,.d (.int .i64 i),.d (.bool b)] (e9 m) (e9 (hP m i b).1) (.bool (hP m i b).2):=by
 have o:=g.ok
 by_cases cY:i<0\/ (m.s.out.length:I) <=i
 .rw[hP,if_pos cY];have h:=cY;have f:=Gq m;refine g_ Rl 3 Z c2 f0 (cO ?_)
  refine d3 (λQ=>?_) λQ=>?_
  .refine de ?_;exact f7 Z Z Z eJ
  .refine de ?_;refine ga f im Z eJ Z (de ?_);exact f7 Z Z Z eJ
 obtain⟨n,rfl⟩:∃n:V,i=(n:I):=⟨i.toNat,R⟩;have cK:n<m.s.out.length:=R;rw[hP,cT cY,gl,Ah,fe cK];simp only[];have l:=o.hf.lt m.s.out[n] (hS cK)
 by_cases a:b=N/\ (m.s.out[n]).hc<3/\m.s.next<2147483647
 .rw[if_pos a];obtain⟨rfl,e,dz⟩:=a;exact asa m n o.hf.torH g.nL.us cK e dz
 .rw[cT a];simp only[]
  have w:(m.s.out[n]).fi<m.ws.length:=by rw[<-o.rY];exact l.2.1
  have k:=fe w;have s:=((o.w _ _ k).pD (m.s.out[n]).dE).1 (.inr ⟨m.s.out[n],hS cK,Z,Z⟩) |>.1;rw[k];simp only[];rw[cT (λz=>z s)];exact asb m n b o.hf.torH g.nL.us cK a _ k s g.eT R
def mi.fin{work t m}(g:mi work t m)(i b):mi work t (hP m i b).1:=by
 refine⟨g.ok.fin i b,?_,?_,?_⟩
 .rw[hP];repeat' split
  all_goals exact g.nL
 .rw[<-g.oM,hP];repeat' split
  all_goals first|rfl|(rename_i h _;exact acp h (by rw[qe];split<;>rfl))
 .rw[hP];repeat' split
  all_goals exact g.du
def mi.qY{work t m}(g:mi work t m):mi work t (mf m):=⟨g.ok.qY,g.nL,g.oM,g.du⟩
def Av(t:I):I:=if 2147483647-t<1 then 2147483647 else t+1
def asm{t p}(h:gc t p):gc (Av t) (oj p 1) /\ (oj p 1).f=p.f:=by
 rw[oj,cT c1,h.now,Av];split
 .exact⟨⟨h.fm,h.us,Z⟩,Z⟩
 .exact⟨⟨h.fm,h.us,Z⟩,Z⟩
def acs{t}(cW:0<=t)(h:t<=2147483647):0<=Av t/\Av t<=2147483647:=by rw[Av];omega
def mi.gD{work t m}(g:mi work t m)(n):mi work (Av t) (CK m n):=by
 have⟨Q,h⟩:=asm g.nL
 have l:(iS (oj m.p 1) (8,n,fI)).1.f.cN.length=m.p.f.cN.length:=by rw[KT Q,h]
 have o:=g.ok;exact⟨⟨o.fh,o.iJ,o.kp,o.hw,o.sJ,o.li,o.hf,o.rY,o.cN.trans l.symm,o.w⟩,Q.do _,g.oM,g.du⟩
structure hr(work:J (J gH))(m:ey):Prop where
 ex:∃t,0<=t/\t<=2147483647/\mi work t m
def asn(m k w now):(stepW m k w now).1.d5=m.d5:=by
 unfold stepW;repeat' split
 all_goals rfl
def aso(m k):(gz m k).1.d5<=m.d5+1/\m.d5<= (gz m k).1.d5:=by
 rw[gz];repeat' split
 .grind
 .grind
 .rw[asn];grind
def asp(m i b):(hP m i b).1.d5=m.d5:=by rw[hP];grind
def acu{P f dD s O e}(H:rc P f dD O e)(l:s.length=dD.length)(h:∀(i:V) (x y),s[i]?=U x->dD[i]?=U y->zb x y):rc P f s O e:=
 ⟨H.1,λcV own M D w vs b o c c_ cP=>H.2 cV own M D w vs b o c c_ ⟨cP.1.trans l,λi d v Q a=>by
  have cK:=(fM.1 Q).1;have g:s[i]?=U (s[i]' R):=fe R
  exact(h i _ d g Q).out M D v (cP.2 i _ v g a)⟩⟩
def acv{P f a b x y r p d}(H:fG P f [a,b,y] r p d)(c:∀s,zB s x=x)(g:∀s,zB s y=y)(hw:zb x y):fG P f [a,b,x] r p d:=
 ⟨H.1,λs O Q h=>acu (H.2 s O Q h) Z λi u v j e=>by
  match i with
  |0=>cases j;cases e;exact Ep _|1=>cases j;cases e;exact Ep _|2=>cases j;cases e;simp_all|i+3=>cases j⟩
def Rr{P f a b r p d}(H:fG P f [a,b,.d (.bool L)] r p d):fG P f [a,b,.fd] r p d:=acv H (λ_=>Z) (λ_=>Z) HN
def asq{P f a b r p d}(H:fG P f [a,b,.d (.bool N)] r p d):fG P f [a,b,.e4] r p d:=acv H (λ_=>Z) (λ_=>Z) MO
def asr{P f a b c r p d}(H:fG P f [a,b,.d (.dk []),c] r p d):fG P f [a,b,.nil,c] r p d:=
 ⟨H.1,λs O Q h=>acu (H.2 s O Q h) Z λi u v g e=>by
  match i with
  |0=>cases g;cases e;exact Ep _|1=>cases g;cases e;exact Ep _|2=>cases g;cases e;exact (⟨λ_ _ _ h=>by cases h;exact .d _ _ (.emp _ _)⟩)|3=>cases g;cases e;exact Ep _|i+4=>cases g⟩
def hr.ok{work m}(h:hr work m):hk m:=by have⟨t,_,_,g⟩:=h.ex;exact g.ok
def hr.step{work m}(h:hr work m)(k):hr work (gz m k).1:=by have⟨t,cW,Q,g⟩:=h.ex;exact⟨t,cW,Q,g.step k⟩
def hA(m:ey)(k:V):I:=match m.ws[k]? with|some w=>(w.todo.length:I)-w.ended|none=>0
def Gr(b:dh):J c3:=[.bool b]
def gd(m:ey):V->ey×dh
 |0=>(m,L)
 |k+1=>((gz (gd m k).1 k).1,(gd m k).2||(gz (gd m k).1 k).2)
def kq(m:ey)(n:V)(a:dh):ey×dh:=
 ((hP (mf (gd m (min n 4)).1) 0 a).1,(gd m (min n 4)).2||(hP (mf (gd m (min n 4)).1) 0 a).2)
def qh(a:J dh)(i:V):dh:=if 0<a.length then a[i%a.length]?.getD L else L
def gF(m:ey)(n:V)(a:J dh):V->ey
 |0=>m
 |i+1=>(kq (gF m n a i) n (qh a i)).1
open Classical in
def o2(m:ey)(n:V):dh:=gV (∃k,k<min n 4/\0<hA m k)
def acw{m n}:o2 m n=N↔∃k,k<min n 4/\0<hA m k:=by simp[o2]
def Rs{m n}:o2 m n=L↔∀k,k<min n 4->¬0<hA m k:=by rw[o2,It];simp_all
def hr.qY{work m}(h:hr work m):hr work (mf m):=by have⟨t,cW,Q,g⟩:=h.ex;exact⟨t,cW,Q,g.qY⟩
def hr.fin{work m}(h:hr work m)(i b):hr work (hP m i b).1:=by have⟨t,cW,Q,g⟩:=h.ex;exact⟨t,cW,Q,g.fin i b⟩
def hr.gd {work m} (h:hr work m):∀ k,hr work (gd m k).1
 |0=>h
 |k+1=>(hr.gd h k).step k
def Rt(m):∀k,(gd m k).1.d5<=m.d5+k/\m.d5<= (gd m k).1.d5
 |0=>⟨by show m.d5<=m.d5+0;omega,kZ _⟩
 |k+1=>by
  have i:=Rt m k;have h:=aso (gd m k).1 k;show(gz (gd m k).1 k).1.d5<=m.d5+(k+1:V) /\m.d5<= (gz (gd m k).1 k).1.d5;omega
def hr.round{work m}(h:hr work m)(n b):hr work (kq m n b).1:=((h.gd _).qY).fin _ _
def ass(m n b):(kq m n b).1.d5<=m.d5+4/\m.d5<= (kq m n b).1.d5:=by have h:=Rt m (min n 4);have e:(kq m n b).1.d5=(gd m (min n 4)).1.d5:=asp _ _ _;omega
def hr.gF {work m} (h:hr work m) (n:V) (ir:J dh):∀ i,hr work (gF m n ir i)
 |0=>h
 |i+1=>(hr.gF h n ir i).round n _
def acx(m n f):∀i,(gF m n f i).d5<=m.d5+4*i/\m.d5<= (gF m n f i).d5
 |0=>⟨by show m.d5<=m.d5+4*0;omega,kZ _⟩
 |i+1=>by
  have a:=acx m n f i;have h:=ass (gF m n f i) n (qh f i);show(kq (gF m n f i) n (qh f i)).1.d5<=m.d5+4*(i+1:V) /\m.d5<= (kq (gF m n f i) n (qh f i)).1.d5;omega
def acy{m k}(h:m.ws.length<=k):hA m k=0:=by rw[hA,Cc h]
def acz{work m}(h:hr work m)(hw:∀l∈work,l.length<=1000)(k:V):fG cR 84 [.ptr 1000000 0 0,.d k] (e9 m) (e9 m) (hA m k):=by
 have c:∀w∈m.ws,w.ended<=1000000/\w.todo.length<=1000000:=λw a=>by
  have⟨t,_,_,g⟩:=h.ex;obtain⟨k,b,rfl⟩:=kg.1 a;have Q:=(g.ok.w k _ (fe b)).ke
  have d:m.ws[k].todo∈work:=by rw[<-g.oM];exact rJ (hS b)
  grind
 have f:=ar9 m k c;assumption
set_option maxRecDepth 20000 in
def acA{work m}(h:hr work m)(hw:∀l∈work,l.length<=1000)(n:V)(cY:n<=1000000):fG cR 120 [.ptr 1000000 0 0,.d n] (e9 m) (e9 m) (.bool (o2 m n)):=by
 refine g_ Tryz.func120 2 Z c2 f0 (de ?_);refine eZ (D:=V) (λk=>[(0,.ptr 1000000 0 0),(7,.d (.int .i64 (min (n:I) 4))),(8,.d (.int .i64 k))]) (λk=>e9 m)
  (λk=>k<=min n 4/\ ∀j,j<k->¬0<hA m j) (λk=>min n 4-k) 0 ⟨e3 _,λj h=>dQ h R⟩ (dZ (dT eJ eJ d0)) ?_
 rintro k ⟨b,cX⟩
 conv=>whnf
 refine d3 (λdz=>?_) λdz=>?_
 .refine de ?_;refine ga (acz h hw k) im Z eJ Z (cO ?_)
  refine d3 (λdW=>?_) λdW=>?_
  .rw[acw.2 ⟨k,R,dW⟩];refine de ?_;exact f7 Z Z Z eJ
  .refine de ?_
   exact⟨k+1,⟨R,λj a=>by
    grind⟩,R,(dZ (dT eJ eJ d0))⟩
 .rw[Rs.2 λj a=>cX j R];refine de ?_;exact f7 Z Z Z eJ
set_option maxRecDepth 20000 in
def acB{work m}(h:hr work m)(hw:∀l∈work,l.length<=1000)(w:m.d5<=800000)(n:V)(cY:n<=1000000)(b):fG cR 74 [.ptr 1000000 0 0,.d n,.d (.bool b)] (e9 m) (e9 (kq m n b).1) (.bool (kq m n b).2):=by
 refine g_ Tryz.func74 3 Z c2 f0 (de ?_);refine eZ (D:=V) (λk=>[(0,.ptr 1000000 0 0),(2,.d (.bool b)),(7,.d (.bool (gd m k).2)),(10,.d (.int .i64 (min (n:I) 4))),(11,.d (.int .i64 k))]) (λk=>e9 (gd m k).1)
  (λk=>k<=min n 4) (λk=>min n 4-k) 0 (e3 _) (len [.wk 7 (.d (.bool L))] ⟨HN,dU⟩ (dT ih eJ d0)) ?_
 intro k x;have M:=h.gd k;have q:=(Rt m k).1;have p:(gd m (k+1)).1=(gz (gd m k).1 k).1:=Z;have e:(gd m (k+1)).2=((gd m k).2||(gz (gd m k).1 k).2):=rfl
 conv=>whnf
 refine d3 (λdz=>?_) λdz=>?_
 .have⟨t,v,j,g⟩:=M.ex;have s:=acr g j hw R k;rw[<-p]at s;have⟨r,d⟩:∃r,(gz (gd m k).1 k).2=r:=⟨_,Z⟩;have⟨r0,i⟩:∃r0,(gd m k).2=r0:=⟨_,Z⟩;rw[d]at s e;rw[i]at e⊢;refine de ?_;refine ga s im Z eJ Z (cO ?_)
  refine iD (λdW=>?_) λdW=>?_
  .rw[dW,aa9]at e;refine de ?_;refine⟨k+1,R,R,len [.wk 7 (.d (.bool N))] ⟨MO,dU⟩ (dT ⟨Z,Z,by rw[e];rfl,Z,Z,dU⟩ eJ d0)⟩
  .rw[dW,QV]at e;refine de ?_;refine⟨k+1,R,R,dZ (dT ⟨Z,Z,by rw[e];rfl,Z,Z,dU⟩ eJ d0)⟩
 have c:k=min n 4:=R;subst c;have⟨t,v,j,g⟩:=M.ex;have u:=ach (gd m (min n 4)).1 M.ok.hf g.nL.us;have f:=Rq g.qY (by show(gd m (min n 4)).1.d5<=900000;omega) 0 b;have o:(kq m n b).1=(hP (mf (gd m (min n 4)).1) 0 b).1:=Z;have a:(kq m n b).2=((gd m (min n 4)).2||(hP (mf (gd m (min n 4)).1) 0 b).2):=Z;rw[<-o]at f;have⟨r,d⟩:∃r,(hP (mf (gd m (min n 4)).1) 0 b).2=r:=⟨_,Z⟩;rw[d]at f a;refine de ?_;refine ga u im Z eJ Z (de ?_);refine ga f im Z eJ Z (cO ?_)
 refine iD (λdW=>?_) λdW=>?_
 .rw[dW,aa9]at a;rw[a];refine de ?_;exact f7 Z Z Z eJ
 .rw[dW,QV]at a;rw[a];refine de ?_;exact f7 Z Z Z eJ
structure vr(m:ey)(n:V)(ir:J dh)(gW dj:V):Prop where
 le:dj<=gW
 all:∀i,i<dj->o2 (gF m n ir i) n=N
 stop:dj=gW\/o2 (gF m n ir dj) n=L
def Ru(m n f):∀gW,∃dj,vr m n f gW dj
 |0=>⟨0,fB 0,λi h=>dQ h (ps _),.inl Z⟩
 |k+1=>by
  have⟨dj,Q,a,b⟩:=Ru m n f k
  cases e:o2 (gF m n f dj) n with|false=>exact⟨dj,R,a,.inr e⟩|true=>have jx:=b.resolve_right g3;subst jx;refine⟨dj+1,fB _,λi cK=>?_,.inl Z⟩;grind
set_option maxRecDepth 20000 in
def ast{work m}(h:hr work m)(hw:∀l∈work,l.length<=1000)(n)(cY:n<=1000000)(f)(z:f.length<=1000000)(gW:V)(A:m.d5+4*gW<=800000)(dj)(jx:vr m n f gW dj):
  fG cR 82 [.ptr 1000000 0 0,.d n,.d (.dk (f.map Gr)),.d gW] (e9 m) (e9 (gF m n f dj)) dj:=by
 have w:(f.map Gr).length=f.length:=ef ..
 have x:=jx.le
 have y:0<=m.d5:=by have⟨t,_,_,g⟩:=h.ex;have:=g.du;omega
 refine g_ Tryz.func82 4 Z c2 f0 (de ?_);refine eZ (D:=V) (λi=>[(0,.ptr 1000000 0 0),(1,.d n),(2,.d (.dk (f.map Gr))),(3,.d gW),(9,.d i)]) (λi=>e9 (gF m n f i))
  (λi=>i<=dj) (λi=>dj-i) 0 (e3 _) (dZ (dT ih eJ d0)) ?_
 intro i cK;have j:=h.gF n f i;have k:=(acx m n f i).1;have b:=jx.all i;have s:=jx.stop
 by_cases u:i<dj
 .have p:=acA j hw n cY;rw[b u]at p;have⟨M,a⟩:∃M,gF m n f i=M:=⟨_,Z⟩;rw[a]at p j k⊢;have r:=acB j hw R n cY (qh f i)
  conv=>whnf
  refine de ?_;refine ga p im Z eJ Z (de ?_)
  refine d3 (λdW=>?_) λdW=>?_
  .have o:0<f.length:=R
   have e:i%f.length<f.length:=mu _ o
   have c:qh f i=f[i%f.length]:=by rw[qh,if_pos o,fe e,v9]
   rw[c]at r
   have B:(f.map Gr)[i%f.length]?=U [.bool f[i%f.length]]:=by rw[iO,fe e];rfl
   have q:((i:I)%((f.map Gr).length:I))=((i%f.length:V):I):=by rw[w];rfl
   refine de ?_;refine AV R R (de ?_);rw[q];refine e' ?_;refine ga r im Z eJ Z (de ?_);refine⟨i+1,R,R,?_⟩;rw[show gF m n f (i+1)=(kq M n (f[i%f.length])).1 by rw[<-c,<-a];rfl];exact(dZ (dT ih eJ d0))
  .have c:qh f i=L:=by rw[qh,cT R]
   rw[c]at r;have r:=Rr r;refine de ?_;refine ga r im Z eJ Z (de ?_);refine⟨i+1,R,R,?_⟩;rw[show gF m n f (i+1)=(kq M n (L)).1 by rw[<-c,<-a];rfl];exact(dZ (dT ih eJ d0))
 .have d:i=dj:=R
  subst d
  by_cases v:i=gW
  .conv=>whnf
   refine de ?_;exact f7 Z Z Z eJ
  .have p:=acA j hw n cY;rw[s.resolve_left v]at p
   conv=>whnf
   refine de ?_;refine ga p im Z eJ Z (de ?_);exact f7 Z Z Z eJ
def pG(l:J gH):J c3:=[.dk (l.map kn)]
def acC:∀(l:J gH),gN 3 (l.map kn)=N
 | []=>rfl|_::r=>acC r
def asu(m:ey):J iC:=.row (m.ws.map jX) 11::([.d (.dk (m.p.f.cN.map fp)),.d m.p.f.hand,.d (g9 m.p.f.eh),.d (.dk (m.p.f.dE.map eB)),.d (g9 m.p.f.dK),.d (.dk (m.p.d.sec.map hN)),.d (.dk (m.p.d.fz.map fw)),.d m.p.now]++(m.h.cells.map iC.d++((hV m.ek 0).cells.map iC.d++((hV m.ek 1).cells.map iC.d++((hV m.ek 2).cells.map iC.d++((hV m.ek 3).cells.map iC.d++((hV m.ek 4).cells.map iC.d++((hV m.ek 5).cells.map iC.d++((hV m.ek 6).cells.map iC.d++((hV m.ek 7).cells.map iC.d++((hV m.ek 8).cells.map iC.d++((hV m.ek 9).cells.map iC.d++((hV m.ek 10).cells.map iC.d++((hV m.ek 11).cells.map iC.d++((hV m.ek 12).cells.map iC.d++((hV m.ek 13).cells.map iC.d++((hV m.ek 14).cells.map iC.d++((hV m.ek 15).cells.map iC.d++((hV m.ek 16).cells.map iC.d++((m.s.cells m.p.d).map iC.d++[.d m.d5,.row (m.du.map pC) 11]))))))))))))))))))))
def o3:J dn:=[.nil,.d (.bool L),.nil]
def asv(n:V)(p:fW):J dn:=.own 64::(p.box++([.d n,.d (.int .i64 1),.nil,.nil]++(o3++(o3++(o3++(o3++(o3++(o3++(o3++(o3++(o3++(o3++(o3++(o3++(o3++(o3++(o3++(o3++(o3++[.nil,.d (.int .i64 0),.d (.bool L),.nil,.nil,.nil,.d (.int .i64 0),.nil,.nil,.d (.int .i64 0),.nil])))))))))))))))))))
def asw(k):eL (k+1) [c3.int .i64 1]=eL k [c3.int .i64 1]++[[c3.int .i64 1]]:=aqG
set_option maxRecDepth 20000 in
def asx(d)(n:V)(todo p)(g:iH d n=(p,0))(h:ix p.d)(Q:1<=todo.length)(i:todo.length<=4)(a:∀l∈todo,l.length<=60):
  Ej cR 70 [iF d,n,.dk (todo.map pG)] (asu (mg p n todo)) [.int .i64 0]:=by
 have f:(todo.map pG).length=todo.length:=ef ..
 have o:=aab d n;rw[g]at o;refine aj3 asy 3 Z c2 (de ?_);refine eZ (D:=V) (λk=>[(1,.d n),(2,.d (.dk (todo.map pG))),(3,.ptr 3 0 0),(25,.d (.dk (todo.map pG))),(26,.d (todo.map pG).length),(27,.d k)]) (λ_=>[(3,.box (d.cells.map dn.d) L)])
  (λk=>k<=todo.length) (λk=>todo.length-k) 0 (e3 _) (dZ (dT mS eN d0)) ?_
 intro k c
 conv=>whnf
 refine d3 (λdz=>?_) λdz=>?_
 .have eM:k<todo.length:=R
  have e:=a todo[k] (hS eM)
  have m:(todo[k].map kn).length=todo[k].length:=ef ..
  refine ec R (cO ?_);refine dY (x:=pG todo[k]) iy (c9 ?_);refine de ?_;exact⟨k+1,R,R,(dZ (dT mS eN d0))⟩
 refine e' ?_;refine eZ (D:=V) (λk=>[(10,.ptr 10 0 0),(12,.ptr 48 0 0),(13,.own 69),(49,.d (.dk (todo.map pG))),(50,.d (todo.map pG).length),(51,.d k)]) (λk=>[(10,.box p.box L),(48,.box (asv n p) L),(64,.row (((todo.take k).map pB).map jX) 11 L),(69,.row (eL k [c3.int .i64 1]) 1 L)])
  (λk=>k<=todo.length) (λk=>todo.length-k) 0 (e3 _) (len [.row 13 69 1,.cell 48 0 64 11] ⟨hg,⟨hg,Z,Z⟩,dU⟩ (dT mS fj d0)) ?_
 intro k c
 conv=>whnf
 refine d3 (λdW=>?_) λdW=>?_
 .have eM:k<todo.length:=R
  have e:=a todo[k] (hS eM)
  have m:(todo[k].map kn).length=todo[k].length:=ef ..
  have t:(todo.take k).length=k:=GR
  have r:(((todo.take k).map pB).map jX).length=k:=eG
  refine ec R (cO ?_);refine dY (x:=pG todo[k]) iy (c9 ?_);refine de ?_;refine gK (apE (acC todo[k]) R) (de ?_);refine fV 1000 1000 (by show(((todo.take k).map pB).map jX).length+1<=1000;omega) c1 c1 c1 (de ?_);refine fV 1000 1000 (by show(eL k [c3.int .i64 1]).length+1<=1000;grind) c1 c1 c1 (de ?_);refine⟨k+1,R,R,dZ (dT mS ⟨Z,Z,?_,?_,dU⟩ d0)⟩
  .rw[lX eM,jt,jt];kernel_rfl
  .rw[asw];kernel_rfl
 have b:k=todo.length:=R;subst b;rw[p9];refine de ?_;refine df (aqN todo.length p.d Q i h) (de ?_);refine⟨6,.tmp 7,[],48,_,Z,Z,Z,.inl ⟨64,Z,Z,Z,?_⟩,Z,Z⟩
 repeat refine⟨Z,?_⟩
 exact .inr lr
namespace Dk
open Go.Proofs Go.RowKit
def Aw{f fn args r o d}(a:cR.funcs[f]?=U fn)(n)(cY:args.length=n)(dg:n_ fn n=N)
  (l:(uV args&&(xV g8 r&&(qJ 3000000 r&&(qJ 3000000 o&&tv o))))=N)(h:Oo T cR fn args r o d):rn cR f args r o d:=
 aiP sn nu a w9 l h
structure hX where
 e0:J gH
 eD:J gH
 eo:J gH
 gg:J gH
 gX:gm
 m:dB ey
 hQ:V
def asz(m:ey):J dn:=.own 3000006::(m.p.box++(m.h.cells.map dn.d++(Gl m.ek++((m.s.cells m.p.d).map dn.d++[.d m.d5,.own 3000007]))))
def asA:dB ey->dn
 |none=>.d .ka
 |some _=>.ptr 3000005 0 0
def asB:dB ey->d4
 |none=>.row [] 1 L
 |some m=>.box (asz m) L
def asC:dB ey->d4
 |none=>.row [] 1 L
 |some m=>.row (m.ws.map jX) 11 L
def asD:dB ey->d4
 |none=>.row [] 1 L
 |some m=>.row (m.du.map pC) 11 L
def asE(gX:gm)(m:dB ey)(hQ:V):J dn:=
 [.own 3000001,.own 3000002,.own 3000003,.own 3000004,.d (.dk (gX.sec.map hN)),.d (.dk (gX.fz.map Go.Lk.fw)),asA m,.d hQ]
def jG(x:hX):J (V×d4):=
 [(1000000,.box (asE x.gX x.m x.hQ) L),(3000001,.row (x.e0.map kn) 3 L),(3000002,.row (x.eD.map kn) 3 L),(3000003,.row (x.eo.map kn) 3 L),(3000004,.row (x.gg.map kn) 3 L),(3000005,asB x.m),(3000006,asC x.m),(3000007,asD x.m)]
def C7(x:hX)(w:V)(o:gH):hX:=match w with
 |0=>{x with e0:=x.e0++[o]}
 |1=>{x with eD:=x.eD++[o]}
 |2=>{x with eo:=x.eo++[o]}
 |_=>{x with gg:=x.gg++[o]}
def mL(x:hX)(ws:J dS):hX×dS:=
 if ws.length<3\/4<ws.length then(x,jD 2) else
 match lI (ws.getD 0 .empty),lI (ws.getD 2 .empty) with
 |some w,U id=>if 4<=w\/pq (ws.getD 1 .empty)=0 then(x,jD 2) else(C7 x w (pq (ws.getD 1 .empty),id,ws.getD 3 .empty),gx [])
 |_,_=>(x,jD 2)
def jv{T db O r o d}(s)(Q:(xV s o&&(I7 s&&s.all λp=>i7 p.1))=N)(h:(nn T db O r).map pf=U d)(eS:Fl s (qH T db O r)=N)(fy:I5 O s o):
  ∃s,(xV s o&&(I7 s&&s.all λp=>i7 p.1))=N/\WC T db O r s o d:=⟨s,Q,h,eS,fy⟩
def C8:dX cR 68 [.dk []] (.str (gx [])):=zQ nu [] dt c1
def Ax:dX cR 51 [.int .i64 2] (.str (jD 2)):=Ju 2 c1
end Dk
open Go.Proofs Go.RowKit
def t3(d:gm)(k:V):dB e_:=if(k2 d ((k:I)+1)).2=0 then U (k2 d ((k:I)+1)).1 else cM
def o4(d:gm)(k:V):J e_:=(iB k).filterMap (t3 d)
def KV{α:Type}(f:V->dB α)(k):((iB k).filterMap f).length<=k:=g3
def Gs{α:Type}(f:V->dB α)(k):(iB (k+1)).filterMap f=(iB k).filterMap f++(f k).toList:=by
 rw[List.range_succ,List.filterMap_append]
 congr 1
def asF(d):dX cR 106 [iF d] (.dk ((o4 d 16).map eB)):=by
 refine d6 Tryz.func106 1 Z c2 (de ?_);refine eZ (D:=V) (λk=>[(1,.ptr 1 0 0),(3,.own 22),(4,.d (.int .i64 ((k:I)+1)))]) (λk=>[(1,.box (d.cells.map dn.d) L),(22,.row ((o4 d k).map eB) 3 L)])
  (λk=>k<=16) (λk=>16-k) 0 (e3 _) (oI (.row 3 22 3) hg (dT eJ lr d0)) ?_
 intro k b;have l:=KV (t3 d) k
 have m:((o4 d k).map eB).length=(o4 d k).length:=ef ..
 replace l:(o4 d k).length<=k:=l;have es:=Gs (t3 d) k;replace es:o4 d (k+1)=o4 d k++(t3 d k).toList:=es;have⟨q,a⟩:∃q,k2 d ((k:I)+1)=q:=⟨_,Z⟩;have g:=Cw d ((k:I)+1);rw[t3,a]at es;rw[a]at g
 conv=>whnf
 refine d3 (λdz=>?_) λdz=>?_
 .refine e' ?_
  refine d3 (λdW=>?_) λdW=>?_
  .rw[if_pos dW]at es;refine de ?_;refine fV 1000 100 (by show((o4 d k).map eB).length+1<=1000;omega) c1 c1 c1 (de ?_);rw[show(k:I)+1+1=((k+1:V):I)+1 by omega];exact⟨k+1,by omega,by omega,dZ (dT eJ ⟨Z,by rw[es,jt];rfl,dU⟩ d0)⟩
  .rw[cT dW]at es;refine de ?_;rw[show(k:I)+1+1=((k+1:V):I)+1 by omega];exact⟨k+1,by omega,by omega,dZ (dT eJ ⟨Z,by rw[es,asG,p0];rfl,dU⟩ d0)⟩
 .have:k=16:=R
  subst this;refine de ?_;exact dd Z Z
def o5(l:J e_)(id:I):e_×dh:=if Hy.q1 l=N/\Hy.q2 l id=N then(l[Hy.lk l id]?.getD d',N) else(d',L)
def acD(l id)(b:l.length<=1000):dX cR 108 [.agg [.dk (l.map eB)],.int .i64 id] (.dP [.agg (eB (o5 l id).1),.bool (o5 l id).2]):=by
 have Q:=Hy.abu l R;have a:=Hy.sz l id R
 have m:(l.map eB).length=l.length:=ef ..
 cases c:Hy.q1 l with
 |false=>rw[c]at Q;rw[o5,cT (by grind)];refine d6 acE 2 Z c2 (de ?_);refine df Q (de ?_);exact dd Z Z
 |true=>
  rw[c]at Q
  cases e:Hy.q2 l id with
  |false=>rw[e]at a;rw[o5,cT (by grind)];refine d6 acE 2 Z c2 (de ?_);refine df Q (de ?_);refine df a (de ?_);exact dd Z Z
  |true=>
   rw[e]at a
   have o':Hy.lk l id<l.length:=by refine lv λg=>?_;rw[Hy.q2,Cc R]at e;cases e
   rw[o5,if_pos ⟨c,e⟩,fe o'];refine d6 acE 2 Z c2 (de ?_);refine df Q (de ?_);refine df a (de ?_);refine ec R (cO ?_);refine dY (x:=eB l[Hy.lk l id]) uf (de ?_);exact dd Z Z
def C9(m:ey)(k:V):dB e_:=if(jS m.p.f ((k:I)+1)).2=N then U (nB m.p.f.dE (jS m.p.f ((k:I)+1)).1.toNat) else if(o5 (o4 m.p.d 16) ((k:I)+1)).2=N then U (o5 (o4 m.p.d 16) ((k:I)+1)).1 else cM
def wV(m:ey)(k:V):J e_:=(iB k).filterMap (C9 m)
def ll(m:ey):J e_:=wV m 16
set_option maxRecDepth 20000 in
def acF(m)(F:ew m.p.f):fG cR 76 [.ptr 1000000 0 0] (e9 m) (e9 m) (.agg [.dk ((ll m).map eB)]):=by
 apply g_ Tryz.func76 1 Z c2 f0;have o:=asF m.p.d;have l:(o4 m.p.d 16).length<=16:=KV _ _;have⟨cL,h⟩:∃cL,o4 m.p.d 16=cL:=⟨_,Z⟩;rw[h]at o l
 conv=>whnf
 refine e' ?_;refine eZ (D:=V) (λk=>[(0,.ptr 1000000 0 0),(2,.ptr 2 0 0),(3,.ptr 3 0 0),(4,.ptr 4 0 0),(5,.d (.int .i64 ((k:I)+1)))]) (λk=>[(1000000,.box (rN m) L),(1000001,.row (m.ws.map jX) 11 L),(1000004,.row (m.du.map pC) 11 L),(2,.box [.nil] L),(3,.box [.d (.dk (cL.map eB))] L),(4,.box [.own 44] L),(44,.row ((wV m k).map eB) 3 L)])
  (λk=>k<=16) (λk=>16-k) 0 (e3 _) (oI (.cell 4 0 44 3) ⟨hg,Z,Z⟩ (dT ih vG d0)) ?_
 intro k e;have b:(wV m k).length<=k:=KV (C9 m) k
 have c:((wV m k).map eB).length=(wV m k).length:=ef ..
 have es:wV m (k+1)=wV m k++(C9 m k).toList:=Gs (C9 m) k;have f:=tL m.p.f ((k:I)+1) F.hY F.dl;have g:=acD cL ((k:I)+1) R;rw[C9,h]at es
 have d:(m.p.f.dE.map eB).length=m.p.f.dE.length:=ef ..
 conv=>whnf
 refine d3 (λdz=>?_) λdz=>?_
 .refine de ?_;rcases F.wL (show((k:I)+1)≠0 by omega) with⟨_,n⟩|⟨i,_,c8⟩
  .rw[qW F n R]at f es;rw[cT c1]at es;refine e' ?_
   refine iD (λj=>?_) λj=>?_
   .rw[if_pos j]at es;refine de ?_;refine fV 1000 100 (by show((wV m k).map eB).length+1<=1000;omega) c1 c1 c1 (de ?_);rw[show(k:I)+1+1=((k+1:V):I)+1 by omega];exact⟨k+1,by omega,by omega,dZ (dT ih ⟨Z,Z,Z,Z,Z,Z,by rw[es,jt];rfl,dU⟩ d0)⟩
   .rw[cT eG]at es;refine de ?_;rw[show(k:I)+1+1=((k+1:V):I)+1 by omega];exact⟨k+1,by omega,by omega,dZ (dT ih ⟨Z,Z,Z,Z,Z,Z,by rw[es,asG,p0];rfl,dU⟩ d0)⟩
  .rw[qa c8]at f es;have a:=c8.O;rw[if_pos Z,gl,nC a]at es;refine df f (de ?_);refine ec R (cO ?_);refine dY (x:=eB m.p.f.dE[i]) (by simp[a]) (c9 ?_);refine de ?_;refine fV 1000 100 (by show((wV m k).map eB).length+1<=1000;omega) c1 c1 c1 (de ?_);rw[show(k:I)+1+1=((k+1:V):I)+1 by omega];exact⟨k+1,by omega,by omega,dZ (dT ih ⟨Z,Z,Z,Z,Z,Z,by rw[es,jt];rfl,dU⟩ d0)⟩
 .have:k=16:=R
  subst this;refine de ?_;exact f7 Z Z Z eJ
namespace Dk
open Go.Proofs Go.RowKit
def qi:J (V×V):=[(1000000,3000005),(1000001,3000006),(1000004,3000007)]
def lm(b:dS):J V:=b.data.toList.map UInt8.toNat
def sO(m:ey)(id:I):dS:=if(o5 (ll m) id).2=N then gx (lm (o5 (ll m) id).1.2.2) else jD 3
def asI:dX cR 51 [.int .i64 3] (.str (jD 3)):=Ju 3 c1
def wW(b):(lm b).length=b.size:=by rw[lm,ef,m6];rfl
def acG{b k}(h):(lm b)[k]'(by rw[wW];exact h)=(b.data.getD k 0).toNat:=by
 have a:k<b.data.size:=h
 have eS:k<b.data.toList.length:=by rwa[m6]
 rw[Array.getD,EI a];simp[lm]
def acH{l id}(h:∀p∈l,p.2.2.size<=1000):(o5 l id).1.2.2.size<=1000:=by
 rw[o5];split
 .cases e:l[Hy.lk l id]? with|none=>decide|some p=>grind
 .decide
set_option maxRecDepth 20000 in
def asJ(e0 eD eo gg d m w id)(F:ew m.p.f)(l:(ll m).length<=1000)(f:∀p∈ll m,p.2.2.size<=1000):
  rn cR 85 [.ptr 1000000 0 0,.d (.int .i64 id)] (jG ⟨e0,eD,eo,gg,d,U m,w⟩) (jG ⟨e0,eD,eo,gg,d,U m,w⟩) (.str (sO m id)):=by
 have O:=acF m F;have g:=acD (ll m) id l;have⟨o,c⟩:∃o,o5 (ll m) id=o:=⟨_,Z⟩;have⟨⟨i,v,b⟩,j⟩:=o;rw[c]at g
 have r:sO m id=if j=N then gx (lm b) else jD 3:=by rw[sO,c]
 have s:b.size<=1000:=by have:=acH (id:=id) f;rwa[c]at this
 refine Aw Tryz.func85 2 Z c2 f0 (de ?_);refine ga O qi Z eJ Z (de ?_);refine df g (de ?_)
 refine iD (λQ=>?_) λQ=>?_
 .refine de ?_;refine eZ (D:=V) (λk=>[(5,.ptr 5 0 0),(7,.own 35),(24,.d b.size),(25,.d k)]) (λk=>(5,.box [.d i,.d v,.d (.str b)] L)::(35,.row (((lm b).take k).map f1) 1 L)::jG ⟨e0,eD,eo,gg,d,U m,w⟩)
   (λk=>k<=b.size) (λk=>b.size-k) 0 (e3 _) (oI (.row 7 35 1) hg (dT fj ⟨Z,Z,Z,Z,Z,Z,Z,Z,Z,Z,dU⟩ d0)) ?_
  intro k e
  conv=>whnf
  refine d3 (λdz=>?_) λdz=>?_
  .have a:k<b.size:=R
   have t:((lm b).take k).length=k:=by rw[pn,wW];omega
   refine de ?_;refine ec a (de ?_);refine yS (cW:=R) (Q:=by have:=(b.data.getD k 0).toNat_lt;omega) (de ?_);refine fV 1000100 100 (by rw[ef,t];show k+1<=1000100;omega) c1 c1 c1 (de ?_);refine⟨k+1,R,R,dZ (dT fj ⟨Z,?_,Z,Z,Z,Z,Z,Z,Z,Z,dU⟩ d0)⟩;rw[lX (by rwa[wW]),jt,acG a];rfl
  .have e:k=b.size:=R
   subst e;rw[u1 (by rw[wW];omega)];refine de ?_;refine df (zQ nu (lm b) (λn cY=>by obtain⟨x,q,rfl⟩:=h4.1 cY;have:=x.toNat_lt;omega) (by rw[wW];omega)) (de ?_);rw[r,if_pos o_];exact jv g8 Z Z Z lY
 .refine de ?_;refine df asI (c9 ?_);rw[r,cT o_];exact jv g8 Z Z Z lY
end Dk
open Go.Proofs Go.RowKit
def acI:∀(l:J (I×I)),gN 2 (l.map f8)=N
 | []=>rfl|_::r=>acI r
set_option maxRecDepth 20000 in
def asK(m)(Q:m.p.f.cN.length<=1000000)(f:m.p.f.eh.length<=1000000)(g:m.p.f.dE.length<=1000000)(i:m.p.f.dK.length<=1000000)(dz:m.p.d.sec.length<=1000000)(dW:m.p.d.fz.length<=1000000):
  fG cR 69 [.ptr 1000000 0 0] (e9 m) (e9 m) (oi m.p):=by
 have h:=Pn m.p.f.cN Q;have e:=Tb.PJ m.p.f.eh f;have a:=Cr m.p.f.dE g;have b:=apD (acI m.p.f.dK) eG;have c:=YY m.p.d.sec dz;have d:=YZ m.p.d.fz dW;refine g_ Tryz.func69 1 Z c2 f0 (de ?_);refine gK h (de ?_);refine gK e (de ?_);refine gK a (de ?_);refine gK b (de ?_);refine gK c (de ?_);refine gK d (de ?_);exact f7 Z Z Z eJ
structure vt(todo:J (J gH)):Prop where
 fh:1<=todo.length
 iJ:todo.length<=4
 acJ:∀l∈todo,l.length<=60
set_option maxRecDepth 20000 in
def asL(d n todo)(i:todo.length<=9223372036854775807)(a:∀l∈todo,l.length<=9223372036854775807)(h:¬vt todo\/ (iH d n).2=1):
  dX cR 70 [iF d,n,.dk (todo.map pG)] (.dP [.ka,.int .i64 1]):=by
 have r:(todo.map pG).length=todo.length:=ef ..
 have o:=aab d n;have⟨p,O⟩:∃p,(iH d n).1=p:=⟨_,Z⟩;have⟨e,f⟩:∃e,(iH d n).2=e:=⟨_,Z⟩;rw[O,f]at o;rw[f]at h;refine d6 asy 3 Z c2 (de ?_)
 refine d3 (λQ=>?_) λQ=>?_
 .refine de ?_;exact dd Z Z
 refine de ?_
 refine d3 (λs=>?_) λs=>?_
 .refine de ?_;exact dd Z Z
 refine de ?_;refine eZ (D:=V) (λk=>[(1,.d n),(2,.d (.dk (todo.map pG))),(3,.ptr 3 0 0),(25,.d (.dk (todo.map pG))),(26,.d (todo.map pG).length),(27,.d k)]) (λ_=>[(3,.box (d.cells.map dn.d) L)])
  (λk=>k<=todo.length/\ ∀l∈todo.take k,l.length<=60) (λk=>todo.length-k) 0 ⟨e3 _,λl h=>ql⟩ (dZ (dT mS eN d0)) ?_
 rintro k ⟨j,cX⟩
 conv=>whnf
 refine d3 (λdz=>?_) λdz=>?_
 .have eM:k<todo.length:=R
  have q:=a todo[k] (hS eM)
  have m:(todo[k].map kn).length=todo[k].length:=ef ..
  refine ec R (cO ?_);refine dY (x:=pG todo[k]) iy (c9 ?_)
  refine d3 (λdW=>?_) λdW=>?_
  .refine de ?_;exact dd Z Z
  refine de ?_;refine⟨k+1,⟨R,λl h=>?_⟩,R,(dZ (dT mS eN d0))⟩;rw[lX eM]at h;grind
 have c:k=todo.length:=R;subst c;rw[p9]at cX;have b:=h.resolve_left λg=>g ⟨R,R,cX⟩;subst b;refine e' ?_;exact dd Z Z
namespace Dk
open Go.Proofs Go.RowKit
def o6 (x:hX):gm:=match x.m with
 |none=>x.gX
 |some m=>m.p.d
def t4 (x:hX) (a:V):J (J gH):=[x.e0,x.eD,x.eo,x.gg].take a
open Classical in
def mM (x:hX) (ws:J dS):hX×dS:=match kY ws with
 |some [a,b]=>if 4<a then (x,jD 2) else
  if vt (t4 x a) /\ (iH (o6 x) b).2=0 then (⟨[],[],[],[],x.gX,U (mg (iH (o6 x) b).1 b (t4 x a)),a⟩,gx []) else (⟨[],[],[],[],x.gX,x.m,x.hQ⟩,jD 1)
 |_=>(x,jD 2)
def asM (d:gm) (n:I):(iH d n).2=0\/ (iH d n).2=1:=by
 rw [iH];split
 .exact .inr Z
 .split
  .exact .inr Z
  .exact .inl Z
def asN {x:hX} {ws:J dS} {l:J V} (a:kY ws=U l) (h:¬l.length=2):mM x ws=(x,jD 2):=by
 unfold mM;rw [a]
 match l,h with
 | [],_=>rfl| [_],_=>rfl| [_,_],h=>exact dQ Z h|_::_::_::_,_=>rfl
def acK (e0 eD eo gg:J gH) (a:V):((y9 [c3.dk (e0.map kn),c3.dk (eD.map kn),c3.dk (eo.map kn),c3.dk (gg.map kn)]).take a).drop 0=([e0,eD,eo,gg].take a).map pG:=by rw [Cg,xN];rfl
open Classical in
def asO {x:hX} {ws:J dS} {a b:V} (c:kY ws=U [a,b]) (h:¬4<a) (d:¬(vt (t4 x a) /\ (iH (o6 x) b).2=0)):mM x ws=(⟨[],[],[],[],x.gX,x.m,x.hQ⟩,jD 1):=by unfold mM;rw [c];show (if 4<a then _ else if _ then _ else _)=_;rw [cT h,cT d]
open Classical in
def Rv {x:hX} {ws:J dS} {a b:V} (c:kY ws=U [a,b]) (h:¬4<a) (d:vt (t4 x a) /\ (iH (o6 x) b).2=0):mM x ws=(⟨[],[],[],[],x.gX,U (mg (iH (o6 x) b).1 b (t4 x a)),a⟩,gx []):=by unfold mM;rw [c];show (if 4<a then _ else if _ then _ else _)=_;rw [cT h,if_pos d]
structure Rw (m:ey):Prop where
 Q:m.p.f.cN.length<=1000000
 c5:m.p.f.eh.length<=1000000
 eS:m.p.f.dE.length<=1000000
 fy:m.p.f.dK.length<=1000000
 dz:m.p.d.sec.length<=1000000
 dW:m.p.d.fz.length<=1000000
structure Rx (x:hX):Prop where
 cW:x.e0.length<=1000
 Q:x.eD.length<=1000
 c5:x.eo.length<=1000
 eS:x.gg.length<=1000
def asP:dX cR 51 [.int .i64 1] (.str (jD 1)):=Ju 1 c1
set_option maxRecDepth 20000 in
def asQ(x:hX)(j:∀m,x.m=U m->Rw m)(ws:J dS)(dw:ws.length<=1000000)(z:∀w∈ws,w.size<=9223372036854775807)(A:Rx x)
 (s:∀n,(iH (o6 x) n).2=0->ix (iH (o6 x) n).1.d):
 rn cR 48 [.ptr 1000000 0 0,.d (.dk (ws.map fw))] (jG x) (jG (mM x ws).1) (.str (mM x ws).2):=by
 have⟨B,C,D,E⟩:=A;have cY:=X0 ws dw z;have⟨y,i⟩:∃y,mM x ws=y:=⟨_,Z⟩;have⟨o,p⟩:∃o,kY ws=o:=⟨_,Z⟩;rw[i];rw[p]at cY;have⟨X,f⟩:∃X,X=x:=⟨_,Z⟩;have⟨O,r⟩:∃O,O=o6 x:=⟨_,Z⟩;rw[<-f]at i;rw[<-r]at s;have⟨e0,eD,eo,gg,gX,m,hQ⟩:=x;simp only at B C D E
 cases m<;>(
  try have F:=asK _ (j _ Z).Q (j _ Z).c5 (j _ Z).eS (j _ Z).fy (j _ Z).dz (j _ Z).dW
  refine Aw Tryz.func48 2 Z c2 f0 (di ?_)
  cases o with
  |none=>
   refine df cY (c9 ?_);refine di ?_;refine df Ax (c9 ?_)
   have e:y=(X,jD 2):=by rw[<-i];simp[mM,p]
   subst e f;exact jv g8 Z Z Z ⟨Z,Z,Z,Z,Z,Z,Z,Z,dU⟩
  |some l=>
   have M:(l.map f1).length=l.length:=ef ..
   refine df cY (c9 ?_)
   refine wq (λc5=>?_) λc5=>?_
   .have e:y=(X,jD 2):=by rw[<-i];exact asN p R
    refine di ?_;refine df Ax (c9 ?_);subst e f;exact jv g8 Z Z Z ⟨Z,Z,Z,Z,Z,Z,Z,Z,dU⟩
   obtain⟨a,b,rfl⟩:∃a b,l=[a,b]:=by
    have:l.length=2:=R
    rcases l with _|⟨a,_|⟨b,_|⟨c,l⟩⟩⟩<;>first|exact⟨_,_,Z⟩|exact dQ this dt
   refine di ?_;refine kb c1 (by show(0:I)<2;decide) (cO ?_);refine dY (x:=[a]) Z (di ?_)
   refine d3 (λfy=>?_) λfy=>?_
   .have G:4<a:=R
    have e:y=(X,jD 2):=by rw[<-i];simp[mM,p,G]
    refine di ?_;refine df Ax (c9 ?_);subst e f;exact jv g8 Z Z Z ⟨Z,Z,Z,Z,Z,Z,Z,Z,dU⟩
   refine di ?_
   try refine ga F qi Z ⟨Z,Z,Z,dU⟩ Z (di ?_)
   refine kb c1 (by show(1:I)<2;decide) (cO ?_);refine dY (x:=[b]) Z (di ?_);refine kb c1 (by show(0:I)<2;decide) (cO ?_);refine dY (x:=[a]) Z (di ?_);refine oE (by show a<=4;omega) (cO ?_)
   have H:([e0,eD,eo,gg].take a).length<=9223372036854775807:=by rw[pn];omega
   have K:∀l∈[e0,eD,eo,gg].take a,l.length<=9223372036854775807:=λl h=>by
    have h:=QQ h;simp at h
    rcases h with rfl|rfl|rfl|rfl<;>omega
   have t:t4 X a=[e0,eD,eo,gg].take a:=by rw[f];rfl
   have u:o6 X=O:=by rw[f,r]
   by_cases q:vt (t4 X a)/\ (iH (o6 X) b).2=0
   .have e:=i.symm.trans (Rv p R q);rw[t,u]at q e;have⟨cS,v⟩:=q;have dg:=asx O b ([e0,eD,eo,gg].take a) (iH O b).1 (by rw[<-v]) (s b v) cS.fh cS.iJ cS.acJ;rw[<-acK]at dg;subst r f e;refine afK dg (ta Z) (di ?_);refine kb c1 (by show(0:I)<2;decide) (cO ?_);refine dY (x:=[a]) Z (di ?_);refine df C8 (c9 ?_);exact jv [(1000000,1000000),(3000005,2000496),(3000006,2000497),(3000007,2000498)] Z Z Z ⟨Z,⟨3,Z⟩,⟨3,Z⟩,⟨3,Z⟩,⟨3,Z⟩,Z,Z,Z,dU⟩
   .have e:=i.symm.trans (asO p R q);rw[t,u]at q
    have hi:¬vt ([e0,eD,eo,gg].take a) \/(iH O b).2=1:=by
     rcases Classical.em (vt ([e0,eD,eo,gg].take a)) with h|h
     .exact .inr ((asM O b).resolve_left λg=>q ⟨h,g⟩)
     .exact .inl h
    have dg:=asL O b ([e0,eD,eo,gg].take a) H K hi;rw[<-acK]at dg;subst r f e;refine df dg (di ?_);refine df asP (c9 ?_)
    exact jv [(1000000,1000000),(3000005,3000005),(3000006,3000006),(3000007,3000007)] Z Z Z ⟨Z,⟨3,Z⟩,⟨3,Z⟩,⟨3,Z⟩,⟨3,Z⟩,Z,Z,Z,dU⟩)
def KW(x:hX)(ws:J dS)(h:ws.length<3\/4<ws.length):rn cR 47 [.ptr 1000000 0 0,.d (.dk (ws.map fw))] (jG x) (jG (mL x ws).1) (.str (mL x ws).2):=by
 have d8:(ws.map fw).length=ws.length:=ef ..
 rw[mL,if_pos h];have⟨e0,eD,eo,gg,gX,m,hQ⟩:=x
 cases m<;>(
  refine Aw asR 2 Z c2 f0 (cO ?_)
  refine pc (λQ=>?_) (λQ=>?_)<;>(
   conv=>whnf
   refine di ?_;refine df Ax (c9 ?_)
   exact jv g8 Z Z Z ⟨Z,Z,Z,Z,Z,Z,Z,Z,dU⟩))
def KX{l:J gH}{o:gH}:(l++[o]).map kn=l.map kn++[kn o]:=by rw[jt];rfl
def acL (x : hX) (a b c : dS) (r : J dS) (dI : r.length ≤ 1) (dq : a.size ≤ 9223372036854775807) (dg : c.size ≤ 9223372036854775807) (q : x.e0.length ≤ 1000 ∧ x.eD.length ≤ 1000 ∧ x.eo.length ≤ 1000 ∧ x.gg.length ≤ 1000) : rn cR 47 [.ptr 1000000 0 0, .d (.dk ((a :: b :: c :: r).map fw))] (jG x) (jG (mL x (a :: b :: c :: r)).1) (.str (mL x (a :: b :: c :: r)).2) := by
  have d8 : (r.map fw).length = r.length := ef ..
  have f := zL a dq
  have g := zL c dg
  have i : mL x (a :: b :: c :: r) = match lI a, lI c with
    | some w, U id => if 4 ≤ w ∨ pq b = 0 then (x, jD 2) else (C7 x w (pq b, id, r.getD 0 .empty), gx [])
    | _, _ => (x, jD 2) := by
    unfold mL
    rw [cT (by simp; omega)]; rfl
  rw [i]
  clear i
  obtain ⟨e0, eD, eo, gg, gX, m, hQ⟩ := x
  obtain ⟨j, n, o, p⟩ := q
  simp only at j n o p
  rcases r with _ | ⟨d, _ | ⟨e, r⟩⟩
  case cons.cons => simp at dI
  all_goals
    cases m <;> cases s : lI a <;> cases t : lI c <;> (
      rw [s] at f
      rw [t] at g
      dsimp only
      refine Aw asR 2 Z c2 f0 (di ?_)
      refine kb c1 dt (cO ?_)
      refine dY Z (cO ?_)
      refine df f (c9 ?_)
      refine kb c1 dt (cO ?_)
      refine dY Z (cO ?_)
      refine df (aj4 b) (c9 ?_)
      refine kb c1 dt (cO ?_)
      refine dY Z (cO ?_)
      refine df g (di ?_)
      repeat' first
        | (refine df Ax (c9 ?_); try rw [if_pos R]
           exact jv g8 Z Z Z ⟨Z, Z, Z, Z, Z, Z, Z, Z, dU⟩)
        | (refine pc (fun h => ?_) (fun h => ?_) <;> refine di ?_))
  all_goals
    rename_i w id fy
    rw [cT R]
    try (refine kb c1 dt (cO ?_); refine dY Z (di ?_))
    have u : w = 0 ∨ w = 1 ∨ w = 2 ∨ w = 3 := by omega
    rcases u with rfl | rfl | rfl | rfl <;> (
      refine kb c1 c1 (di ?_)
      refine fV 1000100 100 (by rw [ef]; exact fJ (Nat.add_le_add_right (by first | exact j | exact n | exact o | exact p) 1) c1) c1 c1 c1 (di ?_)
      refine kb c1 c1 (di ?_)
      refine df C8 (c9 ?_)
      exact jv g8 Z Z Z ⟨Z, by first | rfl | exact eR (fun l => U (d4.row l 3 L)) (Eq.symm KX), by first | rfl | exact eR (fun l => U (d4.row l 3 L)) (Eq.symm KX), by first | rfl | exact eR (fun l => U (d4.row l 3 L)) (Eq.symm KX), by first | rfl | exact eR (fun l => U (d4.row l 3 L)) (Eq.symm KX), Z, Z, Z, dU⟩)
structure iQ(m:ey):Prop where
 ex:∃work,hr work m/\ ∀l∈work,l.length<=1000
 eT:0<=m.d5
 g6:m.d5<=700000
 pl:(ll m).length<=1000
 l1:∀p∈ll m,p.2.2.size<=1000
 qB:∀p∈ll m,(0<=p.1/\p.1<1000000000) /\0<=p.2.1/\p.2.1<1000000000
 is:m.du.length<=190000
 ke:∀e∈m.du,e.fi<1000000000/\ (0<=e.op.1/\e.op.1<1000000000) /\ (0<=e.op.2.1/\e.op.2.1<1000000000) /\ (0<=e.res.1/\e.res.1<1000000000) /\0<=e.res.2.2.1/\e.res.2.2.1<1000000000
 ol:m.s.out.length<=1000000
def iQ.ok{m}(h:iQ m):hk m:=by have⟨w,h,_⟩:=h.ex;exact h.ok
def iQ.fm{m}(h:iQ m):ew m.p.f:=by have⟨w,h,_⟩:=h.ex;have⟨t,_,_,g⟩:=h.ex;exact g.nL.fm
def iQ.us{m}(h:iQ m):ix m.p.d:=by have⟨w,h,_⟩:=h.ex;have⟨t,_,_,g⟩:=h.ex;exact g.nL.us
def KY(e:sH):J V:=[e.fi,e.op.1.toNat,e.op.2.1.toNat,e.res.1.toNat,e.res.2.2.1.toNat]
def vu(l:J sH):J V:=l.flatMap KY
def KZ(p:e_):J V:=[p.1.toNat,p.2.1.toNat]
def rQ(l:J e_):J V:=l.flatMap KZ
def wX(b:dh):dS:=if b then ⟨#[111,107,32,121,101,115]⟩ else ⟨#[111,107,32,110,111]⟩
def pH(m:ey)(hQ:V)(w:dS):ey×dS:=
 if w=⟨#[112,117,109,112]⟩ then(mf m,gx []) else
 if w=⟨#[114,111,117,110,100]⟩ then((kq m hQ L).1,wX (kq m hQ L).2) else
 if w=⟨#[104,105,115,116,111,114,121]⟩ then(m,gx (vu m.du)) else
 if w=⟨#[112,97,103,101,115]⟩ then(m,gx (rQ (ll m))) else
 if w=⟨#[99,108,111,99,107]⟩ then(m,gx [m.d5.toNat,m.s.out.length]) else(m,gx [])
def K0:∀l,(vu l).length=5*l.length
 | []=>rfl
 |e::l=>by
  have:=K0 l;simp[vu,asS,kG,pW]at this⊢;rw[this];show 5+_=_;omega
def K1:∀l,(rQ l).length=2*l.length
 | []=>rfl
 |e::l=>by
  have:=K1 l;simp[rQ,asS,kG,pW]at this⊢;rw[this];show 2+_=_;omega
def asT(l e):vu (l++[e])=vu l++KY e:=by simp[vu]
def asU(l e):rQ (l++[e])=rQ l++KZ e:=by simp[rQ]
def asV(e:sH):Prop:=e.fi<1000000000/\ (0<=e.op.1/\e.op.1<1000000000) /\ (0<=e.op.2.1/\e.op.2.1<1000000000) /\ (0<=e.res.1/\e.res.1<1000000000) /\0<=e.res.2.2.1/\e.res.2.2.1<1000000000
def asW(p:e_):Prop:=(0<=p.1/\p.1<1000000000) /\0<=p.2.1/\p.2.1<1000000000
def asX{e}(h:asV e):(KY e).map f1=[[.int .i64 e.fi],[.int .i64 e.op.1],[.int .i64 e.op.2.1],[.int .i64 e.res.1],[.int .i64 e.res.2.2.1]]:=by have⟨_,⟨Q,_⟩,⟨a,_⟩,⟨eS,_⟩,fy,_⟩:=h;show [[c3.int .i64 (e.fi:I)],[.int .i64 ((e.op.1.toNat:V):I)],[.int .i64 ((e.op.2.1.toNat:V):I)],[.int .i64 ((e.res.1.toNat:V):I)],[.int .i64 ((e.res.2.2.1.toNat:V):I)]]=_;grind
def asY{e}(h:asW e):(KZ e).map f1=[[.int .i64 e.1],[.int .i64 e.2.1]]:=by have⟨⟨Q,_⟩,a,_⟩:=h;show [[c3.int .i64 ((e.1.toNat:V):I)],[.int .i64 ((e.2.1.toNat:V):I)]]=_;grind
set_option maxRecDepth 20000 in
def asZ(e0 eD eo gg f m o w)(h:iQ m)(hw:o<=1000000):
  rn cR 52 [.ptr 1000000 0 0,.d (.str w)] (jG ⟨e0,eD,eo,gg,f,U m,o⟩) (jG ⟨e0,eD,eo,gg,f,U (pH m o w).1,o⟩) (.str (pH m o w).2):=by
 have⟨work,E,v⟩:=h.ex;have u:=ach m h.ok.hf h.us;have s:=Rr (acB E v G6 o hw L);have q:=ar8 m (by have:=h.is;omega);have r:=acF m h.fm;have i:=ar6 m;have j:=Gq m;have⟨y,b⟩:∃y,pH m o w=y:=⟨_,Z⟩;rw[b];refine Aw Tryz.func52 2 Z c2 f0 (de ?_)
 refine d3 (λQ=>?_) λQ=>?_
 .refine de ?_
  have e:y=(mf m,gx []):=by rw[<-b,pH,if_pos Q]
  subst e;refine ga u qi Z eJ Z (de ?_);refine df C8 (de ?_);exact jv g8 Z Z Z lY
 refine de ?_
 refine d3 (λc=>?_) λc=>?_
 .refine de ?_
  have e:y=((kq m o L).1,wX (kq m o L).2):=by rw[<-b,pH,cT Q,if_pos c]
  subst e;refine ga s qi Z eJ Z (de ?_);refine df (Jl _) (de ?_);exact jv g8 Z Z Z lY
 refine de ?_
 refine d3 (λeS=>?_) λeS=>?_
 .refine de ?_
  have e:y=(m,gx (vu m.du)):=by rw[<-b,pH,cT Q,cT c,if_pos eS]
  subst e;refine ga q qi Z eJ Z (de ?_)
  have z:(m.du.map pC).length=m.du.length:=ef ..
  have l:=h.is;refine eZ (D:=V) (λk=>[(6,.own 55),(32,.d (.dk (m.du.map pC))),(33,.d (.int .i64 (m.du.map pC).length)),(34,.d (.int .i64 k))]) (λk=>(55,.row ((vu (m.du.take k)).map f1) 1 L)::jG ⟨e0,eD,eo,gg,f,U m,o⟩)
   (λk=>k<=m.du.length) (λk=>m.du.length-k) 0 (e3 _) (oI (.row 6 55 1) hg (dT fj yQ d0)) ?_
  intro k d
  conv=>whnf
  refine d3 (λg=>?_) λg=>?_
  .have eM:k<m.du.length:=by omega
   have cY:=h.ke _ (hS eM);have E:(pC m.du[k])=pC m.du[k]:=rfl
   have t:(vu (m.du.take k)).length=5*k:=by rw[K0,pn];omega
   refine ec R (cO ?_);refine dY (x:=pC m.du[k]) iy (c9 ?_);refine de ?_;refine fV 1000100 100 (by show pY _+5<=1000100;rw[ef,t];omega) c1 c1 c1 (de ?_);refine⟨k+1,R,R,dZ (dT fj ⟨?_,Z,Z,Z,Z,Z,Z,Z,Z,dU⟩ d0)⟩;rw[lX eM,asT,jt,asX cY];rfl
  .have d:k=m.du.length:=by omega
   subst d;rw[p9];refine de ?_;refine df (zQ nu (vu m.du) (λn cY=>by have h:=h.ke;have⟨e,f,cY⟩:=as0.1 cY;have⟨cW,⟨Q,a⟩,⟨g,b⟩,⟨eS,c⟩,fy,d⟩:=h e f;simp[KY,m3,Gt,K2]at cY;omega) (by rw[K0];omega)) (de ?_);exact jv g8 Z Z Z lY
 refine de ?_
 refine d3 (λfy=>?_) λfy=>?_
 .refine de ?_
  have e:y=(m,gx (rQ (ll m))):=by rw[<-b,pH,cT Q,cT c,cT eS,if_pos fy]
  subst e;refine ga r qi Z eJ Z (de ?_)
  have z:((ll m).map eB).length=(ll m).length:=ef ..
  have l:=h.pl;have a:=h.qB;have⟨cL,p⟩:∃cL,ll m=cL:=⟨_,Z⟩;rw[p]at z l a⊢;refine eZ (D:=V) (λk=>[(6,.own 73),(61,.d (.dk (cL.map eB))),(62,.d (.int .i64 (cL.map eB).length)),(63,.d (.int .i64 k))]) (λk=>(73,.row ((rQ (cL.take k)).map f1) 1 L)::jG ⟨e0,eD,eo,gg,f,U m,o⟩)
   (λk=>k<=cL.length) (λk=>cL.length-k) 0 (e3 _) (oI (.row 6 73 1) hg (dT fj yQ d0)) ?_
  intro k d
  conv=>whnf
  refine d3 (λg=>?_) λg=>?_
  .have eM:k<cL.length:=by omega
   have cY:=a _ (hS eM)
   have t:(rQ (cL.take k)).length=2*k:=by rw[K1,pn];omega
   refine ec R (cO ?_);refine dY (x:=eB cL[k]) iy (c9 ?_);refine de ?_;refine fV 1000100 100 (by show pY _+2<=1000100;rw[ef,t];omega) c1 c1 c1 (de ?_);refine⟨k+1,R,R,dZ (dT fj ⟨?_,Z,Z,Z,Z,Z,Z,Z,Z,dU⟩ d0)⟩;rw[lX eM,asU,jt,asY cY];rfl
  .have d:k=cL.length:=by omega
   subst d;rw[p9];refine de ?_;refine df (zQ nu (rQ cL) (λn cY=>by have h:=a;have⟨e,c,cY⟩:=as0.1 cY;have⟨⟨Q,a⟩,d,b⟩:=h e c;simp[KZ,m3,Gt,K2]at cY;omega) (by rw[K1];omega)) (de ?_);exact jv g8 Z Z Z lY
 refine de ?_
 refine d3 (λdz=>?_) λdz=>?_
 .refine de ?_
  have e:y=(m,gx [m.d5.toNat,m.s.out.length]):=by rw[<-b,pH,cT Q,cT c,cT eS,cT fy,if_pos dz]
  subst e;refine ga i qi Z eJ Z (de ?_);refine ga j qi Z eJ Z (de ?_);refine fV 2 100 (by show 2<=2;decide) c1 c1 c1 (de ?_)
  have B:=zQ nu [m.d5.toNat,m.s.out.length] (λn cY=>by
   have:=h.g6;have:=h.ol
   grind) (by simp_all)
  have A:=Int.toNat_of_nonneg h.eT
  have C:dX cR 68 [.dk [[.int .i64 m.d5],[.int .i64 m.s.out.length]]] (.str (gx [m.d5.toNat,m.s.out.length])):=by
   have e:[m.d5.toNat,m.s.out.length].map f1=[[c3.int .i64 m.d5],[.int .i64 m.s.out.length]]:=by show [[c3.int .i64 ((m.d5.toNat:V):I)],_]=_;rw[A];rfl
   rwa[<-e]
  refine e' ?_;exact jv g8 Z Z Z lY
 .refine de ?_
  have e:y=(m,gx []):=by rw[<-b,pH,cT Q,cT c,cT eS,cT fy,cT dz]
  subst e;refine df C8 (de ?_);exact jv g8 Z Z Z lY
