/- What is proved here: what functions of the program compute, and what follows; no condition beyond each theorem's own. -/
import Derived.Test.YtfnijfdfhgpimaaGreatDoorGe
set_option linter.all false
noncomputable section
set_option maxHeartbeats 0
open Bool renaming false->L,or_false->abT,or_true->abS,true->N
open ByteArray renaming empty->fB
open Classical renaming not_forall->KT
open Decidable renaming decide->gy
open Go renaming FuncId->im
open Go.IntKind renaming bits->PN
open Go.Proofs.Tryz renaming func108->adn,func110->ar3,func111->acm,func112->asl,func113->aco,func116->aca,func138->arF,func156->arp,func247->arB,func268->RB,func47->atS,func70->atv,func80->Sc,prog->cQ
open Int renaming le_trans->R9
open List renaming drop_left'->aq4,drop_length->ar1,eraseIdx_sublist->arX,flatMap_cons->atT,flatten_append->RK,foldl_append->KG,foldl_cons->ass,foldl_nil->acs,getElem?_mapIdx->RP,getElem_map->Kn,getElem_take->Rs,length->pt,length_singleton->Rr,map_drop->ark,mem_flatMap->at1,range->iz,replicate->eQ,replicate_succ'->RO,take->CH,takeWhile_cons->Rc,take_append_of_le_length->aqG
open List.Pairwise renaming nil->abi
open List.Sublist renaming append->apZ
open Nat renaming ble->hn,lt_succ_self->arl,zero_lt_succ->abj
open Option renaming none->cL,some->U,toList->atD
open _root_ renaming Bool->di,ByteArray->dG,Int->J,List->I,Nat->V,Option->dB,absurd->dN,rfl->Z,trivial->dM
namespace Go.Lk
def AZ:=@Proofs.Tryz.func79
def Lp:=@List.mem_of_mem_take
def Hf:=@List.not_mem_nil
def LX:=@or_false
open Go.Proofs Go.RowKit
def Ld{l}(o:gZ 3 l=N)(b:l.length<=1000000):kg cQ 209 [.dm l] l 3:=by
 refine lZ Tryz.func209 1 Z cV (cO (oX (cO ?_)));intro r a
 conv=>whnf
 refine nk (λh=>?_) λh=>?_
 .have:=a h;exact⟨2,Z,.inr ⟨Z,this⟩⟩
 .refine fz o (cO ?_);refine fO 1000100 100 tj cZ cZ cZ (cO ?_);exact⟨2,Z,.inl ⟨5,Z,Z⟩⟩
def abx{l}(o:gZ 2 l=N)(b:l.length<=1000000):kg cQ 200 [.dm l] l 2:=by
 refine lZ Tryz.func200 1 Z cV (cO (oX (cO ?_)));intro r a
 conv=>whnf
 refine nk (λh=>?_) λh=>?_
 .have:=a h;exact⟨2,Z,.inr ⟨Z,this⟩⟩
 .refine fz o (cO ?_);refine fO 1000100 100 tj cZ cZ cZ (cO ?_);exact⟨2,Z,.inl ⟨5,Z,Z⟩⟩
def Ro{l}(o:gZ 2 l=N)(b:l.length<=1000000):kg cQ 206 [.dm l] l 2:=by
 refine lZ Tryz.func206 1 Z cV (cO (oX (cO ?_)));intro r a
 conv=>whnf
 refine nk (λh=>?_) λh=>?_
 .have:=a h;exact⟨2,Z,.inr ⟨Z,this⟩⟩
 .refine fz o (cO ?_);refine fO 1000100 100 tj cZ cZ cZ (cO ?_);exact⟨2,Z,.inl ⟨5,Z,Z⟩⟩
def G3{l}(o:gZ 1 l=N)(b:l.length<=1000000):kg cQ 187 [.dm l] l 1:=by
 refine lZ Tryz.func187 1 Z cV (cO (oX (cO ?_)));intro r a
 conv=>whnf
 refine nk (λh=>?_) λh=>?_
 .have:=a h;exact⟨2,Z,.inr ⟨Z,this⟩⟩
 .refine fz o (cO ?_);refine fO 1000100 100 tj cZ cZ cZ (cO ?_);exact⟨2,Z,.inl ⟨5,Z,Z⟩⟩
def aby{l}(o:gZ 3 l=N)(b:l.length<=1000000):kg cQ 186 [.dm l] l 3:=by
 refine lZ Tryz.func186 1 Z cV (cO (oX (cO ?_)));intro r a
 conv=>whnf
 refine nk (λh=>?_) λh=>?_
 .have:=a h;exact⟨2,Z,.inr ⟨Z,this⟩⟩
 .refine fz o (cO ?_);refine fO 1000100 100 tj cZ cZ cZ (cO ?_);exact⟨2,Z,.inl ⟨5,Z,Z⟩⟩
def aqC{l}(o:gZ 4 l=N)(b:l.length<=1000000):kg cQ 188 [.dm l] l 4:=by
 refine lZ Tryz.func188 1 Z cV (cO (oX (cO ?_)));intro r a
 conv=>whnf
 refine nk (λh=>?_) λh=>?_
 .have:=a h;exact⟨2,Z,.inr ⟨Z,this⟩⟩
 .refine fz o (cO ?_);refine fO 1000100 100 tj cZ cZ cZ (cO ?_);exact⟨2,Z,.inl ⟨5,Z,Z⟩⟩
def abz{l}(o:gZ 1 l=N)(b:l.length<=1000000):kg cQ 136 [.dm l] l 1:=by
 refine lZ Tryz.func136 1 Z cV (cO (oX (cO ?_)));intro r a
 conv=>whnf
 refine nk (λh=>?_) λh=>?_
 .have:=a h;exact⟨2,Z,.inr ⟨Z,this⟩⟩
 .refine fz o (cO ?_);refine fO 1000100 100 tj cZ cZ cZ (cO ?_);exact⟨2,Z,.inl ⟨5,Z,Z⟩⟩
def Rp{l}(o:gZ 5 l=N)(b:l.length<=1000000):kg cQ 137 [.dm l] l 5:=by
 refine lZ Tryz.func137 1 Z cV (cO (oX (cO ?_)));intro r a
 conv=>whnf
 refine nk (λh=>?_) λh=>?_
 .have:=a h;exact⟨2,Z,.inr ⟨Z,this⟩⟩
 .refine fz o (cO ?_);refine fO 1000100 100 tj cZ cZ cZ (cO ?_);exact⟨2,Z,.inl ⟨5,Z,Z⟩⟩
def aqD{l}(o:gZ 2 l=N)(b:l.length<=1000000):kg cQ 97 [.dm l] l 2:=by
 refine lZ Tryz.func97 1 Z cV (cO (oX (cO ?_)));intro r a
 conv=>whnf
 refine nk (λh=>?_) λh=>?_
 .have:=a h;exact⟨2,Z,.inr ⟨Z,this⟩⟩
 .refine fz o (cO ?_);refine fO 1000100 100 tj cZ cZ cZ (cO ?_);exact⟨2,Z,.inl ⟨5,Z,Z⟩⟩
def aqE{l}(o:gZ 3 l=N)(b:l.length<=1000000):kg cQ 101 [.dm l] l 3:=by
 refine lZ Tryz.func101 1 Z cV (cO (oX (cO ?_)));intro r a
 conv=>whnf
 refine nk (λh=>?_) λh=>?_
 .have:=a h;exact⟨2,Z,.inr ⟨Z,this⟩⟩
 .refine fz o (cO ?_);refine fO 1000100 100 tj cZ cZ cZ (cO ?_);exact⟨2,Z,.inl ⟨5,Z,Z⟩⟩
structure ta{α:Type}(enc:α->I c3)(p:α->di)(cR:V)(l:I α)(F:I (I c3))(s:V×I (I c3)):Prop where
 le:s.1<=l.length
 len:s.2.length=F.length
 fst:s.2.take ((l.take s.1).filter λx=>!p x).length=((l.take s.1).filter λx=>!p x).map enc
 aqF:s.2.drop s.1=F.drop s.1
 lt:((l.take s.1).filter λx=>!p x).length<s.1
 cR:∀e∈s.2,e.length=cR
def Rq{α:Type}{p:α->di}{l:I α}{k}(a:k<l.length)(h:p l[k]=N):(l.take (k+1)).filter (λx=>!p x)=(l.take k).filter λx=>!p x:=by rw[mb a,z',CG,h];simp
def abA{α:Type}{p:α->di}{l:I α}{k}(a:k<l.length)(h:p l[k]=L):(l.take (k+1)).filter (λx=>!p x)=(l.take k).filter (λx=>!p x)++[l[k]]:=by rw[mb a,z',CG,h];simp
def ta.skip{α:Type}{enc:α->I c3}{p:α->di}{cR:V}{l:I α}{F cU}{j:V}(h:ta enc p cR l F (j,cU))(b:j<l.length)(O:p l[j]=N):ta enc p cR l F (j+1,cU):=by
 have⟨Q,a,d,c,du,dY⟩:=h;simp only[]at Q a d c du dY;refine⟨b,a,?_,?_,?_,dY⟩
 .simp only[];rwa[Rq b O]
 .simp only[];rw[<-Cs,c,Cs]
 grind
def ta.put{α:Type}{enc:α->I c3}{p:α->di}{cR:V}{l:I α}{F cU}{j:V}(h:ta enc p cR l F (j,cU))(a:j<l.length)(c:l.length<=F.length)(O:p l[j]=L)(e:∀x,(enc x).length=cR):
  ta enc p cR l F (j+1,cU.set ((l.take j).filter λx=>!p x).length (enc l[j])):=by
 have⟨Q,b,d,f,du,dY⟩:=h;simp only[]at Q b d f du dY;refine⟨a,by simp_all,?_,?_,?_,?_⟩
 .simp only[];rw[abA a O,kv,Rr,jl,<-d]
  have cK:((l.take j).filter λx=>!p x).length<(cU.set ((l.take j).filter λx=>!p x).length (enc l[j])).length:=by rw[iu];omega
  rw[mb cK,t',List.take_set_of_le (fi _)];rfl
 .simp only[];rw[List.drop_set_of_lt R,<-Cs,f,Cs]
 .grind
 grind
def ta.get{α:Type}{enc:α->I c3}{p:α->di}{cR:V}{l:I α}{cU}{j n:V}{u:I c3}(h:ta enc p cR l (l.map enc++eQ n u) (j,cU))(a:j<l.length):cU[j]?=U (enc l[j]):=by have b:=h.aqF;simp only[]at b;have:=eL (λx=>x[0]?) b;grind
def ta.init{α:Type}{enc:α->I c3}{p:α->di}{cR:V}{l:I α}{n:V}{i:V}(cK:i<l.length)(c0:∀j (c:j<i),p (l[j]' R)=L)(O:p l[i]=N)(k:∀x,(enc x).length=cR):
  ta enc p cR l (l.map enc++eQ n (eQ cR c3.mA)) (i+1,l.map enc++eQ n (eQ cR c3.mA)) /\ ((l.take (i+1)).filter λx=>!p x).length=i:=by
 have e:(l.take (i+1)).filter (λx=>!p x)=l.take i:=by rw[Rq cK O,List.filter_eq_self.2];intro a f;obtain⟨j,c,rfl⟩:=kr.1 f;rw[Rs,c0 j (by rw[o5]at c;omega)];rfl
 have b:(l.take i).length=i:=HD;refine⟨⟨cK,Z,?_,Z,?_,?_⟩,by rw[e,b]⟩
 .simp only[];rw[e,b,aqG ML,yg]
 .simp_all
 .intro x d;simp only[]at d;rcases iY.1 d with g|g
  .grind
  simp_all
def abB{α:Type}{p:α->di}:∀ {l:I α} {k i:V},fQ p l k=((k+i:V):J)->∃cK:i<l.length,p l[i]=N/\ ∀j (c:j<i),p (l[j]' R)=L
 | [],k,i,h=>by rw[fQ]at h;omega
 |x::r,k,i,h=>by
  rw[fQ]at h;split at h
  .grind
  .rename_i e
   cases i with
   |zero=>
    exfalso
    by_cases g:0<=fQ p r (k+1)
    .have⟨j,_,a,_⟩:=AP (k:=k+1) (xf.1 ((La p r (k+1)).1 g));omega
    .omega
   |succ i=>obtain⟨cK,Q,b⟩:=abB (l:=r) (k:=k+1) (i:=i) (by rw[h];omega);grind
def aqH{α:Type}{p}{l:I α}{k:V}(h:fQ p l k=-1):∀x∈l,p x=L:=by
 intro x a
 cases e:p x with|false=>rfl|true=>have⟨i,_,b,_⟩:=AP (k:=k) ⟨x,a,e⟩;omega
def aqI{α:Type}(p)(l:I α):fQ p l 0=-1\/ ∃i:V,fQ p l 0=(i:J):=by
 by_cases h:∃x∈l,p x=N
 .have⟨i,_,e,_⟩:=AP (k:=0) h;grind
 .left;refine xg λx a=>?_;simp_all
def aqJ {cU:I (I c3)} {j cR:V} {e v:I c3} (Q:e.length=cR) (c5:v.length=cR):cU.set (0+j) (iC e 0 v)=cU.set j v:=by rw [VY (by omega) (by omega),mM]
def Le {q:Prop} (h:q:=by
  refine hl AR 2 rfl (by kernel_rfl) (by rfl) (cO ?_);refine eW (D:=Nat) (fun k=>[(0,.win 1000000 0 l.length (some c)),(1,.d (.fn g cs)),(7,.d (.int .i64 l.length)),(8,.d (.int .i64 k))]) (fun _=>[(1000000,.row cU mY false)])
   (fun k=>k<=l.length/\fQ p (l.drop k) k=fQ p l 0) (fun k=>l.length-k) 0 ⟨Nat.zero_le _,rfl⟩ (dX (dH ⟨rfl,rfl,rfl,rfl,trivial⟩ ⟨rfl,trivial⟩ ⟨rfl,rfl,rfl,rfl⟩)) ?_
  rintro k ⟨c_,fL⟩
  conv=>whnf
  refine pq (fun h=>?_) (fun h=>?_)<;>conv=>whnf
  .have eR:k<l.length:=by omega
   have aqK:cU[0+k]?=some (pL l[k]):=by
    rw [Nat.zero_add]
    have:(cU.take l.length)[k]?=some (pL l[k]):=by rw [DC,List.getElem?_map,List.getElem?_eq_getElem eR];rfl
    rwa [List.getElem?_take_of_lt eR] at this
   refine dk ?_;refine ea (by omega) (cO ?_);refine d2 aqK (c7 ?_);rw [rN eR,fQ] at fL;refine df (qD l[k]) (cO ?_)
   refine zE (fun c5=>?_) (fun c5=>?_)<;>conv=>whnf
   .rw [if_pos c5] at fL;exact ge rfl (by rw [<-fL];rfl) rfl ⟨rfl,trivial⟩
   .rw [if_neg (by rw [c5];decide)] at fL;refine dF ?_;exact ⟨k+1,⟨by omega,fL⟩,by omega,(dX (dH ⟨rfl,rfl,rfl,rfl,trivial⟩ ⟨rfl,trivial⟩ ⟨rfl,rfl,rfl,rfl⟩))⟩
  .have:k=l.length:=by omega
   subst this;simp [fQ] at fL
   exact ge rfl (by rw [<-fL];rfl) rfl ⟨rfl,trivial⟩):q:=h
def Lf {q:Prop} (h:q:=by
  apply PI AS 2 rfl (by kernel_rfl) (by rfl);refine ⟨fun cap Lg=>?_,fun cW=>?_⟩
  .have d6:(l.map pL).length=l.length:=List.length_map ..
   rw [d6] at Lg⊢;have⟨F,qC⟩:∃ F,F=l.map pL++List.replicate (cap-l.length) (List.replicate mY c3.mA):=⟨_,rfl⟩
   have aya:F.length=cap:=by rw [qC];simp;omega
   have abC:F.take l.length=l.map pL:=by rw [qC];exact List.take_left' d6
   rw [<-qC]
   conv=>whnf
   refine gk (Lh g cs p qD l F cap dv abC) [(1000000,1000004)] rfl ⟨rfl,trivial⟩ rfl (cO ?_)
   rcases aqI p l with e|⟨i,e⟩
   .rw [e];refine dk ?_;refine Ai rfl rfl rfl (by omega) ?_ rfl trivial;rw [abC,List.filter_eq_self.2];intro x eE
    rw [aqH e x eE];rfl
   .rw [e];obtain⟨cK,O,hb⟩:=abB (i:=i) (k:=0) (by rw [e];congr 1;omega);have⟨abD,aqL⟩:=ta.init (enc:=pL) (cR:=mY) (n:=cap-l.length) cK hb O (fun _=>rfl);rw [<-qC] at abD;refine dk ?_;refine eW (D:=Nat×List (List c3)) (fun s=>[(0,.win 1000004 0 l.length (some cap)),(1,.d (.fn g cs)),(5,.d (.int .i64 ((l.take s.1).filter fun x=>!p x).length)),(6,.d (.int .i64 s.1))]) (fun s=>[(1000004,.row s.2 mY false)])
     (ta pL p mY l F) (fun s=>l.length-s.1) (i+1,F) abD (dX (dH ⟨rfl,rfl,by rw [aqL];rfl,rfl,trivial⟩ ⟨rfl,trivial⟩ ⟨rfl,rfl,rfl,rfl⟩)) ?_
    rintro ⟨j,cU⟩ xh;have aqM:=xh.le;have aqN:=xh.len;have qr:=xh.fst;have yQ:=xh.lt;simp only [] at aqM aqN qr yQ⊢
    conv=>whnf
    refine pq (fun du=>?_) (fun du=>?_)<;>conv=>whnf
    .have dU:j<l.length:=by omega
     have aqO:cU[0+j]?=some (pL l[j]):=by rw [Nat.zero_add];rw [qC] at xh;exact xh.get dU
     refine ea (by omega) (cO ?_);refine d2 aqO (dk ?_);refine df (qD l[j]) (cO ?_)
     cases c5:p l[j] with
     |true=>refine dk ?_;exact ⟨(j+1,cU),xh.skip dU c5,by dsimp only;omega,dX (dH ⟨rfl,rfl,by rw [Rq dU c5];rfl,rfl,trivial⟩ ⟨rfl,trivial⟩ ⟨rfl,rfl,rfl,rfl⟩)⟩
     |false=>
      have abE:((l.take j).filter fun x=>!p x).length<cU.length:=by omega
      have ayb:((l.take j).filter fun x=>!p x).length<l.length:=by omega
      have zm:=xh.cR _ (List.getElem_mem abE);have gj:=xh.put dU (by omega) c5 (fun _=>rfl);have es:=aqJ (cU:=cU) (j:=((l.take j).filter fun x=>!p x).length) (e:=cU[((l.take j).filter fun x=>!p x).length]) (v:=pL l[j]) zm rfl;rw [<-es] at gj
      have Rt:((l.take (j+1)).filter fun x=>!p x).length=((l.take j).filter fun x=>!p x).length+1:=by rw [abA dU c5,List.length_append];rfl
      refine dk ?_;refine ea (by omega) (cO ?_);refine d2 (x:=cU[((l.take j).filter fun x=>!p x).length]) (by rw [Nat.zero_add,List.getElem?_eq_getElem abE]) (cO ?_);refine ak5 (by rw [zm];rfl) (dk ?_);refine ⟨(j+1,_),gj,by dsimp only;omega,dX (dH ⟨rfl,rfl,by rw [Rt];rfl,rfl,trivial⟩ ⟨rfl,trivial⟩ ⟨rfl,rfl,rfl,rfl⟩)⟩
    .have aqP:j=l.length:=by omega
     subst aqP;rw [List.take_length] at qr yQ⊢;refine dk ?_;refine uQ (by omega) (by show l.length<=cap;omega) (cO ?_)
     have ayc:(l.filter fun x=>!p x).length<=l.length:=List.length_filter_le ..
     refine fz ⟨by omega,rfl⟩ (dk ?_);refine BU (by show _<=cap;omega) (cO ?_);refine Ai rfl rfl rfl ?_ ?_ rfl trivial
     .simp;omega
     .rw [Nat.zero_add,<-qr];exact List.take_left' (by rw [List.length_take];omega)
  .have:l=[]:=List.map_eq_nil_iff.1 cW;subst this
   conv=>whnf
   refine df (Li g cs p qD [] (by simp)) (dk ?_)
   exact ali rfl rfl rfl trivial):q:=h
namespace Cl
abbrev pL:=fP
abbrev mY:V:=3
abbrev AR:=Tryz.func261
abbrev AS:=Tryz.func216
abbrev Li:=@abk
def Lh (g:im) (cs:I c3) (p:V×di->di) (qD:∀ c:V×di,d0 cQ g (.agg (fP c)::cs) (.bool (p c))) (l:I (V×di)) (cU:I (I c3)) (c:V) (dv:l.length<=1000000) (DC:cU.take l.length=l.map pL):
  fI cQ 261 [.win 1000000 0 l.length (U c),.d (.fn g cs)] [(1000000,.row cU mY L)] [(1000000,.row cU mY L)] (.int .i64 (fQ p l 0)):=Le
def AT(g:im)(cs:I c3)(p:V×di->di)(qD:∀c:V×di,d0 cQ g (.agg (fP c)::cs) (.bool (p c)))(l:I (V×di))(dv:l.length<=1000000):vl cQ 216 (l.map fP) 3 [.d (.fn g cs)] [] [] ((l.filter λx=>!p x).map fP):=Lf
end Cl
namespace Tk
abbrev pL:=iR
abbrev mY:V:=2
abbrev AR:=Tryz.func263
abbrev AS:=Tryz.func218
abbrev Li:=@abl
def Lh (g:im) (cs:I c3) (p:V->di) (qD:∀ c:V,d0 cQ g (.agg (iR c)::cs) (.bool (p c))) (l:I (V)) (cU:I (I c3)) (c:V) (dv:l.length<=1000000) (DC:cU.take l.length=l.map pL):
  fI cQ 263 [.win 1000000 0 l.length (U c),.d (.fn g cs)] [(1000000,.row cU mY L)] [(1000000,.row cU mY L)] (.int .i64 (fQ p l 0)):=Le
def AT(g:im)(cs:I c3)(p:V->di)(qD:∀c:V,d0 cQ g (.agg (iR c)::cs) (.bool (p c)))(l:I (V))(dv:l.length<=1000000):vl cQ 218 (l.map iR) 2 [.d (.fn g cs)] [] [] ((l.filter λx=>!p x).map iR):=Lf
end Tk
namespace Nn
abbrev pL:=f1
abbrev mY:V:=1
abbrev AR:=Tryz.func274
abbrev AS:=Tryz.func212
abbrev Li:=@aqs
def Lh (g:im) (cs:I c3) (p:V->di) (qD:∀ c:V,d0 cQ g (.int .i64 c::cs) (.bool (p c))) (l:I (V)) (cU:I (I c3)) (c:V) (dv:l.length<=1000000) (DC:cU.take l.length=l.map pL):
  fI cQ 274 [.win 1000000 0 l.length (U c),.d (.fn g cs)] [(1000000,.row cU mY L)] [(1000000,.row cU mY L)] (.int .i64 (fQ p l 0)):=Le
def AT(g:im)(cs:I c3)(p:V->di)(qD:∀c:V,d0 cQ g (.int .i64 c::cs) (.bool (p c)))(l:I (V))(dv:l.length<=1000000):vl cQ 212 (l.map f1) 1 [.d (.fn g cs)] [] [] ((l.filter λx=>!p x).map f1):=Lf
end Nn
namespace Wt
abbrev pL:=ik
abbrev mY:V:=2
abbrev AR:=Tryz.func275
abbrev AS:=Tryz.func214
abbrev Li:=@abn
def Lh (g:im) (cs:I c3) (p:V×di->di) (qD:∀ c:V×di,d0 cQ g (.agg (ik c)::cs) (.bool (p c))) (l:I (V×di)) (cU:I (I c3)) (c:V) (dv:l.length<=1000000) (DC:cU.take l.length=l.map pL):
  fI cQ 275 [.win 1000000 0 l.length (U c),.d (.fn g cs)] [(1000000,.row cU mY L)] [(1000000,.row cU mY L)] (.int .i64 (fQ p l 0)):=Le
def AT(g:im)(cs:I c3)(p:V×di->di)(qD:∀c:V×di,d0 cQ g (.agg (ik c)::cs) (.bool (p c)))(l:I (V×di))(dv:l.length<=1000000):vl cQ 214 (l.map ik) 2 [.d (.fn g cs)] [] [] ((l.filter λx=>!p x).map ik):=Lf
end Wt
def PJ(v l)(c:l.length<=1000000):d0 cQ 265 [.dm (l.map f1),.int .i64 v] (.int .i64 (fQ (ll v) l 0)):=by
 refine d5 Tryz.func265 2 Z cV (cO ?_);refine eW (D:=V) (λk=>[(0,.d (.dm (l.map f1))),(1,.d v),(7,.d (.int .i64 (l.map f1).length)),(8,.d (.int .i64 k))]) (λ_=>[])
  (λk=>k<=l.length/\fQ (ll v) (l.drop k) k=fQ (ll v) l 0) (λk=>l.length-k) 0 ⟨eY _,Z⟩ (dX (dH ff dM dV)) ?_
 rintro k ⟨b,fL⟩
 conv=>whnf
 refine dT (λh=>?_) λh=>?_
 .have eR:k<l.length:=by simpa using h
  refine ea R (cO ?_);refine d2 (x:=f1 l[k]) iJ (c7 ?_);rw[rN eR,fQ]at fL
  refine dT (λa=>?_) λa=>?_
  .rw[if_pos (by rw[ll,a];simp)]at fL;exact dg Z nu
  .rw[cS (by rw[ll];grind)]at fL;refine dF ?_;exact⟨k+1,⟨R,fL⟩,R,(dX (dH ff dM dV))⟩
 .have:k=l.length:=by simp at h;omega
  subst this;simp at fL;exact dg Z nu
def AU(v l)(a:l.length<=1000000):d0 cQ 202 [.dm (l.map f1),.int .i64 v] (.bool (decide (0<=fQ (ll v) l 0))):=by refine d5 Tryz.func202 2 Z cV (cO ?_);refine df (PJ v l a) (c7 ?_);rfl
def jb.cls{h}(o:jb h):Dy h.ds:=
 ⟨by have:=o.len;omega,λc a=>o.lt c.1 (ot _ (r8 a)),(pH.1 o.eO).1⟩
def jb.aqQ{h}(o:jb h){k}(a:k<h.q.length):h.q[k]<4:=o.lt _ (pz _ (hF a))
def jb.aqR{h}(o:jb h){k}(a:k<h.q.length):fQ (nZ h.q[k]) h.ds 0=-1:=by refine xg λx b=>?_;have:=(pH.1 o.eO).2.2 x.1 (r8 b) h.q[k] (hF a);rw[nZ,decide_eq_false];omega
def jb.aqS{h}(o:jb h){k}(b:k<h.q.length):fQ (ll h.q[k]) (h.q.take k) 0=-1:=by refine xg λx c=>?_;obtain⟨j,a,rfl⟩:=kr.1 c;rw[o5]at a;have:=Lb (pH.1 o.eO).2.1 (show j<k by omega) b;rw[Rs,ll,decide_eq_false];omega
def jb.Lj{h}(o:jb h):G2 h=L:=by have:=o.shut;rw[G2];grind
def Ll(h)(o:jb h):d0 cQ 196 [ql h] (.bool N):=by
 have a:=o.fA;have g:=o.ub;have n:=o.len;have l:=o.held
 have m:(h.ds.map fP).length=h.ds.length:=ec ..
 have q:(h.q.map iR).length=h.q.length:=ec ..
 refine d5 Tryz.func196 1 Z cV (dk ?_);refine df (abt h.ds o.cls) (dk ?_);refine eW (D:=V) (λk=>[(1,.ptr 1 0 0),(41,.d (.dm (h.ds.map fP))),(42,.d (h.ds.map fP).length),(43,.d k)]) (λ_=>[(1,.box (h.cells.map dp.d) L)])
  (λk=>k<=h.ds.length) (λk=>h.ds.length-k) 0 (eY _) (dX (dH ff ez dV)) ?_
 intro k d
 conv=>whnf
 refine dT (λdu=>?_) λdu=>?_
 .have eR:k<h.ds.length:=R
  refine ea R (cO ?_);refine d2 (x:=fP h.ds[k]) iJ (c7 ?_);refine df (Rn h a) (c7 ?_);exact⟨k+1,R,R,(dX (dH ff ez dV))⟩
 refine dk ?_;refine eW (D:=V) (λk=>[(1,.ptr 1 0 0),(54,.d (.dm (h.q.map iR))),(55,.d (h.q.map iR).length),(56,.d k)]) (λ_=>[(1,.box (h.cells.map dp.d) L)])
  (λk=>k<=h.q.length) (λk=>h.q.length-k) 0 (eY _) (dX (dH ff ez dV)) ?_
 intro k d
 conv=>whnf
 refine dT (λdu=>?_) λdu=>?_
 .have eR:k<h.q.length:=R
  have f:=o.aqQ eR
  have t:d0 cQ 199 [.dm (((h.q.map iR).take k).drop 0),h.q[k]] (fQ (ll h.q[k]) (h.q.take k) 0):=by rw[C0,<-yg];exact abm _ _ HD
  rw[o.aqS eR]at t;have c:=G1 (h.q[k]:J) h.ds R;rw[o.aqR eR]at c;refine ea R (cO ?_);refine d2 (x:=iR h.q[k]) iJ (c7 ?_);refine dk ?_;refine df (Rn h a) (dk ?_);refine df c (dk ?_);refine fz (λe b=>abo b) (cO ?_);refine oV R (dk ?_);refine df t (dk ?_);exact⟨k+1,R,R,(dX (dH ff ez dV))⟩
 refine dk ?_;refine df (abq h R R) (dk ?_);refine df (abw _ h.ds o.cls R R R) (dk ?_);refine df (abr h R R) (cO ?_);rw[o.Lj];refine dk ?_;exact dg Z Z
def r'(n:V):I (V×di)->I V->I V
 |_,[]=>[]
 |ds,w::q=>if ds.length<2*n then w::r' n (ds++[(w,L)]) q else []
def abF(n):∀ds q,(r' n ds q).length<=q.length
 |_,[]=>fi _
 |ds,w::q=>by
  rw[r'];split
  .have:=abF n (ds++[(w,L)]) q;simp;omega
  simp_all
structure aqT(n:V)(Ru:I (V×di))(tV:I V)(s:I (V×di)×I V×I V):Prop where
 len:s.1.length+s.2.1.length=Ru.length+tV.length
 n7:s.2.2.length+s.2.1.length=tV.length
 eq:iv n s.1 s.2.1=iv n Ru tV
 aqU:s.2.2++r' n s.1 s.2.1=r' n Ru tV
def abG(h)(p:h.n<=8)(m:h.ds.length+h.q.length<=7):d0 cQ 201 [ql h] (.dS [ql (xd h.n (iv h.n h.ds h.q)),.dm ((r' h.n h.ds h.q).map f1)]):=by
 have⟨n,c,j⟩:=h;simp only[]at p m⊢;refine d5 Tryz.func201 1 Z cV (dk ?_);refine gT (Ld (G0 c) hN) (dk ?_);refine eW (D:=I (V×di)×I V×I V) (λs=>[(1,.ptr 1 0 0),(2,.ptr 2 0 0),(4,.own 34)]) (λs=>[(1,.box [.d n,.d (.int .i64 1),.own 8,.d (.dm (s.2.1.map iR))] L),(2,.box [.d (.int .i64 0),.d (.int .i64 0),.nil,.nil] L),(8,.row (s.1.map fP) 3 L),(34,.row (s.2.2.map f1) 1 L)])
  (aqT n c j) (λs=>s.2.1.length) (c,j,[]) ⟨Z,mM _,Z,Z⟩ (nd (.row 4 34 1) g_ (dH eJ ff dV)) ?_
 rintro⟨ds,q,n7⟩ dh;have⟨d,f,a,b⟩:=dh;simp only[]at d f a b⊢;refine dk ?_;refine df (abr ⟨n,ds,q⟩ hN hN) (cO ?_)
 cases q with
 |nil=>rw[G2];refine dk ?_;rw[iv]at a;rw[r',qW]at b;rw[<-a,<-b];exact dg Z Z
 |cons w q=>
  rw[G2]
  refine dT (λg=>?_) λg=>?_
  .replace g:(ds.length:J)+1<=2*n:=g;have es:((((w::q).map iR).take ((w::q).map iR).length).drop 1)=q.map iR:=My;refine dk ?_;refine ea (i:=0) dw (cO ?_);refine d2 (x:=iR w) Z (dk ?_);refine fz (λe k=>abo k) (cO ?_);refine pW (l:=1) dw (dk ?_);simp at d f
   have o:(ds.map fP).length=ds.length:=ec ..
   have r:(n7.map f1).length=n7.length:=ec ..
   refine fO 1000 100 (by show(ds.map fP).length+1<=1000;omega) cZ cZ cZ (dk ?_);refine fO 1000 100 Mz cZ cZ cZ (cO ?_);rw[iv,if_pos R]at a;rw[r',if_pos R]at b;refine⟨(ds++[(w,L)],q,n7++[w]),⟨hy,hy,a,by simp_all⟩,dw,dX (dH eJ ⟨by rw[<-es];rfl,Z,xw,xw,dM⟩ dV)⟩
  .replace g:¬(ds.length:J)+1<=2*n:=g;refine dk ?_;rw[iv,cS R]at a;rw[r',cS R,qW]at b;rw[<-a,<-b];exact dg Z Z
def aqV{h:hI}{w}(c0:w∉h.all):fQ (nZ w) h.ds 0=-1:=by refine xg λx a=>?_;rw[nZ,decide_eq_false];exact λe=>c0 (ot _ (is.2 ⟨x,a,R⟩))
def aqW{h:hI}{w}(c0:w∉h.all):fQ (ll w) h.q 0=-1:=by refine xg λx a=>?_;rw[ll,decide_eq_false];exact λe=>c0 (pz _ hN)
def aqX(h)(o:jb h)(w)(hw:w<4)(c0:w∉h.all)(l:h.ds.length+h.q.length<=3):
  d0 cQ 145 [ql h,w,.int .i64 1] (.dS [ql (AK h w),.bool (decide (0<=fQ (ll w) (r' h.n h.ds (h.q++[w])) 0)),.int .i64 0]):=by
 have n:=o.fA;have b:=o.ub;have c:=G1 (w:J) h.ds R;have t:=abm (w:J) h.q R;rw[aqV c0]at c;rw[aqW c0]at t
 have m:(h.ds.map fP).length=h.ds.length:=ec ..
 have q:(h.q.map iR).length=h.q.length:=ec ..
 have a:d0 cQ 201 [.agg [h.n,.int .i64 1,.dm (h.ds.map fP),.dm (h.q.map iR++[iR w])]] (.dS [ql (AK h w),.dm ((r' h.n h.ds (h.q++[w])).map f1)]):=by have:=abG ⟨h.n,h.ds,h.q++[w]⟩ b (by simp;omega);have e:(h.q++[w]).map iR=h.q.map iR++[iR w]:=xw;rwa[<-e]
 have i:=abF h.n h.ds (h.q++[w]);rw[kv,Rr]at i;refine d5 Tryz.func145 3 Z cV (dk ?_);refine df (Ll h o) (dk ?_);refine df (Rn h n) (dk ?_);refine df c (dk ?_);refine df t (dk ?_);refine gT (abx (Rm h.q) R) (dk ?_);refine fO 1000 100 (by show(h.q.map iR).length+1<=1000;omega) cZ cZ cZ (dk ?_);refine df a (dk ?_);refine df (AU (w:J) (r' h.n h.ds (h.q++[w])) R) (dk ?_);exact dg Z Z
def Rv{h}(o:jb h){w b}(n:(w,b)∈h.ds):∃i,∃cK:i<h.ds.length,fQ (nZ w) h.ds 0=(i) /\h.ds[i]=(w,b) /\ ∀c,h5 h.ds w c=h.ds.set i (w,c):=by
 have⟨i,cK,e,O⟩:=AP (p:=nZ w) (l:=h.ds) (k:=0) ⟨_,n,by simp[nZ]⟩
 have a:h.ds[i].1=w:=by rw[nZ,GL]at O;omega
 have⟨j,q,f⟩:=kr.1 n
 have d:i=j:=by
  have r:=o.cls.eO;rcases Nat.lt_trichotomy i j with g|g|g
  .exact dN (a.trans (by rw[f])) (o.cls.ne g q)
  .exact g
  .exact dN ((by rw[f]:h.ds[j].1=w).trans a.symm) (o.cls.ne g cK)
 subst d;refine⟨i,cK,by omega,f,λc=>List.ext_getElem (by rw[h5,ec,iu]) λk Q m=>?_⟩;rw[iu]at m;simp[h5,Kn,As]
 by_cases g:i=k
 .subst g;rw[if_pos a,if_pos Z,a]
 .rw[cS g,cS];intro e;rcases Nat.lt_or_gt_of_ne g with g|g
  .exact o.cls.ne g m (a.trans e.symm)
  .exact o.cls.ne g cK (e.trans a.symm)
def Rw{h w}(e:j9 h w=N):(w,l6 h w)∈h.ds:=by
 have⟨⟨a,b⟩,Q,d⟩:=is.1 (AN.1 e)
 cases d
 cases c:l6 h a with
 |true=>exact GX.1 c
 |false=>
  cases b with
  |false=>exact Q
  |true=>rw[GX.2 Q]at c;cases c
def xi(h:hI)(w:V):hI×J:=if h.n<=h2 h.ds then(h,6) else(qm h w,0)
def Rx(h)(o:jb h)(w)(d:j9 h w=N)(c9:l6 h w=L):
  d0 cQ 151 [ql h,w] (.dS [ql (xi h w).1,(xi h w).2]):=by
 have q:=o.fA;have r:=o.ub;have n:=o.len;have l:=o.held;have m:=Rw d;rw[c9]at m;have⟨i,cK,j,f,es⟩:=Rv o m;have c:=G1 (w:J) h.ds R;rw[j]at c
 have k:(h.ds.map fP).length=h.ds.length:=ec ..
 have a:(h.ds.map fP)[i]?=U (fP (w,L)):=by rw[ir,fq cK,f];rfl
 refine d5 Tryz.func151 2 Z cV (dk ?_);refine df (Ll h o) (dk ?_);refine df c (dk ?_);refine ea R (cO ?_);refine d2 a (dk ?_);refine ea R (cO ?_);refine d2 a (dk ?_);refine df (abq h R R) (cO ?_);rw[xi];refine dk ?_
 refine dT (λg=>?_) λg=>?_
 .rw[if_pos (show h.n<=h2 h.ds by omega)];refine dk ?_;exact dg Z Z
 .rw[cS (show ¬h.n<=h2 h.ds by omega)];have p:=Rk o d c9 R
  have e:(h.ds.map fP).set i (iC (fP (w,L)) 2 [c3.int .i64 1])=(h5 h.ds w N).map fP:=by rw[es,rQ];rfl
  have dc:=Ra (b:=N) o.cls.eO m;simp at dc;have s:=abw ((h.n:J)-h2 h.ds-1) (h5 h.ds w N) p.cls R R R;rw[<-e]at s;refine dk ?_;refine gT (Ld (G0 h.ds) R) (dk ?_);refine ea R (cO ?_);refine d2 a (dk ?_);refine ea R (cO ?_);refine d2 a (dk ?_);refine df s (dk ?_);apply dg Z;show _=c3.dS [c3.agg [h.n,.int .i64 1,c3.dm ((h5 h.ds w N).map fP),.dm (h.q.map iR)],.int .i64 0];rw[<-e];rfl
def aqY(h)(o:jb h)(w)(d:j9 h w=N)(c9:l6 h w=N):
  d0 cQ 155 [ql h,w] (.dS [ql (xe h w),.int .i64 0]):=by
 have n:=o.fA;have j:=o.ub;have l:=o.len;have m:=Rw d;rw[c9]at m;have⟨i,cK,b,a,es⟩:=Rv o m;have c:=G1 (w:J) h.ds R;rw[b]at c
 have f:(h.ds.map fP).length=h.ds.length:=ec ..
 have g:(h.ds.map fP)[i]?=U (fP (w,N)):=by rw[ir,fq cK,a];rfl
 have e:(h.ds.map fP).set i (iC (fP (w,N)) 2 [c3.int .i64 0])=(h5 h.ds w L).map fP:=by rw[es,rQ];rfl
 refine d5 Tryz.func155 2 Z cV (dk ?_);refine df (Ll h o) (dk ?_);refine df c (dk ?_);refine ea R (cO ?_);refine d2 g (dk ?_);refine gT (Ld (G0 h.ds) R) (dk ?_);refine eH ?_;apply dg Z;show _=c3.dS [c3.agg [h.n,.int .i64 1,c3.dm ((h5 h.ds w L).map fP),.dm (h.q.map iR)],.int .i64 0];rw[<-e];rfl
def abH(w:V)(l:I (V×di)):(l.filter λx=>!nZ w x)=l.filter λc=>c.1 !=w:=by congr 1;funext c;rw[Cg];simp[nZ];omega
def abI(w:V)(l:I V):(l.filter λx=>!ll w x)=l.filter λx=>x !=w:=by congr 1;funext c;rw[Cg];simp[ll];omega
def abJ(h)(o:jb h)(w)(hw:w<4)(dj:j9 h w=N):
 ∃n7:I V,d0 cQ 157 [ql h,w] (.dS [ql (r3 h w),.dm (n7.map f1),.int .i64 0]):=by
 have fA:=o.fA;have ub:=o.ub;have f:=o.len;obtain⟨i,cK,e,g,es⟩:=Rv o (Rw dj);have a:=G1 (w:J) h.ds R;rw[e]at a;have b:=Cl.AT 217 [.ix [w] 0] (nZ w) (λc=>by refine d5 Tryz.func217 2 Z cV (dk ?_);rfl) h.ds R;have d:=Tk.AT 219 [.ix [w] 0] (ll w) (λc=>by refine d5 Tryz.func219 2 Z cV (dk ?_);rfl) h.q R;rw[abH]at b;rw[abI]at d;have eB:=Db (λc:V×di=>c.1 !=w) h.ds;have el:=Db (λc:V=>c !=w) h.q;have he:=abG ⟨h.n,h.ds.filter λc=>c.1 !=w,h.q.filter λx=>x !=w⟩ ub hN
 have j:(h.ds.map fP).length=h.ds.length:=ec ..
 have l:(h.q.map iR).length=h.q.length:=ec ..
 refine⟨r' h.n (h.ds.filter λc=>c.1 !=w) (h.q.filter λx=>x !=w),d5 Tryz.func157 2 Z cV (dk ?_)⟩;refine df (Ll h o) (dk ?_);refine df a (dk ?_);refine gT (Ld (G0 h.ds) R) (dk ?_);refine wU b [] Z ez Z (dk ?_);refine gT (abx (Rm h.q) R) (dk ?_);refine wU d [] Z ez Z (dk ?_);refine df he (dk ?_);exact dg Z Z
def Lm:∀(l:I (V×di)),gZ 2 (l.map ik)=N
 | []=>rfl|_::r=>Lm r
def G4:∀(l:I V),gZ 1 (l.map f1)=N
 | []=>rfl|_::r=>G4 r
def Ry{l:I (V×di)}{e}(h:e∈l.map ik):e.length=2:=by obtain⟨x,_,rfl⟩:=is.1 h;rfl
def Rz(w l)(b:l.length<=1000000):d0 cQ 205 [.dm (l.map ik),.int .i64 w] (.bool (decide (0<=fQ (nZ w) l 0))):=by
 have a:d0 cQ 269 [.dm (l.map ik),.fn 270 [.ix [.int .i64 w] 0]] (.bool (decide (0<=fQ (nZ w) l 0))):=by refine d5 Tryz.func269 2 Z cV (cO ?_);exact df (abn 270 _ _ (λc=>by refine d5 Tryz.func270 2 Z cV (dk ?_);rfl) l b) (c7 (dg Z Z))
 refine d5 Tryz.func205 2 Z cV (dk ?_);refine eH ?_;rfl
def AV(l:hx):di:=match l.q with
 | []=>L
 |x::_=>match l.c' with
  | []=>N
  |_::_=>!l.ex&&!x.2
def RA(l):d0 cQ 268 [vD l] (.bool (AV l)):=by
 have⟨s,e,q⟩:=l
 cases q with
 |nil=>refine d5 RB 1 Z cV (dk ?_);rfl
 |cons x q=>
  cases s with
  |nil=>refine d5 RB 1 Z cV (dk ?_);exact dg Z Z
  |cons y s=>
   cases e with
   |true=>refine d5 RB 1 Z cV (dk ?_);exact dg Z Z
   |false=>refine d5 RB 1 Z cV (dk ?_);refine ea (i:=0) dw (cO ?_);refine d2 (x:=ik x) Z (dk ?_);exact dg Z Z
def rf.Lj{l}(o:rf l):AV l=L:=by
 have:=o.shut;rw[AV];split
 .rfl
 grind
def yR(l:I V):V->J
 |0=>-1
 |k+1=>((l[k]?.getD 0:V):J)
def RC{l}(h:l.Pairwise (·<·)){k}(a:k<l.length):yR l k<(l[k]:J):=by
 cases k with|zero=>rw[yR];omega|succ k=>rw[yR,fq R,x3];have:=(yh.1 h) k (k+1) R a R;omega
def RD{l k}(h:k<l.length):yR l (k+1)=(l[k]:J):=by rw[yR,fq h,x3]
def RE{l}{w:V}(h:w∉l):fQ (ll w) l 0=-1:=by refine xg λx a=>?_;rw[ll,decide_eq_false];grind
def RF{l}{w:V}(h:w∉l.map (·.1)):fQ (nZ w) l 0=-1:=by refine xg λx a=>?_;rw[nZ,decide_eq_false];grind
def Ln(l)(o:rf l):d0 cQ 204 [vD l] (.bool N):=by
 have s:=o.len;have Q:=o.one
 have u:(l.c'.map f1).length=l.c'.length:=ec ..
 have v:(l.q.map ik).length=l.q.length:=ec ..
 have n:=pH.1 o.eO;refine d5 Tryz.func204 1 Z cV (dk ?_)
 refine hV (λg=>?_) λg=>?_
 .have:=Q g;refine dk ?_;refine eW (D:=V) (λk=>[(1,.ptr 1 0 0),(3,.d (yR l.c' k)),(25,.d (.dm (l.c'.map f1))),(26,.d (l.c'.map f1).length),(27,.d k)]) (λ_=>[(1,.box (l.cells.map dp.d) L)])
   (λk=>k<=l.c'.length) (λk=>l.c'.length-k) 0 (eY _) (dX (dH gO ez dV)) ?_
  intro k i
  conv=>whnf
  refine dT (λdu=>?_) λdu=>?_
  .have a:k<l.c'.length:=R
   have q:=RC o.up a;have b:=o.lt l.c'[k] (ot _ (hF a));refine ea R (cO ?_);refine d2 (x:=f1 l.c'[k]) (by simp[a]) (c7 ?_);refine dk ?_;exact⟨k+1,by omega,by omega,dX (dH ⟨Z,by rw[RD a];rfl,Z,Z,Z,dM⟩ ez dV)⟩
  refine dk ?_;refine eW (D:=V) (λk=>[(1,.ptr 1 0 0),(41,.d (.dm (l.q.map ik))),(42,.d (l.q.map ik).length),(43,.d k)]) (λ_=>[(1,.box (l.cells.map dp.d) L)])
   (λk=>k<=l.q.length) (λk=>l.q.length-k) 0 (eY _) (dX (dH ff ez dV)) ?_
  intro k i
  conv=>whnf
  refine dT (λdu=>?_) λdu=>?_
  .have a:k<l.q.length:=R
   have m:l.q[k].1∈l.q.map (·.1):=r8 (hF a);have b:=o.lt l.q[k].1 (pz _ m);have c:=AU (l.q[k].1:J) l.c' R;rw[RE λg=>n.2.2 _ g _ m Z]at c
   have t:d0 cQ 205 [.dm (((l.q.map ik).take k).drop 0),l.q[k].1] (.bool (decide (0<=fQ (nZ l.q[k].1) (l.q.take k) 0))):=by rw[C0,<-yg];exact Rz _ _ hN
   rw[RF (w:=l.q[k].1) λg=>by
    have⟨x,r,e⟩:=is.1 g;obtain⟨j,f,rfl⟩:=kr.1 r;rw[o5]at f;rw[Rs]at e
    exact Lb n.2.1 (show j<k by omega) (by rwa[ec]) (by simpa using e)]at t
   refine ea R (cO ?_);refine d2 (x:=ik l.q[k]) (by simp[a]) (c7 ?_);refine dk ?_;refine df c (dk ?_);refine fz (λe d=>Ry d) (cO ?_);refine oV R (dk ?_);refine df t (dk ?_);exact⟨k+1,by omega,by omega,(dX (dH ff ez dV))⟩
  refine dk ?_;refine df (RA l) (cO ?_);rw[o.Lj];rfl
 .refine dk ?_;refine eW (D:=V) (λk=>[(1,.ptr 1 0 0),(3,.d (yR l.c' k)),(25,.d (.dm (l.c'.map f1))),(26,.d (l.c'.map f1).length),(27,.d k)]) (λ_=>[(1,.box (l.cells.map dp.d) L)])
   (λk=>k<=l.c'.length) (λk=>l.c'.length-k) 0 (eY _) (dX (dH gO ez dV)) ?_
  intro k i
  conv=>whnf
  refine dT (λdu=>?_) λdu=>?_
  .have a:k<l.c'.length:=R
   have q:=RC o.up a;have b:=o.lt l.c'[k] (ot _ (hF a));refine ea R (cO ?_);refine d2 (x:=f1 l.c'[k]) (by simp[a]) (c7 ?_);refine dk ?_;exact⟨k+1,by omega,by omega,dX (dH ⟨Z,by rw[RD a];rfl,Z,Z,Z,dM⟩ ez dV)⟩
  refine dk ?_;refine eW (D:=V) (λk=>[(1,.ptr 1 0 0),(41,.d (.dm (l.q.map ik))),(42,.d (l.q.map ik).length),(43,.d k)]) (λ_=>[(1,.box (l.cells.map dp.d) L)])
   (λk=>k<=l.q.length) (λk=>l.q.length-k) 0 (eY _) (dX (dH ff ez dV)) ?_
  intro k i
  conv=>whnf
  refine dT (λdu=>?_) λdu=>?_
  .have a:k<l.q.length:=R
   have m:l.q[k].1∈l.q.map (·.1):=r8 (hF a);have b:=o.lt l.q[k].1 (pz _ m);have c:=AU (l.q[k].1:J) l.c' R;rw[RE λg=>n.2.2 _ g _ m Z]at c
   have t:d0 cQ 205 [.dm (((l.q.map ik).take k).drop 0),l.q[k].1] (.bool (decide (0<=fQ (nZ l.q[k].1) (l.q.take k) 0))):=by rw[C0,<-yg];exact Rz _ _ hN
   rw[RF (w:=l.q[k].1) λg=>by
    have⟨x,r,e⟩:=is.1 g;obtain⟨j,f,rfl⟩:=kr.1 r;rw[o5]at f;rw[Rs]at e
    exact Lb n.2.1 (show j<k by omega) (by rwa[ec]) (by simpa using e)]at t
   refine ea R (cO ?_);refine d2 (x:=ik l.q[k]) (by simp[a]) (c7 ?_);refine dk ?_;refine df c (dk ?_);refine fz (λe d=>Ry d) (cO ?_);refine oV R (dk ?_);refine df t (dk ?_);exact⟨k+1,by omega,by omega,(dX (dH ff ez dV))⟩
  refine dk ?_;refine df (RA l) (cO ?_);rw[o.Lj];rfl
def abK(l)(o:rf l)(w:V):d0 cQ 150 [vD l,w] (.dS [.bool (s9 l w),.bool (s9 l w&&l.ex)]):=by
 have n:=o.len;have c:=AU (w:J) l.c' R
 have e:decide (0<=fQ (ll w) l.c' 0)=s9 l w:=by
  rw[Cg,GL,La,s9];simp only[xf,List.contains_eq_any_beq];constructor
  .rintro⟨x,a,g⟩;exact⟨x,a,by simp[ll]at g⊢;omega⟩
  .rintro⟨x,a,g⟩;exact⟨x,a,by simp[ll]at g⊢;omega⟩
 rw[e]at c;refine d5 Tryz.func150 2 Z cV (dk ?_);refine df (Ln l o) (dk ?_);refine df c (dk ?_)
 cases g:s9 l w with|false=>refine dk ?_;exact dg Z Z|true=>refine dk ?_;apply dg Z;rfl
structure iT(s:I dG):Prop where
 n:35<=s.length
 m:s.length<=64
 z:∀i,(h:i<s.length)->s[i].size=16
def iT.vt{s}(h:iT s){l}(a:l.length<=200)(hw:∀w∈l,sW s.length w=N):pD ⟨s,l⟩:=
 ⟨by have:=h.n;grind,h.m,a,h.z,λi cK=>hw _ (hF cK)⟩
def iT.us{s}(h:iT s):iI ⟨s,[]⟩:=⟨h.vt dw dw,h.n⟩
def iT.set{s}(h:iT s)(i){b}(a:b.size=16):iT (s.set i b):=by
 refine⟨by rw[iu];exact h.n,by rw[iu];exact h.m,λj c=>?_⟩;rw[As];split
 .exact a
 .exact h.z _ _
def RV{s}(h:iT s){l}{n:J}{b}(c:l.length<200)(hw:∀w∈l,sW s.length w=N)(cW:0<=n)(Q:n<s.length)(a:b.size=16):
  o_ ⟨s,l⟩ (pF n b)=⟨s,l++[(n,b)]⟩ /\ ∀w∈l++[(n,b)],sW s.length w=N:=by
 have k:sW s.length (n,b)=N:=yz.2 ⟨cW,Q,a⟩;constructor
 .show(q7 ⟨s,l⟩ (n,b)).1=_;rw[q7,if_pos ⟨h.vt R hw,k⟩,cS l_]
 grind
def acp{s}(h:iT s){l}(a:l.length<=200)(hw:∀w∈l,sW s.length w=N):o_ ⟨s,l⟩ t0=⟨pE s l,[]⟩:=by show w3 ⟨s,l⟩=_;rw[w3,if_pos (h.vt a hw)]
def acr{s}(h:iT s){n:J}{b}(cW:0<=n)(Q:n<s.length)(a:b.size=16):[pF n b,t0].foldl o_ ⟨s,[]⟩=⟨s.set n.toNat b,[]⟩:=by have⟨c,fv⟩:=RV h (l:=[]) dw dw cW Q a;simp only[ass,acs,c];rw[acp h dw fv];rfl
def acu{s}(h:iT s){n m:J}{b c}(cW:0<=n)(Q:n<s.length)(d:b.size=16)(a:0<=m)(g:m<s.length)(f:c.size=16):[pF n b,pF m c,t0].foldl o_ ⟨s,[]⟩=⟨(s.set n.toNat b).set m.toNat c,[]⟩:=by have⟨i,fv⟩:=RV h (l:=[]) dw dw cW Q d;have⟨e,w⟩:=RV h (l:=[]++[(n,b)]) dw fv a g f;simp only[ass,acs,i,e];rw[acp h dw w];rfl
def pM(s:I dG)(p:V)(a b:dG):I dG:=(((((s.set 1 a).set 2 b).set 0 (yE p)).set (2*p+1) a).set (2*p+2) b).set 0 jN
def acv:jN.size=16:=w2 16
def RX{s:dG}(h:s.size=32):(s.extract 0 16).size=16/\ (s.extract 16 32).size=16:=eM
def acw{s:dG}(h:s.size=32):s.extract 0 16++s.extract 16 32=s:=by
 have b:(ew s).length=32:=by rwa[Zw]
 apply Kw;rw[Kx,Qd,Qd,C0];rw[vm (show((ew s).drop 16).length<=32-16 by simp_all)];simp_all
def RY{s}(h:iT s){p}(Q:1<=p)(d:p<=16){x}(e:x.size=32):(vu p x).foldl o_ ⟨s,[]⟩=⟨pM s p (x.extract 0 16) (x.extract 16 32),[]⟩:=by
 have⟨a,b⟩:=RX e;have c0:=h.n;rw[vu,KG,KG,KG];rw[acu h cZ R a cZ R b];have r:=(h.set 1 a).set 2 b
 have eB:((s.set 1 (x.extract 0 16)).set 2 (x.extract 16 32)).length=s.length:=dw
 rw[show((1:J).toNat)=1 from Z,show((2:J).toNat)=2 from Z];rw[acr r cZ R (Qp p)];have c:=r.set 0 (Qp p)
 have el:(((s.set 1 (x.extract 0 16)).set 2 (x.extract 16 32)).set 0 (yE p)).length=s.length:=dw
 rw[show((0:J).toNat)=0 from Z];rw[acu c R R a R R b];rw[show(2*(p:J)+1).toNat=2*p+1 by omega,show(2*(p:J)+1+1).toNat=2*p+2 by omega];have f:=(c.set (2*p+1) a).set (2*p+2) b;rw[acr f cZ (by simp;omega) acv];rfl
def iT.pM {s:I dG} (h:iT s) {p:V} {a b:dG} (dt:a.size=16) (hb:b.size=16):iT (pM s p a b):=
 (((((h.set 1 dt).set 2 hb).set 0 (Qp p)).set _ dt).set _ hb).set 0 acv
def acx(s p a b):(pM s p a b).length=s.length:=by simp[pM]
def sc(s:I dG)(p:V):dG:=s[2*p+1]?.getD fB++s[2*p+2]?.getD fB
def acy{s}(h:iT s){p}(Q:1<=p)(c:p<=16){a b}:sc (pM s p a b) p=a++b:=by have c0:=h.n;simp only[sc,pM,ly,iu];simp;grind
def acz{s p q}(Q:1<=q)(n:p≠q){a b}:sc (pM s p a b) q=sc s q:=by simp only[sc,pM,ly,iu];rw[cS R,cS R,cS R,cS R,cS R,cS R,cS R,cS R,cS R,cS R,cS R,cS R]
def yU(s:I dG)(x:e'):I dG:=pM s x.1.toNat ((mm x).extract 0 16) ((mm x).extract 16 32)
def yV(s:I dG)(p:V):I dG:=pM s p ((lg 32).extract 0 16) ((lg 32).extract 16 32)
def il(s:I dG)(p:V):e'×J:=
 if(l3 (sc s p)).2≠0 then(d_,(l3 (sc s p)).2) else if(l3 (sc s p)).1.1≠(p:J) then(d_,9) else((l3 (sc s p)).1,0)
def ast{s}(h:iT s){p:V}(Q:1<=p)(a:p<=16):lh ⟨s,[]⟩ p=il s p:=by
 rw[aor ⟨h.us,by omega,by omega⟩]
 have e:jk ⟨s,[]⟩ (2*(p:J)+1)++jk ⟨s,[]⟩ (2*(p:J)+1+1)=sc s p:=by simp[jk,pick,acs,sc];rfl
 rw[e,il]
def acA{s}(h:iT s){p:V}(Q:1<=p)(a:p<=16){x}(b:x.size=32):qd ⟨s,[]⟩ p x=(⟨pM s p (x.extract 0 16) (x.extract 16 32),[]⟩,0) /\lE ⟨s,[]⟩ p x=(vu p x,0):=by
 have e:lE ⟨s,[]⟩ p x=(vu p x,0):=by rw[lE,if_pos ⟨h.us,⟨R,R⟩,b⟩,gz]
 refine⟨?_,e⟩;rw[qd,e,if_pos Z,vv];simp;rw[RY h Q a b]
def acB{x}(h:gB x=N):∃p:V,x.1=(p) /\1<=p/\p<=16:=by have:=lf.1 h;exact⟨x.1.toNat,R,R,R⟩
def acC{s}(h:iT s){x}(a:gB x=N):q9 ⟨s,[]⟩ x=(⟨yU s x,[]⟩,0) /\sY ⟨s,[]⟩ x=vu x.1.toNat (mm x) /\iT (yU s x) /\ (yU s x).length=s.length:=by
 have cY:=lf.1 a;have⟨p,e,Q,b⟩:=acB a;have z:=Aw cY.2.2.2.2;have⟨fV,gY⟩:=RX z;have⟨hi,c⟩:=acA h Q b z;refine⟨?_,?_,iT.pM h fV gY,acx _ _ _ _⟩
 .rw[q9,if_pos a,e,hi,yU,e,gz]
 .rw[sY,if_pos (.inl R),if_pos a,e,c,gz]
def acD{s}(h:iT s){p:V}(Q:1<=p)(a:p<=16):yF ⟨s,[]⟩ p=(⟨yV s p,[]⟩,0) /\sY ⟨s,[]⟩ ((p),0,fB)=vu p (lg 32) /\iT (yV s p) /\ (yV s p).length=s.length:=by have z:=w2 32;have⟨fV,gY⟩:=RX z;have⟨hi,b⟩:=acA h Q a z;refine⟨by assumption,?_,iT.pM h fV gY,acx _ _ _ _⟩;rw[sY,cS dw,b]
def acE{s}(h:iT s){x}(a:gB x=N){q}(Q:1<=q)(d:q<=16):il (yU s x) q=if x.1=(q) then(x,0) else il s q:=by
 have⟨p,c,fD,b⟩:=acB a;have z:=Aw (lf.1 a).2.2.2.2;rw[yU,c,gz]
 by_cases e:p=q
 .subst e;rw[if_pos Z,il,acy h fD b,acw z,anM a,cS (λq=>q Z),cS (λq=>q c)]
 .rw[cS R,il,acz Q e];rfl
def LJ{s}(h:iT s){p q}(fD:1<=p)(a:p<=16)(Q:1<=q)(b:q<=16):il (yV s p) q=if p=q then(d_,3) else il s q:=by
 have z:=w2 32;rw[yV]
 by_cases e:p=q
 .subst e;rw[if_pos Z,il,acy h fD a,acw z,Zy,if_pos (show(3:J)≠0 by decide)]
 .rw[cS e,il,acz Q e];rfl
def RZ:iT (eQ 35 jN):=⟨dw,dw,λi h=>by rw[List.getElem_replicate];rfl⟩
def asu:jN++jN=lg 32:=Kw f0
def LK{q}(h:q<=16):il (eQ 35 jN) q=(d_,3):=by
 have e:sc (eQ 35 jN) q=lg 32:=by simp only[sc,tI];rw[if_pos R,if_pos R,x3,asu]
 rw[il,e,Zy,if_pos (show(3:J)≠0 by decide)]
def asv{s}(h:iT s)(cW:s[0]?.getD fB=jN):KI ⟨s,[]⟩=⟨s,[]⟩:=by
 have e:rS ⟨s,[]⟩=[]:=by rwa[rS,if_pos h.us,if_pos]
 rw[KI,e];rfl
def R0{s}(h:iT s){p a b}:(pM s p a b)[0]?.getD fB=jN:=by have:=h.n;simp[pM,ly,iu];grind
def asw{f}(h:ey f){p}(O:p≠0)(c0:∀i (cK:i<f.cN.length),f.cN[i].1≠p):Tb.ih f.eg p=(0,L):=by
 rcases h.xb O with⟨e,_⟩|⟨i,_,c8⟩
 .exact e
 .exact dN c8.cN (c0 i c8.cK)
def R1{f}(h:ey f){x}(a:x∈f.dK):∃i,hP f x.1 i:=by have⟨k,b⟩:=h.t7 x a;have cY:=aa1 h.dK a;have⟨i,_,cK,e⟩:=h.frame cY.1 b;exact⟨i,qi h R cK e⟩
def asx{f}(h:ey f){p t}(d:1<=p)(g:p<=16)(cW:0<=t)(Q:t<=2147483647)(c0:∀i (cK:i<f.cN.length),f.cN[i].1≠p)(j:∀x∈f.dK,x.2<=t):Dt.hX f.dK p t=(f.dK++[(p,t)],0):=by
 have a:¬0<=Dt.gI f.dK p 0:=λq=>by
  have⟨x,b,e⟩:=Dt.q'.1 q;have⟨i,c8⟩:=R1 h b;exact c0 i c8.cK (c8.cN.trans e)
 have dv:Dt.nm f.dK t=L:=by
  unfold Dt.nm
  by_cases c:0<f.dK.length
  .grind
  .simp[c]
 rw[Dt.hX,cS,cS eM,cS a];intro q;rcases q with q|q|q
 .rw[h.dK]at q;cases q
 .simp[Dt.o']at q;omega
 .simp[Dt.q_]at q;omega
def asy{f p now}(gl)(h:ey f)(O:gB p=N)(cW:0<=now)(Q:now<=2147483647)(c0:∀i (cK:i<f.cN.length),f.cN[i].1≠p.1)(b:∃i,∃cK:i<f.cN.length,f.cN[i].1=0)(a:∀x∈f.dK,x.2<=now):
  ∃i,∃cK,f.cN[i].1=0/\mW f p now gl=({ms f p i with dK:=bif gl then f.dK++[(p.1,now)] else f.dK},0) /\
   ey {ms f p i with dK:=bif gl then f.dK++[(p.1,now)] else f.dK} /\hP {ms f p i with dK:=bif gl then f.dK++[(p.1,now)] else f.dK} p.1 i:=by
 have cY:=lf.1 O;have n:=asw h (show p.1≠0 by omega) c0;rcases GV f.cN with⟨_,o⟩|⟨i,e,cK,z⟩
 .simp_all
 have m:=asx h cY.1 cY.2.1 cW Q c0 a;have⟨c,d,_⟩:=QV h cY.1 cY.2.1 cK n
 have M:=ey.QW (l:=bif gl then f.dK++[(p.1,now)] else f.dK) h O cK z n (by
  cases gl with
  |false=>exact h.dK
  |true=>
   have:=Dt.aah (l:=f.dK) (p:=p.1) (t:=now) (by rw[m])
   simp_all) (by
  grind)
 refine⟨i,cK,z,?_,M.1,M.2⟩;rw[mW,cS,n,cS (show ¬L=N by decide),e,cS (show ¬N=L by decide),gz,d,cS (λq=>q Z)]
 .cases gl with
  |false=>rw[cS cZ];rfl
  |true=>rw[if_pos Z,m,cS (λq=>q Z)];rfl
 .intro q;rcases q with q|q|q|q
  .exact q (s6.2 h)
  .simp_all
  .omega
  .omega
def acF{p}(h:ey p.f)(f:∃i,∃cK:i<p.f.cN.length,p.f.cN[i].1=0):ky p=(p,[],0):=by
 rcases Dj h with⟨i,cK,_,e⟩|⟨n,_⟩|⟨n,_⟩
 .show oH (16+1) p []=_;rw[oH,e,cS (λq=>q Z),if_pos Z]
 .simp_all
 simp_all
def asz{p}(h:ey p.f)(o:∀i (cK:i<p.f.cN.length),p.f.cN[i].1≠0)(n:∀i (cK:i<p.f.cN.length),p.f.cN[i].2.1≠0):ky p=(p,[],6):=by
 rcases Dj h with⟨i,cK,z,e⟩|⟨_,_,e⟩|⟨_,l,a,q,c8,_,_,cW,_⟩
 .simp_all
 .show oH (16+1) p []=_;rw[oH,e,if_pos (show(6:J)≠0 by decide)]
 simp_all
def asA{f p i}(c8:hP f p i)(O:(f.cN[i]'c8.cK).2.1≠0):mr f p=(vz f i (Di (f.cN[i]'c8.cK)),0):=by
 have h:=c8.right
 have e:hO f p=((i:J),0):=by rw[hO,if_pos (s6.2 h),(pJ h.eg).2 ⟨c8.fD,c8.mem⟩];rfl
 rw[mr,e,cS (λq=>q Z),gz,j7 c8.cK,cS O]
def asB{f p i}(c8:hP f p i)(O:(f.cN[i]'c8.cK).2.1<2147483647):l5 f p=(vz f i (AH (f.cN[i]'c8.cK)),0):=by
 have cU:=c8.right
 have e:hO f p=((i:J),0):=by rw[hO,if_pos (s6.2 cU),(pJ cU.eg).2 ⟨c8.fD,c8.mem⟩];rfl
 rw[l5,e,cS (λq=>q Z),gz,j7 c8.cK,cS R]
structure G'(p:fJ):Prop where
 fm:ey p.f
 rest:iT p.d.sec
 fy:p.d.fy=[]
 rm:p.d.sec[0]?.getD fB=jN
 j3:0<=p.now
 fA:p.now<=2147483647
 dK:∀x∈p.f.dK,x.2<=p.now
def G'.d{p}(h:G' p):p.d=⟨p.d.sec,[]⟩:=by have⟨f,⟨s,c⟩,n⟩:=p;have:=h.fy;simp_all
def G'.get{p}(h:G' p){q:V}(Q:1<=q)(a:q<=16):lh p.d q=il p.d.sec q:=by have:=ast h.rest Q a;rwa[<-h.d]at this
def asC(id:J):e':=(id,1,fB)
def R2{id}(Q:1<=id)(h:id<=16):gB (asC id)=N:=lf.2 ⟨Q,h,show(1:J) <=1 by decide,show(1:J) <=2147483647 by decide,show fB.size<=16 by decide⟩
def R3{p k id b}(Q:1<=id)(a:id<=16)(c:k=3\/k=4\/k=5):hp p (k,id,b)=((nV p (k,id,b)).1,(nV p (k,id,b)).2.1,[],(nV p (k,id,b)).2.2):=by rw[hp,cS l_,cS l_,cS l_,cS l_,cS l_,cS l_,cS l_]
def R4{p r l x}(m:ky p=(r,l,0))(a:ey r.f)(b:gB x=N)(cW:0<=r.now)(Q:r.now<=2147483647)(gl)(c0:∀i (cK:i<r.f.cN.length),r.f.cN[i].1≠x.1)(h:∃i,∃cK:i<r.f.cN.length,r.f.cN[i].1=0)(t:∀y∈r.f.dK,y.2<=r.now):
  ∃i,∃cK,r.f.cN[i].1=0/\re p x gl=(⟨{ms r.f x i with dK:=bif gl then r.f.dK++[(x.1,r.now)] else r.f.dK},r.d,r.now⟩,x,l,0) /\
   ey {ms r.f x i with dK:=bif gl then r.f.dK++[(x.1,r.now)] else r.f.dK} /\hP {ms r.f x i with dK:=bif gl then r.f.dK++[(x.1,r.now)] else r.f.dK} x.1 i:=by
 have⟨i,cK,z,e,c,g⟩:=asy gl a b cW Q c0 h t;refine⟨i,cK,z,?_,c,g⟩;rw[re,m,cS (λq=>q Z)];simp only[];simp_all
def R5{p a i}(c8:hP p.f a.2.1 i)(O:(p.f.cN[i]'c8.cK).2.1≠0):nV p a=
  if a.1=4 then(if(i0 p.f a.2.1 a.2.2 p.now).2≠0 then(p,d_,(i0 p.f a.2.1 a.2.2 p.now).2) else(⟨(i0 p.f a.2.1 a.2.2 p.now).1,p.d,p.now⟩,nS (i0 p.f a.2.1 a.2.2 p.now).1.dJ i,0))
  else if a.1=5 then(if(mr p.f a.2.1).2≠0 then(p,d_,(mr p.f a.2.1).2) else(⟨(mr p.f a.2.1).1,p.d,p.now⟩,d_,0))
  else(p,p.f.dJ[i]'c8.O,0):=by
 rw[nV,qj c8,cS,gz,nT c8.O];rintro (g|g)
 .cases g
 .rw[gz,j7 c8.cK]at g;exact O g
def hZ{α:Type}(P:V->α)(q:V)(x:α):V->α:=λk=>if k=q then x else P k
def j'{α}(P q)(x:α):hZ P q x q=x:=if_pos Z
def mZ{α}(P){q k}(x:α)(h:k≠q):hZ P q x k=P k:=cS h
structure yW(s:I dG)(l:I (J×J))(P:V->e')(v:J):Prop where
 kE:∀q:V,1<=q->q<=16->(∀x∈l,x.1≠(q:J))->il s q=if(P q).1=0 then(d_,3) else(P q,0)
 tc:∀q:V,1<=q->q<=16->P q=d_\/ (gB (P q)=N/\ (P q).1=(q:J))
 sd:∀q,(P q).2.1<=v
 gV:∀q:V,1<=q->q<=16->il s q=(d_,3) \/ ((il s q).2=0/\ (il s q).1.2.1<=v)
structure fu(p:fJ)(P:V->e')(W:V->J)(v u:J):Prop where
 ef:G' p
 pins:j8 p.f.cN W
 at_:∀(q:V) (i:V) (c8:hP p.f (q:J) i),p.f.dJ[i]'c8.O=P q
 on:yW p.d.sec p.f.dK P v
 td:∀q,W q<=u
def yW.uh{s l P v}(h:yW s l P v){q}(Q:1<=q)(a:q<=16)(z:(P q).1≠0):gB (P q)=N/\ (P q).1=(q):=by
 rcases h.tc q Q a with e|e
 .rw[e]at z;exact dN Z z
 .exact e
def fu.out{p P W v u}(h:fu p P W v u){q:V}(Q:1<=q)(c0:∀i (cK:i<p.f.cN.length),p.f.cN[i].1≠(q)):∀x∈p.f.dK,x.1≠(q):=λx a e=>by
 have⟨i,c8⟩:=R1 h.ef.fm a;exact c0 i c8.cK (c8.cN.trans e)
def fu.LL{p P W v u}(h:fu p P W v u){q:V}(Q:1<=q)(a:q<=16)(c0:∀i (cK:i<p.f.cN.length),p.f.cN[i].1≠(q)):W q=0:=by
 rcases h.pins q Q a with⟨i,cK,e,_⟩|⟨_,e⟩
 .simp_all
 .exact e
def fu.AX{p P W v u}(h:fu p P W v u){q i:V}(c8:hP p.f (q) i):W q=(p.f.cN[i]'c8.cK).2.1:=by have:=h.pins.at c8;assumption
def fu.KX{p P W v u}(h:fu p P W v u){l a}(s:pG p.f.cN p.f.hand.toNat l a):fu ⟨t_ p.f (l,a),p.d,p.now⟩ P W v u:=by have⟨c,d,o,f⟩:=s.out;have m:=h.ef.fm.KX (q:=(l,a)) s;exact⟨⟨m,h.ef.rest,h.ef.fy,h.ef.rm,h.ef.j3,h.ef.fA,h.ef.dK⟩,j8.same h.pins c o,λq i c8=>have cK:i<l.length:=c8.cK;have b:(q:J)≠0:=Bs;have e:=c8.cN;h.at_ q i (qi h.ef.fm b R (by rwa[<-(o i R cK).1])),h.on,h.td⟩
def fu.clean{p P W v u}(h:fu p P W v u){q i:V}(c8:hP p.f (q) i):fu ⟨yJ p.f q,⟨yU p.d.sec (p.f.dJ[i]'c8.O),[]⟩,p.now⟩ P W v u:=by
 have m:=Q3 h.ef.fm q;have⟨s1,s2,s,l⟩:=acC h.ef.rest c8.w_;have g:=c8.dJ;have f:=Bs;refine⟨⟨m,s,Z,R0 h.ef.rest,h.ef.j3,h.ef.fA,λx b=>h.ef.dK x (ou.1 b).1⟩,h.pins,λk j B=>?_,⟨λk Q a c0=>?_,h.on.tc,h.on.sd,λk Q a=>?_⟩,h.td⟩
 .exact h.at_ k j (qi h.ef.fm (by have:=B.fD;omega) B.cK B.cN)
 .rw[acE h.ef.rest c8.w_ Q a]
  by_cases e:(p.f.dJ[i]'c8.O).1=(k:J)
  .rw[if_pos e];have c:q=k:=R;subst c;rw[<-h.at_ q i c8,cS R]
  .rw[cS e];refine h.on.kE k Q a λx b d=>c0 x (ou.2 ⟨b,?_⟩) d;grind
 .rw[acE h.ef.rest c8.w_ Q a];split
  .exact .inr ⟨Z,by rw[h.at_ q i c8];exact h.on.sd q⟩
  .exact h.on.gV k Q a
def fu.rel{p P W v u}(h:fu p P W v u){q i:V}(c8:hP p.f (q) i)(cW:(p.f.cN[i]'c8.cK).2.1=0){s' P'}(A:iT s')(E:s'[0]?.getD fB=jN)
  (c:∀k,k≠q->P' k=P k)(l:∀k,1<=k->k<=16->k≠q->il s' k=il p.d.sec k)(F:il s' q=if(P' q).1=0 then(d_,3) else(P' q,0))(w:P' q=d_\/ (gB (P' q)=N/\ (P' q).1=(q:J)))(cY:(P' q).2.1<=v):
  fu ⟨mV p.f i q,⟨s',[]⟩,p.now⟩ P' W v u:=by
 have t:=ey.rel c8;have z:=Bs;have cK:=c8.cK;have⟨hi,D⟩:=QU (p:=(q:J)) h.ef.fm.dK;have cP:=D;have r:(mV p.f i q).cN=p.f.cN.set i (0,0,L):=Z;have y:(mV p.f i q).dJ=p.f.dJ.set i mU:=Z;refine⟨⟨t,A,Z,E,h.ef.j3,h.ef.fA,λx g=>h.ef.dK x ((cP x).1 g).1⟩,?_,λk j B=>?_,⟨λk Q a c0=>?_,λk Q a=>?_,λk=>?_,λk Q a=>?_⟩,h.td⟩
 .refine j8.set h.pins cK c8.uniq λk Q a=>⟨λe=>?_,λ_ e=>?_,λ_ _=>Z⟩
  .omega
  .have m:k=q:=by rw[c8.cN]at e;omega
   subst m;rw[h.AX c8,cW]
 .have dU:j<(p.f.cN.set i (0,0,L)).length:=B.cK;have f:(p.f.cN.set i (0,0,L))[j].1=(k:J):=B.cN;have s:=B.fD
  have n:i≠j:=λe=>by
   grind
  rw[xa n]at f;have b:=HM;have C:=qi h.ef.fm R b f;have d:j<(p.f.dJ.set i mU).length:=B.O;show(p.f.dJ.set i mU)[j]'d=_;rw[xa n,h.at_ k j C,c];intro e;subst e;exact n (c8.w9 b f).symm
 .by_cases e:k=q
  .simp_all
  .rw[l k Q a e,c k e];exact h.on.kE k Q a λx g o=>c0 x ((cP x).2 ⟨g,R⟩) o
 .by_cases e:k=q
  .simp_all
  .rw[c k e];exact h.on.tc k Q a
 .by_cases e:k=q
  .simp_all
  .rw[c k e];exact h.on.sd k
 .by_cases e:k=q
  .grind
  .rw[l k Q a e];exact h.on.gV k Q a
def fu.asD{p P W v u}(h:fu p P W v u){q i:V}(c8:hP p.f (q) i)(cW:(p.f.cN[i]'c8.cK).2.1=0)(c0:∀x∈p.f.dK,x.1≠(q)):fu ⟨mV p.f i q,p.d,p.now⟩ P W v u:=by
 have b:1<=q:=Bs
 have a:q<=16:=by have:=c8.AG;omega
 have:=h.rel c8 cW (s':=p.d.sec) (P':=P) h.ef.rest h.ef.rm (λ_ _=>Z) (λ_ _ _ _=>Z) (h.on.kE q b a c0) (h.on.tc q b a) (h.on.sd q);rwa[<-h.ef.d]at this
def fu.asE{p P W v u}(h:fu p P W v u){q:V}(Q:1<=q)(b:q<=16)(cY:0<=v)(c0:∀i (cK:i<p.f.cN.length),p.f.cN[i].1≠(q)):fu ⟨p.f,⟨yV p.d.sec q,[]⟩,p.now⟩ (hZ P q d_) W v u:=by
 have⟨d1,f,d,g⟩:=acD h.ef.rest Q b;refine⟨⟨h.ef.fm,d,Z,R0 h.ef.rest,h.ef.j3,h.ef.fA,h.ef.dK⟩,h.pins,λk j c8=>?_,⟨λk k1 a c=>?_,λk k1 a=>?_,λk=>?_,λk k1 a=>?_⟩,h.td⟩
 .have:k≠q:=λe=>by subst e;exact c0 j c8.cK c8.cN
  rw[mZ _ _ this];exact h.at_ k j c8
 .rw[LJ h.ef.rest Q b k1 a]
  by_cases e:q=k
  .subst e;rw[if_pos Z,j',if_pos (show d_.1=0 from Z)]
  .rw[cS e,mZ _ _ (λq=>e q.symm)];exact h.on.kE k k1 a c
 .by_cases e:k=q
  .subst e;rw[j'];simp_all
  .rw[mZ _ _ e];exact h.on.tc k k1 a
 .by_cases e:k=q
  .subst e;rwa[j']
  .rw[mZ _ _ e];exact h.on.sd k
 .rw[LJ h.ef.rest Q b k1 a];split
  .simp_all
  .exact h.on.gV k k1 a
def fu.AI{p P W v u}(h:fu p P W v u){q i:V}(c8:hP p.f (q) i){y}(g:yx y=N)(Q:y.1=(q)){p5}(c:y.2.1<=p5)(d:u<=p5):fu ⟨vz p.f i y,p.d,p.now⟩ P (hZ W q y.2.1) v p5:=by
 have m:=ey.pins c8 g Q;have cK:=c8.cK;refine⟨⟨m,h.ef.rest,h.ef.fy,h.ef.rm,h.ef.j3,h.ef.fA,h.ef.dK⟩,?_,λk j B=>?_,h.on,λk=>?_⟩
 .refine j8.set h.pins cK c8.uniq λk k1 l=>⟨λe=>?_,λn b=>?_,λn b=>?_⟩
  .have:k=q:=R
   subst this;exact j' _ _ _
  .rw[c8.cN]at b;omega
  .exact mZ _ _ R
 .have dU:j<(p.f.cN.set i y).length:=B.cK;have f:(p.f.cN.set i y)[j].1=(k:J):=B.cN;have a:=HM;refine h.at_ k j (qi h.ef.fm (by have:=B.fD;omega) a ?_)
  by_cases e:i=j
  .subst e;rw[t']at f;rw[c8.cN,<-Q,f]
  simp_all
 .by_cases e:k=q
  .subst e;rwa[j']
  .rw[mZ _ _ e];have:=h.td k;omega
def fu.load{p P W v u}(h:fu p P W v u){q i:V}(Q:1<=q)(o:q<=16)(cK:i<p.f.cN.length)(z:p.f.cN[i].1=0)(c0:∀j (dU:j<p.f.cN.length),p.f.cN[j].1≠(q)){x}(C:gB x=N)(g:x.1=(q))(gl)(A:gl=L->x=P q)(cY:x.2.1<=v)(t:1<=u)
  (s:ey {ms p.f x i with dK:=bif gl then p.f.dK++[(x.1,p.now)] else p.f.dK}):
  fu ⟨{ms p.f x i with dK:=bif gl then p.f.dK++[(x.1,p.now)] else p.f.dK},p.d,p.now⟩ (hZ P q x) (hZ W q 1) v u:=by
 refine⟨⟨s,h.ef.rest,h.ef.fy,h.ef.rm,h.ef.j3,h.ef.fA,λy l=>?_⟩,?_,λk j B=>?_,⟨λk k1 a m=>?_,λk k1 a=>?_,λk=>?_,h.on.gV⟩,λk=>?_⟩
 .cases gl with
  |false=>exact h.ef.dK y l
  |true=>
   rcases iY.1 l with e|e
   .exact h.ef.dK y e
   simp_all
 .refine j8.set h.pins cK (λj dU n D=>dN (D.trans z) n) λk k1 a=>⟨λe=>?_,λ_ e=>?_,λe _=>?_⟩
  .have e:=e;have:k=q:=R;subst this;exact j' _ _ _
  .omega
  .have e:=e;exact mZ _ _ R
 .have dU:j<(p.f.cN.set i (x.1,1,N)).length:=B.cK;have f:(p.f.cN.set i (x.1,1,N))[j].1=(k:J):=B.cN;have c:=HM;have r:=B.fD;have d:j<(p.f.dJ.set i x).length:=B.O;show(p.f.dJ.set i x)[j]'d=_
  by_cases e:i=j
  .subst e;rw[t']at f⊢;have f:=f;have:k=q:=R;subst this;rw[j']
  .rw[xa e]at f⊢
   have:k≠q:=λw=>by simp_all
   rw[mZ _ _ this];exact h.at_ k j (qi h.ef.fm R c f)
 .have b:∀y∈p.f.dK,y.1≠(k:J):=λy l=>m y (by
   grind)
  by_cases e:k=q
  .subst e
   cases gl with
   |true=>exact dN g (m (x.1,p.now) (pz _ (p6.2 Z)))
   |false=>rw[j'];have:=h.on.kE k k1 a b;simp_all
  .rw[mZ _ _ e];exact h.on.kE k k1 a b
 .by_cases e:k=q
  .subst e;rw[j'];simp_all
  .rw[mZ _ _ e];exact h.on.tc k k1 a
 .by_cases e:k=q
  .subst e;rwa[j']
  .rw[mZ _ _ e];exact h.on.sd k
 .by_cases e:k=q
  .subst e;rwa[j']
  .rw[mZ _ _ e];exact h.td k
def m0(d:gA)(l:I lD):gA:=l.foldl o_ d
def DL(d a b):m0 d (a++b)=m0 (m0 d a) b:=KG ..
def acG{p P W v u}(h:fu p P W v u){q i:V}(c8:hP p.f (q) i)(cP:∃x∈p.f.dK,x.1=(q)):
  ∃p' l,i' p q=(p',l,0) /\fu p' P W v u/\p'.f=yJ p.f q/\p'.now=p.now/\m0 p.d l=p'.d/\l.length=10:=by
 have a:=c8.dJ;have⟨s1,s2,c,g⟩:=acC h.ef.rest c8.w_;have hw:=aaX c8;rw[if_pos (Dt.q'.2 cP),h.ef.d,s1,cS (λq=>q Z),s2,a,gz]at hw;refine⟨_,_,hw,h.clean c8,Z,Z,?_,Z⟩;have:=(lf.1 c8.w_);have b:=Aw this.2.2.2.2;have e:=RY h.ef.rest (p:=q) R R b;rw[m0,h.ef.d];rw[e,yU,a,gz]
def fu.acH{p P W v u}(h:fu p P W v u){i}(cK:i<p.f.cN.length)(z:p.f.cN[i].1=0):p.f.cN[i].2.1=0:=by
 rcases h.ef.fm.place i cK cK (by rwa[h.ef.fm.len]) with q|⟨q,_⟩
 .exact q.2.1
 .omega
def acI:∀(n) {p P W v u} (l),fu p P W v u->p.f.dK.length<n->(∃i,∃cK:i<p.f.cN.length,p.f.cN[i].2.1=0)->
  ∃p' C,oH n p l=(p',l++C,0) /\fu p' P W v u/\ (∃i,∃cK:i<p'.f.cN.length,p'.f.cN[i].1=0) /\p'.now=p.now/\p'.f.cN.length=p.f.cN.length/\m0 p.d C=p'.d/\C.length<=10*n/\
   (∀q,q≠0->(∀i (cK:i<p.f.cN.length),p.f.cN[i].1≠q)->∀i (cK:i<p'.f.cN.length),p'.f.cN[i].1≠q)
 |0,p,P,W,v,u,l,h,c0,_=>dN c0 (qc _)
 |n+1,p,P,W,v,u,l,h,c0,j=>by
  rw[oH];rcases Dj h.ef.fm with⟨i,cK,z,e⟩|⟨_,dc,e⟩|⟨O,t,a,q,c8,F,A,cW,e⟩
  .rw[e,cS (λq=>q Z),if_pos Z];exact⟨p,[],by simp_all,h,⟨i,cK,z⟩,Z,Z,Z,by simp,λ_ _ g=>g⟩
  .have⟨i,cK,z⟩:=j;exact dN z (dc i cK)
  have⟨D,ab,cX,de,X⟩:=F.out;have dh:=h.KX F;obtain⟨d,rfl⟩:∃d:V,q=d:=⟨q.toNat,by have:=c8.fD;omega⟩;have m:=c8.dJ
  by_cases s:(Dt.qg p.f.dK d).2=N
  .rw[if_pos s]at e;rw[e,cS (λq=>q Z),cS (show ¬N=L by decide)];simp only[m];have cP:=Dt.q'.1 (Q2 s);have⟨p',eB,I,B,E,cU,Y,G⟩:=acG (p:=⟨t_ p.f (t,a),p.d,p.now⟩) dh A cP;rw[I,cS (λq=>q Z)];simp only[];have c:=aaW (f:=t_ p.f (t,a)) (p:=d) (Q2 s);have c:=c
   have r:p'.f.cN=t:=by rw[E];rfl
   have⟨Q,el,K,db,M,S,T,aa,H,o⟩:=acI n (l++eB) B (by rw[E];exact sR c (Nat.le_of_lt_succ c0)) ⟨a,by rwa[r],by simp[r];exact X⟩;refine⟨Q,eB++el,by rw[K,j4],db,M,S.trans cU,by rw[T,r,D],by rw[DL,Y,aa],by simp;omega,λq w c0=>o q w ?_⟩;intro i cK
   have b:i<t.length:=by rwa[<-r]
   simp[r];rw[(cX i R b).1];exact c0 i R
  .rw[cS s]at e;rw[e,cS (λq=>q Z),if_pos Z]
   have k:∀x∈(fJ.mk (t_ p.f (t,a)) p.d p.now).f.dK,x.1≠(d:J):=λx y cM=>s (by
    have y:=y
    rw[Dt.QA h.ef.fm.dK (p:=(d:J)) (t:=x.2) (by rwa[<-cM])])
   have B:=dh.asD A (by assumption) k;refine⟨_,[],by rw[qW],B,?_,Z,?_,Z,by simp,λq w c0 i cK=>?_⟩
   .refine⟨a,by show a<(t.set a (0,0,L)).length;simp_all,?_⟩;show((t.set a (0,0,L))[a]' eM).1=0;rw[t']
   .show(t.set a (0,0,L)).length=_;simp_all
   .have b:i<(t.set a (0,0,L)).length:=cK;show((t.set a (0,0,L))[i]'b).1≠q;rw[As];split
    .exact λg=>w g.symm
    .rw[(cX i (by rw[iu]at b;omega) (by rwa[iu]at b)).1];exact c0 i _
def asF{p P W v u}(h:fu p P W v u):
  ((∀i (cK:i<p.f.cN.length),p.f.cN[i].2.1≠0) /\ky p=(p,[],6)) \/ ((∃i,∃cK:i<p.f.cN.length,p.f.cN[i].2.1=0) /\
  ∃p' a,ky p=(p',a,0) /\fu p' P W v u/\ (∃i,∃cK:i<p'.f.cN.length,p'.f.cN[i].1=0) /\p'.now=p.now/\p'.f.cN.length=p.f.cN.length/\m0 p.d a=p'.d/\a.length<=170/\
   (∀q,q≠0->(∀i (cK:i<p.f.cN.length),p.f.cN[i].1≠q)->∀i (cK:i<p'.f.cN.length),p'.f.cN[i].1≠q)):=by
 by_cases hb:∀i (cK:i<p.f.cN.length),p.f.cN[i].2.1≠0
 .exact .inl ⟨hb,asz h.ef.fm (λi cK e=>hb i cK (h.acH cK e)) hb⟩
 .refine .inr ?_;have⟨i,cK⟩:=KT.1 hb;have⟨cK,he⟩:=KT.1 cK;have he:=nA he;have dv:=(Dt.t5 h.ef.fm.dK).1;have⟨p',a,b,r⟩:=acI 17 [] h (Nat.lt_succ_of_le dv) ⟨i,cK,he⟩;exact⟨⟨i,cK,he⟩,p',a,b,r⟩
def R6:∀ {a b:I J},a.Nodup->(∀x∈a,x∈b)->a.length<=b.length
 | [],b,_,_=>eY _
 |y::r,b,c0,h=>by
  rw[tH]at c0;have d:=h y (mK ..);have:=R6 (b:=b.erase y) c0.2 λz c=>(List.mem_erase_of_ne (λe=>c0.1 eM)).2 (h z (lX _ c));grind
def ui(W:V->J):V->V
 |0=>0
 |k+1=>ui W k+(if 0<W (k+1) then 1 else 0)
def uj(W:V->J):V->I J
 |0=>[]
 |k+1=>if 0<W (k+1) then((k+1:V):J)::uj W k else uj W k
def acJ(W):∀k,(uj W k).length=ui W k
 |0=>rfl
 |k+1=>by
  rw[uj,ui,<-acJ W k];grind
def DM{W x}:∀ {k},x∈uj W k↔∃q:V,x=q/\1<=q/\q<=k/\0<W q
 |0=>by simp[uj];omega
 |k+1=>by
  rw[uj];constructor
  .intro f;split at f
   .rename_i hw;rcases nG.1 f with e|e
    .grind
    .have⟨q,a,b,c,d⟩:=DM.1 e;grind
   .have⟨q,a,b,c,d⟩:=DM.1 f;grind
  .rintro⟨q,a,b,c,d⟩
   by_cases e:q=k+1
   .simp_all
   .have:=DM (W:=W) (k:=k) (x:=x) |>.2 ⟨q,a,b,R,d⟩;grind
def R7(W):∀k,(uj W k).Nodup
 |0=>GN
 |k+1=>by
  rw[uj];split
  .rw[tH];refine⟨λh=>?_,R7 W k⟩;have⟨q,a,_,c,_⟩:=DM.1 h;omega
  .exact R7 W k
def pinned(l:I gc):I J:=(l.filter λx=>!decide (x.2.1=0)).map (·.1)
def R8{l p}:p∈pinned l↔∃i,∃h:i<l.length,l[i].1=p/\l[i].2.1≠0:=by
 unfold pinned;rw[is];constructor
 .rintro⟨x,a,rfl⟩;have⟨Q,b⟩:=ou.1 a;obtain⟨i,cK,rfl⟩:=kr.1 Q;grind
 grind
def acK:∀ {l},(∀i j,(cK:i<l.length)->(dU:j<l.length)->l[i].2.1≠0->l[i].1=l[j].1->i=j)->(pinned l).Nodup
 | [],_=>by simp[pinned]
 |x::r,h=>by
  have a:=acK (l:=r) λi j cK dU cW e=>by
   have:=h (i+1) (j+1) HI xA zf MI;omega
  unfold pinned at a⊢
  by_cases eE:x.2.1=0
  .simp_all
  .rw[List.filter_cons_of_pos HT,kS,tH];refine⟨λm=>?_,a⟩;have⟨j,dU,e,_⟩:=R8.1 m;have:=h 0 (j+1) dw xA TX eM;omega
def fu.busy{p P W v u}(h:fu p P W v u):ui W 16=p.f.cN.length↔∀i (cK:i<p.f.cN.length),p.f.cN[i].2.1≠0:=by
 have f:∀i (cK:i<p.f.cN.length),p.f.cN[i].2.1≠0->1<=p.f.cN[i].1/\p.f.cN[i].1<=16:=λi cK cW=>by
  have b:=λe=>cW (h.acH cK e);have c8:=qi h.ef.fm b cK Z;exact⟨c8.fD,c8.AG⟩
 have n:=acK λi j cK k cW e=>h.ef.fm.w9 cK k hN e
 have s1:∀x∈pinned p.f.cN,x∈uj W 16:=λx a=>by
  have⟨i,cK,e,cW⟩:=R8.1 a;have o:=f i cK cW;have c8:=qi h.ef.fm (p:=((x.toNat:V):J)) R cK R;have hw:=h.AX c8;have r:=oC.1 (h.ef.fm.ij.all i cK);exact DM.2 ⟨x.toNat,R,R,R,by omega⟩
 have s2:∀x∈uj W 16,x∈pinned p.f.cN:=λx a=>by
  have⟨q,e,m,c,hw⟩:=DM.1 a;rcases h.pins q m c with⟨i,cK,s,d⟩|⟨_,d⟩
  .exact R8.2 ⟨i,cK,by rw[s,e],R⟩
  .omega
 have l:(pinned p.f.cN).length=ui W 16:=by rw[<-acJ];exact Nat.le_antisymm (R6 n s1) (R6 (R7 W 16) s2)
 rw[<-l];unfold pinned;rw[ec,List.length_filter_eq_length_iff];constructor
 .grind
 .intro g x a;obtain⟨i,cK,rfl⟩:=kr.1 a;simp_all
def pN(q:V):e':=((q:J),1,fB)
abbrev acL:=(V->e')×(V->J)×e'×J
def yX(P:V->e')(W:V->J)(n:V)(k:J)(q:V):acL:=
 if k=1/\ (P q).1=0 then(P,W,d_,3)
 else if k=2/\ (P q).1≠0 then(P,W,d_,4)
 else if W q=0/\ui W 16=n then(P,W,d_,6)
 else if k=2 then(hZ P q (pN q),hZ W q (W q+1),pN q,0)
 else(hZ P q (P q),hZ W q (W q+1),P q,0)
def acM{α}(P:V->α)(q):hZ P q (P q)=P:=by funext k;rw[hZ];simp_all
def fu.mono{p P W v u fN p5}(h:fu p P W v u)(cY:v<=fN)(b:u<=p5):fu p P W fN p5:=
 ⟨h.ef,h.pins,h.at_,⟨h.on.kE,h.on.tc,λq=>R9 (h.on.sd q) cY,λq Q a=>(h.on.gV q Q a).imp id λg=>⟨g.1,R9 g.2 cY⟩⟩,λq=>R9 (h.td q) b⟩
structure qt(p:fJ)(v u:J)(m:acL)(r:s8):Prop where
 told:r.2.1=m.2.2.1
 err:r.2.2.2=m.2.2.2
 inv:fu r.1 m.1 m.2.1 v u
 now:r.1.now=p.now
 len:r.1.f.cN.length=p.f.cN.length
 run:m0 p.d r.2.2.1=r.1.d
 asG:r.2.2.1.length<=170
 none:r.2.2.2≠0->r.2.2.1=[]
def qt.same{p P W v u}(h:fu p P W v u)(x e):qt p v u (P,W,x,e) (p,x,[],e):=⟨Z,Z,h,Z,Z,Z,dw,λ_=>Z⟩
def fu.where{p P W v u}(h:fu p P W v u){q:V}(Q:1<=q):(∀i (cK:i<p.f.cN.length),p.f.cN[i].1≠(q)) \/ ∃i,hP p.f (q) i:=by
 have a:(q:J)≠0:=R
 by_cases c0:∀i (cK:i<p.f.cN.length),p.f.cN[i].1≠(q:J)
 .grind
 .have⟨i,cK⟩:=KT.1 c0;have⟨cK,he⟩:=KT.1 cK;exact .inr ⟨i,qi h.ef.fm a cK (nA he)⟩
def fu.uh{p P W v u}(h:fu p P W v u){q i:V}(c8:hP p.f (q) i):(P q).1≠0:=by rw[<-h.at_ q i c8,c8.dJ];have:=c8.fD;omega
def acN{p P W v u}(h:fu p P W v u)(G:1<=u){q:V}(Q:1<=q)(a:q<=16)(c0:∀i (cK:i<p.f.cN.length),p.f.cN[i].1≠(q)){x}(A:gB x=N)(s:x.1=(q))(gl)(F:gl=L->x=P q)(cY:x.2.1<=v){n}(y:p.f.cN.length=n):
  qt p v u (if W q=0/\ui W 16=n then(P,W,d_,6) else(hZ P q x,hZ W q (W q+1),x,0)) (re p x gl):=by
 have hw:=h.LL Q a c0;rcases asF h with⟨E,e⟩|⟨d,p',dh,e,b,⟨i,cK,H⟩,o,l,r,f,t⟩
 .rw[if_pos ⟨hw,by rw[<-y];exact h.busy.2 E⟩,re,e,if_pos (show(6:J)≠0 by decide)];exact qt.same h d_ 6
 .have z:¬(W q=0/\ui W 16=n):=λg=>by
   rw[<-y]at g;have⟨j,c,C⟩:=d;exact h.busy.1 g.2 j c C
  have m:(q:J)≠0:=R
  have k:=t q m c0;have⟨j,c,w,B,D,I⟩:=R4 e b.ef.fm A b.ef.j3 b.ef.fA gl eM ⟨i,cK,H⟩ b.ef.dK;rw[cS z,B,hw];exact⟨Z,Z,b.load Q a c w k A s gl F cY G D,o,by show(p'.f.cN.set j _).length=_;rw[iu,l],r,f,λg=>dN Z g⟩
def asH{f}(h:ey f){p t}(b:1<=p)(a:p<=16)(cW:0<=t)(Q:t<=2147483647)(c:∀x∈f.dK,x.2<=t):Dt.hX f.dK p t=(if 0<=Dt.gI f.dK p 0 then f.dK else f.dK++[(p,t)],0):=by
 by_cases cP:0<=Dt.gI f.dK p 0
 .rw[if_pos cP];have l:Dt.nm f.dK t=L:=by
   unfold Dt.nm
   by_cases z:0<f.dK.length
   .grind
   .simp[z]
  rw[Dt.hX,cS,cS eM,if_pos cP];intro q;rcases q with q|q|q
  .rw[h.dK]at q;cases q
  .simp[Dt.o']at q;omega
  .simp[Dt.q_]at q;omega
 .rw[cS cP]
  have l:Dt.nm f.dK t=L:=by
   unfold Dt.nm
   by_cases z:0<f.dK.length
   .grind
   .simp[z]
  rw[Dt.hX,cS,cS eM,cS cP];intro q;rcases q with q|q|q
  .rw[h.dK]at q;cases q
  .simp[Dt.o']at q;omega
  .simp[Dt.q_]at q;omega
def asI{s}(h:iT s){q}(Q:1<=q)(a:q<=16):m0 ⟨s,[]⟩ (vu q (lg 32))=⟨yV s q,[]⟩:=
 RY h Q a (w2 32)
def acO{p P W v u}(h:fu p P W v u)(cY:0<=v){q}(Q:1<=q)(b:q<=16):qt p v u (if 0<W q then(P,W,d_,6) else if(P q).1=0 then(P,W,d_,3) else(hZ P q d_,W,d_,0)) (xc p q):=by
 have⟨d1,l,m,s⟩:=acD h.ef.rest Q b;have r:=asI h.ef.rest Q b;rw[xc];rcases h.where Q with c0|⟨i,c8⟩
 .rw[qk h.ef.fm c0 R,cS (show ¬L=N by decide),h.ef.get Q b,h.on.kE q Q b (h.out Q c0),h.LL Q b c0,cS (show ¬(0:J)<0 by decide)]
  by_cases z:(P q).1=0
  .rw[if_pos z,if_pos z,if_pos (show(3:J)≠0 by decide)];exact qt.same h d_ 3
  .rw[cS z,cS z,cS (show ¬((0:J)≠0) from λg=>g Z),vC,h.ef.get Q b,h.on.kE q Q b (h.out Q c0),cS z,cS (show ¬(0:J)=3 by decide)];rw[h.ef.d,d1,l,cS (show ¬((0:J)≠0) from λg=>g Z)];exact⟨Z,Z,h.asE Q b cY c0,Z,Z,by rw[h.ef.d];exact r,show(10:V) <=170 by decide,λg=>dN Z g⟩
 .have cK:=c8.cK;have hw:=h.AX c8;have d:=oC.1 (h.ef.fm.ij.all i cK);rw[qj c8,if_pos Z,gz,j7 cK,hw]
  by_cases z:0<p.f.cN[i].2.1
  .rw[if_pos z,if_pos z];exact qt.same h d_ 6
  rw[cS z,cS z,cS (h.uh c8)]
  have e:hO p.f q=((i:J),0):=by rw[hO,if_pos (s6.2 c8.right),(pJ c8.right.eg).2 ⟨c8.fD,c8.mem⟩];rfl
  have o:oE p.f q=(mV p.f i q,0):=by rw[oE,e,cS (λg=>g Z),gz,j7 cK,cS z]
  rw[o,cS (show ¬((0:J)≠0) from λg=>g Z),vC,h.ef.get Q b]
  have cW:p.f.cN[i].2.1=0:=R
  by_cases c:(il p.d.sec q).2=3
  .rw[if_pos c]
   have f:il p.d.sec q=(d_,3):=by
    have t:∀a:dG,(l3 a).2≠0->True:=λ_ _=>dM;rw[il]at c⊢;split
    .simp_all
    .rename_i g;rw[cS g]at c;grind
   have:=h.rel c8 cW (s':=p.d.sec) (P':=hZ P q d_) h.ef.rest h.ef.rm (λk d=>mZ _ _ d) (λ_ _ _ _=>Z) (by rw[j',if_pos (show d_.1=0 from Z)];exact f) (by rw[j'];simp_all) (by rw[j'];exact cY);rw[<-h.ef.d]at this;exact⟨Z,Z,this,Z,by show(p.f.cN.set i _).length=_;simp_all,Z,by simp,λg=>dN Z g⟩
  .rw[cS c,h.ef.d,d1,l,cS (show ¬((0:J)≠0) from λg=>g Z)];have:=h.rel c8 cW (s':=yV p.d.sec q) (P':=hZ P q d_) m (R0 h.ef.rest) (λk d=>mZ _ _ d) (λk k1 j n=>by rw[LJ h.ef.rest Q b k1 j,cS (λe=>n e.symm)]) (by rw[j',if_pos (show d_.1=0 from Z),LJ h.ef.rest Q b Q b,if_pos Z]) (by rw[j'];simp_all) (by rw[j'];exact cY);exact⟨Z,Z,this,Z,by show(p.f.cN.set i _).length=_;simp_all,by rw[h.ef.d];exact r,show(10:V) <=170 by decide,λg=>dN Z g⟩
def acP{ja}:∀ {d q P W v u l},fu q P W v u->d.Nodup->(∀id∈d,∃x∈q.f.dK,x.1=id)->
  ∃a b,oI ja d q l=(a,d_,l++b,0) /\fu a P W v u/\a.now=q.now/\a.f.cN.length=q.f.cN.length/\m0 q.d b=a.d/\b.length<=10*d.length/\ ∀x,x∈a.f.dK↔x∈q.f.dK/\x.1∉d
 | [],q,P,W,v,u,l,h,_,_=>⟨q,[],by rw[oI,qW],h,Z,Z,Z,dw,λx=>dw⟩
 |id::r,q,P,W,v,u,l,h,c0,cP=>by
  rw[tH]at c0;have⟨x,k,c⟩:=cP id (mK ..);have⟨i,c8⟩:=R1 h.ef.fm k;rw[c]at c8;obtain⟨n,rfl⟩:∃n:V,id=n:=⟨id.toNat,Bs⟩;have⟨p',eB,e,w,f,B,F,o⟩:=acG h c8 ⟨x,k,c⟩
  have m:∀y,y∈p'.f.dK↔y∈q.f.dK/\y.1≠(n:J):=λy=>by
   rw[f];show y∈q.f.dK.filter _↔_;simp_all
  have⟨E,el,t,z,C,p,G,s,H⟩:=acP (ja:=ja) (l:=l++eB) w c0.2 λA j=>by
   grind
  refine⟨E,eB++el,?_,z,C.trans B,by rw[p,f];rfl,by rw[DL,F,G],by grind,λy=>?_⟩
  .rw[oI,e,cS (show ¬((0:J)≠0) from λg=>g Z),t,j4]
  grind
def acQ{now g2}:∀ {l:I (J×J)},l.Pairwise (λa b=>a.1≠b.1)->(l.filterMap (Dt.vw now g2)).Nodup
 | [],_=>GN
 |x::r,h=>by
  rw[vg]at h;have i:=acQ (now:=now) (g2:=g2) h.2;rw[List.filterMap_cons];split
  .exact i
  .rename_i b e;rw[tH];refine⟨λm=>?_,i⟩;have⟨y,d,c⟩:=K0.1 m;rw[Dt.vw]at e c;grind
def asJ{l}(h:Dt.hm l=N)(now g2):(Dt.pa l now g2).Nodup:=by
 rw[Dt.pa];split
 .simp_all
 .exact acQ (Dt.GO.1 h).2.2.1
def acR{p P W v u}(h:fu p P W v u)(g2):qt p v u (P,W,d_,0) (ua p g2) /\ (0<=g2->∀x,x∈(ua p g2).1.f.dK↔x∈p.f.dK/\p.now-x.2<g2):=by
 have⟨q,m,e,f,j,o,r,n,d1⟩:=acP (ja:=p) (l:=[]) h (asJ h.ef.fm.dK p.now g2) λid i=>by
  have⟨_,t,c,_⟩:=Q6 i;grind
 have d:=Q7 (now:=p.now) (g2:=g2) h.ef.fm.dK;rw[ua,e];refine⟨⟨Z,Z,f,j,o,r,by grind,λg=>dN Z g⟩,λcW x=>?_⟩;simp only[];rw[d1];constructor
 .rintro⟨a,b⟩;refine⟨a,nA λg=>b ?_⟩;rw[Dt.pa,cS]
  .exact K0.2 ⟨x,a,by rw[Dt.vw,if_pos R]⟩
  .rintro (g|g|g)
   .omega
   .have:=h.ef.j3;omega
   .rw[h.ef.fm.dK]at g;cases g
 .rintro⟨a,b⟩;refine⟨a,λg=>?_⟩;have⟨_,t,c,k⟩:=Q6 g;have s1:=Dt.QA h.ef.fm.dK c;rw[Dt.QA h.ef.fm.dK (p:=x.1) (t:=x.2) a]at s1;grind
def fu.new{n}(Q:1<=n)(g:n<=8){s}(c:iT s)(z:s[0]?.getD fB=jN){P v u}(h:yW s [] P v)(d:0<=u):fu ⟨kZ n,⟨s,[]⟩,0⟩ P (λ_=>0) v u:=by
 have f:∀i (cK:i<(kZ n).cN.length),(kZ n).cN[i]=(0,0,L):=λi cK=>by
  have a:i<(eQ n ((0,0,L):gc)).length:=cK;show(eQ n ((0,0,L):gc))[i]'a=_;simp_all
 refine⟨⟨ey.new Q g,c,Z,z,T3,by simp_all,λx eE=>uH⟩,λq Q b=>.inr ⟨λi cK e=>?_,Z⟩,λq i c8=>?_,h,λq=>d⟩
 .grind
 .have e:=c8.cN;rw[f i c8.cK]at e;have e:=e;have:=c8.fD;omega
def yW.new{v}(cY:0<=v):yW (eQ 35 jN) [] (λ_=>d_) v:=
 ⟨λq _ h _=>by rw[LK h,if_pos (show d_.1=0 from Z)],λ_ _ _=>.inl Z,λ_=>cY,λq _ h=>.inl (LK h)⟩
def R_:(eQ 35 jN)[0]?.getD fB=jN:=by rfl
def ja(n:V):fJ:=⟨kZ n,iH,0⟩
def asK{n}(Q:1<=n)(a:n<=8):fu (ja n) (λ_=>d_) (λ_=>0) 1 0:=fu.new Q a RZ R_ (yW.new cZ) cZ
def qt.eq{p v u P' W x e r}(h:qt p v u (P',W,x,e) r):∃q l,r=(q,x,l,e) /\fu q P' W v u/\q.now=p.now/\q.f.cN.length=p.f.cN.length/\m0 p.d l=q.d/\l.length<=170/\ (e≠0->l=[]):=by have⟨q,y,l,f⟩:=r;have Q:=h.told;have a:=h.err;simp only at Q a;subst Q a;exact⟨q,l,Z,h.inv,h.now,h.len,h.run,h.asG,h.none⟩
def acS{n:V}:∀l s,(∀i,(h:i<s.length)->s[i].size=16)->(∀w∈l,w.2.size=16)->∀i,(h:i<(pE s l).length)->(pE s l)[i].size=16
 | [],s,a,_=>a
 |w::r,s,a,hw=>acS (n:=n) r (s.set w.1.toNat w.2) (λi h=>by
   grind) λx b=>hw x (.tail _ b)
def pD.sync{d}(h:pD d):pD ⟨pE d.sec d.fy,[]⟩:=by refine⟨by rw[GD];exact h.s1,by rw[GD];exact h.s2,eY _,acS (n:=0) _ _ h.s λw hw=>?_,λi cK=>dN cK (qc _)⟩;obtain⟨i,cK,rfl⟩:=kr.1 hw;exact(yz.1 (h.c i cK)).2.2
def asL{d}(h:pD d)(o):pD (o_ d o):=by
 rw[o_];split
 .rw[w3,if_pos h];exact h.sync
 .rw[q7];split
  .rename_i g;split
   .exact h
   .refine⟨h.s1,h.s2,by grind,h.s,λi cK=>?_⟩
    by_cases e:i<d.fy.length
    .rw[List.getElem_append_left e];exact h.c i e
    simp_all
  .exact h
def asM(d o):(o_ d o).sec.length=d.sec.length:=by
 rw[o_];split
 .rw[w3];split
  .exact GD ..
  .rfl
 .rw[q7];grind
def acT:∀(l:I lD) {d},iI d->iI (l.foldl o_ d)
 | [],_,h=>h|o::r,_,h=>acT r (⟨asL h.vt o,by rw[asM];exact h.n⟩)
def asN{d}(h:iI d)(l n):iI (vv d l n):=acT _ h
def acU{d}(h:iI d)(p s):iI (qd d p s).1:=by
 rw[qd];split
 .exact asN h _ _
 .exact h
def asO{d}(h:iI d)(x):iI (q9 d x).1:=by
 rw[q9];split
 .exact acU h _ _
 .exact h
def Ha{f}(h:ey f):∃w,j8 f.cN w:=by
 refine⟨λq=>if e:∃i,∃cK:i<f.cN.length,f.cN[i].1=(q:J) then(f.cN[e.choose]'e.choose_spec.choose).2.1 else 0,λq Q a=>?_⟩
 by_cases e:∃i,∃cK:i<f.cN.length,f.cN[i].1=(q:J)
 .left;refine⟨e.choose,e.choose_spec.choose,e.choose_spec.choose_spec,?_⟩;simp[FC e]
 .right;simp_all
def asP{f}(h:ey f)(id):ey (l5 f id).1:=by have⟨w,hw⟩:=Ha h;exact(oF.AI (a:=⟨1,id,0,fB,d_⟩) h hw Z).fm
def asQ{f}(h:ey f)(id):ey (mr f id).1:=by have⟨w,hw⟩:=Ha h;exact(oF.apm (a:=⟨2,id,0,fB,d_⟩) h hw Z).fm
def asR{f}(h:ey f)(id b n):ey (i0 f id b n).1:=by have⟨w,hw⟩:=Ha h;exact(oF.write (a:=⟨3,id,n,b,d_⟩) h hw Z).fm
def asS{f}(h:ey f)(id):ey (oE f id).1:=by have⟨w,hw⟩:=Ha h;exact(oF.drop (a:=⟨5,id,0,fB,d_⟩) h hw Z).fm
def asT{f}(h:ey f)(x n gl):ey (mW f x n gl).1:=by have⟨w,hw⟩:=Ha h;exact(oF.load (a:=⟨6,0,n,fB,x⟩) gl h hw Z).fm
structure gm(m:J)(p:fJ):Prop where
 fm:ey p.f
 us:iI p.d
 now:p.now=m
def gm.LM{m p}(h:gm m p)(id):gm m (i' p id).1:=by
 refine⟨Q5 h.fm id,?_,?_⟩
 .rw[i']
  repeat' split
  all_goals first|exact h.us|exact asO h.us _
 .rw[i']
  repeat' split
  all_goals exact h.now
def gm.room{m p}(h:gm m p):gm m ⟨(hA p.f).1,p.d,p.now⟩:=⟨KY h.fm,h.us,h.now⟩
def gm.acV{m}:∀n p l,gm m p->gm m (oH n p l).1/\ (oH n p l).2.1.length<=l.length+10*n
 |0,p,l,h=>⟨h,MB⟩
 |n+1,p,l,h=>by
  rw[oH];split
  .simp_all
  split
  .exact⟨h.room,MB⟩
  split
  .exact⟨h.room,MB⟩
  .have i:=gm.acV n _ (l++(i' ⟨(hA p.f).1,p.d,p.now⟩ (hA p.f).2.1.1).2.1) (h.room.LM (hA p.f).2.1.1);refine⟨i.1,?_⟩;have a:=i.2;have b:=KZ ⟨(hA p.f).1,p.d,p.now⟩ (hA p.f).2.1.1;rw[kv]at a;omega
def gm.make{m p}(h:gm m p):gm m (ky p).1/\ (ky p).2.1.length<=170:=by have:=gm.acV 17 p [] h;assumption
def xk(m:J)(r:s8):Prop:=gm m r.1/\r.2.2.1.length<=170
def gm.same{m p}(h:gm m p)(x e):xk m (p,x,[],e):=⟨h,eY _⟩
def gm.load{m p}(h:gm m p)(x gl):xk m (re p x gl):=by
 have⟨Q,a⟩:=h.make;rw[re];split
 .exact Q.same _ _
 split
 .exact Q.same _ _
 .exact⟨⟨asT Q.fm _ _ _,Q.us,Q.now⟩,a⟩
def gm.asU{m p}(h:gm m p)(id):xk m (r1 p id):=by
 rw[r1];split
 .split
  .exact h.same _ _
  .exact gm.same (p:=⟨(l5 p.f id).1,p.d,p.now⟩) ⟨asP h.fm _,h.us,h.now⟩ _ _
 split
 .exact h.same _ _
 .exact h.load _ _
def gm.create{m p}(h:gm m p)(id):xk m (r2 p id):=by
 rw[r2];split
 .exact h.same _ _
 split
 .exact h.load _ _
 split<;>exact h.same _ _
def gm.tail{m p q}(h:gm m p)(a:gm m q)(id):xk m (vC p q id):=by
 rw[vC];split
 .exact a.same _ _
 split
 .exact h.same _ _
 .exact⟨⟨a.fm,acU h.us _ _,a.now⟩,by
   show(sY p.d (id,0,fB)).length<=170;have:=Q4 p.d (id,0,fB)
   omega⟩
def gm.remove{m p}(h:gm m p)(id):xk m (xc p id):=by
 rw[xc];split
 .split
  .exact h.same _ _
  split
  .exact h.same _ _
  .exact h.tail (q:=⟨(oE p.f id).1,p.d,p.now⟩) ⟨asS h.fm _,h.us,h.now⟩ _
 split
 .exact h.same _ _
 .exact h.tail h _
def gm.flush{m p}(h:gm m p)(id):xk m (Dl p id):=by
 rw[Dl];split
 .split<;>exact h.same _ _
 split
 .exact h.same _ _
 split
 .exact h.same _ _
 .exact⟨h.LM id,fG (KZ p id) cZ⟩
def gm.oI {m p} (h:gm m p):∀ (ids:I J) {q:fJ} (l:I lD),gm m q->gm m (oI p ids q l).1/\ (oI p ids q l).2.2.1.length<=l.length+10*ids.length
 | [],q,l,a=>⟨a,by show l.length<=_;omega⟩
 |id::r,q,l,a=>by
  rw [Lk.oI]
  split
  ·exact ⟨h,eY _⟩
  ·have b:=gm.oI h r (l++(i' q id).2.1) (a.LM id);refine ⟨b.1,?_⟩;have c5:=b.2;have c:=KZ q id;rw [kv] at c5;show _<=l.length+10*(r.length+1);omega
def gm.g2{m p}(h:gm m p)(n):xk m (ua p n):=by have Q:=h.oI (Dt.pa p.f.dK p.now n) [] h;have a:=Q7 (now:=p.now) (g2:=n) h.fm.dK;refine⟨Q.1,?_⟩;have b:=Q.2;rw[ua];grind
def gm.pinned{m p}(h:gm m p)(a):gm m (nV p a).1:=by
 rw[nV];split
 .exact h
 split
 .split
  .exact h
  .exact⟨asR h.fm _ _ _,h.us,h.now⟩
 split
 .split
  .exact h
  .exact⟨asQ h.fm _,h.us,h.now⟩
 .exact h
def gm.act{m p}(h:gm m p)(a):xk m (hp p a):=by
 rw[hp]
 repeat' split
 .exact h.same _ _
 .exact h.same _ _
 .exact h.asU _
 .exact h.create _
 .exact h.remove _
 .exact h.flush _
 .exact h.g2 _
 .exact⟨h.pinned a,eY _⟩
def ey.jC{f}(h:ey f):1<=f.cN.length/\f.cN.length<=8:=⟨h.ij.one,h.ij.g1⟩
def ata(f id):(l5 f id).1.cN.length=f.cN.length:=by
 rw[l5];repeat' split
 all_goals first|rfl|simp[vz]
def atb(f id):(mr f id).1.cN.length=f.cN.length:=by
 rw[mr];repeat' split
 all_goals first|rfl|simp[vz]
def atc(f id b n):(i0 f id b n).1.cN.length=f.cN.length:=by rw[i0];grind
def atd(f id):(rc f id).1.cN.length=f.cN.length:=by rw[rc];grind
def ate(f id):(oE f id).1.cN.length=f.cN.length:=by
 rw[oE];repeat' split
 all_goals first|rfl|simp[mV]
def atf(f x n b):(mW f x n b).1.cN.length=f.cN.length:=by
 rw[mW];repeat' split
 all_goals first|rfl|simp[ms]
def atg{f}(h:ey f):(hA f).1.cN.length=f.cN.length:=by
 rcases Dj h with⟨i,cK,_,e⟩|⟨_,_,e⟩|⟨_,l,a,p,c8,s,A,_,e⟩
 .rw[e]
 .rw[e]
 .have b:l.length=f.cN.length:=by have⟨o,_⟩:=s.out;exact o
  rw[e];split
  .exact b
  .show(l.set _ _).length=_;simp_all
def Sd(p id):(i' p id).1.f.cN.length=p.f.cN.length:=by
 rw[i'];repeat' split
 all_goals first|rfl|exact atd _ _
def ac4{t}:∀n p l,gm t p->(oH n p l).1.f.cN.length=p.f.cN.length
 |0,p,l,_=>rfl
 |n+1,p,l,h=>by
  have r:=atg h.fm;rw[oH];split
  .rfl
  split
  .exact r
  split
  .exact r
  .rwa[ac4 n _ _ (h.room.LM _),Sd]
def Se{t p}(h:gm t p):(ky p).1.f.cN.length=p.f.cN.length:=ac4 17 p [] h
def ac5{t p}(h:gm t p)(x b):(re p x b).1.f.cN.length=p.f.cN.length:=by
 rw[re];repeat' split
 .exact Se h
 .exact Se h
 .exact(atf _ _ _ _).trans (Se h)
def ac6{t p}(O:gm t p):∀i q l,q.f.cN.length=p.f.cN.length->(oI p i q l).1.f.cN.length=p.f.cN.length
 | [],q,l,h=>h
 |id::r,q,l,h=>by
  rw[oI];split
  .rfl
  .exact ac6 O r _ _ ((Sd q id).trans h)
def ac7(p q id)(h:q.f.cN.length=p.f.cN.length):(vC p q id).1.f.cN.length=p.f.cN.length:=by rw[vC];grind
def LN{t p}(h:gm t p)(a):(hp p a).1.f.cN.length=p.f.cN.length:=by
 rw[hp];repeat' split
 .rfl
 .rfl
 .rw[r1];repeat' split
  all_goals first|rfl|exact ata _ _|exact ac5 h _ _
 .rw[r2];repeat' split
  all_goals first|rfl|exact ac5 h _ _
 .rw[xc];repeat' split
  all_goals first|rfl|exact ac7 _ _ _ (ate _ _)|exact ac7 _ _ _ Z
 .rw[Dl];repeat' split
  all_goals first|rfl|exact Sd _ _
 .exact ac6 h _ _ _ Z
 .rw[nV];repeat' split
  all_goals first|rfl|exact atc _ _ _ _|exact atb _ _
def gm.do{t p}(h:gm t p)(a):gm t (hp p a).1:=(h.act a).1
def Sw{s}(h:iT s)(z:s[0]?.getD fB=jN){n}(Q:1<=n)(a:n<=8):iQ ⟨s,[]⟩ n=(⟨kZ n.toNat,⟨s,[]⟩,0⟩,0):=by
 rw[iQ,cS,cS R,asv h z];rintro (g|g)
 .apply g;rw[qe,if_pos ⟨h.us,by decide,by decide⟩]
 simp_all
def G5 {cR:V} {l:I (I c3)} (h:gZ cR l=N) (n:V):gZ cR (l.drop n)=N:=by simp only [gZ,of] at h⊢;exact λx a=>h x (List.mem_of_mem_drop a)
def Lo {cR:V} {l:I (I c3)} (h:gZ cR l=N) (n:V):gZ cR (l.take n)=N:=by simp only [gZ,of] at h⊢;exact λx a=>h x (Lp a)
def aq2 {α:Type} {A a de B X Y:I α} {i m n:V} (c8:A.length=i) (b:de.length=m) (c:B.length=n-i) (cK:i<=n) (k:V) (c_:k=n+m):
  (((A++a).take i++(de++X)).take (i+m)++(B++Y)).take k=A++(de++B):=by
 have Q:(A++a).take i=A:=Ao c8
 have c5:(A++(de++X)).take (i+m)=A++de:=by rw [<-j4];exact Ao (by simp [c8,b])
 rw [Q,c5]
 have d:(A++de++(B++Y))=(A++(de++B))++Y:=by simp
 rw [d];exact Ao (by simp [c8,b,c,c_];omega)
def aq3 {α:Type} {cU de B Y:I α} {i m n:V} (e:n+m<=cU.length) (a:de.length=m) (b:B.length=n-i) (cK:i<=n) (k:V) (c_:k=n+m):
  ((cU.take (i+m)++(B++Y)).take i++(de++(cU.take (i+m)++(B++Y)).drop (i+m))).take k=cU.take i++(de++B):=by
 have Q:(cU.take (i+m)).length=i+m:=by rw [o5];omega
 have c5:(cU.take i).length=i:=by rw [o5];omega
 have c:(cU.take (i+m)++(B++Y)).take i=cU.take i:=by rw [aqG (by omega),List.take_take,Nat.min_eq_left (by omega)]
 have d:(cU.take (i+m)++(B++Y)).drop (i+m)=B++Y:=aq4 Q;rw [c,d]
 have du:cU.take i++(de++(B++Y))=(cU.take i++(de++B))++Y:=by simp
 rw [du];exact Ao (by simp [c5,a,b,c_];omega)
def abL {q:Prop} (h:q:=by
  apply PI AR 3 rfl (by kernel_rfl) (by rfl);refine ⟨fun cap Lg=>?_,fun cW=>?_⟩
  .have⟨cU,fL⟩:∃ cU,cU=l++List.replicate (cap-l.length) (List.replicate mY c3.mA):=⟨_,rfl⟩
   have DC:cU.length=cap:=by rw [fL];simp;omega
   have Lq:cU.take l.length=l:=by rw [fL];simp
   have abM:cU.take i=l.take i:=by rw [fL,List.take_append_of_le_length cK]
   rw [<-fL]
   conv=>whnf
   refine uQ (by omega) Lg (c7 ?_)
   refine pq (fun RG=>?_) (fun RG=>?_)<;>conv=>whnf
   .omega
   refine dF ?_
   refine pq (fun aq5=>?_) (fun aq5=>?_)<;>conv=>whnf
   .have aq6:i=l.length:=by omega
    subst aq6;refine dF ?_;refine fz O (cO ?_);refine ⟨fun ee=>?_,fun ee=>?_⟩
    .conv=>whnf
     refine fz (by omega) (cO ?_);refine Ai rfl rfl rfl ?_ ?_ rfl ⟨rfl,trivial⟩
     .simp;omega
     .rw [Nat.zero_add,Lq,<-List.append_assoc];rw [List.take_append_of_le_length (by simp)];rw [List.take_of_length_le (by simp)];simp
    .conv=>whnf
     refine fz (by omega) (cO ?_);refine Im (Nat.le_trans (Nat.mul_le_mul_right _ (by show l.length+vs.length<=1001000;omega)) (by decide)) (by omega) (cO ?_);refine Ai rfl rfl rfl ?_ ?_ rfl ⟨rfl,trivial⟩
     .simp [DC];omega
     .rw [List.drop_zero,Lq];rw [List.take_of_length_le (by simp)];simp
   .have ayd:i<l.length:=by omega
    refine dF ?_
    refine pq (fun aq7=>?_) (fun aq7=>?_)<;>conv=>whnf
    .refine BU (by simp;omega) (c7 ?_)
     have Rt:((l.length:Nat):Int)+((vs.length:Nat):Int)-(i:Int)=((l.length+vs.length-i:Nat):Int):=by omega
     rw [Rt];simp only [Int.toNat_natCast,Nat.sub_zero,Nat.zero_add];refine Im (Nat.le_trans (Nat.mul_le_mul_right _ (by show i+(l.length+vs.length-i) <=1001000;omega)) (by decide)) (by omega) (cO ?_);refine uQ (by omega) (by simp) (cO ?_);have em:Nat.min vs.length (i+(l.length+vs.length-i)-i)=vs.length:=Nat.min_eq_left (by omega);rw [em,List.take_length];refine fz ⟨by simp;omega,O⟩ (c7 ?_);refine uQ (by omega) (by simp) (cO ?_);refine uQ (by omega) Lg (cO ?_);refine fz (by omega) (cO ?_)
     have es:List.take (l.length-i) (List.drop (0+i) cU)=l.drop i:=by rw [Nat.zero_add,<-List.drop_take,Lq]
     rw [es];have aq8:Nat.min (l.drop i).length (i+(l.length+vs.length-i)-(i+vs.length))=(l.drop i).length:=Nat.min_eq_left (by rw [List.length_drop];omega);rw [aq8,List.take_length];refine fz ⟨by simp;omega,G5 RH i⟩ (c7 ?_);refine Ai rfl rfl rfl ?_ ?_ rfl ⟨rfl,trivial⟩
     .simp;omega
     .have uy:(cU.take i).length=i:=by rw [List.length_take];omega
      have sO:(l.take i).length=i:=by rw [List.length_take];omega
      have uI:(l.drop i).length=l.length-i:=List.length_drop ..
      simp only [List.drop_zero,Nat.zero_add,abM];exact aq2 sO rfl uI cK _ (by omega)
    .refine dF ?_;refine BU (by show l.length+vs.length<=cap;omega) (c7 ?_);refine uQ (by omega) (by show l.length+vs.length-0<=cap-0;omega) (cO ?_);refine ag6 (aq1 (t:=abN) (DD:=4) sQ AS (by kernel_rfl) (by kernel_rfl) (by kernel_rfl) (by kernel_rfl) rfl rfl rfl (by decide) (by intro e;rw [e] at RI;exact absurd RI (by decide)) (by omega) (by decide)) (c7 ?_);refine uQ (by omega) (by show l.length+vs.length-0<=cap-0;omega) (cO ?_);refine uQ (by omega) (by show l.length+vs.length-0<=cap-0;omega) (cO ?_);refine fz (by omega) (cO ?_)
     have es:(List.take (l.length+vs.length-0-i) (List.drop (0+0+i) cU)).length=l.length+vs.length-i:=by rw [List.length_take,List.length_drop];omega
     have em:Nat.min (List.take (l.length+vs.length-0-i) (List.drop (0+0+i) cU)).length (l.length+vs.length-0-(i+vs.length))=l.length-i:=by rw [es];exact (Nat.min_eq_right (by omega)).trans (by omega)
     rw [em]
     have aq9:List.take (l.length-i) (List.take (l.length+vs.length-0-i) (List.drop (0+0+i) cU))=l.drop i:=by rw [List.take_take,Nat.min_eq_left (by omega),show 0+0+i=i by omega,<-List.drop_take,Lq]
     rw [aq9];refine fz ⟨by omega,G5 RH i⟩ (c7 ?_);refine uQ (by omega) (by show l.length+vs.length-0<=cap-0;omega) (cO ?_);have ara:Nat.min vs.length (l.length+vs.length-0-i)=vs.length:=Nat.min_eq_left (by omega);rw [ara,List.take_length];refine fz ⟨by simp;omega,O⟩ (c7 ?_);refine Ai rfl rfl rfl ?_ ?_ rfl ⟨rfl,trivial⟩
     .simp;omega
     .have uy:(0:Nat)+0+i=i:=by omega
      have sO:(0:Nat)+0+(i+vs.length)=i+vs.length:=by omega
      have uI:(l.drop i).length=l.length-i:=List.length_drop ..
      rw [uy,sO,<-abM];exact aq3 (n:=l.length) (by omega) rfl uI cK _ (by omega)
  .conv=>whnf
   refine pW (by rw [cW] at cK;exact cK) (cO ?_)
   have arb:i=0:=by rw [cW] at cK;simpa using cK
   subst arb;refine dF ?_
   refine pq (fun RG=>?_) (fun RG=>?_)<;>conv=>whnf
   .omega
   refine dF ?_;refine fz O (cO ?_);refine Im (Nat.le_trans (Nat.mul_le_mul_right _ (by show vs.length<=1001000;omega)) (by decide)) (by omega) (cO ?_);subst cW;refine alh rfl rfl ?_ rfl ⟨rfl,trivial⟩;show some (d4.row vs mY false)=some (d4.row ([].take 0++(vs++[].drop 0)) mY false)
   simp):q:=h
namespace P9
abbrev mY:V:=1
abbrev abN:V:=96
abbrev AR:=Tryz.func272
abbrev AS:=Tryz.func303
end P9
section
open P9
def arc {l vs:I (I c3)} {i:V} (cK:i<=l.length) (dv:l.length<=1000000) (RI:0<vs.length) (cY:vs.length<=1000) (RH:gZ 1 l=N) (O:gZ 1 vs=N):
  vl cQ 272 l 1 [.d (.int .i64 i),.own 1000000] [(1000000,.row vs 1 L)] [(1000000,.row vs 1 L)] (l.take i++(vs++l.drop i)):=abL
end
def tb(w:V)(l:I V):V:=(l.takeWhile λx=>gy (x<w)).length
def Df{w:V}:∀ {l:I V} {i:V},i<=l.length->(∀j (dU:j<i) (dv:j<l.length),l[j]<w)->(∀(dv:i<l.length),¬l[i]<w)->tb w l=i
 | [],i,cK,_,_=>by simp at cK;subst cK;rfl
 |x::r,0,_,_,h=>by
  have:=h (abj _)
  rw[tb,Rc,decide_eq_false (by simpa using this)];rfl
 |x::r,i+1,cK,Q,c5=>by
  have a:x<w:=Q 0 (Nat.succ_pos _) (abj _);rw[tb,Rc,decide_eq_true a];show(List.takeWhile _ r).length+1=_
  congr 1
  refine Df (by simpa using cK) (λj dU dv=>?_) λdv=>?_
  .have:=Q (j+1) (by omega) (by simpa using dv);simpa using this
  .have:=c5 (by simpa using dv);simpa using this
def ard(w:V)(l:I V):nW w l=l.take (tb w l)++w::l.drop (tb w l):=by
 have e:l.takeWhile (λx=>gy (x<w))++l.dropWhile (λx=>gy (x<w))=l:=List.takeWhile_append_dropWhile
 have Q:l.take (tb w l)=l.takeWhile λx=>gy (x<w):=by
  have:=Ao (l₁:=l.takeWhile λx=>gy (x<w)) (l₂:=l.dropWhile λx=>gy (x<w)) Z
  rw[e]at this;exact this
 have c5:l.drop (tb w l)=l.dropWhile λx=>gy (x<w):=by
  have:=aq4 (l₁:=l.takeWhile λx=>gy (x<w)) (l₂:=l.dropWhile λx=>gy (x<w)) Z
  rw[e]at this;exact this
 rw[Q,c5];rfl
structure are (w:V) (l:I V) (s:V×V):Prop where
 le:s.1<=s.2
 n:s.2<=l.length
 dz:∀ j (dU:j<s.1) (dv:j<l.length),l[j]<w
 cK:∀ j (dU:s.2<=j) (dv:j<l.length),w<l[j]
def arf {a b:V}:Int.fdiv (((a:J)+(b:J))) (2^(min (1:J).toNat (PN .u64)))=(((a+b)/2:V):J):=by rw [show (2:J)^(min (1:J).toNat (PN .u64))=2 from Z,Ka _ (by decide)];omega
def arh (x:J):d0 cQ 302 [.int .i64 x] (.bool L):=by refine d5 Tryz.func302 1 Z (by kernel_rfl) (dk ?_);exact dg Z (by simp)
def ari(w:V)(l:I V)(m:l.Pairwise (·<·))(c0:w∉l)(dv:l.length<=1000)(hw:w<1000):d0 cQ 271 [.dm (l.map f1),.int .i64 w] (.dS [.int .i64 (tb w l),.bool L]):=by
 have d6:(l.map f1).length=l.length:=ec ..
 refine d5 Tryz.func271 2 Z (by kernel_rfl) (dk ?_);refine eW (D:=V×V) (λs=>[(0,.d (.dm (l.map f1))),(1,.d (.int .i64 w)),(6,.d (.int .i64 (l.map f1).length)),(7,.d (.int .i64 s.1)),(8,.d (.int .i64 s.2))]) (λ_=>[])
  (are w l) (λs=>s.2-s.1) (0,l.length) ⟨eY _,fi _,λj dU _=>dN dU (qc _),λj dU dv=>dN dU (by dsimp only;omega)⟩ (dX (dH ⟨Z,Z,Z,Z,by rw[<-d6];rfl,dM⟩ dM ⟨Z,Z,Z,Z⟩)) ?_
 rintro⟨i,j⟩ ⟨Q,c5,f,b⟩;simp only[]at Q c5 f b⊢
 conv=>whnf
 refine dT (λdu=>?_) λdu=>?_
 .refine dk ?_;refine md (by rw[IntKind.wrap_u64];omega) (dk ?_);rw[arf];refine dk ?_
  have c:(i+j)/2<l.length:=by omega
  refine ea (by omega) (cO ?_);refine d2 (x:=f1 l[(i+j)/2]) (by simp[c]) (dk ?_);refine df (aao _ _) (cO ?_)
  have o:l[(i+j)/2]≠w:=λe=>c0 (e▸hF c)
  refine dT (λdY=>?_) λdY=>?_
  .refine dk ?_;refine⟨((i+j)/2+1,j),⟨by dsimp only;omega,c5,λk c_ a=>?_,b⟩,by dsimp only;omega,(dX (dH ⟨Z,Z,Z,Z,Z,dM⟩ dM ⟨Z,Z,Z,Z⟩))⟩;dsimp only at c_;have:=yh.1 m k ((i+j)/2) a c
   rcases jr k ((i+j)/2) with g|g
   .have:=this g;omega
   .have:k=(i+j)/2:=by omega
    subst this;omega
  .refine dk ?_;refine⟨(i,(i+j)/2),⟨by dsimp only;omega,by dsimp only;omega,f,λk c_ a=>?_⟩,by dsimp only;omega,(dX (dH ⟨Z,Z,Z,Z,Z,dM⟩ dM ⟨Z,Z,Z,Z⟩))⟩;dsimp only at c_;have:=yh.1 m ((i+j)/2) k c a
   rcases jr ((i+j)/2) k with g|g
   .have:=this g;omega
   .have:k=(i+j)/2:=by omega
    subst this;omega
 .have n:i=j:=by omega
  subst n
  have O:=Df (w:=w) c5 (λk c_ a=>f k c_ a) λdv=>by have:=b i (fi _) dv;omega
  rw[O];refine dk ?_
  refine dT (λdY=>?_) λdY=>?_
  .have h:i<l.length:=by omega
   have:=b i (fi _) h;refine dk ?_;refine ea (by omega) (cO ?_);refine d2 (x:=f1 l[i]) (by simp[h]) (dk ?_);refine ea (by omega) (cO ?_);refine d2 (x:=f1 l[i]) (by simp[h]) (dk ?_);refine df (arh _) (dk ?_);exact dg Z Z
  .refine dk ?_;exact dg Z Z
def ri:I V->di->I (V×di)->I V
 |_,_,[]=>[]
 |c',ex,(w,x)::q=>if c'=[] \/ (ex=L/\x=L) then w::ri (nW w c') (ex||x) q else []
def abO:∀q h e,(ri h e q).length<=q.length
 | [],_,_=>fi _
 |(w,x)::q,h,e=>by
  rw[ri];split
  .have:=abO q (nW w h) (e||x);simp;omega
  simp_all
structure arj(RJ:I V)(abP:di)(tV:I (V×di))(s:I V×di×I (V×di)×I V):Prop where
 up:s.1.Pairwise (·<·)
 eO:(s.1++s.2.2.1.map (·.1)).Nodup
 lt:∀w∈s.1++s.2.2.1.map (·.1),w<4
 len:s.1.length+s.2.2.1.length=RJ.length+tV.length
 aqU:s.2.2.2.length+s.2.2.1.length=tV.length
 eq:r4 s.1 s.2.1 s.2.2.1=r4 RJ abP tV
 aye:s.2.2.2++ri s.1 s.2.1 s.2.2.1=ri RJ abP tV
def abQ{h e x w q}:AV ⟨h,e,(w,x)::q⟩=N↔(h=[] \/ (e=L/\x=L)):=by rw[AV];grind
def abR(l)(cM:l.c'.length+l.q.length<=5)(E:l.c'.Pairwise (·<·))(cP:(l.c'++l.q.map (·.1)).Nodup)(p:∀w∈l.c'++l.q.map (·.1),w<4):
  d0 cQ 207 [vD l] (.dS [vD (r4 l.c' l.ex l.q),.dm ((ri l.c' l.ex l.q).map f1)]):=by
 have⟨k,m,H⟩:=l;simp only[]at cM E cP p⊢;refine d5 Tryz.func207 1 Z cV (dk ?_);refine gT (G3 (G4 k) hN) (dk ?_);refine eW (D:=I V×di×I (V×di)×I V) (λs=>[(1,.ptr 1 0 0),(2,.ptr 2 0 0),(4,.own 45)]) (λs=>[(1,.box [.own 10,.d (.bool s.2.1),.d (.dm (s.2.2.1.map ik))] L),(2,.box [.nil,.d (.bool L),.nil] L),(10,.row (s.1.map f1) 1 L),(45,.row (s.2.2.2.map f1) 1 L)])
  (arj k m H) (λs=>s.2.2.1.length) (k,m,H,[]) ⟨E,cP,p,Z,mM _,Z,Z⟩ (nd (.row 4 45 1) g_ (dH eJ ff dV)) ?_
 rintro⟨c,v,q,n7⟩ ⟨A,B,F,G,J,d,f⟩;simp only[]at A B F G J d f⊢;refine dk ?_;refine df (RA ⟨c,v,q⟩) (cO ?_)
 cases q with
 |nil=>rw[AV];refine dk ?_;rw[r4]at d;rw[ri,qW]at f;rw[<-d,<-f];exact dg Z Z
 |cons P q=>
  have⟨w,x⟩:=P
  cases g:AV ⟨c,v,(w,x)::q⟩ with
  |false=>
   have n:¬(c=[] \/ (v=L/\x=L)):=λh=>by rw[abQ.2 h]at g;cases g
   rw[r4,cS n]at d;rw[ri,cS n,qW]at f;rw[<-d,<-f];refine dk ?_;exact dg Z Z
  |true=>
   have n:=abQ.1 g;rw[r4,if_pos n]at d;rw[ri,if_pos n]at f;have z:=F w dw
   have o:=λh=>by
    have:=(pH.1 B).2.2 w h w dw;exact this Z
   have es:((((w,x)::q).map ik).take (((w,x)::q).map ik).length).drop 1=q.map ik:=My;simp at G J
   have M:(c.map f1).length=c.length:=ec ..
   have dc:(n7.map f1).length=n7.length:=ec ..
   have O:tb w c<=c.length:=(List.takeWhile_sublist _).length_le
   have C:(nW w c).map f1=(c.map f1).take (tb w c)++([f1 w]++(c.map f1).drop (tb w c)):=by rw[ard,jl,kS,yg,ark];rfl
   have u:=K7 A o;have K:=K6 w c
   have r:(nW w c++q.map (·.1)).Nodup:=by
    refine pH.2 ⟨?_,((pH.1 B).2.1.sublist (List.sublist_cons_self _ _)),λa dh b db=>?_⟩
    .exact List.nodup_iff_pairwise_ne.2 (u.imp λh=>Nat.ne_of_lt h)
    .rcases yL.1 dh with rfl|h
     .grind
     grind
   have t:∀y∈nW w c++q.map (·.1),y<4:=λy Q=>by
    rcases iY.1 Q with h|h
    .rcases yL.1 h with rfl|h
     .exact z
     simp_all
    simp_all
   refine dk ?_;refine ea (i:=0) dw (cO ?_);refine d2 (x:=ik (w,x)) Z (dk ?_);refine fz (λe cX=>Ry cX) (cO ?_);refine pW (l:=1) dw (dk ?_);refine df (ari w c A o R R) (dk ?_);refine wU (arc (l:=c.map f1) (vs:=[f1 w]) (i:=tb w c) R R (arl 0) dw (G4 c) Z) [(1000000,35)] Z lO Z (dk ?_)
   refine hV (λj=>?_) λj=>?_
   .refine dk ?_;refine fO 1000 100 Mz cZ cZ cZ (cO ?_);have j:=j;subst j;rw[abS]at d f;refine⟨(nW w c,N,q,n7++[w]),⟨u,r,t,Bp,HH,d,by rw[<-f];simp⟩,by dsimp only;simp_all,nd (.B5 1 1 (.d (.bool N))) ⟨⟨_,Z,Fl⟩,Z⟩ (dH eJ ⟨by rw[<-es];rfl,Z,by rw[C];rfl,xw,dM⟩ dV)⟩
   .refine dk ?_;refine fO 1000 100 Mz cZ cZ cZ (cO ?_);have j:=j;subst j;rw[abT]at d f;refine⟨(nW w c,v,q,n7++[w]),⟨u,r,t,Bp,HH,d,by rw[<-f];simp⟩,by dsimp only;simp_all,dX (dH eJ ⟨by rw[<-es];rfl,Z,by rw[C];rfl,xw,dM⟩ dV)⟩
def arn(l)(o:rf l)(w x)(hw:w<4)(c0:w∉l.c'++l.q.map (·.1))(n:l.c'.length+l.q.length<=3):
  ∃b,d0 cQ 149 [vD l,w,.bool x] (.dS [vD (uc l w x),.bool b,.int .i64 0]):=by
 have c:=AU (w:J) l.c' R;rw[RE λg=>c0 (ot _ g)]at c;have t:=Rz (w:J) l.q R;rw[RF λg=>c0 (pz _ g)]at t
 have m:(l.c'.map f1).length=l.c'.length:=ec ..
 have q:(l.q.map ik).length=l.q.length:=ec ..
 have d:d0 cQ 207 [.agg [.dm (l.c'.map f1),.bool l.ex,.dm (l.q.map ik++[ik (w,x)])]] (.dS [vD (uc l w x),.dm ((ri l.c' l.ex (l.q++[(w,x)])).map f1)]):=by
  have:=abR ⟨l.c',l.ex,l.q++[(w,x)]⟩ (by simp;omega) o.up
   (by
    rw[jl,<-j4]
    exact pH.2 ⟨o.eO,dw,λa j b k e=>c0 eM⟩)
   (by
    rw[jl,<-j4];intro y f;rcases iY.1 f with h|h
    .exact o.lt y h
    simp_all)
  have e:(l.q++[(w,x)]).map ik=l.q.map ik++[ik (w,x)]:=xw;rwa[<-e]
 have i:=abO (l.q++[(w,x)]) l.c' l.ex;rw[kv,Rr]at i;refine⟨gy (0<=fQ (ll w) (ri l.c' l.ex (l.q++[(w,x)])) 0),d5 Tryz.func149 3 Z cV (dk ?_)⟩;refine df (Ln l o) (dk ?_);refine df c (dk ?_);refine df t (dk ?_);refine gT (Ro (Lm l.q) R) (dk ?_);refine fO 1000 100 (by show(l.q.map ik).length+1<=1000;omega) cZ cZ cZ (dk ?_);refine df d (dk ?_);refine df (AU (w:J) (ri l.c' l.ex (l.q++[(w,x)])) R) (dk ?_);exact dg Z Z
def aro(l)(o:rf l)(w)(c9:w∈l.c'):
 ∃n7:I V,d0 cQ 156 [vD l,w] (.dS [vD (r5 l w),.dm (n7.map f1),.int .i64 0]):=by
 have i:=o.len;have dj:=AU (w:J) l.c' R
 have f:decide (0<=fQ (ll w) l.c' 0)=N:=by
  rw[GL,La,xf];exact⟨w,c9,by simp[ll]⟩
 rw[f]at dj;have a:=Nn.AT 213 [.ix [w] 0] (ll w) (λc=>by refine d5 Tryz.func213 2 Z cV (dk ?_);rfl) l.c' R;have b:=Wt.AT 215 [.ix [w] 0] (nZ w) (λc=>by refine d5 Tryz.func215 2 Z cV (dk ?_);rfl) l.q R;rw[abI]at a;rw[abH]at b;have eB:=Db (λc:V=>c !=w) l.c';have el:=Db (λc:V×di=>c.1 !=w) l.q
 have j:(l.c'.map f1).length=l.c'.length:=ec ..
 have m:(l.q.map ik).length=l.q.length:=ec ..
 have sub:(l.c'.filter (λx=>x !=w)++(l.q.filter λx=>x.1 !=w).map (·.1)).Sublist (l.c'++l.q.map (·.1)):=apZ (Dx) ((Dx).map _)
 have he:=λex=>abR ⟨l.c'.filter λx=>x !=w,ex,l.q.filter λx=>x.1 !=w⟩ hN (o.up.sublist Dx) (o.eO.sublist sub) (λy h=>o.lt y (sub.mem h))
 by_cases g:(l.c'.filter λx=>x !=w)=[]
 .refine⟨ri (l.c'.filter λx=>x !=w) L (l.q.filter λx=>x.1 !=w),?_⟩;have he:=he L
  have d:r5 l w=r4 (l.c'.filter λx=>x !=w) L (l.q.filter λx=>x.1 !=w):=by rw[r5,if_pos g]
  rw[d];refine d5 arp 2 Z cV (dk ?_);refine df (Ln l o) (dk ?_);refine df dj (dk ?_);refine gT (G3 (G4 l.c') R) (dk ?_);refine wU a [] Z ez Z (dk ?_);refine gT (Ro (Lm l.q) R) (dk ?_);refine wU b [] Z ez Z (dk ?_);refine sA (by rw[g];rfl) (dk ?_);refine df he (dk ?_);exact dg Z Z
 .refine⟨ri (l.c'.filter λx=>x !=w) l.ex (l.q.filter λx=>x.1 !=w),?_⟩;have he:=he l.ex
  have d:r5 l w=r4 (l.c'.filter λx=>x !=w) l.ex (l.q.filter λx=>x.1 !=w):=by rw[r5,cS g]
  rw[d];refine d5 arp 2 Z cV (dk ?_);refine df (Ln l o) (dk ?_);refine df dj (dk ?_);refine gT (G3 (G4 l.c') R) (dk ?_);refine wU a [] Z ez Z (dk ?_);refine gT (Ro (Lm l.q) R) (dk ?_);refine wU b [] Z ez Z (dk ?_);refine wp (by rw[Jg,ec];exact λe=>g (List.length_eq_zero_iff.1 R)) (dk ?_);refine df he (dk ?_);exact dg Z Z
def abU{dd:V->dp}{O:V->dB d4}{s:I ResultVar}{l}{cR t b n:V}{c r}(Q:s=[.tmp t])(h:dd t=.win b 0 n c)(a:O b=U (.row r cR L))(d:n<=r.length)(du:r.take n=l):
  ∃t,s=[.tmp t] /\ ((∃b r n p,dd t=.win b 0 n p/\O b=U (.row r cR L) /\n<=r.length/\r.take n=l) \/ (dd t=.nil/\l=[])):=
 ⟨t,Q,.inl ⟨b,r,n,c,h,a,d,du⟩⟩
def ars(n:V)(c0:n<=1000)(O t):rB cQ 276 [.nil,.d n] O ⟨.own t,[(t,.row [] 4 L)],U t⟩:=by
 refine YG Tryz.func276 2 Z cV Z ?_ O t
 conv=>whnf
 refine dk ?_
 refine dT (λg=>?_) λg=>?_
 .refine dk ?_;refine oV (h:=0) R (dk ?_);refine fO 1000 100 R cZ cZ cZ (dk ?_);refine BU (h:=0) R (dk ?_);exact abU Z Z Z (eY _) Z
 .refine dk ?_;exact⟨4,Z,.inr g_⟩
def art(n:V)(c0:n<=1000)(O t):rB cQ 224 [.nil,.d n] O ⟨.own t,[(t,.row [] 5 L)],U t⟩:=by
 refine YG Tryz.func224 2 Z cV Z ?_ O t
 conv=>whnf
 refine dk ?_
 refine dT (λg=>?_) λg=>?_
 .refine dk ?_;refine oV (h:=0) R (dk ?_);refine fO 1000 100 R cZ cZ cZ (dk ?_);refine BU (h:=0) R (dk ?_);exact abU Z Z Z (eY _) Z
 .refine dk ?_;exact⟨4,Z,.inr g_⟩
def n0(l:I (I c3)):I c3:=[.dm l]
def nn(ls:I (I (I c3))):V:=ls.flatten.length
def Lr{ls:I (I (I c3))}{k}(h:k<ls.length):nn (ls.take (k+1))=nn (ls.take k)+ls[k].length:=by rw[nn,nn,mb h,RK,kv,List.flatten_cons,List.flatten_nil,qW]
def Ls{ls k}:nn (ls.take k) <=nn ls:=by
 rw[nn,nn]
 conv=>rhs;rw[<-JB k ls,RK,kv]
 omega
def aru(ls)(o:∀l∈ls,gZ 4 l=N)(i:ls.length<=1000)(f:nn ls<=1000):kg cQ 220 [.dm (ls.map n0)] ls.flatten 4:=by
 apply lZ Tryz.func220 1 Z cV
 have m:(ls.map n0).length=ls.length:=ec ..
 refine dk ?_;refine eW (D:=V) (λk=>[(0,.d (.dm (ls.map n0))),(3,.d (nn (ls.take k))),(9,.d (.dm (ls.map n0))),(10,.d (ls.map n0).length),(11,.d k)]) (λ_=>[])
  (λk=>k<=ls.length) (λk=>ls.length-k) 0 (eY _) (dX (dH gO dM dV)) ?_
 intro k g
 conv=>whnf
 refine dT (λdu=>?_) λdu=>?_
 .have a:k<ls.length:=R
  have e:=Lr a;have c:=Ls (ls:=ls) (k:=k+1);refine ea R (cO ?_);refine d2 (x:=n0 ls[k]) (by simp[a]) (dk ?_);rw[show((nn (ls.take k):V):J)+((ls[k].length:V):J)=((nn (ls.take (k+1)):V):J) by omega];refine dk ?_;exact⟨k+1,by omega,by omega,(dX (dH gO dM dV))⟩
 have b:k=ls.length:=R
 subst b;rw[rW];refine dk ?_;refine Iq (ars (nn ls) f _ 24) (dk ?_);refine eW (D:=V) (λk=>[(6,.own 24),(25,.d (.dm (ls.map n0))),(26,.d (ls.map n0).length),(27,.d k)]) (λk=>[(24,.row (ls.take k).flatten 4 L)])
  (λk=>k<=ls.length) (λk=>ls.length-k) 0 (eY _) (dX (dH ff ez dV)) ?_
 intro k g
 conv=>whnf
 refine dT (λdY=>?_) λdY=>?_
 .have a:k<ls.length:=R
  have e:=Lr a;have c:=Ls (ls:=ls) (k:=k+1)
  have d:(ls.take (k+1)).flatten=(ls.take k).flatten++ls[k]:=by rw[mb a,RK];simp
  refine ea R (cO ?_);refine d2 (x:=n0 ls[k]) (by simp[a]) (dk ?_);refine fz (o _ (hF a)) (cO ?_);refine fO 1000 100 (by rw[<-kv,<-d];exact fG c f) cZ cZ cZ (dk ?_);exact⟨k+1,by omega,by omega,dX (dH ff ⟨by rw[d];rfl,dM⟩ dV)⟩
 .have b:k=ls.length:=R
  subst b;rw[rW];refine dk ?_;exact⟨2,Z,.inl ⟨24,Z,Z⟩⟩
def arv(ls)(o:∀l∈ls,gZ 5 l=N)(i:ls.length<=1000)(f:nn ls<=1000):kg cQ 159 [.dm (ls.map n0)] ls.flatten 5:=by
 apply lZ Tryz.func159 1 Z cV
 have m:(ls.map n0).length=ls.length:=ec ..
 refine dk ?_;refine eW (D:=V) (λk=>[(0,.d (.dm (ls.map n0))),(3,.d (nn (ls.take k))),(9,.d (.dm (ls.map n0))),(10,.d (ls.map n0).length),(11,.d k)]) (λ_=>[])
  (λk=>k<=ls.length) (λk=>ls.length-k) 0 (eY _) (dX (dH gO dM dV)) ?_
 intro k g
 conv=>whnf
 refine dT (λdu=>?_) λdu=>?_
 .have a:k<ls.length:=R
  have e:=Lr a;have c:=Ls (ls:=ls) (k:=k+1);refine ea R (cO ?_);refine d2 (x:=n0 ls[k]) (by simp[a]) (dk ?_);rw[show((nn (ls.take k):V):J)+((ls[k].length:V):J)=((nn (ls.take (k+1)):V):J) by omega];refine dk ?_;exact⟨k+1,by omega,by omega,(dX (dH gO dM dV))⟩
 have b:k=ls.length:=R
 subst b;rw[rW];refine dk ?_;refine Iq (art (nn ls) f _ 24) (dk ?_);refine eW (D:=V) (λk=>[(6,.own 24),(25,.d (.dm (ls.map n0))),(26,.d (ls.map n0).length),(27,.d k)]) (λk=>[(24,.row (ls.take k).flatten 5 L)])
  (λk=>k<=ls.length) (λk=>ls.length-k) 0 (eY _) (dX (dH ff ez dV)) ?_
 intro k g
 conv=>whnf
 refine dT (λdY=>?_) λdY=>?_
 .have a:k<ls.length:=R
  have e:=Lr a;have c:=Ls (ls:=ls) (k:=k+1)
  have d:(ls.take (k+1)).flatten=(ls.take k).flatten++ls[k]:=by rw[mb a,RK];simp
  refine ea R (cO ?_);refine d2 (x:=n0 ls[k]) (by simp[a]) (dk ?_);refine fz (o _ (hF a)) (cO ?_);refine fO 1000 100 (by rw[<-kv,<-d];exact fG c f) cZ cZ cZ (dk ?_);exact⟨k+1,by omega,by omega,dX (dH ff ⟨by rw[d];rfl,dM⟩ dV)⟩
 .have b:k=ls.length:=R
  subst b;rw[rW];refine dk ?_;exact⟨2,Z,.inl ⟨24,Z,Z⟩⟩
structure Lt(fr:V)(jC:I mu):Prop where
 len:jC.length<=4
 oa:fr<=2147483647
 up:(jC.map (·.kJ)).Pairwise (·<·)
 lt:∀f∈jC,f.kJ<fr/\1<=f.dJ/\f.dJ<=16
def AW(fr:V)(jC:I mu)(d:gA):I c3:=[.dm (d.sec.map hW),.dm (d.fy.map fs),fr,.dm (jC.map lG)]
def Lu:∀(l:I mu),gZ 4 (l.map lG)=N
 | []=>rfl|_::r=>Lu r
def Lv:∀(l:I mu),gZ 5 (l.map jm)=N
 | []=>rfl|_::r=>Lv r
def abV{l:I mu}{e}(h:e∈l.map lG):e.length=4:=by obtain⟨x,_,rfl⟩:=is.1 h;rfl
def DF{l:I mu}{e}(h:e∈l.map jm):e.length=5:=by obtain⟨x,_,rfl⟩:=is.1 h;rfl
def abW(p)(Q:1<=p)(a:p<=16):d0 cQ 177 [.int .i64 1,.int .i64 p,.str fB] (.bool N):=by refine d5 Tryz.func177 3 Z cV (dk ?_);apply dg Z;simp;rfl
def Lw(fr f d)(o:Lt fr f)(h:iI d):d0 cQ 132 [.agg (AW fr f d)] (.bool N):=by
 have e:=o.len;have n:=o.oa;have c0:=h.n
 have i:(f.map lG).length=f.length:=ec ..
 have m:(d.sec.map hW).length=d.sec.length:=ec ..
 have t:(f.map (·.kJ)).length=f.length:=ec ..
 have r:=GC d;rw[Ax.2 h.vt]at r;refine d5 Tryz.func132 1 Z cV (dk ?_);refine df r (dk ?_);refine eW (D:=V) (λk=>[(1,.ptr 1 0 0),(3,.d (yR (f.map (·.kJ)) k)),(32,.d (.dm (f.map lG))),(33,.d (f.map lG).length),(34,.d k)]) (λ_=>[(1,.box ((AW fr f d).map dp.d) L)])
  (λk=>k<=f.length) (λk=>f.length-k) 0 (eY _) (dX (dH gO ez dV)) ?_
 intro k c
 conv=>whnf
 refine dT (λdu=>?_) λdu=>?_
 .have eR:k<f.length:=R
  have a:=RC o.up (k:=k) R;have s:=RD (l:=f.map (·.kJ)) (k:=k) R;rw[Kn]at a s;have⟨dI,g,b⟩:=o.lt f[k] (hF eR);refine ea R (cO ?_);refine d2 (x:=lG f[k]) iJ (c7 ?_);refine dk ?_;refine df (abW f[k].dJ g b) (dk ?_);exact⟨k+1,R,R,dX (dH ⟨Z,by rw[s];rfl,Z,Z,Z,dM⟩ ez dV)⟩
 rfl
def abX(fr f d)(o:Lt fr f)(b:iI d)(p w t)(Q:1<=p)(a:p<=16)(l:f.length<4)(c0:fr<2147483647):
  d0 cQ 139 [.agg (AW fr f d),.int .i64 1,.int .i64 p,.str fB] (.dS [.agg (AW (fr+1) (f++[(⟨fr,w,p,t⟩:mu)]) d),.int .i64 fr,.int .i64 0]):=by
 have m:(f.map lG).length=f.length:=ec ..
 refine d5 Tryz.func139 4 Z cV (dk ?_);refine df (Lw fr f d o b) (dk ?_);refine df (abW p Q a) (dk ?_);refine gT (aqC (Lu f) R) (dk ?_);refine fO 1000 100 (by show(f.map lG).length+1<=1000;omega) cZ cZ cZ (dk ?_);apply dg Z;show _=c3.dS [c3.agg [.dm (d.sec.map hW),.dm (d.fy.map fs),.int .i64 ((fr+1:V):J),.dm ((f++[(⟨fr,w,p,t⟩:mu)]).map lG)],.int .i64 fr,.int .i64 0];rw[jl];rfl
def abY(p)(Q:1<=p)(a:p<=16):d0 cQ 221 [.int .i64 p] (.int .i64 (2*p+1)):=by refine d5 Tryz.func221 1 Z cV (dk ?_);rfl
def arw(d:gA)(f:mu)(a:di):I c3:=[f.kJ,.int .i64 1,f.dJ,.str (bif a then fB else(q8 d (2*f.dJ+1)).1++(q8 d (2*f.dJ+1+1)).1)]
def abZ{d}(a:iI d)(n):(q8 d n).1.size<=16:=by
 rw[q8];split
 .rename_i h;rw[Qr a.vt h.2.1 h.2.2];decide
 .decide
def RL(enc:mu->I c3)(f:I mu)(i):[(((f.map enc).take i).drop 0),(((f.map enc).take (f.map enc).length).drop (i+1))].flatten=(f.eraseIdx i).map enc:=by rw[List.eraseIdx_eq_take_drop_succ,rW];simp_all
def ab0(enc)(f:I mu)(i):nn [(((f.map enc).take i).drop 0),(((f.map enc).take (f.map enc).length).drop (i+1))] <=f.length:=by rw[nn,RL,ec];grind
def RM(fr f d)(o:Lt fr f)(h:iI d)(i)(cK:i<f.length)(a):
  d0 cQ 158 [.agg (AW fr f d),i,.bool a] (.dS [.agg (AW fr (f.eraseIdx i) d),.agg (arw d f[i] a),.int .i64 (if a=N then 8 else 0)]):=by
 have u:(f.map lG).length=f.length:=ec ..
 have q:=o.len
 have t:(f.map lG)[i]?=U (lG f[i]):=by rw[ir,fq cK];rfl
 have⟨dI,j,k⟩:=o.lt f[i] (hF cK)
 have m:=aru [(((f.map lG).take i).drop 0),(((f.map lG).take (f.map lG).length).drop (i+1))] (λl n=>by
  simp at n;rcases n with rfl|rfl
  .exact Lo (Lu f) _
  .exact G5 (Lo (Lu f) _) _) dw (fG (ab0 lG f i) R)
 rw[RL]at m;have b:=Az d (2*f[i].dJ+1);have c:=Az d (2*f[i].dJ+1+1);refine d5 Tryz.func158 3 Z cV (dk ?_);refine df (Lw fr f d o h) (dk ?_);refine eH ?_;refine fz (λe g=>abV g) (cO ?_);refine oV R (dk ?_);refine fz (λe g=>abV g) (cO ?_);refine pW (l:=i+1) R (dk ?_);refine gT m (cO ?_)
 cases a with|true=>refine dk ?_;exact dg Z Z|false=>refine dk ?_;refine df (abY f[i].dJ j k) (dk ?_);refine df b (dk ?_);refine df (abY f[i].dJ j k) (dk ?_);refine df c (dk ?_);have r:=abZ h (2*f[i].dJ+1);have s:=abZ h (2*f[i].dJ+1+1);refine eH ?_;exact dg Z Z
abbrev n1:=dB J
def k3:n1->I (I c3)
 |none=>[]
 |some _=>[[.int .i64 2]]
def arx(j:n1):hd j=[.int .i64 1,.int .i64 0,.dm (k3 j)]:=by cases j<;>rfl
def ab1(j):(k3 j).length<=1:=by cases j<;>simp[k3]
def RN:∀(l:I n1),gZ 3 (l.map hd)=N
 | []=>rfl
 |x::r=>by
  have:=RN r;assumption
def sa(DG:I n1)(at':V)(g:di):I c3:=[.dm (DG.map hd),at',.bool g]
def ab2{j:I n1}{k}(h:k<j.length):(j.map hd)[k]?=U [.int .i64 1,.int .i64 0,.dm (k3 j[k])]:=by rw[ir,fq h,<-arx];rfl
def Lx{j q}(h:q<(k3 j).length):(k3 j)[q]?=U [.int .i64 2]:=by
 cases j with|none=>simp[k3]at h|some x=>simp[k3]at h;subst h;rfl
def Ly(j a g)(Q:1<=j.length)(n:j.length<=4)(e:a<j.length):d0 cQ 182 [.agg (sa j a g)] (.bool N):=by
 have m:(j.map hd).length=j.length:=ec ..
 refine d5 Tryz.func182 1 Z cV (dk ?_);refine eW (D:=V) (λk=>[(1,.ptr 1 0 0),(32,.d (.dm (j.map hd))),(33,.d (j.map hd).length),(34,.d k)]) (λ_=>[(1,.box ((sa j a g).map dp.d) L)])
  (λk=>k<=j.length) (λk=>j.length-k) 0 (eY _) (dX (dH ff ez dV)) ?_
 intro k f
 conv=>whnf
 refine dT (λdu=>?_) λdu=>?_
 .have c:k<j.length:=R
  have l:=ab1 j[k];refine ea R (cO ?_);refine d2 (ab2 c) (dk ?_)
  refine dT (λh=>?_) λh=>?_
  .refine dk ?_
   refine hV (λi=>?_) λi=>?_
   .refine dk ?_;refine eW (D:=V) (λq=>[(1,.ptr 1 0 0),(32,.d (.dm (j.map hd))),(33,.d (j.map hd).length),(34,.d k),(71,.d (.dm (k3 j[k]))),(72,.d (k3 j[k]).length),(73,.d q)]) (λ_=>[(1,.box ((sa j a g).map dp.d) L)])
     (λq=>q<= (k3 j[k]).length) (λq=>(k3 j[k]).length-q) 0 (eY _) (dX (dH v9 ez dV)) ?_
    intro q d
    conv=>whnf
    refine dT (λdY=>?_) λdY=>?_
    .have b:q<(k3 j[k]).length:=R
     refine ea R (cO ?_);refine d2 (x:=[.int .i64 2]) (Lx b) (dk ?_);exact⟨q+1,R,R,(dX (dH v9 ez dV))⟩
    .refine dk ?_;exact⟨k+1,R,R,(dX (dH ff ez dV))⟩
   .refine dk ?_;refine eW (D:=V) (λq=>[(1,.ptr 1 0 0),(32,.d (.dm (j.map hd))),(33,.d (j.map hd).length),(34,.d k),(71,.d (.dm (k3 j[k]))),(72,.d (k3 j[k]).length),(73,.d q)]) (λ_=>[(1,.box ((sa j a g).map dp.d) L)])
     (λq=>q<= (k3 j[k]).length) (λq=>(k3 j[k]).length-q) 0 (eY _) (dX (dH v9 ez dV)) ?_
    intro q d
    conv=>whnf
    refine dT (λdY=>?_) λdY=>?_
    .have b:q<(k3 j[k]).length:=R
     refine ea R (cO ?_);refine d2 (x:=[.int .i64 2]) (Lx b) (dk ?_);exact⟨q+1,R,R,(dX (dH v9 ez dV))⟩
    .refine dk ?_;exact⟨k+1,R,R,(dX (dH ff ez dV))⟩
  .refine dk ?_;refine eW (D:=V) (λq=>[(1,.ptr 1 0 0),(32,.d (.dm (j.map hd))),(33,.d (j.map hd).length),(34,.d k),(71,.d (.dm (k3 j[k]))),(72,.d (k3 j[k]).length),(73,.d q)]) (λ_=>[(1,.box ((sa j a g).map dp.d) L)])
    (λq=>q<= (k3 j[k]).length) (λq=>(k3 j[k]).length-q) 0 (eY _) (dX (dH v9 ez dV)) ?_
   intro q d
   conv=>whnf
   refine dT (λdY=>?_) λdY=>?_
   .have b:q<(k3 j[k]).length:=R
    refine ea R (cO ?_);refine d2 (x:=[.int .i64 2]) (Lx b) (dk ?_);exact⟨q+1,R,R,(dX (dH v9 ez dV))⟩
   .refine dk ?_;exact⟨k+1,R,R,(dX (dH ff ez dV))⟩
 rfl
def ary{j:I n1}{k}(x:n1):(j.map hd).set k (hd x)=(j.set k x).map hd:=EC
def arz(j:I n1)(a g)(Q:1<=j.length)(f:j.length<=4)(c:a<j.length)(k)(d:k<j.length)(c0:j[k]=cL)(p):
  d0 cQ 211 [.agg (sa j a g),k,.int .i64 2] (.dS [.agg (sa (j.set k (U p)) a g),.int .i64 0]):=by
 have m:(j.map hd).length=j.length:=ec ..
 have b:(j.map hd)[k]?=U (hd cL):=by rw[ir,fq d,c0];rfl
 refine d5 Tryz.func211 3 Z cV (dk ?_);refine df (Ly j a g Q f c) (dk ?_);refine ea R (cO ?_);refine d2 b (dk ?_);refine gT (aby (RN j) R) (dk ?_);refine eH ?_;refine gT (G3 (l:=[]) Z dw) (dk ?_);refine fO 1000 100 (by show 0+1<=1000;omega) cZ cZ cZ (dk ?_);refine ea R (dk ?_);refine d2 b (dk ?_);have e:(j.map hd).set k (iC (hd cL) 2 [c3.dm [[.int .i64 2]]])=(j.set k (U p)).map hd:=ary (U p);apply dg Z;show _=c3.dS [c3.agg [.dm ((j.set k (U p)).map hd),a,.bool g],.int .i64 0];rw[<-e];rfl
def xj(j:n1):di:=gy ((0:J)<(k3 j).length)
def arA(j:n1):d0 cQ 247 [.agg (hd j)] (.bool (xj j)):=by
 cases j with|none=>refine d5 arB 1 Z cV (dk ?_);exact dg Z Z|some p=>refine d5 arB 1 Z cV (dk ?_);exact dg Z Z
def arC(g cs p)(a:∀c,d0 cQ g (.agg (hd c)::cs) (.bool (p c)))(l:I n1)(d:l.length<=1000000):d0 cQ 293 [.dm (l.map hd),.fn g cs] (fQ p l 0):=by
 refine d5 Tryz.func293 2 Z cV (cO ?_);refine eW (D:=V) (λk=>[(0,.d (.dm (l.map hd))),(1,.d (.fn g cs)),(7,.d (l.map hd).length),(8,.d k)]) (λ_=>[])
  (λk=>k<=l.length/\fQ p (l.drop k) k=fQ p l 0) (λk=>l.length-k) 0 ⟨eY _,Z⟩ (dX (dH ff dM dV)) ?_
 rintro k ⟨b,fL⟩
 conv=>whnf
 refine dT (λh=>?_) λh=>?_
 .have eR:k<l.length:=by simpa using h
  refine ea R (cO ?_);refine d2 (x:=hd l[k]) iJ (c7 ?_);rw[rN eR,fQ]at fL;refine df (a l[k]) (cO ?_)
  refine hV (λc5=>?_) λc5=>?_
  .rw[if_pos c5]at fL;exact dg Z nu
  .rw[cS zh]at fL;refine dF ?_;exact⟨k+1,⟨R,fL⟩,R,(dX (dH ff dM dV))⟩
 .have:k=l.length:=by simp at h;omega
  subst this;simp at fL;exact dg Z nu
def ab3(j a g)(l:j.length<=1000):d0 cQ 185 [.agg (sa j a g)] (.bool (j.any xj)):=by
 have b:d0 cQ 246 [.dm (j.map hd),.fn 247 []] (.bool (j.any xj)):=by
  have e:decide (0<=fQ xj j 0)=j.any xj:=by rw[Cg,GL];exact La xj j 0
  rw[<-e];refine d5 Tryz.func246 2 Z cV (cO ?_);refine df (arC 247 [] xj arA j R) (c7 ?_);exact dg Z Z
 refine d5 Tryz.func185 1 Z cV (dk ?_);refine eH ?_;rfl
def Lz{j:I n1}(c0:0<j.length):∀m k,pc j m (k%j.length)=pc j m k
 |0,_=>rfl
 |m+1,k=>by
  rw[pc,pc,Nat.mod_mod,<-Lz c0 m (k+1),<-Lz c0 m (k%j.length+1)];simp_all
structure DH(DG:I n1)(K:V)(s:V×di×V):Prop where
 a:s.1<DG.length
 go:pc DG s.2.2 (if s.2.1=N then s.1+1 else s.1)=U K
def DH.next{j K a m g}(h:DH j K (a,g,m))(d:g=N\/j[a]'h.a=cL):∃c,DH j K ((a+1)%j.length,L,c) /\2*c<2*m+(if g=N then 1 else 0):=by
 have b:=h.a;have o:=h.go;simp only[]at b o;have O:0<j.length:=R
 cases g with
 |true=>refine⟨m,⟨lp _ O,?_⟩,dw⟩;simp;rw[Lz O];simp_all
 |false=>
  have z:=d.resolve_left cZ;simp at o
  cases m with
  |zero=>cases o
  |succ m=>rw[pc,nH b,fq b,z]at o;refine⟨m,⟨lp _ O,?_⟩,dw⟩;simp;rw[Lz O];simp_all
def DH.here{j K a m}(h:DH j K (a,L,m)){p}(s:j[a]'h.a=U p):a=K:=by
 have b:=h.a;have g:=h.go;simp at b g
 cases m with|zero=>cases g|succ m=>rw[pc,nH b,fq b,s]at g;simp_all
def vJ{cU:I (I c3)}{a x}(h:a<cU.length):(cU.set a x)[a]?=U x:=EA
def arD{cU:I (I c3)}{a e v}(h:cU[a]?=U e)(cY:v=e):cU.set a v=cU:=by subst cY;obtain⟨b,rfl⟩:=f_.1 h;simp_all
def arE(j:I n1)(t g)(Q:1<=j.length)(h:j.length<=4)(u:t<j.length)(K)(r:pc j j.length (if g=N then t+1 else t)=U K):
  d0 cQ 138 [.agg (sa j t g)] (.dS [.agg (sa (j.set K cL) K N),K,.int .i64 2,.bool N]):=by
 have w:(j.map hd).length=j.length:=ec ..
 have o:j≠[]:=λe=>by simp_all
 have⟨F,p,k⟩:=K8 o r;have hw:=ab3 j t g R;have n:j.any xj=N:=xf.2 ⟨U p,jY k,Z⟩;rw[n]at hw;refine d5 arF 1 Z cV (dk ?_);refine df (Ly j t g Q h u) (dk ?_);refine df hw (dk ?_);refine gT (aby (RN j) R) (dk ?_);refine eW (D:=V×di×V) (λs=>[(1,.ptr 1 0 0),(2,.ptr 2 0 0)]) (λs=>[(1,.box [.own 19,.d s.1,.d (.bool s.2.1)] L),(2,.box [.nil,.d (.int .i64 0),.d (.bool L)] L),(19,.row (j.map hd) 3 L)])
  (DH j K) (λs=>2*s.2.2+(if s.2.1=N then 1 else 0)) (t,g,j.length) ⟨u,r⟩ (dX (dH lO eJ dV)) ?_
 rintro⟨a,g,m⟩ dh;have y:=dh.a;simp only[]at y⊢
 have b:(j.map hd)[a]?=U (hd j[a]):=by rw[ir,fq y];rfl
 refine dk ?_;refine ea R (dk ?_)
 cases z:j[a]with
 |none=>
  rw[z]at b;have es:=arD b Z;have⟨q,cX,c⟩:=dh.next (.inr z);refine d2 b (dk ?_);refine d2 b (dk ?_);refine zr eM R (cO ?_)
  have d:((a:J)+1)%(((j.map hd).set a (iC (hd cL) 1 [c3.int .i64 0])).length:V)=(((a+1)%j.length:V):J):=by rw[iu,w];rfl
  refine dk ?_;exact⟨((a+1)%j.length,L,q),cX,c,nd (.B5 1 2 (.d (.bool L))) ⟨⟨_,Z,Iy⟩,Z⟩ (dH lO ⟨by rw[<-d];rfl,Z,eL (λcU=>U (d4.row cU 3 L)) es,dM⟩ dV)⟩
 |some p'=>
  rw[z]at b;refine eH ?_
  cases g with
  |true=>
   have⟨q,cX,c⟩:=dh.next (.inl Z);refine dk ?_
   repeat (first|refine d2 b (dk ?_)|refine ea (i:=0) dw (cO ?_)|refine d2 (x:=[c3.int .i64 2]) Z (dk ?_))
   refine eH ?_
   have d:((a:J)+1)%((j.map hd).length:V)=(((a+1)%j.length:V):J):=by rw[w];rfl
   refine dk ?_;exact⟨((a+1)%j.length,L,q),cX,c,nd (.B5 1 2 (.d (.bool L))) ⟨⟨_,Z,Iy⟩,Z⟩ (dH lO ⟨by rw[<-d];rfl,Z,Z,dM⟩ dV)⟩
  |false=>
   have f:=dh.here z;subst f;refine dk ?_
   repeat (first|refine d2 b (dk ?_)|refine ea (i:=0) dw (cO ?_)|refine d2 (x:=[c3.int .i64 2]) Z (dk ?_)|refine d2 (vJ hy) (dk ?_))
   refine fz (λe v=>by simp at v;subst v;rfl) (cO ?_);refine pW (l:=1) dw (dk ?_);refine gT (G3 (l:=[]) Z dw) (dk ?_)
   repeat (first|refine ea (i:=0) dw (cO ?_)|refine d2 (vJ hy) (dk ?_))
   have E:∀A B C:I c3,((((j.map hd).set a A).set a B).set a C).set a (hd cL)=(j.set a cL).map hd:=λA B C=>by
    simp_all
   exact dg Z (eL (λcU=>c3.dS [c3.agg [.dm cU,a,.bool N],a,.int .i64 2,.bool N]) (E _ _ _))
def arG(j:I n1)(a g)(Q:1<=j.length)(f:j.length<=4)(c:a<j.length)(K:pc j j.length (if g=N then a+1 else a)=cL):
  d0 cQ 138 [.agg (sa j a g)] (.dS [.agg (sa j a g),.int .i64 0,.int .i64 0,.bool L]):=by
 have b:j≠[]:=λe=>by simp_all
 have hw:=ab3 j a g R
 have n:j.any xj=L:=by rw[List.any_eq_false];intro x d;obtain⟨i,cK,rfl⟩:=kr.1 d;have:=apR b K i cK;rw[fq cK,fC]at this;rw[this];decide
 rw[n]at hw;refine d5 arF 1 Z cV (dk ?_);refine df (Ly j a g Q f c) (dk ?_);refine df hw (dk ?_);exact dg Z Z
def vK(n k:V):I (I c3):=eQ k (hd cL)++eQ (n-k) [.int .i64 0,.int .i64 0,.dm []]
def arH{n k}(h:k<=n):(vK n k).length=n:=by simp[vK];omega
def arI{n k}(h:k<n):(vK n k).set k (hd cL)=vK n (k+1):=by have e:n-k=(n-(k+1))+1:=R;rw[vK,vK,e,List.replicate_succ,RO,j4];simp_all
def arJ(n)(Q:1<=n)(c:n<=4):d0 cQ 133 [.dm (eQ n [c3.int .i64 1])] (.dS [.agg (sa (eQ n cL) 0 L),.int .i64 0]):=by
 have m:(eQ n [c3.int .i64 1]).length=n:=p8
 have g:∀k,k<n->(eQ n [c3.int .i64 1])[k]?=U [c3.int .i64 1]:=λk b=>by simp_all
 refine d5 Tryz.func133 1 Z cV (dk ?_);rw[m,gz];refine fO 1000 100 R cZ cZ cZ (dk ?_);refine eW (D:=V) (λk=>[(2,.ptr 2 0 0),(4,.own 18),(19,.d (.dm (eQ n [c3.int .i64 1]))),(20,.d (eQ n [c3.int .i64 1]).length),(21,.d k)]) (λk=>[(2,.box [.nil,.d (.int .i64 0),.d (.bool L)] L),(18,.row (vK n k) 3 L)])
  (λk=>k<=n) (λk=>n-k) 0 (eY _) (dX (dH gO lO dV)) ?_
 intro k b
 conv=>whnf
 refine dT (λdu=>?_) λdu=>?_
 .have a:k<n:=R
  have l:=arH b;refine ea R (cO ?_);refine d2 (g k a) (dk ?_);refine ea R (cO ?_);refine d2 (by have h:=a;rw[vK,x7 dw,p8,Nat.sub_self,tI,if_pos R]) (dk ?_);refine⟨k+1,R,R,dX (dH gO ⟨Z,?_,dM⟩ dV)⟩;rw[<-arI a];rfl
 .have:k=n:=R
  subst this;refine dk ?_
  have e:vK k k=(eQ k cL).map hd:=by simp[vK]
  exact dg Z (eL (λcU=>c3.dS [c3.agg [.dm cU,.int .i64 0,.bool L],.int .i64 0]) e)
def vL(s:gw)(d:gA):c3:=.agg (s.cells d)
def qs(w:V):n1->I (I c3)
 |none=>[]
 |some p=>[AL w p 0]
def arK(w)(j:n1):yK w j=[.dm (qs w j)]:=by cases j<;>rfl
def pe(DG:I n1):I (I c3):=DG.mapIdx yK
def G6(j):(pe j).length=j.length:=by simp[pe]
def LA{j k}(h:k<j.length):(pe j)[k]?=U [.dm (qs k j[k])]:=by rw[pe,RP,fq h,<-arK];rfl
def arL(w j):(qs w j).length=(k3 j).length:=by cases j<;>rfl
def arM{w j q}(h:q<(qs w j).length):∃p,j=U p/\ (qs w j)[q]?=U (AL w p 0):=by
 cases j with|none=>simp[qs]at h|some p=>simp[qs]at h;subst h;exact⟨p,Z,Z⟩
def r6.G7{s}(o:r6 s):Lt s.next s.out:=⟨o.jC,o.fr,o.up,λf h=>⟨(o.lt f h).1,(o.lt f h).2.2.1⟩⟩
def ab4(w p t)(Q:1<=p)(a:p<=16):d0 cQ 183 [.agg (AL w p t)] (.bool N):=by refine d5 Tryz.func183 1 Z cV (dk ?_);apply dg Z;simp;rfl
def ab5:d0 cQ 184 [.int .i64 1] (.int .i64 2):=by refine d5 Tryz.func184 1 Z cV (dk ?_);rfl
def G8(s d)(o:r6 s)(h:iI d):d0 cQ 135 [vL s d] (.bool N):=by
 have n:=o.fA;have i:=o.mv;have t:=o.jC;have l:=G6 s.eD;have e:(s.eD.mapIdx yK).length=s.eD.length:=l
 have A:(s.eD.map hd).length=s.eD.length:=ec ..
 have m:(s.out.map jm).length=s.out.length:=ec ..
 have r:(s.out.map lG).length=s.out.length:=ec ..
 refine d5 Tryz.func135 1 Z cV (dk ?_);refine df (Ly s.eD s.at' s.gX n i o.AM) (dk ?_);refine df (Lw s.next s.out d o.G7 h) (dk ?_);refine eW (D:=V) (λk=>[(1,.ptr 1 0 0),(40,.d (.dm (pe s.eD))),(41,.d (pe s.eD).length),(42,.d k)]) (λ_=>[(1,.box ((s.cells d).map dp.d) L)])
  (λk=>k<=s.eD.length) (λk=>s.eD.length-k) 0 (eY _) (dX (dH ff ez dV)) ?_
 intro k b
 conv=>whnf
 refine dT (λdu=>?_) λdu=>?_
 .have eR:k<s.eD.length:=R
  have c:=arL k s.eD[k];refine ea R (cO ?_);refine d2 (LA eR) (dk ?_);refine ea R (cO ?_);refine d2 (ab2 eR) (dk ?_);refine eW (D:=V) (λq=>[(1,.ptr 1 0 0),(3,.d k),(5,.d (.dm (k3 s.eD[k]))),(40,.d (.dm (pe s.eD))),(41,.d (pe s.eD).length),(42,.d k),(59,.d (.dm (qs k s.eD[k]))),(60,.d (qs k s.eD[k]).length),(61,.d q)]) (λ_=>[(1,.box ((s.cells d).map dp.d) L)])
   (λq=>q<= (qs k s.eD[k]).length) (λq=>(qs k s.eD[k]).length-q) 0 (eY _) (dX (dH By ez dV)) ?_
  intro q B
  conv=>whnf
  refine dT (λdY=>?_) λdY=>?_
  .have a:q<(qs k s.eD[k]).length:=R
   have⟨p,j,z⟩:=arM a;have f:=ab1 s.eD[k];have g:=o.dJ p hN;refine eH ?_;refine df (ab4 k p 0 g.1 g.2) (dk ?_);refine df ab5 (dk ?_);refine ea R (cO ?_);refine d2 (Lx R) (dk ?_);exact⟨q+1,R,R,(dX (dH By ez dV))⟩
  .refine dk ?_;exact⟨k+1,R,R,(dX (dH ff ez dV))⟩
 refine dk ?_;refine eW (D:=V) (λk=>[(1,.ptr 1 0 0),(93,.d (.dm (s.out.map jm))),(94,.d (s.out.map jm).length),(95,.d k)]) (λ_=>[(1,.box ((s.cells d).map dp.d) L)])
  (λk=>k<=s.out.length) (λk=>s.out.length-k) 0 (eY _) (dX (dH ff ez dV)) ?_
 intro k b
 conv=>whnf
 refine dT (λdu=>?_) λdu=>?_
 .have eR:k<s.out.length:=R
  have⟨dI,u,v,w,y⟩:=o.lt s.out[k] (hF eR);refine ea R (cO ?_);refine d2 (x:=jm s.out[k]) iJ (c7 ?_);refine ea R (cO ?_);refine d2 (x:=lG s.out[k]) iJ (dk ?_);exact⟨k+1,R,R,(dX (dH ff ez dV))⟩
 rfl
def ab6(j):gZ 1 (pe j)=N:=by
 rw[gZ,of];intro x a;obtain⟨i,cK,rfl⟩:=kr.1 a
 have h:i<j.length:=by rwa[G6]at cK
 have:=LA h;rw[fq cK,fC]at this;rw[this];rfl
def ab7{j k}(h:k<j.length)(x:n1):(pe j).set k (yK k x)=pe (j.set k x):=by refine Cq λi=>?_;rw[pe,pe,ly,RP,RP,ly];grind
def arN(n):eQ n [c3.dm []]=pe (eQ n cL):=by refine Cq λi=>?_;rw[pe,RP,tI,tI];split<;>rfl
def arP(n:V):gw:=⟨0,L,eQ n cL,0,[]⟩
def arQ(n d)(Q:1<=n)(b:n<=4)(c:iI d):d0 cQ 102 [.agg (AW 0 [] d),.dm (eQ n [c3.int .i64 1])] (.dS [vL (arP n) d,.int .i64 0]):=by have m:(eQ n [c3.int .i64 1]).length=n:=p8;refine d5 Tryz.func102 2 Z cV (dk ?_);refine df (Lw 0 [] d ⟨eY _,eY _,abi,λf a=>by cases a⟩ c) (dk ?_);refine df (arJ n Q b) (dk ?_);rw[m,gz];exact fO 1000 100 R cZ cZ cZ (dk (dg Z (eL (λcU=>c3.dS [c3.agg [.dm ((eQ n cL).map hd),.int .i64 0,.bool L,.dm cU,.dm (d.sec.map hW),.dm (d.fy.map fs),.int .i64 0,.dm [],.dm []],.int .i64 0]) (arN n))))
def arR(s d)(o:r6 s)(f:iI d)(w)(hw:w<s.eD.length)(c0:s.eD[w]=cL)(p)(Q:1<=p)(a:p<=16):
  d0 cQ 152 [vL s d,.agg (AL w p 0)] (.dS [vL (ud s w p) d,.int .i64 0]):=by
 have n:=o.fA;have e:=o.mv;have b:=G6 s.eD;have c:(s.eD.mapIdx yK).length=s.eD.length:=b
 have g:(pe s.eD)[w]?=U [.dm []]:=by have:=LA hw;rwa[c0]at this
 have es:=ab7 hw (U p);refine d5 Tryz.func152 2 Z cV (dk ?_);refine df (G8 s d o f) (dk ?_);refine df (ab4 w p 0 Q a) (dk ?_);refine ea R (cO ?_);refine d2 g (dk ?_);refine df ab5 (dk ?_);refine df (arz s.eD s.at' s.gX n e o.AM w hw c0 p) (dk ?_);refine gT (abz (ab6 s.eD) R) (dk ?_);refine eH ?_;refine gT (Rp (l:=[]) Z dw) (dk ?_);refine fO 1000 100 (by show 0+1<=1000;omega) cZ cZ cZ (dk ?_);refine ea R (dk ?_);refine d2 g (dk ?_);exact dg Z (eL (λcU=>c3.dS [c3.agg [.dm ((s.eD.set w (U p)).map hd),s.at',.bool s.gX,.dm cU,.dm (d.sec.map hW),.dm (d.fy.map fs),s.next,.dm (s.out.map lG),.dm (s.out.map jm)],.int .i64 0]) es)
structure arS(gK:gw)(s:gw×V):Prop where
 jH:mX s.1
 m:4<s.1.out.length+s.2
 eq:Dm s.2 s.1=Dn gK
def arT(s:gw)(d:gA)(cX O:V):I dp:=[.d (.dm (s.eD.map hd)),.d s.at',.d (.bool s.gX),.own cX,.d (.dm (d.sec.map hW)),.d (.dm (d.fy.map fs)),.d s.next,.d (.dm (s.out.map lG)),.own O]
def ab8{s r}(h:Q8 s=r):pc s.eD s.eD.length (if s.gX=N then s.at'+1 else s.at')=r:=h
set_option maxRecDepth 20000 in
def arU(s d)(o:mX s)(h:iI d):d0 cQ 104 [vL s d] (vL (Dn s) d):=by
 have A:=G6 s.eD;have B:(s.eD.mapIdx yK).length=s.eD.length:=A
 have F:(s.out.map jm).length=s.out.length:=ec ..
 have cX:=o.mv;have dh:=o.jC;refine d5 Tryz.func104 1 Z cV (c6 ?_);refine df (G8 s d o.tor6 h) (c6 ?_);refine gT (abz (ab6 s.eD) R) (c6 ?_);refine gT (Rp (Lv s.out) R) (c6 ?_);refine eW (D:=gw×V) (λs=>[(1,.ptr 1 0 0),(2,.ptr 2 0 0)]) (λs=>[(1,.box (arT s.1 d 14 18) L),(2,.box [.nil,.d (.int .i64 0),.d (.bool L),.nil,.nil,.nil,.d (.int .i64 0),.nil,.nil] L),(14,.row (pe s.1.eD) 1 L),(18,.row (s.1.out.map jm) 5 L)])
  (arS s) (λs=>4-s.1.out.length) (s,5) ⟨o,Bp,Z⟩ (dX (dH lO ff dV)) ?_
 rintro⟨r,m⟩ ⟨b,E,a⟩;simp only[]at b E a⊢
 have G:(r.out.map lG).length=r.out.length:=ec ..
 have y:(r.out.map jm).length=r.out.length:=ec ..
 have z:=b.jC;have n:=b.mv;have C:=G6 r.eD;obtain⟨m,rfl⟩:∃q,m=q+1:=⟨m-1,R⟩;rw[Dm]at a
 conv=>whnf
 refine dF ?_
 refine dT (λdu=>?_) λdu=>?_
 .refine c6 ?_
  refine dT (λdY=>?_) λdY=>?_
  .have t:r.out.length<4/\r.next<2147483647:=⟨R,R⟩;rw[if_pos t]at a
   cases f:Q8 r with
   |none=>rw[f]at a;refine c6 ?_;refine df (arG r.eD r.at' r.gX b.fA n b.AM (ab8 f)) (c6 ?_);rw[<-a];exact dg Z Z
   |some k=>
    rw[f]at a;have⟨j,p,O⟩:=K8 b.ne f
    have w:r.eD[k]=U p:=by rw[fq j,fC]at O;exact O
    have c:=b.dJ p hN;have v:=LA j;rw[w]at v;have es:=ab7 j cL;have H:=aa6 (g:=N) b j O t.1 t.2
    have u:(r.eD[k]?.getD cL).getD 0=p:=by rw[O];rfl
    simp[u]at a;refine c6 ?_;refine df (arE r.eD r.at' r.gX b.fA n b.AM k (ab8 f)) (c6 ?_);refine ea R (cO ?_);refine d2 v (c6 ?_);refine ea (i:=0) (by simp[qs]) (cO ?_);refine d2 (x:=AL k p 0) Z (c6 ?_);refine ea R (c6 ?_);refine d2 v (c6 ?_);refine fz (λe a=>by simp[qs]at a;subst a;rfl) (cO ?_);refine pW (l:=1) (by simp[qs]) (c6 ?_);refine gT (Rp (l:=[]) Z dw) (c6 ?_);refine eH ?_;refine df (abX r.next r.out d b.tor6.G7 h p k 1 c.1 c.2 t.1 t.2) (c6 ?_);refine fO 1000 100 (by show(r.out.map jm).length+1<=1000;omega) cZ cZ cZ (c6 ?_);refine⟨(⟨k,N,r.eD.set k cL,r.next+1,r.out++[⟨r.next,k,p,1⟩]⟩,m),⟨H,HH,a⟩,HH,dX (dH lO ⟨?_,?_,?_,?_,dM⟩ dV)⟩
    .kernel_rfl
    .kernel_rfl
    .exact eL (λcU=>U (d4.row cU 1 L)) es
    .dsimp only
     rw[jl];kernel_rfl
  .have t:¬(r.out.length<4/\r.next<2147483647):=R
   rw[cS t]at a;refine c6 ?_;rw[<-a];exact dg Z Z
 .have t:¬(r.out.length<4/\r.next<2147483647):=R
  rw[cS t]at a;refine c6 ?_;rw[<-a];exact dg Z Z
def arV(d:gA)(f:mu)(a:di):I c3:=[f.gs,.int .i64 1,f.dJ,.str (bif a then fB else(q8 d (2*f.dJ+1)).1++(q8 d (2*f.dJ+1+1)).1),f.k0]
def G9(s:gw)(i:V):gw:={s with out:=s.out.eraseIdx i}
def ab9(s:gw)(i:V)(j:mu):gw:={s with next:=s.next+1,out:=s.out.eraseIdx i++[⟨s.next,j.gs,j.dJ,j.k0+1⟩]}
def RQ(s)(o:r6 s)(i):kg cQ 159 [.dm ([(((s.out.map jm).take i).drop 0),(((s.out.map jm).take (s.out.map jm).length).drop (i+1))].map n0)] ((s.out.eraseIdx i).map jm) 5:=by
 have e:=o.jC
 have c:=arv [(((s.out.map jm).take i).drop 0),(((s.out.map jm).take (s.out.map jm).length).drop (i+1))] (λl a=>by
  simp at a;rcases a with rfl|rfl
  .exact Lo (Lv s.out) _
  .exact G5 (Lo (Lv s.out) _) _) dw (fG (ab0 jm s.out i) R)
 rwa[RL]at c
set_option maxRecDepth 20000 in
def arW(s d)(o:r6 s)(p:iI d)(i)(cK:i<s.out.length)(t:(s.out[i]).k0<3)(c0:s.next<2147483647):
  d0 cQ 116 [vL s d,i,.bool N] (.dS [vL (ab9 s i s.out[i]) d,.agg [.int .i64 0,.int .i64 0,.int .i64 0,.str fB,.int .i64 0],.int .i64 0,.bool L]):=by
 have u:=(arX s.out i).length_le
 have b:(s.out.eraseIdx i).length+1=s.out.length:=by rw[List.length_eraseIdx_of_lt cK];omega
 have m:((s.out.eraseIdx i).map jm).length=(s.out.eraseIdx i).length:=ec ..
 have f:(s.out.map jm).length=s.out.length:=ec ..
 have n:=o.jC
 have r:(s.out.map jm)[i]?=U (jm s.out[i]):=by rw[ir,fq cK];rfl
 have⟨dI,j,g,k,q⟩:=o.lt s.out[i] (hF cK);have c:=RQ s o i;refine d5 aca 3 Z cV (dk ?_);refine df (G8 s d o p) (dk ?_);refine eH ?_;refine df (RM s.next s.out d o.G7 p i cK N) (dk ?_);refine fz (λe a=>DF a) (cO ?_);refine oV R (dk ?_);refine fz (λe a=>DF a) (cO ?_);refine pW (l:=i+1) R (dk ?_);refine gT c (cO ?_)
 conv=>whnf
 refine c6 ?_;refine sA f0 (c6 ?_);refine df (abX s.next (s.out.eraseIdx i) d (by have h:=arX s.out i;exact⟨fG h.length_le o.jC,o.fr,o.up.sublist (h.map _),λf a=>⟨(o.lt f (h.mem a)).1,(o.lt f (h.mem a)).2.2.1⟩⟩) p s.out[i].dJ s.out[i].gs (s.out[i].k0+1) g.1 g.2 R c0) (c6 ?_);refine fO 1000 100 (by show((s.out.eraseIdx i).map jm).length+1<=1000;omega) cZ cZ cZ (c6 ?_);apply dg Z;show _=c3.dS [c3.agg [.dm (s.eD.map hd),s.at',.bool s.gX,.dm (s.eD.mapIdx yK),.dm (d.sec.map hW),.dm (d.fy.map fs),((s.next+1:V):J),.dm ((s.out.eraseIdx i++[(⟨s.next,s.out[i].gs,s.out[i].dJ,s.out[i].k0+1⟩:mu)]).map lG),.dm ((s.out.eraseIdx i++[(⟨s.next,s.out[i].gs,s.out[i].dJ,s.out[i].k0+1⟩:mu)]).map jm)],_,_,_];rw[jl,jl];rfl
set_option maxRecDepth 20000 in
def arY(s d)(o:r6 s)(h:iI d)(i)(cK:i<s.out.length)(f)(p:¬(f=N/\ (s.out[i]).k0<3/\s.next<2147483647)):
  d0 cQ 116 [vL s d,i,.bool f] (.dS [vL (G9 s i) d,.agg (arV d s.out[i] f),.int .i64 (if f=N then 8 else 0),.bool N]):=by
 cases f with
 |false=>
  have m:(s.out.map jm).length=s.out.length:=ec ..
  have n:=o.jC
  have q:(s.out.map jm)[i]?=U (jm s.out[i]):=by rw[ir,fq cK];rfl
  have⟨dI,g,b,j,k⟩:=o.lt s.out[i] (hF cK);have c:=RQ s o i;refine d5 aca 3 Z cV (dk ?_);refine df (G8 s d o h) (dk ?_);refine eH ?_;refine df (RM s.next s.out d o.G7 h i cK L) (dk ?_);refine fz (λe a=>DF a) (cO ?_);refine oV R (dk ?_);refine fz (λe a=>DF a) (cO ?_);refine pW (l:=i+1) R (dk ?_);refine gT c (cO ?_)
  conv=>whnf
  refine c6 ?_;refine wp f0 (c6 ?_);exact dg Z Z
 |true=>
  have m:(s.out.map jm).length=s.out.length:=ec ..
  have n:=o.jC
  have q:(s.out.map jm)[i]?=U (jm s.out[i]):=by rw[ir,fq cK];rfl
  have⟨dI,g,b,j,k⟩:=o.lt s.out[i] (hF cK);have c:=RQ s o i;refine d5 aca 3 Z cV (dk ?_);refine df (G8 s d o h) (dk ?_);refine eH ?_;refine df (RM s.next s.out d o.G7 h i cK N) (dk ?_);refine fz (λe a=>DF a) (cO ?_);refine oV R (dk ?_);refine fz (λe a=>DF a) (cO ?_);refine pW (l:=i+1) R (dk ?_);refine gT c (cO ?_)
  conv=>whnf
  refine c6 ?_;refine sA f0 (c6 ?_)
  refine dT (λdY=>?_) λdY=>?_
  .refine c6 ?_
   refine dT (λr=>?_) λr=>?_
   .exact dN ⟨Z,R,R⟩ p
   .exact c6 (dg Z Z)
  .exact c6 (dg Z Z)
def h3(l:I hx)(i:V):hx:=l[i]?.getD qn
def lc(l:I hx)(i:V):I dp:=(h3 l i).cells.map dp.d
def G_(l:I hx):I dp:=lc l 0++(lc l 1++(lc l 2++(lc l 3++(lc l 4++(lc l 5++(lc l 6++(lc l 7++(lc l 8++(lc l 9++(lc l 10++(lc l 11++(lc l 12++(lc l 13++(lc l 14++(lc l 15++lc l 16)))))))))))))))
def sb(m:eu):I dp:=.own 1000001::(m.p.box++(m.h.cells.map dp.d++(G_ m.ej++((m.s.cells m.p.d).map dp.d++[.d m.eh,.own 1000004]))))
def e9(m:eu):I (V×d4):=[(1000000,.box (sb m) L),(1000001,.row (m.ws.map j_) 11 L),(1000004,.row (m.dq.map pK) 11 L)]
def iw:I (V×V):=[(1000000,1000000),(1000001,1000001),(1000004,1000004)]
def oL{m:eu}{k:V}{w}(h:m.ws[k]?=U w):(m.ws.map j_)[k]?=U (j_ w):=eM
def RR{ws:I gd}{k}(w'):(ws.map j_).set k (j_ w')=(ws.set k w').map j_:=EC
def DI{ws:I gd}{k}(x w'):((ws.map j_).set k x).set k (j_ w')=(ws.set k w').map j_:=eM
def ar0{ws:I gd}{k}(x y w'):(((ws.map j_).set k x).set k y).set k (j_ w')=(ws.set k w').map j_:=eM
def uf{cU a}(h:cU=a):U (d4.row cU 11 L)=U (d4.row a 11 L):=by rw[h]
def rj{m:eu}{k w}(h:m.ws[k]?=U w):k<(m.ws.map j_).length:=hN
def ug(m k):fI cQ 109 [.ptr 1000000 0 0,.d (.int .i64 k)] (e9 m) (e9 m) (.bool (decide (0<=k)&&decide (k<m.ws.length))):=by
 refine hl Tryz.func109 2 Z cV f0 (cO ?_)
 refine dT (λh=>?_) λh=>?_
 .refine c6 ?_;exact ge Z eM Z eJ
 .refine c6 ?_;exact ge Z (by rw[decide_eq_false h];rfl) Z eJ
def RS(m)(k:V)(l:m.h.ds.length<=1000):fI cQ 146 [.ptr 1000000 0 0,.d k] (e9 m) (e9 m) (.bool (j9 m.h k)):=by
 have d:(m.h.ds.map fP).length=m.h.ds.length:=ec ..
 refine hl Tryz.func146 2 Z cV f0 (c6 ?_);refine eW (D:=V) (λi=>[(0,.ptr 1000000 0 0),(1,.d k),(11,.d (.dm (m.h.ds.map fP))),(12,.d (m.h.ds.map fP).length),(13,.d i)]) (λ_=>e9 m)
  (λi=>i<=m.h.ds.length/\j9 m.h k=(m.h.ds.drop i).any λc=>c.1==k) (λi=>m.h.ds.length-i) 0 ⟨eY _,Z⟩ (dX (dH gO eJ dV)) ?_
 rintro i ⟨cK,e⟩
 conv=>whnf
 refine dT (λdu=>?_) λdu=>?_
 .have a:i<m.h.ds.length:=R
  rw[rN a,List.any_cons]at e;refine ea R (cO ?_);refine d2 (x:=fP m.h.ds[i]) (by simp[a]) (c7 ?_)
  refine dT (λdY=>?_) λdY=>?_
  .have b:(m.h.ds[i].1==k)=N:=by simpa using(show m.h.ds[i].1=k by omega)
   rw[b,Bool.true_or]at e;rw[e];refine c6 ?_;exact ge Z Z Z eJ
  .have b:(m.h.ds[i].1==k)=L:=by simpa using(show ¬m.h.ds[i].1=k by omega)
   rw[b,Bool.false_or]at e;refine c6 ?_;exact⟨i+1,⟨by omega,e⟩,by omega,(dX (dH gO eJ dV))⟩
 .have:i=m.h.ds.length:=R
  subst this;rw[ar1]at e;rw[e];refine c6 ?_;exact ge Z Z Z eJ
def ar2(m)(k:V)(w)(now:J)(a:m.ws[k]?=U w)(cP:w.todo.length<=w.ended):
  fI cQ 110 [.ptr 1000000 0 0,.d k,.ptr 1000001 k 0,.d now] (e9 m) (e9 m) (.bool L):=by
 have g:=oL a
 have t:(w.todo.map kz).length=w.todo.length:=ec ..
 refine hl ar3 4 Z cV f0 (c6 ?_);refine eH ?_;exact ge Z Z Z eJ
def ar4(m:eu)(k w now)(b:m.ws[k]?=U w)(cP:¬w.todo.length<=w.ended)(o:jb m.h)(a:k<4)(c0:k∉m.h.all)(l:m.h.ds.length+m.h.q.length<=3):
  fI cQ 110 [.ptr 1000000 0 0,.d k,.ptr 1000001 k 0,.d (.int .i64 now)] (e9 m) (e9 {pd m k {w with nX:=now,st:=1} with h:=AK m.h k}) (.bool N):=by
 have g:=oL b
 have t:(w.todo.map kz).length=w.todo.length:=ec ..
 refine hl ar3 4 Z cV f0 (c6 ?_);refine eH ?_;refine df (aqX m.h o k a c0 l) (c6 ?_);refine d2 g (c6 ?_);refine d2 (vJ (rj b)) (c6 ?_);exact ge Z Z Z ⟨cV,uf (DI _ {w with nX:=now,st:=1}),Z,dM⟩
namespace Hy
open Go.Proofs Go.RowKit
namespace P9
abbrev mY:V:=3
abbrev abN:V:=124
abbrev AR:=Tryz.func266
abbrev AS:=Tryz.func299
end P9
section
open Go.Lk.Hy.P9
def ar5 {l vs:I (I c3)} {i:V} (cK:i<=l.length) (dv:l.length<=1000000) (RI:0<vs.length) (cY:vs.length<=1000) (RH:gZ 3 l=N) (O:gZ 3 vs=N):
  vl cQ 266 l 3 [.d i,.own 1000000] [(1000000,.row vs 3 L)] [(1000000,.row vs 3 L)] (l.take i++(vs++l.drop i)):=abL
end
def ar6{l}{i j:V}(cK:i<j)(d:j<=l.length)(m:l.length<=1000000)(o:gZ 3 l=N):
  vl cQ 267 l 3 [.d i,.d j] [] [] (l.take i++l.drop j):=by
 apply PI Tryz.func267 3 Z cV f0;refine⟨λcap c=>?_,λcW=>by rw[cW]at d;simp at d;omega⟩;have⟨cU,h⟩:∃cU,cU=l++eQ (cap-l.length) (eQ 3 c3.mA):=⟨_,Z⟩
 have e:cU.length=cap:=by rw[h];simp;omega
 have t:cU.take l.length=l:=by rw[h];simp
 have a:cU.take i=l.take i:=hN
 rw[<-h]
 conv=>whnf
 refine fz ⟨eM,by omega,by simp_all⟩ (cO ?_);refine U4 R R (c7 ?_)
 refine mj (λb=>?_) λb=>?_
 .omega
 refine BU hN (cO ?_);refine uQ R (by assumption) (cO ?_)
 have es:CH (l.length-j) (List.drop (0+j) cU)=l.drop j:=hN
 have g:(l.drop j).length=l.length-j:=List.length_drop ..
 rw[es];refine fz ⟨by omega,G5 o j⟩ (cO ?_);refine⟨λf=>?_,λf=>dN (show i-0+(l.drop j).length<=cap-0 by omega) f⟩
 conv=>whnf
 refine fz R (c7 ?_);refine U4 R (by assumption) (cO ?_);refine fz ⟨by simp;omega,Z⟩ (c7 ?_);refine Ai Z Z Z ?_ ?_ Z dM
 .simp;omega
 .have n:(l.take i).length=i:=by rw[o5];omega
  have k:(0:V)+0+(i-0)=i:=R
  have Q:∀Y:I (I c3),(CH (0+(i-0)) cU++(l.drop j++Y)).take (0+(i-0+(l.drop j).length))=l.take i++l.drop j:=by intro Y;rw[show 0+(i-0)=i by omega,a,<-j4];exact Ao eM
  rw[Q];exact Ao eM
open Go.Lk.St
abbrev e':=J×J×dG
def eC(x:e'):I c3:=[x.1,x.2.1,.str x.2.2]
def At:∀(l:I e'),gZ 3 (l.map eC)=N
 | []=>rfl|_::r=>At r
def gB(x:e'):di:=gy (1<=x.1)&&(decide (x.1<=16)&&(decide (1<=x.2.1)&&(decide (x.2.1<=2147483647)&&decide (x.2.2.size<=16))))
def lf{x}:gB x=N↔1<=x.1/\x.1<=16/\1<=x.2.1/\x.2.1<=2147483647/\x.2.2.size<=16:=by simp[gB]
def GA(x):d0 cQ 193 [.agg (eC x)] (.bool (gB x)):=by
 refine d5 Tryz.func193 1 Z cV (c7 ?_)
 refine dT (λQ=>?_) λQ=>?_
 .exact dg Z (eL c3.bool xC)
 refine dF ?_
 refine dT (λc=>?_) λc=>?_
 .exact dg Z (eL c3.bool xC)
 refine dF ?_
 refine dT (λd=>?_) λd=>?_
 .exact dg Z (eL c3.bool xC)
 refine dF ?_
 refine dT (λf=>?_) λf=>?_
 .exact dg Z (eL c3.bool xC)
 refine dF ?_
 exact dg Z (eL c3.bool (by
  have g:decide (1<=x.1)=N:=hy;have e:decide (x.1<=16)=N:=hy;have a:decide (1<=x.2.1)=N:=hy;have b:decide (x.2.1<=2147483647)=N:=hy
  rw[gB,g,e,a,b];simp;omega))
def C4(l:I e')(b:l.length<=1000000):kg cQ 96 [.dm (l.map eC)] (l.map eC) 3:=by
 refine lZ Tryz.func96 1 Z cV (cO (oX (cO ?_)));intro r a
 conv=>whnf
 refine nk (λh=>?_) λh=>?_
 .have:=a h;exact⟨2,Z,.inr ⟨Z,this⟩⟩
 .refine fz (At l) (cO ?_);refine fO 1000100 100 Bq cZ cZ cZ (cO ?_);exact⟨2,Z,.inl ⟨5,Z,Z⟩⟩
structure LC(l:I e'):Prop where
 one:∀x∈l,gB x=N
 LD:∀i,(cK:i+1<l.length)->l[i].1<l[i+1].1
open Classical in
def rk(l:I e'):di:=gy (LC l)
def LF{l}:rk l=N↔LC l:=by simp[rk]
def acb{l}:rk l=L↔¬LC l:=by simp[rk]
structure LG(l:I e')(k:V):Prop where
 le:k<=l.length
 one:∀i,i<k->(cK:i<l.length)->gB l[i]=N
 LD:∀i,i+1<k->(cK:i+1<l.length)->l[i].1<l[i+1].1
def ar7{l k}(h:LG l k)(c_:¬k<l.length):rk l=N:=by
 have c_:k=l.length:=by have:=h.le;omega
 subst c_;refine LF.2 ⟨λx a=>?_,λi cK=>h.LD i cK cK⟩;obtain⟨i,cK,rfl⟩:=kr.1 a;exact h.one i cK cK
def acd{l k}(h:LG l k)(c_:k<l.length)(Q:gB l[k]=N)(c5:∀i,i+1=k->(cK:i<l.length)->l[i].1<l[k].1):LG l (k+1):=by
 refine⟨R,λi cK a=>?_,λi cK a=>?_⟩
 .by_cases e:i=k
  .simp_all
  .exact h.one i R a
 .by_cases e:i+1=k
  .simp_all
  .exact h.LD i R a
def ar8{l k}(c_:k<l.length)(Q:gB l[k]=L):rk l=L:=acb.2 λh=>by
 have:=h.one l[k] (hF c_);simp_all
def ar9{l:I e'}{i:V}(cK:i+1<l.length)(h:l[i+1].1<=l[i].1):rk l=L:=acb.2 λa=>by
 have:=a.LD i cK;omega
def ace(l)(dv:l.length<=1000000):d0 cQ 143 [.agg [.dm (l.map eC)]] (.bool (rk l)):=by
 refine d5 Tryz.func143 1 Z cV (c7 ?_)
 have d6:(l.map eC).length=l.length:=ec ..
 refine eW (D:=V) (λk=>[(1,.ptr 1 0 0),(6,.d (.dm (l.map eC))),(7,.d (l.map eC).length),(8,.d k)]) (λ_=>[(1,.box [.d (.dm (l.map eC))] L)])
  (λk=>LG l k) (λk=>l.length-k) 0 (⟨R,R,R⟩) (dX (dH ff ez dV)) ?_
 intro k c_
 conv=>whnf
 refine mj (λdu=>?_) λdu=>?_
 .have a:k<l.length:=R
  refine ea R (cO ?_);refine d2 (x:=eC l[k]) (by simp[a]) (c7 ?_);refine df (GA l[k]) (c7 ?_)
  refine hV (λdI=>?_) λdI=>?_
  .exact dg Z (eL c3.bool (ar8 a eM).symm)
  have dI:gB l[k]=N:=by simpa using dI
  refine dF ?_
  refine mj (λc=>?_) λc=>?_
  .obtain⟨j,rfl⟩:∃j,k=j+1:=⟨k-1,by omega⟩
   have e:(((j+1:V):J))-1=((j:V):J):=R
   refine dF ?_;rw[e];refine ea R (cO ?_);refine d2 (x:=eC l[j]) hN (c7 ?_)
   refine dT (λb=>?_) λb=>?_
   .exact dg Z (eL c3.bool (ar9 a b).symm)
   .refine dF ?_
    exact⟨j+2,acd c_ a dI λi cK f=>by
     simp_all,by omega,(dX (dH ff ez dV))⟩
  .exact⟨k+1,acd c_ a dI λi cK f=>by omega,by omega,(dX (dH ff ez dV))⟩
 .exact dg Z (eL c3.bool (ar7 c_ R).symm)
def lI(l:I e')(id:J):V:=l.findIdx λp=>gy (id<=p.1)
def rl(l:I e')(id:J):di:=match l[lI l id]? with|some p=>decide (p.1=id)|none=>L
def acf{l id k}(c_:k<l.length)(Q:id<=l[k].1)(h:∀i,i<k->(cK:i<l.length)->l[i].1<id):lI l id=k:=by unfold lI;grind
def asa{l id}(h:∀i,i<l.length->(cK:i<l.length)->l[i].1<id):lI l id=l.length:=by unfold lI;grind
def s0(l id)(dv:l.length<=1000000):d0 cQ 144 [.agg [.dm (l.map eC)],.int .i64 id] (.dS [.int .i64 (lI l id),.bool (rl l id)]):=by
 refine d5 Tryz.func144 2 Z cV (c7 ?_)
 have d6:(l.map eC).length=l.length:=ec ..
 refine eW (D:=V) (λk=>[(1,.d id),(2,.ptr 2 0 0),(9,.d (.dm (l.map eC))),(10,.d (.int .i64 (l.map eC).length)),(11,.d (.int .i64 k))]) (λ_=>[(2,.box [.d (.dm (l.map eC))] L)])
  (λk=>k<=l.length/\ ∀i,i<k->(cK:i<l.length)->l[i].1<id) (λk=>l.length-k) 0 ⟨R,R⟩ (dX (dH gO ez dV)) ?_
 rintro k ⟨c_,b⟩
 conv=>whnf
 refine mj (λdu=>?_) λdu=>?_
 .have eR:k<l.length:=by omega
  refine ea R (cO ?_);refine d2 (x:=eC l[k]) iJ (c7 ?_)
  refine iG (λg=>?_) λg=>?_
  .have e:=acf eR g b
   have a:rl l id=gy (l[k].1=id):=by simp[rl,e,eR]
   rw[a,e];exact dg Z Z
  .refine dF ?_
   exact⟨k+1,⟨R,λi cK c=>by
    grind⟩,R,(dX (dH gO ez dV))⟩
 .have e:=asa λi cK c=>b i R c
  have a:rl l id=L:=by simp[rl,e]
  rw[a,e,<-d6];rfl
abbrev Op:=J×J×dG
def asb(o:Op):I c3:=[o.1,o.2.1,.str o.2.2]
abbrev acg:=J×e'
def d_:e':=(0,0,fB)
def ach(r:acg):I c3:=[r.1,r.2.1,r.2.2.1,.str r.2.2.2]
def pf(l:I e')(o:Op):I e'×acg:=
 if rk l=L\/o.1<1\/4<o.1\/o.2.1<1\/16<o.2.1 then(l,(1,d_)) else
 if o.1=1 then(if rl l o.2.1=N then(l,(4,d_)) else(l.take (lI l o.2.1)++(o.2.1,1,fB)::l.drop (lI l o.2.1),(0,(o.2.1,1,fB)))) else
 if rl l o.2.1=L then(l,(3,d_)) else
 match l[lI l o.2.1]? with
 |none=>(l,(0,d_))
 |some p=>if o.1=2 then(l,(0,p)) else
  if o.1=4 then(l.take (lI l o.2.1)++l.drop (lI l o.2.1+1),(0,d_)) else
  if 16<o.2.2.size then(l,(5,d_)) else
  if 2147483647<=p.2.1 then(l,(7,d_)) else(l.set (lI l o.2.1) (p.1,p.2.1+1,o.2.2),(0,(p.1,p.2.1+1,o.2.2)))
def asc(l o)(dv:l.length<=1000):d0 cQ 203 [.agg [.dm (l.map eC)],.agg (asb o)] (.dS [.agg [.dm ((pf l o).1.map eC)],.agg (ach (pf l o).2)]):=by
 refine d5 Tryz.func203 2 Z cV (c7 ?_);refine df (ace l R) (c7 ?_)
 refine kl (λb=>?_) λb=>?_
 .have e:pf l o=(l,(1,d_)):=if_pos (.inl eM);rw[e];exact dg Z Z
 have b:rk l=N:=by simpa using b
 refine dF ?_
 refine iG (λdI=>?_) λdI=>?_
 .have e:pf l o=(l,(1,d_)):=if_pos (.inr (.inl dI));rw[e];exact dg Z Z
 refine dF ?_
 refine iG (λp=>?_) λp=>?_
 .have e:pf l o=(l,(1,d_)):=if_pos (.inr (.inr (.inl p)));rw[e];exact dg Z Z
 refine dF ?_
 refine iG (λq=>?_) λq=>?_
 .have e:pf l o=(l,(1,d_)):=if_pos (.inr (.inr (.inr (.inl q))));rw[e];exact dg Z Z
 refine dF ?_
 refine iG (λr=>?_) λr=>?_
 .have e:pf l o=(l,(1,d_)):=if_pos (.inr (.inr (.inr (.inr r))));rw[e];exact dg Z Z
 have c:¬(rk l=L\/o.1<1\/4<o.1\/o.2.1<1\/16<o.2.1):=by rw[b];simp;omega
 refine dF ?_;refine df (s0 l o.2.1 R) (c7 ?_)
 refine dT (λk1=>?_) λk1=>?_
 .refine dF ?_
  refine nk (λa=>?_) λa=>?_
  .refine dF ?_
   have e:pf l o=(l,(4,d_)):=by rw[pf,cS c,if_pos k1,if_pos a]
   rw[e];exact dg Z Z
  refine gT (C4 l R) (c7 ?_)
  have d6:(l.map eC).length=l.length:=ec ..
  refine wU (ar5 (l:=l.map eC) (vs:=[eC (o.2.1,1,fB)]) (i:=lI l o.2.1) (by rw[d6];exact List.findIdx_le_length) R (arl 0) dw (At l) Z) [(1000000,57)] Z lO Z (c7 ?_)
  have e:pf l o=(l.take (lI l o.2.1)++(o.2.1,1,fB)::l.drop (lI l o.2.1),(0,(o.2.1,1,fB))):=by rw[pf,cS c,if_pos k1,cS eM]
  rw[e]
  have f:(l.take (lI l o.2.1)++(o.2.1,1,fB)::l.drop (lI l o.2.1)).map eC=(l.map eC).take (lI l o.2.1)++([eC (o.2.1,1,fB)]++(l.map eC).drop (lI l o.2.1)):=dw
  rw[f];exact dg Z Z
 refine dF ?_
 refine hV (λa=>?_) λa=>?_
 .refine dF ?_
  have e:pf l o=(l,(3,d_)):=by rw[pf,cS c,cS k1,if_pos eM]
  rw[e];exact dg Z Z
 have a:rl l o.2.1=N:=by simpa using a
 have⟨n,c0⟩:∃n,lI l o.2.1=n:=⟨_,Z⟩;rw[c0]
 have d6:(l.map eC).length=l.length:=ec ..
 have⟨d,u⟩:∃h:n<l.length,l[n].1=o.2.1:=by have hb:=a;unfold rl at hb;grind
 have s:pf l o=(if o.1=2 then(l,(0,l[n])) else
  if o.1=4 then(l.take n++l.drop (n+1),(0,d_)) else
  if 16<o.2.2.size then(l,(5,d_)) else
  if 2147483647<=l[n].2.1 then(l,(7,d_)) else(l.set n (l[n].1,l[n].2.1+1,o.2.2),(0,(l[n].1,l[n].2.1+1,o.2.2)))):=by
  rw[pf,cS c,cS k1,cS eM,c0,fq d]
 rw[s];clear s;refine dF ?_;refine ea R (cO ?_);refine d2 (x:=eC l[n]) (by simp[d]) (c7 ?_)
 refine dT (λeK=>?_) λeK=>?_
 .rw[if_pos eK];refine dF ?_;exact dg Z Z
 rw[cS eK];refine dF ?_
 refine dT (λg=>?_) λg=>?_
 .rw[if_pos g];refine dF ?_;refine gT (C4 l R) (c7 ?_);refine wU (ar6 (l:=l.map eC) (i:=n) (j:=n+1) R R R (At l)) [] Z ez Z (c7 ?_);rw[jl,yg,ark];exact dg Z Z
 rw[cS g];refine dF ?_
 refine dT (λt=>?_) λt=>?_
 .rw[if_pos (show 16<o.2.2.size by omega)];refine dF ?_;exact dg Z Z
 rw[cS (show ¬16<o.2.2.size by omega)];refine dF ?_
 refine dT (λm=>?_) λm=>?_
 .rw[if_pos m];refine dF ?_;exact dg Z Z
 rw[cS m];have cY:=lf.1 ((LF.1 b).one l[n] (hF d));refine dF ?_;refine gT (C4 l R) (c7 ?_);refine ea R (cO ?_);refine d2 (x:=eC l[n]) (by simp[d]) (c7 ?_)
 have f:(l.set n (l[n].1,l[n].2.1+1,o.2.2)).map eC=(l.map eC).set n (eC (l[n].1,l[n].2.1+1,o.2.2)):=rQ ..
 apply dg Z;show c3.dS [.agg [.dm ((l.map eC).set n (eC (l[n].1,l[n].2.1+1,o.2.2)))],.agg (ach (0,(l[n].1,l[n].2.1+1,o.2.2)))]=_;rw[<-f]
end Hy
open Go.Proofs Go.RowKit
def aci(o):d0 cQ 148 [.agg (kz o)] (.bool (i1 o)):=by
 have h:=Hy.asc [] o dw;have d6:Hy.rk []=N:=Hy.LF.2 ⟨λx eE=>uH,λi cK=>dN cK dw⟩
 have e:decide ((Hy.pf [] o).2.1=1)=i1 o:=by
  rw[Hy.pf,i1,d6]
  by_cases Q:o.1<1
  .rw[if_pos af2];simp[Q]
  by_cases c5:4<o.1
  .rw[if_pos (by simp[c5])];simp[c5]
  by_cases a:o.2.1<1
  .rw[if_pos (by simp[a])];simp[a]
  by_cases b:16<o.2.1
  .rw[if_pos (by simp[b])];simp[b]
  rw[cS eM,decide_eq_false Q,decide_eq_false c5,decide_eq_false a,decide_eq_false b]
  by_cases du:o.1=1
  .rw[if_pos du];rfl
  .rw[cS du];rfl
 rw[<-e];refine d5 Tryz.func148 1 Z cV (dk ?_);refine eH ?_;exact dg Z Z
def asd{l i x}(h:i<l.length)(j):h3 (l.set i x) j=if i=j then x else h3 l j:=by unfold h3;grind
def ase(m):∀i,i<17->((sb m).drop (13+i*3)).take 3=lc m.ej i
 |0,_=>rfl|1,_=>rfl|2,_=>rfl|3,_=>rfl|4,_=>rfl|5,_=>rfl|6,_=>rfl|7,_=>rfl|8,_=>rfl|9,_=>rfl|10,_=>rfl|11,_=>rfl|12,_=>rfl|13,_=>rfl|14,_=>rfl|15,_=>rfl|16,_=>rfl|n+17,h=>dN h R
def acj(m):(sb m).length=75:=rfl
def LH{m i j s K}(cK:i<17)(a:j=13+i*3)(b:s=3)(k:K (lc m.ej i)):bif hn (j+s) (sb m).length then qJ (((sb m).drop j).take s) K else False:=by subst a b;rwa[ase m i cK,acj,rD R]
def asf(m x)(b:m.ej.length=17):∀i,i<17->BW (sb m) (13+i*3) (x.cells.map dp.d)=sb {m with ej:=m.ej.set i x}:=by
 intro i cK;have s:=λj=>asd (l:=m.ej) (i:=i) (x:=x) R j
 have a:∀j,lc (m.ej.set i x) j=if i=j then x.cells.map dp.d else lc m.ej j:=λj=>by
  unfold lc;grind
 have e:sb {m with ej:=m.ej.set i x}=.own 1000001::(m.p.box++(m.h.cells.map dp.d++(G_ (m.ej.set i x)++((m.s.cells m.p.d).map dp.d++[.d m.eh,.own 1000004])))):=Z;rw[e,G_];simp[a]
 match i,cK with
 |0,_=>rfl|1,_=>rfl|2,_=>rfl|3,_=>rfl|4,_=>rfl|5,_=>rfl|6,_=>rfl|7,_=>rfl|8,_=>rfl|9,_=>rfl|10,_=>rfl|11,_=>rfl|12,_=>rfl|13,_=>rfl|14,_=>rfl|15,_=>rfl|16,_=>rfl|n+17,h=>exact dN h R
def ack{m i j s l x K}(cK:i<17)(b:m.ej.length=17)(a:j=13+i*3)(c:s=3)(d:l=x.cells.map dp.d)(k:K (sb {m with ej:=m.ej.set i x})):
  bif hn (j+s) (sb m).length then Fe (sb m) j (.agg l) K else False:=by
 subst a c d;rw[acj,rD R];show K (BW (sb m) (13+i*3) (x.cells.map dp.d));rw[asf m x b i cK];exact k
def LI(ws:I gd):I (V×d4):=[(1000001,.row (ws.map j_) 11 L)]
def yS(ws k w)(a:ws[k]?=U w)(b:w.ended<w.todo.length):fI cQ 147 [.ptr 1000001 k 0] (LI ws) (LI ws) (.agg (kz w.op)):=by
 have g:(ws.map j_)[k]?=U (j_ w):=by rw[ir,a];rfl
 have m:(w.todo.map kz).length=w.todo.length:=ec ..
 have o:(w.todo.map kz)[w.ended]?=U (kz w.op):=by rw[ir,gd.op,fq b];rfl
 refine hl Tryz.func147 1 Z cV f0 (c6 ?_);refine eH ?_;exact ge Z Z Z ez
def yT(ws k w)(a:ws[k]?=U w)(r now):fI cQ 117 [.ptr 1000001 k 0,.agg ((K2 r).map dp.d),.d (.int .i64 now)] (LI ws) (LI (ws.set k (qp w r now))) (.dS []):=by
 have g:(ws.map j_)[k]?=U (j_ w):=by rw[ir,a];rfl
 have l:k<(ws.map j_).length:=by rw[ec];exact(f_.1 a).1
 refine hl Tryz.func117 3 Z cV f0 (c6 ?_);refine d2 g (c6 ?_);refine d2 (vJ l) (c6 ?_);refine d2 (vJ eM) (c6 ?_);exact ge Z Z Z ⟨uf (ar0 _ _ (qp w r now)),dM⟩
def RU(m:eu)(k:V)(w:gd):eu:={pd m k {w with asked:=N,st:=2} with ej:=r7 m.ej w.op.2.1 (uc (iS m w.op.2.1) k (decide (w.op.1≠2)))}
def DJ{o}(h:i1 o=L):1<=o.1/\o.1<=4/\1<=o.2.1/\o.2.1<=16:=by simp[i1,Bool.or_eq_false_iff,Jg]at h;omega
set_option maxRecDepth 20000 in
def asg(m k)(w:gd)(now:J)(l:m.h.ds.length<=1000)(c:j9 m.h k=L):
  fI cQ 111 [.ptr 1000000 0 0,.d k,.ptr 1000001 k 0,.d now] (e9 m) (e9 m) (.bool L):=by
 have cK:=RS m k l;rw[c]at cK;refine hl acm 4 Z cV f0 (c6 ?_);refine gk cK iw Z eJ Z (c6 ?_);exact ge Z Z Z eJ
set_option maxRecDepth 20000 in
def ash(m k w now)(a:m.ws[k]?=U w)(b:w.ended<w.todo.length)(l:m.h.ds.length<=1000)(c:j9 m.h k=N)(d:i1 w.op=N):
  fI cQ 111 [.ptr 1000000 0 0,.d k,.ptr 1000001 k 0,.d (.int .i64 now)] (e9 m) (e9 (pd m k (qp w (1,d_) now))) (.bool N):=by
 have cK:=RS m k l;rw[c]at cK;have r:=aci w.op;rw[d]at r;refine hl acm 4 Z cV f0 (c6 ?_);refine gk cK iw Z eJ Z (c6 ?_);refine gk (yS m.ws k w a b) [(1000001,1000001)] Z ez Z (c6 ?_);refine df r (c6 ?_);refine gk (yT m.ws k w a (1,d_) now) [(1000001,1000001)] Z ez Z (c6 ?_);exact ge Z Z Z eJ
set_option maxRecDepth 20000 in
def asi(m k w)(now:J)(f:m.ws[k]?=U w)(s:w.ended<w.todo.length)(v:m.h.ds.length<=1000)(t:j9 m.h k=N)(n:i1 w.op=L)
  (e:m.ej.length=17)(g:k<4)(o:rf (iS m w.op.2.1))(c0:k∉(iS m w.op.2.1).c'++(iS m w.op.2.1).q.map (·.1))(l:(iS m w.op.2.1).c'.length+(iS m w.op.2.1).q.length<=3):
  fI cQ 111 [.ptr 1000000 0 0,.d k,.ptr 1000001 k 0,.d now] (e9 m) (e9 (RU m k w)) (.bool N):=by
 have cK:=RS m k v;rw[t]at cK;have r:=aci w.op;rw[n]at r;have⟨y,z,A,B⟩:=DJ n;have⟨i,d⟩:∃i:V,w.op.2.1=(i:J):=⟨w.op.2.1.toNat,R⟩;have c:i<17:=R
 have cM:iS m w.op.2.1=h3 m.ej i:=by rw[iS,d];rfl
 rw[cM]at o c0 l;have⟨b,a⟩:=arn (h3 m.ej i) o k (decide (w.op.1≠2)) g c0 l;have u:=oL f;have j:decide (w.op.1≠2)=!decide (w.op.1=2):=decide_not;rw[j]at a;refine hl acm 4 Z cV f0 (c6 ?_);refine gk cK iw Z eJ Z (c6 ?_);refine gk (yS m.ws k w f s) [(1000001,1000001)] Z ez Z (c6 ?_);refine df r (c6 ?_);rw[d];refine ea R (c6 ?_);refine LH c f0 Z (c6 ?_);refine df a (c6 ?_);refine ea R (c6 ?_);refine ack (m:=m) (x:=uc (h3 m.ej i) k (!decide (w.op.1=2))) c e f0 Z Z (c6 ?_);refine d2 u (c6 ?_);refine d2 (vJ (rj f)) (c6 ?_)
 have q:RU m k w={pd m k {w with asked:=N,st:=2} with ej:=m.ej.set i (uc (h3 m.ej i) k (!decide (w.op.1=2)))}:=by rw[RU,j,cM,r7,d];rfl
 rw[q];exact ge Z Z Z ⟨cV,uf (DI _ {w with asked:=N,st:=2}),Z,dM⟩
def acn{O}:∀ {l},od O l->gu O l=O
 | [],_=>rfl
 |(b,B)::r,h=>by
  have e:eS O b (U B)=O:=by
   funext t
   by_cases q:t=b
   .subst q;rw[gP];exact h.1.symm
   .rw[gq _ _ q]
  rw[gu,e];exact acn h.2
def DK{P f args dD p d O K}(H:fI P f args p p d)(s)
  (u:(wQ s p&&Ad s)=N)(z:et s 1000004=cL)(c:od O (ku s p))(x:ow s args=dD)(k:K ⟨lR d,[],cL⟩):zK P f dD O K:=by
 have h:=H.2 s O (JP u) (Ae c);rw[z,x]at h;refine NF (e:=⟨lR d,[],cL⟩) ⟨h.1,λcX own M D w vs o r q c9 cP=>(h.2 cX own M D w vs o r q c9 cP).mono λy w' t=>have⟨v,b,ei,A,g,i,j,l,a,m,n⟩:=t;⟨v,b,ei,A,g,i,j,l,?_,m,n⟩⟩ k;have:(⟨lR d,ku s p,cL⟩:gp).O O=O:=acn c;rwa[this]at a
set_option maxRecDepth 20000 in
def asj(m k w)(d:m.ws[k]?=U w)(c:w.ended<w.todo.length)(b:0<=w.op.2.1)(i:w.op.2.1.toNat<17)(l:rf (h3 m.ej w.op.2.1.toNat))(o:s9 (h3 m.ej w.op.2.1.toNat) k=L):
  fI cQ 112 [.ptr 1000000 0 0,.d k,.ptr 1000001 k 0] (e9 m) (e9 m) (.bool L):=by
 have a:=abK (h3 m.ej w.op.2.1.toNat) l k;rw[o]at a;refine hl asl 3 Z cV f0 (c6 ?_);refine DK (yS m.ws k w d c) [(1000001,1000001)] Z Z ez Z (c6 ?_);refine kn b R (c6 ?_);refine LH i TB Z (c6 ?_);refine df a (c6 ?_);exact ge Z Z Z eJ
set_option maxRecDepth 20000 in
def asm(m k w)(c:m.ws[k]?=U w)(d:w.ended<w.todo.length)(b:0<=w.op.2.1)(i:w.op.2.1.toNat<17)(l:rf (h3 m.ej w.op.2.1.toNat))(o:s9 (h3 m.ej w.op.2.1.toNat) k=N):
  fI cQ 112 [.ptr 1000000 0 0,.d k,.ptr 1000001 k 0] (e9 m) (e9 (pd m k {w with st:=3})) (.bool N):=by
 have g:=oL c;have a:=abK (h3 m.ej w.op.2.1.toNat) l k;rw[o]at a;refine hl asl 3 Z cV f0 (c6 ?_);refine DK (yS m.ws k w c d) [(1000001,1000001)] Z Z ez Z (c6 ?_);refine kn b R (c6 ?_);refine LH i TB Z (c6 ?_);refine df a (c6 ?_);refine eH ?_;exact ge Z Z Z ⟨Z,uf (RR {w with st:=3}),Z,dM⟩
set_option maxRecDepth 20000 in
def asn(m k w)(a:m.ws[k]?=U w)(b:w.ended<w.todo.length)(o:jb m.h)(c:j9 m.h k=N)(c9:l6 m.h k=L)(F:ey m.p.f)(r:xi m.h k=(m.h,6)):
  fI cQ 113 [.ptr 1000000 0 0,.d k,.ptr 1000001 k 0] (e9 m) (e9 m) (.bool L):=by
 have g:=oL a;have O:=Rx m.h o k c c9;rw[r]at O;have f:=t9 m.p.f w.op.2.1 F.h6 F.dl;refine hl aco 3 Z cV f0 (c6 ?_);refine eH ?_;exact ge Z Z Z eJ
def aso(m:eu)(k:V)(w:gd):eu:={pd m k {w with pinned:=N,st:=5} with h:=qm m.h k}
def asp(m:eu)(k:V)(w:gd):eu:={pd m k {w with pinned:=N,st:=4} with h:=qm m.h k,s:=ud m.s k w.op.2.1}
set_option maxRecDepth 20000 in
def asq(m k w)(a:m.ws[k]?=U w)(c:w.ended<w.todo.length)(o:jb m.h)(d:j9 m.h k=N)(c9:l6 m.h k=L)(F:ey m.p.f)(r:xi m.h k=(qm m.h k,0))(n:¬(l7 m.p w.op.2.1=L/\ (w.op.1=2\/w.op.1=3))):
  fI cQ 113 [.ptr 1000000 0 0,.d k,.ptr 1000001 k 0] (e9 m) (e9 (aso m k w)) (.bool N):=by
 have b:=oL a;have O:=Rx m.h o k d c9;rw[r]at O;have f:=t9 m.p.f w.op.2.1 F.h6 F.dl;refine hl aco 3 Z cV f0 (c6 ?_);refine df O (c6 ?_);refine DK (yS m.ws k w a c) [(1000001,1000001)] Z Z ez Z (c6 ?_);refine df f (c6 ?_)
 refine hV (λe=>?_) λe=>?_
 .refine c6 ?_;refine d2 b (c6 ?_);refine d2 (vJ (rj a)) (c6 ?_);exact ge Z Z Z ⟨cV,uf (DI _ {w with pinned:=N,st:=5}),Z,dM⟩
 .have i:¬(w.op.1=2\/w.op.1=3):=λg=>n ⟨e,g⟩;refine c6 ?_;refine d2 b (c6 ?_);refine d2 (vJ (rj a)) (c6 ?_);exact ge Z Z Z ⟨cV,uf (DI _ {w with pinned:=N,st:=5}),Z,dM⟩
set_option maxRecDepth 20000 in
def asr(m k w)(a:m.ws[k]?=U w)(l:w.ended<w.todo.length)(s:jb m.h)(o:j9 m.h k=N)(c9:l6 m.h k=L)(F:ey m.p.f)(r:xi m.h k=(qm m.h k,0))(n:l7 m.p w.op.2.1=L)(i:w.op.1=2\/w.op.1=3)
  (os:r6 m.s)(t:iI m.p.d)(c:k<m.s.eD.length)(j:m.s.eD[k]=cL)(Q:1<=w.op.2.1)(b:w.op.2.1<=16):
  fI cQ 113 [.ptr 1000000 0 0,.d k,.ptr 1000001 k 0] (e9 m) (e9 (asp m k w)) (.bool N):=by
 have d:=arR m.s m.p.d os t k c j w.op.2.1 Q b;have f:=oL a;have O:=Rx m.h s k o c9;rw[r]at O;have q:=t9 m.p.f w.op.2.1 F.h6 F.dl;refine hl aco 3 Z cV f0 (c6 ?_);refine df O (c6 ?_);refine DK (yS m.ws k w a l) [(1000001,1000001)] Z Z ez Z (c6 ?_);refine df q (c6 ?_)
 refine hV (λe=>?_) λe=>?_
 .rw[l7,e]at n;cases n
 .refine c6 ?_
  refine dT (λg=>?_) λg=>?_
  .refine c6 ?_;refine df d (c6 ?_);refine d2 f (c6 ?_);refine d2 (vJ (rj a)) (c6 ?_);exact ge Z Z Z ⟨cV,uf (DI _ {w with pinned:=N,st:=4}),Z,dM⟩
  .refine c6 ?_;refine df d (c6 ?_);refine d2 f (c6 ?_);refine d2 (vJ (rj a)) (c6 ?_);exact ge Z Z Z ⟨cV,uf (DI _ {w with pinned:=N,st:=4}),Z,dM⟩
def asV(k):kg cQ 153 [.int .i64 k] ((k2 k).map h1) 1:=by
 apply lZ Tryz.func153 1 Z cV;rw[k2]
 conv=>whnf
 refine dT (λQ=>?_) λQ=>?_
 .rw[if_pos Q];refine c6 ?_;exact⟨2,Z,.inl ⟨6,Z,Z⟩⟩
 rw[cS Q];refine c6 ?_
 refine dT (λa=>?_) λa=>?_
 .rw[if_pos a];refine c6 ?_;exact⟨2,Z,.inl ⟨9,Z,Z⟩⟩
 rw[cS a];refine c6 ?_
 refine dT (λb=>?_) λb=>?_
 .rw[if_pos b];refine c6 ?_;exact⟨2,Z,.inl ⟨12,Z,Z⟩⟩
 rw[cS b];refine c6 ?_
 refine dT (λc=>?_) λc=>?_
 .rw[if_pos c];refine c6 ?_;exact⟨2,Z,.inl ⟨15,Z,Z⟩⟩
 rw[cS c];refine c6 ?_;exact⟨2,Z,.inr g_⟩
def acW(m:eu)(d:gA):I dp:=.own 1000001::(m.p.box++(m.h.cells.map dp.d++(G_ m.ej++((m.s.cells d).map dp.d++[.d m.eh,.own 1000004]))))
def DN(m:eu)(d:gA):I (V×d4):=[(1000000,.box (acW m d) L),(1000001,.row (m.ws.map j_) 11 L),(1000004,.row (m.dq.map pK) 11 L)]
def AY(m:eu)(p:fJ):eu:={m with p:=p}
def acX(m d id)(F:ey m.p.f)(cW:id≠0):fI cQ 154 [.ptr 1000000 0 0,.d (.int .i64 id)] (DN m d) (DN m d) (.bool (vE m.p id)):=by
 have f:=t9 m.p.f id F.h6 F.dl
 have a:(m.p.f.cN.map fl).length=m.p.f.cN.length:=ec ..
 apply hl Tryz.func154 2 Z cV f0;rw[vE]
 conv=>whnf
 refine c6 ?_;rcases F.xb cW with⟨_,n⟩|⟨i,_,c8⟩
 .rw[qk F n cW]at f⊢;refine eH ?_;exact ge Z Z Z eJ
 .rw[qj c8]at f⊢;have cK:=c8.cK;refine df f (c6 ?_);refine ea R (cO ?_);refine d2 (x:=fl m.p.f.cN[i]) Mx (c7 ?_);exact ge Z (by simp only[Bool.true_and,gz,j7 cK];rfl) Z eJ
structure asW(o:gU)(ja:fJ)(t:J)(vf:I J)(s:V×fJ×lH):Prop where
 le:s.1<=vf.length
 n2:gm t s.2.1
 eq:kA o (vf.drop s.1) s.2.1 s.2.2=kA o vf ja (0,d_)
def asX(k):(k2 k).length<=2:=by rw[k2];grind
set_option maxRecDepth 20000 in
def asY(m k w now t)(j:m.ws[k]?=U w)(E:w.ended<w.todo.length)(g:gm t m.p)(A:t<=2147483647)(H:i1 w.op=L):
  fI cQ 114 [.ptr 1000000 0 0,.ptr 1000001 k 0,.d (.int .i64 now)] (e9 m) (e9 {pd m k (qp w (gg m.p w.op).2 now) with p:=(gg m.p w.op).1}) (.dS []):=by
 have⟨dh,cX,K,cM⟩:=DJ H;have C:=asX w.op.1
 have F:((k2 w.op.1).map h1).length=(k2 w.op.1).length:=ec ..
 refine hl Tryz.func114 3 Z cV f0 (c6 ?_);refine DK (yS m.ws k w j E) [(1000001,1000001)] Z Z ez Z (c6 ?_);refine gT (asV w.op.1) (c6 ?_);refine eW (D:=V×fJ×lH) (λs=>[(0,.ptr 1000000 0 0),(1,.ptr 1000001 k 0),(2,.d now),(6,.ptr 6 0 0),(7,.ptr 7 0 0),(22,.own 22),(23,.d ((k2 w.op.1).map h1).length),(24,.d s.1)])
  (λs=>[(1000000,.box (acW (AY m s.2.1) m.p.d) L),(1000001,.row (m.ws.map j_) 11 L),(1000004,.row (m.dq.map pK) 11 L),(6,.box ((kz w.op).map dp.d) L),(7,.box ((K2 s.2.2).map dp.d) L),(22,.row ((k2 w.op.1).map h1) 1 L)])
  (asW w.op m.p t (k2 w.op.1)) (λs=>(k2 w.op.1).length-s.1) (0,m.p,(0,d_)) ⟨eY _,g,Z⟩ (dX (dH lP mc dV)) ?_
 rintro⟨i,p,r⟩ ⟨cK,l,f⟩;simp only[]at cK l f⊢
 conv=>whnf
 refine dT (λdu=>?_) λdu=>?_
 .have u:i<(k2 w.op.1).length:=R
  rw[qT u,kA]at f;have o:=K1 p ((k2 w.op.1)[i],w.op.2.1,w.op.2.2) l.fm (by rwa[l.now]);have c:=(l.act ((k2 w.op.1)[i],w.op.2.1,w.op.2.2)).1;have⟨q,G⟩:∃q,hp p ((k2 w.op.1)[i],w.op.2.1,w.op.2.2)=q:=⟨_,Z⟩;rw[G]at o f c;refine ea R (cO ?_);refine d2 (x:=h1 (k2 w.op.1)[i]) (by simp[u]) (c7 ?_);refine c6 ?_;refine df o (c6 ?_)
  refine dT (λv=>?_) λv=>?_
  .rw[cS (λz=>z v)]at f;refine c6 ?_;refine⟨(i+1,q.1,(r.1,q.2.1)),⟨Bp,c,f⟩,Bp,(dX (dH lP mc dV))⟩
  .rw[if_pos v]at f;have dI:=c;have d:=K1 q.1 (5,w.op.2.1,fB) dI.fm (by rwa[dI.now]);have⟨h,e⟩:∃h,hp q.1 (5,w.op.2.1,fB)=h:=⟨_,Z⟩;rw[e]at d;have a:=acX (AY m q.1) m.p.d w.op.2.1 dI.fm R;replace a:fI cQ 154 [.ptr 1000000 0 0,.d (.int .i64 w.op.2.1)] (DN (AY m q.1) m.p.d) (DN (AY m q.1) m.p.d) (.bool (vE q.1 w.op.2.1)):=a
   have W:gg m.p w.op=rh w.op (q.1,(q.2.2.2,d_)):=by rw[gg,<-f]
   rw[rh]at W;simp only[]at W;refine c6 ?_;refine gk a iw Z eJ Z (cO ?_)
   cases n:vE q.1 w.op.2.1 with
   |true=>
    rw[if_pos n,e]at W;refine eH ?_
    have b:gg m.p w.op=(h.1,(q.2.2.2,d_)):=by rw[W,cS (λz=>v z.1)]
    refine c6 ?_;refine gk (yT m.ws k w j (q.2.2.2,d_) now) [(1000001,1000001)] Z ez Z (c6 ?_);rw[b];exact ge Z Z Z ⟨cV,Z,Z,dM⟩
   |false=>rw[cS (by rw[n];decide)]at W;have b:=W;refine c6 ?_;refine gk (yT m.ws k w j (q.2.2.2,d_) now) [(1000001,1000001)] Z ez Z (c6 ?_);rw[b];exact ge Z Z Z ⟨cV,Z,Z,dM⟩
 .have y:i=(k2 w.op.1).length:=R
  subst y;rw[ar1,kA]at f;have dI:=l;have d:=K1 p (5,w.op.2.1,fB) dI.fm (by rwa[dI.now]);have⟨h,e⟩:∃h,hp p (5,w.op.2.1,fB)=h:=⟨_,Z⟩;rw[e]at d;have a:=acX (AY m p) m.p.d w.op.2.1 dI.fm R;replace a:fI cQ 154 [.ptr 1000000 0 0,.d w.op.2.1] (DN (AY m p) m.p.d) (DN (AY m p) m.p.d) (.bool (vE p w.op.2.1)):=a
  have W:gg m.p w.op=rh w.op (p,r):=by rw[gg,<-f]
  rw[rh]at W;simp only[]at W;refine c6 ?_;refine gk a iw Z eJ Z (cO ?_)
  cases n:vE p w.op.2.1 with
  |true=>
   rw[if_pos n,e]at W;refine eH ?_
   refine dT (λI=>?_) λI=>?_
   .refine c6 ?_
    refine dT (λB=>?_) λB=>?_
    .have b:gg m.p w.op=(h.1,r):=by simp_all
     refine c6 ?_;refine gk (yT m.ws k w j r now) [(1000001,1000001)] Z ez Z (c6 ?_);rw[b];exact ge Z Z Z ⟨cV,Z,Z,dM⟩
    .have b:gg m.p w.op=(h.1,(h.2.2.2,d_)):=by simp_all
     refine c6 ?_;refine gk (yT m.ws k w j (h.2.2.2,d_) now) [(1000001,1000001)] Z ez Z (c6 ?_);rw[b];exact ge Z Z Z ⟨cV,Z,Z,dM⟩
   .have b:gg m.p w.op=(h.1,r):=by simp_all
    refine c6 ?_;refine gk (yT m.ws k w j r now) [(1000001,1000001)] Z ez Z (c6 ?_);rw[b];exact ge Z Z Z ⟨cV,Z,Z,dM⟩
  |false=>rw[cS (by rw[n];decide)]at W;have b:=W;refine c6 ?_;refine gk (yT m.ws k w j r now) [(1000001,1000001)] Z ez Z (c6 ?_);rw[b];exact ge Z Z Z ⟨cV,Z,Z,dM⟩
def acY:∀ (l:I qo),gZ 11 (l.map pK)=N
 | []=>rfl|_::r=>acY r
def acZ (w:gd):gd:=⟨w.todo,w.ended+1,0,L,L,0,0,(0,d_)⟩
def R' (m:eu) (k:V) (w:gd) (now:J):eu:={m with
 ws:=m.ws.set k (acZ w)
 h:=r3 (if w.pinned=N then xe m.h k else m.h) k
 ej:=if w.asked=N then r7 m.ej w.op.2.1 (r5 (iS m w.op.2.1) k) else m.ej
 dq:=m.dq++[⟨k,w.op,w.res,w.nX,w.done,now⟩]}
set_option maxRecDepth 20000 in
def asZ(m:eu)(k:V)(w:gd)(now:J)(c_:m.ws[k]?=U w)(hb:w.ended<w.todo.length)(d6:w.todo.length<=1000)(he:m.dq.length<=900000)(b:jb m.h)(c:k<4)(dj:j9 m.h k=N)(c9:w.pinned=L\/w.pinned=N/\l6 m.h k=N)(dv:w.asked=L\/w.asked=N/\m.ej.length=17/\0<=w.op.2.1/\w.op.2.1.toNat<17/\rf (h3 m.ej w.op.2.1.toNat)/\k∈(h3 m.ej w.op.2.1.toNat).c'):
 fI cQ 115 [.ptr 1000000 0 0,.d k,.ptr 1000001 k 0,.d now] (e9 m) (e9 (R' m k w now)) (.dS []):=by
 have⟨n7,g⟩:=abJ m.h b k c dj;have⟨n7,i⟩:=abJ (xe m.h k) (abg b k) k c ((K9 m.h k k L).trans dj);have a:=oL c_
 have o:(m.dq.map pK).length=m.dq.length:=ec ..
 rcases c9 with O|⟨O,c9⟩<;>rcases dv with dt|⟨dt,j,e,f,ol,l⟩<;>(
  simp only[R',O,dt,nz,rG,qF];refine hl Tryz.func115 4 Z cV f0 (c6 ?_);refine DK (yS m.ws k w c_ hb) [(1000001,1000001)] Z Z ⟨Z,dM⟩ Z (c6 ?_);refine d2 a (c6 ?_);rw[O];refine c6 ?_
  try refine df (aqY m.h b k dj c9) (c6 ?_)
  refine d2 a (c6 ?_);rw[dt];refine c6 ?_
  try (
   refine Exists.elim (aro (h3 m.ej w.op.2.1.toNat) ol k l) λp n=>?_
   refine kn e R (c6 ?_);refine LH (m:={m with h:=_}) f (by show 0+13+w.op.2.1.toNat*3=_;omega) Z (c6 ?_);refine df n (c6 ?_);refine kn e R (c6 ?_)
   refine ack (m:={m with h:=_}) (x:=r5 (h3 m.ej w.op.2.1.toNat) k) f j (by show 0+13+w.op.2.1.toNat*3=_;omega) Z Z (c6 ?_))
  first|refine df g (c6 ?_)|refine df i (c6 ?_)
  iterate 3 refine d2 a (c6 ?_)
  refine fO 1000000 1000 (by show(m.dq.map pK).length+1<=1000000;omega) cZ cZ cZ (c6 ?_)
  iterate 3 refine d2 a (c6 ?_)
  exact ge Z Z Z ⟨by kernel_rfl,uf (RR (acZ w)),uf (by rw[jl];rfl),dM⟩)
def mx(m:eu):eu:={m with eh:=m.eh+1}
def ac0(m k)(c0:¬(0<=k/\k<m.ws.length)):fI cQ 79 [.ptr 1000000 0 0,.d (.int .i64 k)] (e9 m) (e9 m) (.bool L):=by
 have cK:=ug m k
 have e:(decide (0<=k)&&decide (k<m.ws.length))=L:=by rw[Bool.eq_false_iff];simpa using λh=>R
 rw[e]at cK;refine hl AZ 2 Z cV f0 (c6 ?_);refine gk cK iw Z eJ Z (c6 ?_);exact ge Z Z Z eJ
set_option maxRecDepth 20000 in
def ac1(m c)(k:V)(w b)(a:m.ws[k]?=U w)(s:w.st=0)(d:-1000000<=m.eh)(f:m.eh<=1000000)
  (H:fI cQ 110 [.ptr 1000000 0 0,.d k,.ptr 1000001 k 0,.d m.eh] (e9 (mx m)) (e9 c) (.bool b)):
  fI cQ 79 [.ptr 1000000 0 0,.d k] (e9 m) (e9 c) (.bool b):=by
 have cK:=ug m k
 have e:(decide (0<= (k:J))&&decide ((k:J)<m.ws.length))=N:=by have:=(f_.1 a).1;simp;omega
 rw[e]at cK;have g:=oL a;have l:=rj a;refine hl AZ 2 Z cV f0 (c6 ?_);refine gk cK iw Z eJ Z (c6 ?_);refine eH ?_;refine gk H iw Z ⟨cV,Z,Z,dM⟩ Z (c6 ?_);exact ge Z Z Z eJ
set_option maxRecDepth 20000 in
def Sa(m c)(k:V)(w b)(a:m.ws[k]?=U w)(s:w.st=1)(d:-1000000<=m.eh)(f:m.eh<=1000000)
  (H:fI cQ 111 [.ptr 1000000 0 0,.d k,.ptr 1000001 k 0,.d m.eh] (e9 (mx m)) (e9 c) (.bool b)):
  fI cQ 79 [.ptr 1000000 0 0,.d k] (e9 m) (e9 c) (.bool b):=by
 have cK:=ug m k
 have e:(decide (0<= (k:J))&&decide ((k:J)<m.ws.length))=N:=by have:=(f_.1 a).1;simp;omega
 rw[e]at cK;have g:=oL a;have l:=rj a;refine hl AZ 2 Z cV f0 (c6 ?_);refine gk cK iw Z eJ Z (c6 ?_);refine eH ?_;refine gk H iw Z ⟨cV,Z,Z,dM⟩ Z (c6 ?_);exact ge Z Z Z eJ
set_option maxRecDepth 20000 in
def ac2(m c)(k:V)(w b)(a:m.ws[k]?=U w)(s:w.st=2)(d:-1000000<=m.eh)(f:m.eh<=1000000)
  (H:fI cQ 112 [.ptr 1000000 0 0,.d k,.ptr 1000001 k 0] (e9 (mx m)) (e9 c) (.bool b)):
  fI cQ 79 [.ptr 1000000 0 0,.d k] (e9 m) (e9 c) (.bool b):=by
 have cK:=ug m k
 have e:(decide (0<= (k:J))&&decide ((k:J)<m.ws.length))=N:=by have:=(f_.1 a).1;simp;omega
 rw[e]at cK;have g:=oL a;have l:=rj a;refine hl AZ 2 Z cV f0 (c6 ?_);refine gk cK iw Z eJ Z (c6 ?_);refine eH ?_;refine gk H iw Z ⟨cV,Z,Z,dM⟩ Z (c6 ?_);exact ge Z Z Z eJ
set_option maxRecDepth 20000 in
def Sb(m c)(k:V)(w b)(a:m.ws[k]?=U w)(s:w.st=3)(d:-1000000<=m.eh)(f:m.eh<=1000000)
  (H:fI cQ 113 [.ptr 1000000 0 0,.d k,.ptr 1000001 k 0] (e9 (mx m)) (e9 c) (.bool b)):
  fI cQ 79 [.ptr 1000000 0 0,.d k] (e9 m) (e9 c) (.bool b):=by
 have cK:=ug m k
 have e:(decide (0<= (k:J))&&decide ((k:J)<m.ws.length))=N:=by have:=(f_.1 a).1;simp;omega
 rw[e]at cK;have g:=oL a;have l:=rj a;refine hl AZ 2 Z cV f0 (c6 ?_);refine gk cK iw Z eJ Z (c6 ?_);refine eH ?_;refine gk H iw Z ⟨cV,Z,Z,dM⟩ Z (c6 ?_);exact ge Z Z Z eJ
set_option maxRecDepth 20000 in
def as0(m b k w)(a:m.ws[k]?=U w)(s:w.st=5)(c:-1000000<=m.eh)(d:m.eh<=1000000)
  (H:fI cQ 114 [.ptr 1000000 0 0,.ptr 1000001 k 0,.d m.eh] (e9 (mx m)) (e9 b) (.dS [])):
  fI cQ 79 [.ptr 1000000 0 0,.d k] (e9 m) (e9 b) (.bool N):=by
 have cK:=ug m k
 have e:(decide (0<= (k:J))&&decide ((k:J)<m.ws.length))=N:=by have:=(f_.1 a).1;simp;omega
 rw[e]at cK;have g:=oL a;have l:=rj a;refine hl AZ 2 Z cV f0 (c6 ?_);refine gk cK iw Z eJ Z (c6 ?_);refine eH ?_;refine gk H iw Z ⟨cV,Z,Z,dM⟩ Z (c6 ?_);exact ge Z Z Z eJ
set_option maxRecDepth 20000 in
def as1(m b)(k:V)(w)(a:m.ws[k]?=U w)(s:w.st=6)(c:-1000000<=m.eh)(d:m.eh<=1000000)
  (H:fI cQ 115 [.ptr 1000000 0 0,.d k,.ptr 1000001 k 0,.d m.eh] (e9 (mx m)) (e9 b) (.dS [])):
  fI cQ 79 [.ptr 1000000 0 0,.d k] (e9 m) (e9 b) (.bool N):=by
 have cK:=ug m k
 have e:(decide (0<= (k:J))&&decide ((k:J)<m.ws.length))=N:=by have:=(f_.1 a).1;simp;omega
 rw[e]at cK;have g:=oL a;have l:=rj a;refine hl AZ 2 Z cV f0 (c6 ?_);refine gk cK iw Z eJ Z (c6 ?_);refine eH ?_;refine gk H iw Z ⟨cV,Z,Z,dM⟩ Z (c6 ?_);exact ge Z Z Z eJ
set_option maxRecDepth 20000 in
def ac3(m)(o:mX m.s)(a:iI m.p.d):fI cQ 72 [.ptr 1000000 0 0] (e9 m) (e9 (qq m)) (.dS []):=by have O:=arU m.s m.p.d o a;refine hl Tryz.func72 1 Z cV f0 (c6 ?_);refine eH ?_;exact ge Z Z Z ⟨cV,Z,Z,dM⟩
set_option maxRecDepth 20000 in
def as2(m g2 t)(g:gm t m.p)(b:t<=2147483647)(a:0<=t):fI cQ 81 [.ptr 1000000 0 0,.d (.int .i64 g2)] (e9 m) (e9 (vF m g2)) (.dS []):=by
 have Q:=apo m.p 1 (by rwa[g.now]) (by rwa[g.now])
 have F:ey (lk m.p 1).f:=by
  rw[lk];repeat' split
  all_goals exact g.fm
 have c0:(lk m.p 1).now<=2147483647:=by
  have:=g.now;rw[lk];repeat' split
  all_goals (try dsimp only)
  all_goals omega
 have c:=K1 (lk m.p 1) (8,g2,fB) F c0;refine hl Tryz.func81 2 Z cV f0 (c6 ?_);refine eH ?_;exact ge Z Z Z ⟨cV,Z,Z,dM⟩
def as3(m:eu)(k:J):fI cQ 83 [.ptr 1000000 0 0,.d k] (e9 m) (e9 m) (.int .i64 (if 0<=k then(match m.ws[k.toNat]? with|some w=>(w.st:J)|none=>0) else 0)):=by
 have cK:=ug m k
 have b:(m.ws.map j_).length=m.ws.length:=ec ..
 apply hl Tryz.func83 2 Z cV f0
 by_cases h:0<=k/\k<m.ws.length
 .rw[show(decide (0<=k)&&decide (k<m.ws.length))=N by grind]at cK;have a:k.toNat<m.ws.length:=R;rw[if_pos h.1,fq a]
  conv=>whnf
  refine c6 ?_;refine gk cK iw Z eJ Z (c6 ?_);refine eH ?_;refine d2 (oL (fq a)) (c6 ?_);exact ge Z Z Z eJ
 .rw[show(decide (0<=k)&&decide (k<m.ws.length))=L by simp_all]at cK
  have e:(if 0<=k then(match m.ws[k.toNat]? with|some w=>(w.st:J)|none=>0) else 0)=0:=by
   split
   .simp_all
   .rfl
  rw[e]
  conv=>whnf
  refine c6 ?_;refine gk cK iw Z eJ Z (c6 ?_);exact ge Z Z Z eJ
def Hb(m):fI cQ 78 [.ptr 1000000 0 0] (e9 m) (e9 m) m.s.out.length:=by refine hl Tryz.func78 1 Z cV f0 (c6 ?_);exact ge Z eM Z eJ
def as4(m):fI cQ 77 [.ptr 1000000 0 0] (e9 m) (e9 m) m.eh:=by refine hl Tryz.func77 1 Z cV f0 (c6 ?_);exact ge Z Z Z eJ
def as5{l}(o:gZ 11 l=N)(b:l.length<=1000000):fI cQ 105 [.own 1000000] [(1000000,.row l 11 L)] [(1000000,.row l 11 L)] (.dm l):=by
 refine hl Tryz.func105 1 Z cV f0 (cO (oX (cO ?_)));intro r a
 conv=>whnf
 refine hV (λh=>?_) λh=>?_
 .have:=a h;subst this;refine c6 ?_;exact ge Z Z Z ez
 .refine c6 ?_;refine fz o (cO ?_);refine fO 1000100 1000 tj cZ cZ cZ (c6 ?_);exact ge Z Z Z ez
def as6(m)(l:m.dq.length<=1000000):fI cQ 75 [.ptr 1000000 0 0] (e9 m) (e9 m) (.dm (m.dq.map pK)):=by have c:=as5 (acY m.dq) eM;refine hl Tryz.func75 1 Z cV f0 (c6 ?_);refine JQ c [(1000000,1000004)] Z ez Z (c6 ?_);exact ge Z Z Z eJ
def as7(m:eu)(k:J)(b:∀w∈m.ws,w.ended<=1000000/\w.todo.length<=1000000):fI cQ 84 [.ptr 1000000 0 0,.d k] (e9 m) (e9 m) (.int .i64 (if 0<=k then(match m.ws[k.toNat]? with|some w=>((w.todo.length:J)-w.ended)|none=>0) else 0)):=by
 have cK:=ug m k
 have d:(m.ws.map j_).length=m.ws.length:=ec ..
 apply hl Tryz.func84 2 Z cV f0
 by_cases h:0<=k/\k<m.ws.length
 .rw[show(decide (0<=k)&&decide (k<m.ws.length))=N by grind]at cK;have a:k.toNat<m.ws.length:=R;rw[if_pos h.1,fq a];have c:=b _ (hF a)
  have t:(m.ws[k.toNat].todo.map kz).length=m.ws[k.toNat].todo.length:=ec ..
  have g:=oL (fq a)
  conv=>whnf
  refine c6 ?_;refine gk cK iw Z eJ Z (c6 ?_);refine eH ?_;exact ge Z (by rw[t];rfl) Z eJ
 .rw[show(decide (0<=k)&&decide (k<m.ws.length))=L by simp_all]at cK
  have e:(if 0<=k then(match m.ws[k.toNat]? with|some w=>((w.todo.length:J)-w.ended)|none=>0) else 0)=0:=by
   split
   .simp_all
   .rfl
  rw[e]
  conv=>whnf
  refine c6 ?_;refine gk cK iw Z eJ Z (c6 ?_);exact ge Z Z Z eJ
set_option maxRecDepth 20000 in
def as8(m:eu)(i)(o:r6 m.s)(a:iI m.p.d)(cK:i<m.s.out.length)(b:(m.s.out[i]).k0<3)(c0:m.s.next<2147483647):
  fI cQ 80 [.ptr 1000000 0 0,.d i,.d (.bool N)] (e9 m) (e9 {m with s:=ab9 m.s i m.s.out[i]}) (.bool N):=by
 have cP:=arW m.s m.p.d o a i cK b c0;have f:=Hb m;refine hl Sc 3 Z cV f0 (c6 ?_);refine gk f iw Z eJ Z (c6 ?_);refine df cP (c6 ?_);exact ge Z Z Z ⟨cV,Z,Z,dM⟩
set_option maxRecDepth 20000 in
def as9(m:eu)(i b)(o:r6 m.s)(h:iI m.p.d)(cK:i<m.s.out.length)(j:¬(b=N/\ (m.s.out[i]).k0<3/\m.s.next<2147483647))(w)(k:m.ws[(m.s.out[i]).gs]?=U w)(e:w.st=4)(c:0<=m.eh)(d:m.eh<=1000000):
  fI cQ 80 [.ptr 1000000 0 0,.d i,.d (.bool b)] (e9 m) (e9 {m with s:=G9 m.s i,ws:=m.ws.set (m.s.out[i]).gs (Do m w b)}) (.bool N):=by
 have cP:=arY m.s m.p.d o h i cK b j;have g:=oL k;have l:=rj k;have a:=ug {m with s:=G9 m.s i} (m.s.out[i]).gs
 rw[show(decide (0<= ((m.s.out[i]).gs:J))&&decide (((m.s.out[i]).gs:J)<({m with s:=G9 m.s i}:eu).ws.length))=N by
  have:=(f_.1 k).1
  simp;omega]at a
 have x:({m with s:=G9 m.s i}:eu).eh=m.eh:=rfl
 cases b with|false=>have f:=Hb m;refine hl Sc 3 Z cV f0 (c6 ?_);refine gk f iw Z eJ Z (c6 ?_);refine df cP (c6 ?_);refine gk a iw Z ⟨cV,Z,Z,dM⟩ Z (c6 ?_);refine ea R (c6 ?_);refine d2 g (c6 ?_);refine sA f0 (c6 ?_);refine d2 g (c6 ?_);exact ge Z Z Z ⟨cV,uf (RR (Do m w L)),Z,dM⟩|true=>have f:=Hb m;refine hl Sc 3 Z cV f0 (c6 ?_);refine gk f iw Z eJ Z (c6 ?_);refine df cP (c6 ?_);refine gk a iw Z ⟨cV,Z,Z,dM⟩ Z (c6 ?_);refine ea R (c6 ?_);refine d2 g (c6 ?_);refine wp f0 (c6 ?_);refine gk (yT m.ws (m.s.out[i]).gs w k (8,d_) (m.eh-1)) [(1000001,1000001)] Z ez Z (c6 ?_);exact ge Z Z Z ⟨cV,Z,Z,dM⟩
def LO:∀(n) (l:I V),l.Nodup->(∀x∈l,x<n)->l.length<=n
 |0,[],_,_=>fi _|0,x::_,_,h=>dN (h x (.head _)) (qc _)
 |n+1,l,cP,h=>by
  by_cases m:n∈l
  .have e:=List.length_erase_of_mem m
   have:=LO n (l.erase n) (cP.erase n) λx a=>by
    grind
   omega
  .have:=LO n l cP λx a=>by
    grind
   omega
def ac8{l:I V}{k}(cP:l.Nodup)(h:∀x∈l,x<4)(a:k<4)(c0:k∉l):l.length<=3:=by
 have:=LO 4 (k::l) (tH.2 ⟨c0,cP⟩) λx b=>by
  grind
 simp_all
def vG.Sf{x n l}(h:vG x n l)(a:n<=4):rf l:=by
 have dv:=LO 4 _ h.li.eO λw hw=>by have:=h.lt w hw;omega
 exact⟨v5,λw hw=>by have:=h.lt w hw;omega,h.li.up,h.li.eO,h.li.one,h.shut⟩
def ac9{t}(o):∀s p r,gm t p->gm t (kA o s p r).1/\ (kA o s p r).1.f.cN.length=p.f.cN.length
 | [],p,r,h=>⟨h,Z⟩
 |k::s,p,r,h=>by
  rw[kA];split
  .exact⟨h.do _,LN h _⟩
  .have i:=ac9 o s _ (r.1,(hp p (k,o.2.1,o.2.2)).2.1) (h.do (k,o.2.1,o.2.2));exact⟨i.1,i.2.trans (LN h _)⟩
def ath{t p}(h:gm t p)(o):gm t (gg p o).1/\ (gg p o).1.f.cN.length=p.f.cN.length:=by
 have⟨Q,a⟩:=ac9 o (k2 o.1) p (0,d_) h;rw[gg,rh];split
 .exact⟨Q.do _,(LN Q _).trans a⟩
 simp_all
structure my(work:I (I gU))(t:J)(m:eu):Prop where
 ok:hY m
 n2:gm t m.p
 o4:m.ws.map (·.todo)=work
 dq:(m.dq.length:J) <=m.eh
def my.e3{work t m}(g:my work t m):0<=m.eh:=by have:=g.dq;omega
def my.ej{work t m}(g:my work t m){i}(cK:i<17):∃l,m.ej[i]?=U l/\h3 m.ej i=l/\vG (oK m.ws) m.ws.length l:=by have a:=g.ok.s_;refine⟨m.ej[i]' R,fq R,?_,g.ok.li i _ (fq R)⟩;rw[h3,fq R];rfl
def ada{ws:I gd}{k w w'}(b:ws[k]?=U w)(e:w'.todo=w.todo):(ws.set k w').map (·.todo)=ws.map (·.todo):=by
 obtain⟨l,rfl⟩:=f_.1 b;rw[rQ,e]
 have a:k<(ws.map (·.todo)).length:=by rwa[ec]
 have:ws[k].todo=(ws.map (·.todo))[k]:=dw;rw[this];exact List.set_getElem_self a
def my.step{work t m}(g:my work t m)(k):my work t (gR m k).1:=by
 rw[gR];split
 .exact g
 split
 .exact g
 .rename_i w a;have h:=ath g.n2 w.op;have o:=(g.ok.eh (m.eh+1)).stepW (m:={m with eh:=m.eh+1}) a m.eh h.2;have e:=g.dq;refine⟨o,?_,?_,?_⟩
  .unfold stepW;repeat' split
   all_goals first|exact g.n2|exact h.1
  .rw[<-g.o4];unfold stepW;repeat' split
   all_goals first|rfl|exact ada a Z
  .unfold stepW;repeat' split
   all_goals first|(show(m.dq.length:J) <=m.eh+1;omega)|(show(((m.dq++[_]).length:V):J) <=m.eh+1;rw[kv,Rr];omega)
def Sg (m:eu) (k:J):iS m k=h3 m.ej k.toNat:=rfl
def adb{work t m}(g:my work t m)(G:t<=2147483647)(hw:∀l∈work,l.length<=1000)(dj:m.eh<=900000)(k:J):
 fI cQ 79 [.ptr 1000000 0 0,.d k] (e9 m) (e9 (gR m k).1) (.bool (gR m k).2):=by
 have o:=g.ok;have y:=o.mv
 by_cases z:k<0
 .rw[gR,if_pos z];exact ac0 m k R
 cases c_:m.ws[k.toNat]? with
 |none=>rw[gR,cS z,c_];have:=List.getElem?_eq_none_iff.1 c_;exact ac0 m k R
 |some w=>
  obtain⟨i,rfl⟩:∃i:V,k=(i:J):=⟨k.toNat,by omega⟩;rw[gz]at c_;have v:=o.w i w c_;have H:=(f_.1 c_).1
  have r:i<4:=R
  have a:-1000000<=m.eh:=by have:=g.e3;omega
  have b:m.eh<=1000000:=R
  have A:m.h.ds.length<=1000:=by have:=o.kD.len;omega
  have e:gR m i=stepW (mx m) i w m.eh:=by rw[gR,cS z,gz,c_];rfl
  have I:w.todo.length<=1000:=hw _ (by rw[<-g.o4];exact r8 (jY c_))
  have K:m.dq.length<=900000:=by have:=g.dq;omega
  have f:(mx m).ws[i]?=U w:=c_;rw[e];have dY:=v.Du
  have M:w.st=0\/w.st=1\/w.st=2\/w.st=3\/w.st=4\/w.st=5\/w.st=6:=R
  rcases M with c'|c'|c'|c'|c'|c'|c'
  .simp only[stepW,c']
   split
   .rename_i cP;exact ac1 m _ i w L c_ c' a b (ar2 (mx m) i w m.eh f cP)
   .rename_i cP
    have c0:i∉m.h.all:=λh=>(v.mS.1 h) c'
    have j:=ac8 o.kD.eO o.kD.lt r c0;exact ac1 m _ i w N c_ c' a b (ar4 (mx m) i w m.eh f cP o.kD r c0 (by have j:m.h.ds.length+m.h.q.length<=3:=(by simpa using j);exact j))
  .have hb:=v.kC R;simp only[stepW,c']
   split
   .rename_i c;exact Sa m _ i w L c_ c' a b (asg (mx m) i w m.eh A c)
   rename_i c
   replace c:j9 m.h i=N:=by simpa[mx]using c
   split
   .rename_i dQ;exact Sa m _ i w N c_ c' a b (ash (mx m) i w m.eh f hb A c dQ)
   .rename_i dQ
    replace dQ:i1 w.op=L:=by simpa using dQ
    have⟨B,C,u,x⟩:=DJ dQ;have⟨l,dv,iB,sh⟩:=g.ej (i:=w.op.2.1.toNat) R
    have ol:rf (iS m w.op.2.1):=by rw[Sg,iB];exact sh.Sf y
    have P:i∉l.all:=λh=>by
     have:=((v.lt w.op.2.1.toNat l dv).1 h).1
     rw[v.Dv R]at this;cases this
    have c0:i∉(iS m w.op.2.1).c'++(iS m w.op.2.1).q.map (·.1):=by rw[Sg,iB];exact P
    have j:=ac8 ol.eO ol.lt r c0;exact Sa m _ i w N c_ c' a b (asi (mx m) i w m.eh f hb A c dQ o.s_ r ol c0 (by have j:(iS m w.op.2.1).c'.length+(iS m w.op.2.1).q.length<=3:=(by simpa using j);exact j))
  .have hb:=v.kC R;have⟨B,C,u,x⟩:=DJ (v.val (v.ask R R));have⟨l,dv,iB,sh⟩:=g.ej (i:=w.op.2.1.toNat) R
   have ol:rf (h3 m.ej w.op.2.1.toNat):=by rw[iB];exact sh.Sf y
   simp only[stepW,c']
   split
   .rename_i c9;exact ac2 m _ i w L c_ c' a b (asj (mx m) i w f hb R R ol c9)
   .rename_i c9;exact ac2 m _ i w N c_ c' a b (asm (mx m) i w f hb R R ol (by simpa[Sg]using c9))
  .have hb:=v.kC R;have dt:=v.ask R R;have⟨B,C,u,x⟩:=DJ (v.val dt);have c:=v.ds R
   have c9:l6 m.h i=L:=by rw[v.held];exact v.zj R
   simp only[stepW,c']
   split
   .rename_i ee;exact Sb m _ i w L c_ c' a b (asn (mx m) i w f hb o.kD c c9 g.n2.fm (by rw[xi,if_pos ee]))
   rename_i ee;replace ee:¬m.h.n<=h2 m.h.ds:=ee
   have D:xi m.h i=(qm m.h i,0):=by rw[xi,cS ee]
   split
   .rename_i E
    have F:i<m.s.eD.length:=by rw[o.uF];exact H
    have Q:m.s.eD[i]=cL:=by
     cases q:m.s.eD[i]with
     |none=>rfl
     |some p=>have:=(v.r9 p).1 (.inl (by rw[fq F,q]));omega
    exact Sb m _ i w N c_ c' a b (asr (mx m) i w f hb o.kD c c9 g.n2.fm D E.1 E.2 o.jH.tor6 g.n2.us F Q u x)
   .rename_i du;exact Sb m _ i w N c_ c' a b (asq (mx m) i w f hb o.kD c c9 g.n2.fm D du)
  .simp only[stepW,c'];have cK:=ug m i
   have e:(decide (0<=(i:J))&&decide ((i:J)<m.ws.length))=N:=by have:=(f_.1 c_).1;simp;omega
   rw[e]at cK;have g:=oL c_;have l:=rj c_;refine hl AZ 2 Z cV f0 (c6 ?_);refine gk cK iw Z eJ Z (c6 ?_);refine eH ?_;exact ge Z Z Z ⟨cV,Z,Z,dM⟩
  .have hb:=v.kC R;have dt:=v.ask R R;simp only[stepW,c'];exact as0 m _ i w c_ c' a b (asY (mx m) i w m.eh t f hb g.n2 G (v.val dt))
  .have hb:=v.kC R;have c:=v.ds R;simp only[stepW,c'];refine as1 m (R' (mx m) i w m.eh) i w c_ c' a b (asZ (mx m) i w m.eh f hb I K o.kD r c ?_ ?_)
   .cases O:w.pinned with
    |false=>exact .inl Z
    |true=>exact .inr ⟨Z,v.held.trans O⟩
   .cases dt:w.asked with
    |false=>exact .inl Z
    |true=>have⟨B,C,u,x⟩:=DJ (v.val dt);have⟨l,dv,iB,sh⟩:=g.ej (i:=w.op.2.1.toNat) R;exact .inr ⟨Z,o.s_,by omega,by omega,by show rf (h3 m.ej w.op.2.1.toNat);rw[iB];exact sh.Sf y,by show i∈(h3 m.ej w.op.2.1.toNat).c';rw[iB];exact v.hold dt R l dv⟩
def Sh{work t m}(g:my work t m)(c:m.eh<=900000)(i b):
  fI cQ 80 [.ptr 1000000 0 0,.d (.int .i64 i),.d (.bool b)] (e9 m) (e9 (jn m i b).1) (.bool (jn m i b).2):=by
 have o:=g.ok
 by_cases c0:i<0\/ (m.s.out.length:J) <=i
 .rw[jn,if_pos c0];have h:=c0;have f:=Hb m;refine hl Sc 3 Z cV f0 (cO ?_)
  refine dT (λQ=>?_) λQ=>?_
  .refine c6 ?_;exact ge Z Z Z eJ
  .refine c6 ?_;refine gk f iw Z eJ Z (c6 ?_);exact ge Z Z Z eJ
 obtain⟨n,rfl⟩:∃n:V,i=(n:J):=⟨i.toNat,R⟩;have cK:n<m.s.out.length:=R;rw[jn,cS c0,gz,Q9,fq cK];simp only[];have l:=o.jH.lt m.s.out[n] (hF cK)
 by_cases a:b=N/\ (m.s.out[n]).k0<3/\m.s.next<2147483647
 .rw[if_pos a];obtain⟨rfl,e,du⟩:=a;exact as8 m n o.jH.tor6 g.n2.us cK e du
 .rw[cS a];simp only[]
  have w:(m.s.out[n]).gs<m.ws.length:=by rw[<-o.uF];exact l.2.1
  have k:=fq w;have s:=((o.w _ _ k).r9 (m.s.out[n]).dJ).1 (.inr ⟨m.s.out[n],hF cK,Z,Z⟩) |>.1;rw[k];simp only[];rw[cS (λz=>z s)];exact as9 m n b o.jH.tor6 g.n2.us cK a _ k s g.e3 R
def my.fin{work t m}(g:my work t m)(i b):my work t (jn m i b).1:=by
 refine⟨g.ok.fin i b,?_,?_,?_⟩
 .rw[jn];repeat' split
  all_goals exact g.n2
 .rw[<-g.o4,jn];repeat' split
  all_goals first|rfl|(rename_i h _;exact ada h (by rw[Do];split<;>rfl))
 .rw[jn];repeat' split
  all_goals exact g.dq
def my.vI{work t m}(g:my work t m):my work t (qq m):=⟨g.ok.vI,g.n2,g.o4,g.dq⟩
def A0(t:J):J:=if 2147483647-t<1 then 2147483647 else t+1
def atj{t p}(h:gm t p):gm (A0 t) (lk p 1) /\ (lk p 1).f=p.f:=by
 rw[lk,cS cZ,h.now,A0];split
 .exact⟨⟨h.fm,h.us,Z⟩,Z⟩
 .exact⟨⟨h.fm,h.us,Z⟩,Z⟩
def ade{t}(cW:0<=t)(h:t<=2147483647):0<=A0 t/\A0 t<=2147483647:=by rw[A0];omega
def my.g2{work t m}(g:my work t m)(n):my work (A0 t) (vF m n):=by
 have⟨Q,h⟩:=atj g.n2
 have l:(hp (lk m.p 1) (8,n,fB)).1.f.cN.length=m.p.f.cN.length:=by rw[LN Q,h]
 have o:=g.ok;exact⟨⟨o.fA,o.mv,o.kD,o.hw,o.s_,o.li,o.jH,o.uF,o.cN.trans l.symm,o.w⟩,Q.do _,g.o4,g.dq⟩
structure iU(work:I (I gU))(m:eu):Prop where
 ex:∃t,0<=t/\t<=2147483647/\my work t m
def atk(m k w now):(stepW m k w now).1.eh=m.eh:=by
 unfold stepW;repeat' split
 all_goals rfl
def atl(m k):(gR m k).1.eh<=m.eh+1/\m.eh<= (gR m k).1.eh:=by
 rw[gR];repeat' split
 .grind
 .grind
 .rw[atk];grind
def atm(m i b):(jn m i b).1.eh=m.eh:=by rw[jn];grind
def adf{P f dD s O e}(H:rB P f dD O e)(l:s.length=dD.length)(h:∀(i:V) (x y),s[i]?=U x->dD[i]?=U y->zM x y):rB P f s O e:=
 ⟨H.1,λcX own M D w vs b o c c9 cP=>H.2 cX own M D w vs b o c c9 ⟨cP.1.trans l,λi d v Q a=>by
  have cK:=(f_.1 Q).1;have g:s[i]?=U (s[i]' R):=fq R
  exact(h i _ d g Q).out M D v (cP.2 i _ v g a)⟩⟩
def adg{P f a b x y r p d}(H:fI P f [a,b,y] r p d)(c:∀s,Aa s x=x)(g:∀s,Aa s y=y)(hw:zM x y):fI P f [a,b,x] r p d:=
 ⟨H.1,λs O Q h=>adf (H.2 s O Q h) Z λi u v j e=>by
  match i with
  |0=>cases j;cases e;exact Fj _|1=>cases j;cases e;exact Fj _|2=>cases j;cases e;simp_all|i+3=>cases j⟩
def Si{P f a b r p d}(H:fI P f [a,b,.d (.bool L)] r p d):fI P f [a,b,.fd] r p d:=adg H (λ_=>Z) (λ_=>Z) Iy
def atn{P f a b r p d}(H:fI P f [a,b,.d (.bool N)] r p d):fI P f [a,b,.eN] r p d:=adg H (λ_=>Z) (λ_=>Z) Fl
def ato{P f a b c r p d}(H:fI P f [a,b,.d (.dm []),c] r p d):fI P f [a,b,.nil,c] r p d:=
 ⟨H.1,λs O Q h=>adf (H.2 s O Q h) Z λi u v g e=>by
  match i with
  |0=>cases g;cases e;exact Fj _|1=>cases g;cases e;exact Fj _|2=>cases g;cases e;exact (⟨λ_ _ _ h=>by cases h;exact .d _ _ (.emp _ _)⟩)|3=>cases g;cases e;exact Fj _|i+4=>cases g⟩
def iU.ok{work m}(h:iU work m):hY m:=by have⟨t,_,_,g⟩:=h.ex;exact g.ok
def iU.step{work m}(h:iU work m)(k):iU work (gR m k).1:=by have⟨t,cW,Q,g⟩:=h.ex;exact⟨t,cW,Q,g.step k⟩
def jQ(m:eu)(k:V):J:=match m.ws[k]? with|some w=>(w.todo.length:J)-w.ended|none=>0
def Hc(b:di):I c3:=[.bool b]
def h'(m:eu):V->eu×di
 |0=>(m,L)
 |k+1=>((gR (h' m k).1 k).1,(h' m k).2||(gR (h' m k).1 k).2)
def kF(m:eu)(n:V)(a:di):eu×di:=
 ((jn (qq (h' m (min n 4)).1) 0 a).1,(h' m (min n 4)).2||(jn (qq (h' m (min n 4)).1) 0 a).2)
def vM(a:I di)(i:V):di:=if 0<a.length then a[i%a.length]?.getD L else L
def gN(m:eu)(n:V)(a:I di):V->eu
 |0=>m
 |i+1=>(kF (gN m n a i) n (vM a i)).1
open Classical in
def oM(m:eu)(n:V):di:=gy (∃k,k<min n 4/\0<jQ m k)
def Sj{m n}:oM m n=N↔∃k,k<min n 4/\0<jQ m k:=by simp[oM]
def Sk{m n}:oM m n=L↔∀k,k<min n 4->¬0<jQ m k:=by rw[oM,Jg];simp_all
def iU.vI{work m}(h:iU work m):iU work (qq m):=by have⟨t,cW,Q,g⟩:=h.ex;exact⟨t,cW,Q,g.vI⟩
def iU.fin{work m}(h:iU work m)(i b):iU work (jn m i b).1:=by have⟨t,cW,Q,g⟩:=h.ex;exact⟨t,cW,Q,g.fin i b⟩
def iU.h' {work m} (h:iU work m):∀ k,iU work (h' m k).1
 |0=>h
 |k+1=>(iU.h' h k).step k
def Sl(m):∀k,(h' m k).1.eh<=m.eh+k/\m.eh<= (h' m k).1.eh
 |0=>⟨by show m.eh<=m.eh+0;omega,kX _⟩
 |k+1=>by
  have i:=Sl m k;have h:=atl (h' m k).1 k;show(gR (h' m k).1 k).1.eh<=m.eh+(k+1:V) /\m.eh<= (gR (h' m k).1 k).1.eh;omega
def iU.round{work m}(h:iU work m)(n b):iU work (kF m n b).1:=((h.h' _).vI).fin _ _
def atp(m n b):(kF m n b).1.eh<=m.eh+4/\m.eh<= (kF m n b).1.eh:=by have h:=Sl m (min n 4);have e:(kF m n b).1.eh=(h' m (min n 4)).1.eh:=atm _ _ _;omega
def iU.gN {work m} (h:iU work m) (n:V) (iA:I di):∀ i,iU work (gN m n iA i)
 |0=>h
 |i+1=>(iU.gN h n iA i).round n _
def adh(m n f):∀i,(gN m n f i).eh<=m.eh+4*i/\m.eh<= (gN m n f i).eh
 |0=>⟨by show m.eh<=m.eh+4*0;omega,kX _⟩
 |i+1=>by
  have a:=adh m n f i;have h:=atp (gN m n f i) n (vM f i);show(kF (gN m n f i) n (vM f i)).1.eh<=m.eh+4*(i+1:V) /\m.eh<= (kF (gN m n f i) n (vM f i)).1.eh;omega
def adi{work m}(h:iU work m)(hw:∀l∈work,l.length<=1000)(k:V):fI cQ 84 [.ptr 1000000 0 0,.d k] (e9 m) (e9 m) (jQ m k):=by
 have c:∀w∈m.ws,w.ended<=1000000/\w.todo.length<=1000000:=λw a=>by
  have⟨t,_,_,g⟩:=h.ex;obtain⟨k,b,rfl⟩:=kr.1 a;have Q:=(g.ok.w k _ (fq b)).k7
  have d:m.ws[k].todo∈work:=by rw[<-g.o4];exact r8 (hF b)
  grind
 have f:=as7 m k c;assumption
set_option maxRecDepth 20000 in
def adj{work m}(h:iU work m)(hw:∀l∈work,l.length<=1000)(n:V)(c0:n<=1000000):fI cQ 120 [.ptr 1000000 0 0,.d n] (e9 m) (e9 m) (.bool (oM m n)):=by
 refine hl Tryz.func120 2 Z cV f0 (c6 ?_);refine eW (D:=V) (λk=>[(0,.ptr 1000000 0 0),(7,.d (.int .i64 (min (n:J) 4))),(8,.d (.int .i64 k))]) (λk=>e9 m)
  (λk=>k<=min n 4/\ ∀j,j<k->¬0<jQ m j) (λk=>min n 4-k) 0 ⟨eY _,λj h=>dN h R⟩ (dX (dH eJ eJ dV)) ?_
 rintro k ⟨b,cU⟩
 conv=>whnf
 refine dT (λdu=>?_) λdu=>?_
 .refine c6 ?_;refine gk (adi h hw k) iw Z eJ Z (cO ?_)
  refine dT (λdY=>?_) λdY=>?_
  .rw[Sj.2 ⟨k,R,dY⟩];refine c6 ?_;exact ge Z Z Z eJ
  .refine c6 ?_
   exact⟨k+1,⟨R,λj a=>by
    grind⟩,R,(dX (dH eJ eJ dV))⟩
 .rw[Sk.2 λj a=>cU j R];refine c6 ?_;exact ge Z Z Z eJ
set_option maxRecDepth 20000 in
def adk{work m}(h:iU work m)(hw:∀l∈work,l.length<=1000)(w:m.eh<=800000)(n:V)(c0:n<=1000000)(b):fI cQ 74 [.ptr 1000000 0 0,.d n,.d (.bool b)] (e9 m) (e9 (kF m n b).1) (.bool (kF m n b).2):=by
 refine hl Tryz.func74 3 Z cV f0 (c6 ?_);refine eW (D:=V) (λk=>[(0,.ptr 1000000 0 0),(2,.d (.bool b)),(7,.d (.bool (h' m k).2)),(10,.d (.int .i64 (min (n:J) 4))),(11,.d (.int .i64 k))]) (λk=>e9 (h' m k).1)
  (λk=>k<=min n 4) (λk=>min n 4-k) 0 (eY _) (len [.wk 7 (.d (.bool L))] ⟨Iy,dM⟩ (dH gO eJ dV)) ?_
 intro k x;have M:=h.h' k;have q:=(Sl m k).1;have p:(h' m (k+1)).1=(gR (h' m k).1 k).1:=Z;have e:(h' m (k+1)).2=((h' m k).2||(gR (h' m k).1 k).2):=rfl
 conv=>whnf
 refine dT (λdu=>?_) λdu=>?_
 .have⟨t,v,j,g⟩:=M.ex;have s:=adb g j hw R k;rw[<-p]at s;have⟨r,d⟩:∃r,(gR (h' m k).1 k).2=r:=⟨_,Z⟩;have⟨r0,i⟩:∃r0,(h' m k).2=r0:=⟨_,Z⟩;rw[d]at s e;rw[i]at e⊢;refine c6 ?_;refine gk s iw Z eJ Z (cO ?_)
  refine hV (λdY=>?_) λdY=>?_
  .rw[dY,abS]at e;refine c6 ?_;refine⟨k+1,R,R,len [.wk 7 (.d (.bool N))] ⟨Fl,dM⟩ (dH ⟨Z,Z,by rw[e];rfl,Z,Z,dM⟩ eJ dV)⟩
  .rw[dY,abT]at e;refine c6 ?_;refine⟨k+1,R,R,dX (dH ⟨Z,Z,by rw[e];rfl,Z,Z,dM⟩ eJ dV)⟩
 have c:k=min n 4:=R;subst c;have⟨t,v,j,g⟩:=M.ex;have u:=ac3 (h' m (min n 4)).1 M.ok.jH g.n2.us;have f:=Sh g.vI (by show(h' m (min n 4)).1.eh<=900000;omega) 0 b;have o:(kF m n b).1=(jn (qq (h' m (min n 4)).1) 0 b).1:=Z;have a:(kF m n b).2=((h' m (min n 4)).2||(jn (qq (h' m (min n 4)).1) 0 b).2):=Z;rw[<-o]at f;have⟨r,d⟩:∃r,(jn (qq (h' m (min n 4)).1) 0 b).2=r:=⟨_,Z⟩;rw[d]at f a;refine c6 ?_;refine gk u iw Z eJ Z (c6 ?_);refine gk f iw Z eJ Z (cO ?_)
 refine hV (λdY=>?_) λdY=>?_
 .rw[dY,abS]at a;rw[a];refine c6 ?_;exact ge Z Z Z eJ
 .rw[dY,abT]at a;rw[a];refine c6 ?_;exact ge Z Z Z eJ
structure Hd(m:eu)(n:V)(iA:I di)(g1 dc:V):Prop where
 le:dc<=g1
 all:∀i,i<dc->oM (gN m n iA i) n=N
 stop:dc=g1\/oM (gN m n iA dc) n=L
def Sm(m n f):∀g1,∃dc,Hd m n f g1 dc
 |0=>⟨0,fi 0,λi h=>dN h (qc _),.inl Z⟩
 |k+1=>by
  have⟨dc,Q,a,b⟩:=Sm m n f k
  cases e:oM (gN m n f dc) n with|false=>exact⟨dc,R,a,.inr e⟩|true=>have hB:=b.resolve_right hN;subst hB;refine⟨dc+1,fi _,λi cK=>?_,.inl Z⟩;grind
set_option maxRecDepth 20000 in
def atq{work m}(h:iU work m)(hw:∀l∈work,l.length<=1000)(n)(c0:n<=1000000)(f)(z:f.length<=1000000)(g1:V)(A:m.eh+4*g1<=800000)(dc)(hB:Hd m n f g1 dc):
  fI cQ 82 [.ptr 1000000 0 0,.d n,.d (.dm (f.map Hc)),.d g1] (e9 m) (e9 (gN m n f dc)) dc:=by
 have w:(f.map Hc).length=f.length:=ec ..
 have x:=hB.le
 have y:0<=m.eh:=by have⟨t,_,_,g⟩:=h.ex;have:=g.dq;omega
 refine hl Tryz.func82 4 Z cV f0 (c6 ?_);refine eW (D:=V) (λi=>[(0,.ptr 1000000 0 0),(1,.d n),(2,.d (.dm (f.map Hc))),(3,.d g1),(9,.d i)]) (λi=>e9 (gN m n f i))
  (λi=>i<=dc) (λi=>dc-i) 0 (eY _) (dX (dH gO eJ dV)) ?_
 intro i cK;have j:=h.gN n f i;have k:=(adh m n f i).1;have b:=hB.all i;have s:=hB.stop
 by_cases u:i<dc
 .have p:=adj j hw n c0;rw[b u]at p;have⟨M,a⟩:∃M,gN m n f i=M:=⟨_,Z⟩;rw[a]at p j k⊢;have r:=adk j hw R n c0 (vM f i)
  conv=>whnf
  refine c6 ?_;refine gk p iw Z eJ Z (c6 ?_)
  refine dT (λdY=>?_) λdY=>?_
  .have o:0<f.length:=R
   have e:i%f.length<f.length:=lp _ o
   have c:vM f i=f[i%f.length]:=by rw[vM,if_pos o,fq e,x3]
   rw[c]at r
   have B:(f.map Hc)[i%f.length]?=U [.bool f[i%f.length]]:=by rw[ir,fq e];rfl
   have q:((i:J)%((f.map Hc).length:J))=((i%f.length:V):J):=by rw[w];rfl
   refine c6 ?_;refine zr R R (c6 ?_);rw[q];refine eH ?_;refine gk r iw Z eJ Z (c6 ?_);refine⟨i+1,R,R,?_⟩;rw[show gN m n f (i+1)=(kF M n (f[i%f.length])).1 by rw[<-c,<-a];rfl];exact(dX (dH gO eJ dV))
  .have c:vM f i=L:=by rw[vM,cS R]
   rw[c]at r;have r:=Si r;refine c6 ?_;refine gk r iw Z eJ Z (c6 ?_);refine⟨i+1,R,R,?_⟩;rw[show gN m n f (i+1)=(kF M n (L)).1 by rw[<-c,<-a];rfl];exact(dX (dH gO eJ dV))
 .have d:i=dc:=R
  subst d
  by_cases v:i=g1
  .conv=>whnf
   refine c6 ?_;exact ge Z Z Z eJ
  .have p:=adj j hw n c0;rw[s.resolve_left v]at p
   conv=>whnf
   refine c6 ?_;refine gk p iw Z eJ Z (c6 ?_);exact ge Z Z Z eJ
def pO(l:I gU):I c3:=[.dm (l.map kz)]
def adl:∀(l:I gU),gZ 3 (l.map kz)=N
 | []=>rfl|_::r=>adl r
def atr(m:eu):I iM:=.row (m.ws.map j_) 11::([.d (.dm (m.p.f.cN.map fl)),.d m.p.f.hand,.d (hk m.p.f.eg),.d (.dm (m.p.f.dJ.map eC)),.d (hk m.p.f.dK),.d (.dm (m.p.d.sec.map hW)),.d (.dm (m.p.d.fy.map fs)),.d m.p.now]++(m.h.cells.map iM.d++((h3 m.ej 0).cells.map iM.d++((h3 m.ej 1).cells.map iM.d++((h3 m.ej 2).cells.map iM.d++((h3 m.ej 3).cells.map iM.d++((h3 m.ej 4).cells.map iM.d++((h3 m.ej 5).cells.map iM.d++((h3 m.ej 6).cells.map iM.d++((h3 m.ej 7).cells.map iM.d++((h3 m.ej 8).cells.map iM.d++((h3 m.ej 9).cells.map iM.d++((h3 m.ej 10).cells.map iM.d++((h3 m.ej 11).cells.map iM.d++((h3 m.ej 12).cells.map iM.d++((h3 m.ej 13).cells.map iM.d++((h3 m.ej 14).cells.map iM.d++((h3 m.ej 15).cells.map iM.d++((h3 m.ej 16).cells.map iM.d++((m.s.cells m.p.d).map iM.d++[.d m.eh,.row (m.dq.map pK) 11]))))))))))))))))))))
def n3:I dp:=[.nil,.d (.bool L),.nil]
def att(n:V)(p:fJ):I dp:=.own 64::(p.box++([.d n,.d (.int .i64 1),.nil,.nil]++(n3++(n3++(n3++(n3++(n3++(n3++(n3++(n3++(n3++(n3++(n3++(n3++(n3++(n3++(n3++(n3++(n3++[.nil,.d (.int .i64 0),.d (.bool L),.nil,.nil,.nil,.d (.int .i64 0),.nil,.nil,.d (.int .i64 0),.nil])))))))))))))))))))
def DO(k):eQ (k+1) [c3.int .i64 1]=eQ k [c3.int .i64 1]++[[c3.int .i64 1]]:=RO
set_option maxRecDepth 20000 in
def atu(d)(n:V)(todo p)(g:iQ d n=(p,0))(h:iI p.d)(Q:1<=todo.length)(i:todo.length<=4)(a:∀l∈todo,l.length<=60):
  Fb cQ 70 [iO d,n,.dm (todo.map pO)] (atr (mw p n todo)) [.int .i64 0]:=by
 have f:(todo.map pO).length=todo.length:=ec ..
 have o:=aaT d n;rw[g]at o;refine aln atv 3 Z cV (c6 ?_);refine eW (D:=V) (λk=>[(1,.d n),(2,.d (.dm (todo.map pO))),(3,.ptr 3 0 0),(25,.d (.dm (todo.map pO))),(26,.d (todo.map pO).length),(27,.d k)]) (λ_=>[(3,.box (d.cells.map dp.d) L)])
  (λk=>k<=todo.length) (λk=>todo.length-k) 0 (eY _) (dX (dH mc ez dV)) ?_
 intro k c
 conv=>whnf
 refine dT (λdu=>?_) λdu=>?_
 .have eR:k<todo.length:=R
  have e:=a todo[k] (hF eR)
  have m:(todo[k].map kz).length=todo[k].length:=ec ..
  refine ea R (cO ?_);refine d2 (x:=pO todo[k]) iJ (c7 ?_);refine c6 ?_;exact⟨k+1,R,R,(dX (dH mc ez dV))⟩
 refine eH ?_;refine eW (D:=V) (λk=>[(10,.ptr 10 0 0),(12,.ptr 48 0 0),(13,.own 69),(49,.d (.dm (todo.map pO))),(50,.d (todo.map pO).length),(51,.d k)]) (λk=>[(10,.box p.box L),(48,.box (att n p) L),(64,.row (((todo.take k).map rg).map j_) 11 L),(69,.row (eQ k [c3.int .i64 1]) 1 L)])
  (λk=>k<=todo.length) (λk=>todo.length-k) 0 (eY _) (len [.row 13 69 1,.cell 48 0 64 11] ⟨g_,⟨g_,Z,Z⟩,dM⟩ (dH mc ff dV)) ?_
 intro k c
 conv=>whnf
 refine dT (λdY=>?_) λdY=>?_
 .have eR:k<todo.length:=R
  have e:=a todo[k] (hF eR)
  have m:(todo[k].map kz).length=todo[k].length:=ec ..
  have t:(todo.take k).length=k:=HD
  have r:(((todo.take k).map rg).map j_).length=k:=eM
  refine ea R (cO ?_);refine d2 (x:=pO todo[k]) iJ (c7 ?_);refine c6 ?_;refine gT (aqE (adl todo[k]) R) (c6 ?_);refine fO 1000 1000 (by show(((todo.take k).map rg).map j_).length+1<=1000;omega) cZ cZ cZ (c6 ?_);refine fO 1000 1000 (by show(eQ k [c3.int .i64 1]).length+1<=1000;grind) cZ cZ cZ (c6 ?_);refine⟨k+1,R,R,dX (dH mc ⟨Z,Z,?_,?_,dM⟩ dV)⟩
  .rw[mb eR,jl,jl];kernel_rfl
  .rw[DO];kernel_rfl
 have b:k=todo.length:=R;subst b;rw[rW];refine c6 ?_;refine df (arQ todo.length p.d Q i h) (c6 ?_);refine⟨6,.tmp 7,[],48,_,Z,Z,Z,.inl ⟨64,Z,Z,Z,?_⟩,Z,Z⟩
 repeat refine⟨Z,?_⟩
 exact .inr lO
namespace Dk
open Go.Proofs Go.RowKit
def A1{f fn args r o d}(a:cQ.funcs[f]?=U fn)(n)(c0:args.length=n)(dj:ov fn n=N)
  (l:(vi args&&(yo ga r&&(q0 3000000 r&&(q0 3000000 o&&tQ o))))=N)(h:Pn T cQ fn args r o d):rL cQ f args r o d:=
 aj9 sQ nL a xB l h
structure h4 where
 e_:I gU
 eB:I gU
 el:I gU
 fY:I gU
 gV:gA
 m:dB eu
 hQ:V
def atw(m:eu):I dp:=.own 3000006::(m.p.box++(m.h.cells.map dp.d++(G_ m.ej++((m.s.cells m.p.d).map dp.d++[.d m.eh,.own 3000007]))))
def atx:dB eu->dp
 |none=>.d .km
 |some _=>.ptr 3000005 0 0
def aty:dB eu->d4
 |none=>.row [] 1 L
 |some m=>.box (atw m) L
def atz:dB eu->d4
 |none=>.row [] 1 L
 |some m=>.row (m.ws.map j_) 11 L
def atA:dB eu->d4
 |none=>.row [] 1 L
 |some m=>.row (m.dq.map pK) 11 L
def atB(gV:gA)(m:dB eu)(hQ:V):I dp:=
 [.own 3000001,.own 3000002,.own 3000003,.own 3000004,.d (.dm (gV.sec.map hW)),.d (.dm (gV.fy.map Go.Lk.fs)),atx m,.d hQ]
def jR(x:h4):I (V×d4):=
 [(1000000,.box (atB x.gV x.m x.hQ) L),(3000001,.row (x.e_.map kz) 3 L),(3000002,.row (x.eB.map kz) 3 L),(3000003,.row (x.el.map kz) 3 L),(3000004,.row (x.fY.map kz) 3 L),(3000005,aty x.m),(3000006,atz x.m),(3000007,atA x.m)]
def yY(x:h4)(w:V)(o:gU):h4:=match w with
 |0=>{x with e_:=x.e_++[o]}
 |1=>{x with eB:=x.eB++[o]}
 |2=>{x with el:=x.el++[o]}
 |_=>{x with fY:=x.fY++[o]}
def m1(x:h4)(ws:I dG):h4×dG:=
 if ws.length<3\/4<ws.length then(x,ji 2) else
 match l0 (ws.getD 0 .empty),l0 (ws.getD 2 .empty) with
 |some w,U id=>if 4<=w\/pB (ws.getD 1 .empty)=0 then(x,ji 2) else(yY x w (pB (ws.getD 1 .empty),id,ws.getD 3 .empty),gv [])
 |_,_=>(x,ji 2)
def jG{T dd O r o d}(s)(Q:(yo s o&&(JU s&&s.all λp=>jh p.1))=N)(h:(nE T dd O r).map ps=U d)(eG:Gb s (qY T dd O r)=N)(fb:JS O s o):
  ∃s,(yo s o&&(JU s&&s.all λp=>jh p.1))=N/\XD T dd O r s o d:=⟨s,Q,h,eG,fb⟩
def DP:d0 cQ 68 [.dm []] (.str (gv [])):=Ap nL [] dw cZ
def A2:d0 cQ 51 [.int .i64 2] (.str (ji 2)):=Ki 2 cZ
end Dk
open Go.Proofs Go.RowKit
def uk(d:gA)(k:V):dB e':=if(lh d ((k:J)+1)).2=0 then U (lh d ((k:J)+1)).1 else cL
def pg(d:gA)(k:V):I e':=(iz k).filterMap (uk d)
def LP{α:Type}(f:V->dB α)(k):((iz k).filterMap f).length<=k:=hN
def He{α:Type}(f:V->dB α)(k):(iz (k+1)).filterMap f=(iz k).filterMap f++(f k).toList:=by
 rw[List.range_succ,List.filterMap_append]
 congr 1
def atC(d):d0 cQ 106 [iO d] (.dm ((pg d 16).map eC)):=by
 refine d5 Tryz.func106 1 Z cV (c6 ?_);refine eW (D:=V) (λk=>[(1,.ptr 1 0 0),(3,.own 22),(4,.d (.int .i64 ((k:J)+1)))]) (λk=>[(1,.box (d.cells.map dp.d) L),(22,.row ((pg d k).map eC) 3 L)])
  (λk=>k<=16) (λk=>16-k) 0 (eY _) (nd (.row 3 22 3) g_ (dH eJ lO dV)) ?_
 intro k b;have l:=LP (uk d) k
 have m:((pg d k).map eC).length=(pg d k).length:=ec ..
 replace l:(pg d k).length<=k:=l;have es:=He (uk d) k;replace es:pg d (k+1)=pg d k++(uk d k).toList:=es;have⟨q,a⟩:∃q,lh d ((k:J)+1)=q:=⟨_,Z⟩;have g:=C_ d ((k:J)+1);rw[uk,a]at es;rw[a]at g
 conv=>whnf
 refine dT (λdu=>?_) λdu=>?_
 .refine eH ?_
  refine dT (λdY=>?_) λdY=>?_
  .rw[if_pos dY]at es;refine c6 ?_;refine fO 1000 100 (by show((pg d k).map eC).length+1<=1000;omega) cZ cZ cZ (c6 ?_);rw[show(k:J)+1+1=((k+1:V):J)+1 by omega];exact⟨k+1,by omega,by omega,dX (dH eJ ⟨Z,by rw[es,jl];rfl,dM⟩ dV)⟩
  .rw[cS dY]at es;refine c6 ?_;rw[show(k:J)+1+1=((k+1:V):J)+1 by omega];exact⟨k+1,by omega,by omega,dX (dH eJ ⟨Z,by rw[es,atD,qW];rfl,dM⟩ dV)⟩
 .have:k=16:=R
  subst this;refine c6 ?_;exact dg Z Z
def pP(l:I e')(id:J):e'×di:=if Hy.rk l=N/\Hy.rl l id=N then(l[Hy.lI l id]?.getD d_,N) else(d_,L)
def adm(l id)(b:l.length<=1000):d0 cQ 108 [.agg [.dm (l.map eC)],.int .i64 id] (.dS [.agg (eC (pP l id).1),.bool (pP l id).2]):=by
 have Q:=Hy.ace l R;have a:=Hy.s0 l id R
 have m:(l.map eC).length=l.length:=ec ..
 cases c:Hy.rk l with
 |false=>rw[c]at Q;rw[pP,cS (by grind)];refine d5 adn 2 Z cV (c6 ?_);refine df Q (c6 ?_);exact dg Z Z
 |true=>
  rw[c]at Q
  cases e:Hy.rl l id with
  |false=>rw[e]at a;rw[pP,cS (by grind)];refine d5 adn 2 Z cV (c6 ?_);refine df Q (c6 ?_);refine df a (c6 ?_);exact dg Z Z
  |true=>
   rw[e]at a
   have pn:Hy.lI l id<l.length:=by refine nA λg=>?_;rw[Hy.rl,List.getElem?_eq_none R]at e;cases e
   rw[pP,if_pos ⟨c,e⟩,fq pn];refine d5 adn 2 Z cV (c6 ?_);refine df Q (c6 ?_);refine df a (c6 ?_);refine ea R (cO ?_);refine d2 (x:=eC l[Hy.lI l id]) uE (c6 ?_);exact dg Z Z
def DQ(m:eu)(k:V):dB e':=if(jO m.p.f ((k:J)+1)).2=N then U (nS m.p.f.dJ (jO m.p.f ((k:J)+1)).1.toNat) else if(pP (pg m.p.d 16) ((k:J)+1)).2=N then U (pP (pg m.p.d 16) ((k:J)+1)).1 else cL
def xl(m:eu)(k:V):I e':=(iz k).filterMap (DQ m)
def m2(m:eu):I e':=xl m 16
set_option maxRecDepth 20000 in
def ado(m)(F:ey m.p.f):fI cQ 76 [.ptr 1000000 0 0] (e9 m) (e9 m) (.agg [.dm ((m2 m).map eC)]):=by
 apply hl Tryz.func76 1 Z cV f0;have o:=atC m.p.d;have l:(pg m.p.d 16).length<=16:=LP _ _;have⟨cM,h⟩:∃cM,pg m.p.d 16=cM:=⟨_,Z⟩;rw[h]at o l
 conv=>whnf
 refine eH ?_;refine eW (D:=V) (λk=>[(0,.ptr 1000000 0 0),(2,.ptr 2 0 0),(3,.ptr 3 0 0),(4,.ptr 4 0 0),(5,.d (.int .i64 ((k:J)+1)))]) (λk=>[(1000000,.box (sb m) L),(1000001,.row (m.ws.map j_) 11 L),(1000004,.row (m.dq.map pK) 11 L),(2,.box [.nil] L),(3,.box [.d (.dm (cM.map eC))] L),(4,.box [.own 44] L),(44,.row ((xl m k).map eC) 3 L)])
  (λk=>k<=16) (λk=>16-k) 0 (eY _) (nd (.cell 4 0 44 3) ⟨g_,Z,Z⟩ (dH gO v9 dV)) ?_
 intro k e;have b:(xl m k).length<=k:=LP (DQ m) k
 have c:((xl m k).map eC).length=(xl m k).length:=ec ..
 have es:xl m (k+1)=xl m k++(DQ m k).toList:=He (DQ m) k;have f:=t9 m.p.f ((k:J)+1) F.h6 F.dl;have g:=adm cM ((k:J)+1) R;rw[DQ,h]at es
 have d:(m.p.f.dJ.map eC).length=m.p.f.dJ.length:=ec ..
 conv=>whnf
 refine dT (λdu=>?_) λdu=>?_
 .refine c6 ?_;rcases F.xb (show((k:J)+1)≠0 by omega) with⟨_,n⟩|⟨i,_,c8⟩
  .rw[qk F n R]at f es;rw[cS cZ]at es;refine eH ?_
   refine hV (λj=>?_) λj=>?_
   .rw[if_pos j]at es;refine c6 ?_;refine fO 1000 100 (by show((xl m k).map eC).length+1<=1000;omega) cZ cZ cZ (c6 ?_);rw[show(k:J)+1+1=((k+1:V):J)+1 by omega];exact⟨k+1,by omega,by omega,dX (dH gO ⟨Z,Z,Z,Z,Z,Z,by rw[es,jl];rfl,dM⟩ dV)⟩
   .rw[cS eM]at es;refine c6 ?_;rw[show(k:J)+1+1=((k+1:V):J)+1 by omega];exact⟨k+1,by omega,by omega,dX (dH gO ⟨Z,Z,Z,Z,Z,Z,by rw[es,atD,qW];rfl,dM⟩ dV)⟩
  .rw[qj c8]at f es;have a:=c8.O;rw[if_pos Z,gz,nT a]at es;refine df f (c6 ?_);refine ea R (cO ?_);refine d2 (x:=eC m.p.f.dJ[i]) (by simp[a]) (c7 ?_);refine c6 ?_;refine fO 1000 100 (by show((xl m k).map eC).length+1<=1000;omega) cZ cZ cZ (c6 ?_);rw[show(k:J)+1+1=((k+1:V):J)+1 by omega];exact⟨k+1,by omega,by omega,dX (dH gO ⟨Z,Z,Z,Z,Z,Z,by rw[es,jl];rfl,dM⟩ dV)⟩
 .have:k=16:=R
  subst this;refine c6 ?_;exact ge Z Z Z eJ
namespace Dk
open Go.Proofs Go.RowKit
def qu:I (V×V):=[(1000000,3000005),(1000001,3000006),(1000004,3000007)]
def xm(b:dG):I V:=b.data.toList.map UInt8.toNat
def xn(m:eu)(id:J):dG:=if(pP (m2 m) id).2=N then gv (xm (pP (m2 m) id).1.2.2) else ji 3
def atG:d0 cQ 51 [.int .i64 3] (.str (ji 3)):=Ki 3 cZ
def DR(b):(xm b).length=b.size:=by rw[xm,ec,lz];rfl
def atH{b k}(h):(xm b)[k]'(by rw[DR];exact h)=(b.data.getD k 0).toNat:=by
 have a:k<b.data.size:=h
 have eG:k<b.data.toList.length:=by rwa[lz]
 rw[Array.getD,FC a];simp[xm]
def adp{l id}(h:∀p∈l,p.2.2.size<=1000):(pP l id).1.2.2.size<=1000:=by
 rw[pP];split
 .cases e:l[Hy.lI l id]? with|none=>decide|some p=>grind
 .decide
set_option maxRecDepth 20000 in
def atI(e_ eB el fY d m w id)(F:ey m.p.f)(l:(m2 m).length<=1000)(f:∀p∈m2 m,p.2.2.size<=1000):
  rL cQ 85 [.ptr 1000000 0 0,.d (.int .i64 id)] (jR ⟨e_,eB,el,fY,d,U m,w⟩) (jR ⟨e_,eB,el,fY,d,U m,w⟩) (.str (xn m id)):=by
 have O:=ado m F;have g:=adm (m2 m) id l;have⟨o,c⟩:∃o,pP (m2 m) id=o:=⟨_,Z⟩;have⟨⟨i,v,b⟩,j⟩:=o;rw[c]at g
 have r:xn m id=if j=N then gv (xm b) else ji 3:=by rw[xn,c]
 have s:b.size<=1000:=by have:=adp (id:=id) f;rwa[c]at this
 refine A1 Tryz.func85 2 Z cV f0 (c6 ?_);refine gk O qu Z eJ Z (c6 ?_);refine df g (c6 ?_)
 refine hV (λQ=>?_) λQ=>?_
 .refine c6 ?_;refine eW (D:=V) (λk=>[(5,.ptr 5 0 0),(7,.own 35),(24,.d b.size),(25,.d k)]) (λk=>(5,.box [.d i,.d v,.d (.str b)] L)::(35,.row (((xm b).take k).map f1) 1 L)::jR ⟨e_,eB,el,fY,d,U m,w⟩)
   (λk=>k<=b.size) (λk=>b.size-k) 0 (eY _) (nd (.row 7 35 1) g_ (dH ff ⟨Z,Z,Z,Z,Z,Z,Z,Z,Z,Z,dM⟩ dV)) ?_
  intro k e
  conv=>whnf
  refine dT (λdu=>?_) λdu=>?_
  .have a:k<b.size:=R
   have t:((xm b).take k).length=k:=by rw[o5,DR];omega
   refine c6 ?_;refine ea a (c6 ?_);refine zq (cW:=R) (Q:=by have:=(b.data.getD k 0).toNat_lt;omega) (c6 ?_);refine fO 1000100 100 (by rw[ec,t];show k+1<=1000100;omega) cZ cZ cZ (c6 ?_);refine⟨k+1,R,R,dX (dH ff ⟨Z,?_,Z,Z,Z,Z,Z,Z,Z,Z,dM⟩ dV)⟩;rw[mb (by rwa[DR]),jl,atH a];rfl
  .have e:k=b.size:=R
   subst e;rw[vm (by rw[DR];omega)];refine c6 ?_;refine df (Ap nL (xm b) (λn c0=>by obtain⟨x,q,rfl⟩:=is.1 c0;have:=x.toNat_lt;omega) (by rw[DR];omega)) (c6 ?_);rw[r,if_pos pm];exact jG ga Z Z Z lP
 .refine c6 ?_;refine df atG (c7 ?_);rw[r,cS pm];exact jG ga Z Z Z lP
end Dk
open Go.Proofs Go.RowKit
def adq:∀(l:I (J×J)),gZ 2 (l.map gf)=N
 | []=>rfl|_::r=>adq r
set_option maxRecDepth 20000 in
def atJ(m)(Q:m.p.f.cN.length<=1000000)(f:m.p.f.eg.length<=1000000)(g:m.p.f.dJ.length<=1000000)(i:m.p.f.dK.length<=1000000)(du:m.p.d.sec.length<=1000000)(dY:m.p.d.fy.length<=1000000):
  fI cQ 69 [.ptr 1000000 0 0] (e9 m) (e9 m) (oG m.p):=by
 have h:=Qc m.p.f.cN Q;have e:=Tb.QD m.p.f.eg f;have a:=C4 m.p.f.dJ g;have b:=aqD (adq m.p.f.dK) eM;have c:=ZC m.p.d.sec du;have d:=ZD m.p.d.fy dY;refine hl Tryz.func69 1 Z cV f0 (c6 ?_);refine gT h (c6 ?_);refine gT e (c6 ?_);refine gT a (c6 ?_);refine gT b (c6 ?_);refine gT c (c6 ?_);refine gT d (c6 ?_);exact ge Z Z Z eJ
structure ul(todo:I (I gU)):Prop where
 fA:1<=todo.length
 mv:todo.length<=4
 adr:∀l∈todo,l.length<=60
set_option maxRecDepth 20000 in
def atK(d n todo)(i:todo.length<=9223372036854775807)(a:∀l∈todo,l.length<=9223372036854775807)(h:¬ul todo\/ (iQ d n).2=1):
  d0 cQ 70 [iO d,n,.dm (todo.map pO)] (.dS [.km,.int .i64 1]):=by
 have r:(todo.map pO).length=todo.length:=ec ..
 have o:=aaT d n;have⟨p,O⟩:∃p,(iQ d n).1=p:=⟨_,Z⟩;have⟨e,f⟩:∃e,(iQ d n).2=e:=⟨_,Z⟩;rw[O,f]at o;rw[f]at h;refine d5 atv 3 Z cV (c6 ?_)
 refine dT (λQ=>?_) λQ=>?_
 .refine c6 ?_;exact dg Z Z
 refine c6 ?_
 refine dT (λs=>?_) λs=>?_
 .refine c6 ?_;exact dg Z Z
 refine c6 ?_;refine eW (D:=V) (λk=>[(1,.d n),(2,.d (.dm (todo.map pO))),(3,.ptr 3 0 0),(25,.d (.dm (todo.map pO))),(26,.d (todo.map pO).length),(27,.d k)]) (λ_=>[(3,.box (d.cells.map dp.d) L)])
  (λk=>k<=todo.length/\ ∀l∈todo.take k,l.length<=60) (λk=>todo.length-k) 0 ⟨eY _,λl h=>qB⟩ (dX (dH mc ez dV)) ?_
 rintro k ⟨j,cU⟩
 conv=>whnf
 refine dT (λdu=>?_) λdu=>?_
 .have eR:k<todo.length:=R
  have q:=a todo[k] (hF eR)
  have m:(todo[k].map kz).length=todo[k].length:=ec ..
  refine ea R (cO ?_);refine d2 (x:=pO todo[k]) iJ (c7 ?_)
  refine dT (λdY=>?_) λdY=>?_
  .refine c6 ?_;exact dg Z Z
  refine c6 ?_;refine⟨k+1,⟨R,λl h=>?_⟩,R,(dX (dH mc ez dV))⟩;rw[mb eR]at h;grind
 have c:k=todo.length:=R;subst c;rw[rW]at cU;have b:=h.resolve_left λg=>g ⟨R,R,cU⟩;subst b;refine eH ?_;exact dg Z Z
namespace Dk
open Go.Proofs Go.RowKit
def pi (x:h4):gA:=match x.m with
 |none=>x.gV
 |some m=>m.p.d
def se (x:h4) (a:V):I (I gU):=[x.e_,x.eB,x.el,x.fY].take a
open Classical in
def mz (x:h4) (ws:I dG):h4×dG:=match jM ws with
 |some [a,b]=>if 4<a then (x,ji 2) else
  if ul (se x a) /\ (iQ (pi x) b).2=0 then (⟨[],[],[],[],x.gV,U (mw (iQ (pi x) b).1 b (se x a)),a⟩,gv []) else (⟨[],[],[],[],x.gV,x.m,x.hQ⟩,ji 1)
 |_=>(x,ji 2)
def atL (d:gA) (n:J):(iQ d n).2=0\/ (iQ d n).2=1:=by
 rw [iQ];split
 .exact .inr Z
 .split
  .exact .inr Z
  .exact .inl Z
def atM {x:h4} {ws:I dG} {l:I V} (a:jM ws=U l) (h:¬l.length=2):mz x ws=(x,ji 2):=by
 unfold mz;rw [a]
 match l,h with
 | [],_=>rfl| [_],_=>rfl| [_,_],h=>exact dN Z h|_::_::_::_,_=>rfl
def ads (e_ eB el fY:I gU) (a:V):((zI [c3.dm (e_.map kz),c3.dm (eB.map kz),c3.dm (el.map kz),c3.dm (fY.map kz)]).take a).drop 0=([e_,eB,el,fY].take a).map pO:=by rw [C0,yg];rfl
open Classical in
def atN {x:h4} {ws:I dG} {a b:V} (c:jM ws=U [a,b]) (h:¬4<a) (d:¬(ul (se x a) /\ (iQ (pi x) b).2=0)):mz x ws=(⟨[],[],[],[],x.gV,x.m,x.hQ⟩,ji 1):=by unfold mz;rw [c];show (if 4<a then _ else if _ then _ else _)=_;rw [cS h,cS d]
open Classical in
def Sn {x:h4} {ws:I dG} {a b:V} (c:jM ws=U [a,b]) (h:¬4<a) (d:ul (se x a) /\ (iQ (pi x) b).2=0):mz x ws=(⟨[],[],[],[],x.gV,U (mw (iQ (pi x) b).1 b (se x a)),a⟩,gv []):=by unfold mz;rw [c];show (if 4<a then _ else if _ then _ else _)=_;rw [cS h,if_pos d]
structure So (m:eu):Prop where
 Q:m.p.f.cN.length<=1000000
 c5:m.p.f.eg.length<=1000000
 eG:m.p.f.dJ.length<=1000000
 fb:m.p.f.dK.length<=1000000
 du:m.p.d.sec.length<=1000000
 dY:m.p.d.fy.length<=1000000
structure Sp (x:h4):Prop where
 cW:x.e_.length<=1000
 Q:x.eB.length<=1000
 c5:x.el.length<=1000
 eG:x.fY.length<=1000
def atO:d0 cQ 51 [.int .i64 1] (.str (ji 1)):=Ki 1 cZ
set_option maxRecDepth 20000 in
def atQ(x:h4)(j:∀m,x.m=U m->So m)(ws:I dG)(dv:ws.length<=1000000)(z:∀w∈ws,w.size<=9223372036854775807)(A:Sp x)
 (s:∀n,(iQ (pi x) n).2=0->iI (iQ (pi x) n).1.d):
 rL cQ 48 [.ptr 1000000 0 0,.d (.dm (ws.map fs))] (jR x) (jR (mz x ws).1) (.str (mz x ws).2):=by
 have⟨B,C,D,E⟩:=A;have c0:=Y0 ws dv z;have⟨y,i⟩:∃y,mz x ws=y:=⟨_,Z⟩;have⟨o,p⟩:∃o,jM ws=o:=⟨_,Z⟩;rw[i];rw[p]at c0;have⟨X,f⟩:∃X,X=x:=⟨_,Z⟩;have⟨O,r⟩:∃O,O=pi x:=⟨_,Z⟩;rw[<-f]at i;rw[<-r]at s;have⟨e_,eB,el,fY,gV,m,hQ⟩:=x;simp only at B C D E
 cases m<;>(
  try have F:=atJ _ (j _ Z).Q (j _ Z).c5 (j _ Z).eG (j _ Z).fb (j _ Z).du (j _ Z).dY
  refine A1 Tryz.func48 2 Z cV f0 (dk ?_)
  cases o with
  |none=>
   refine df c0 (c7 ?_);refine dk ?_;refine df A2 (c7 ?_)
   have e:y=(X,ji 2):=by rw[<-i];simp[mz,p]
   subst e f;exact jG ga Z Z Z ⟨Z,Z,Z,Z,Z,Z,Z,Z,dM⟩
  |some l=>
   have M:(l.map f1).length=l.length:=ec ..
   refine df c0 (c7 ?_)
   refine wT (λc5=>?_) λc5=>?_
   .have e:y=(X,ji 2):=by rw[<-i];exact atM p R
    refine dk ?_;refine df A2 (c7 ?_);subst e f;exact jG ga Z Z Z ⟨Z,Z,Z,Z,Z,Z,Z,Z,dM⟩
   obtain⟨a,b,rfl⟩:∃a b,l=[a,b]:=by
    have:l.length=2:=R
    rcases l with _|⟨a,_|⟨b,_|⟨c,l⟩⟩⟩<;>first|exact⟨_,_,Z⟩|exact dN this dw
   refine dk ?_;refine kn cZ (by show(0:J)<2;decide) (cO ?_);refine d2 (x:=[a]) Z (dk ?_)
   refine dT (λfb=>?_) λfb=>?_
   .have G:4<a:=R
    have e:y=(X,ji 2):=by rw[<-i];simp[mz,p,G]
    refine dk ?_;refine df A2 (c7 ?_);subst e f;exact jG ga Z Z Z ⟨Z,Z,Z,Z,Z,Z,Z,Z,dM⟩
   refine dk ?_
   try refine gk F qu Z ⟨Z,Z,Z,dM⟩ Z (dk ?_)
   refine kn cZ (by show(1:J)<2;decide) (cO ?_);refine d2 (x:=[b]) Z (dk ?_);refine kn cZ (by show(0:J)<2;decide) (cO ?_);refine d2 (x:=[a]) Z (dk ?_);refine oV (by show a<=4;omega) (cO ?_)
   have H:([e_,eB,el,fY].take a).length<=9223372036854775807:=by rw[o5];omega
   have K:∀l∈[e_,eB,el,fY].take a,l.length<=9223372036854775807:=λl h=>by
    have h:=Lp h;simp at h
    rcases h with rfl|rfl|rfl|rfl<;>omega
   have t:se X a=[e_,eB,el,fY].take a:=by rw[f];rfl
   have u:pi X=O:=by rw[f,r]
   by_cases q:ul (se X a)/\ (iQ (pi X) b).2=0
   .have e:=i.symm.trans (Sn p R q);rw[t,u]at q e;have⟨cT,v⟩:=q;have dj:=atu O b ([e_,eB,el,fY].take a) (iQ O b).1 (by rw[<-v]) (s b v) cT.fA cT.mv cT.adr;rw[<-ads]at dj;subst r f e;refine ag5 dj (tt Z) (dk ?_);refine kn cZ (by show(0:J)<2;decide) (cO ?_);refine d2 (x:=[a]) Z (dk ?_);refine df DP (c7 ?_);exact jG [(1000000,1000000),(3000005,2000496),(3000006,2000497),(3000007,2000498)] Z Z Z ⟨Z,⟨3,Z⟩,⟨3,Z⟩,⟨3,Z⟩,⟨3,Z⟩,Z,Z,Z,dM⟩
   .have e:=i.symm.trans (atN p R q);rw[t,u]at q
    have iN:¬ul ([e_,eB,el,fY].take a) \/(iQ O b).2=1:=by
     rcases Classical.em (ul ([e_,eB,el,fY].take a)) with h|h
     .exact .inr ((atL O b).resolve_left λg=>q ⟨h,g⟩)
     .exact .inl h
    have dj:=atK O b ([e_,eB,el,fY].take a) H K iN;rw[<-ads]at dj;subst r f e;refine df dj (dk ?_);refine df atO (c7 ?_)
    exact jG [(1000000,1000000),(3000005,3000005),(3000006,3000006),(3000007,3000007)] Z Z Z ⟨Z,⟨3,Z⟩,⟨3,Z⟩,⟨3,Z⟩,⟨3,Z⟩,Z,Z,Z,dM⟩)
def LQ(x:h4)(ws:I dG)(h:ws.length<3\/4<ws.length):rL cQ 47 [.ptr 1000000 0 0,.d (.dm (ws.map fs))] (jR x) (jR (m1 x ws).1) (.str (m1 x ws).2):=by
 have d6:(ws.map fs).length=ws.length:=ec ..
 rw[m1,if_pos h];have⟨e_,eB,el,fY,gV,m,hQ⟩:=x
 cases m<;>(
  refine A1 atS 2 Z cV f0 (cO ?_)
  refine pq (λQ=>?_) (λQ=>?_)<;>(
   conv=>whnf
   refine dk ?_;refine df A2 (c7 ?_)
   exact jG ga Z Z Z ⟨Z,Z,Z,Z,Z,Z,Z,Z,dM⟩))
def LR{l:I gU}{o:gU}:(l++[o]).map kz=l.map kz++[kz o]:=by rw[jl];rfl
def adt (x : h4) (a b c : dG) (r : I dG) (dQ : r.length ≤ 1) (dt : a.size ≤ 9223372036854775807) (dj : c.size ≤ 9223372036854775807) (q : x.e_.length ≤ 1000 ∧ x.eB.length ≤ 1000 ∧ x.el.length ≤ 1000 ∧ x.fY.length ≤ 1000) : rL cQ 47 [.ptr 1000000 0 0, .d (.dm ((a :: b :: c :: r).map fs))] (jR x) (jR (m1 x (a :: b :: c :: r)).1) (.str (m1 x (a :: b :: c :: r)).2) := by
  have d6 : (r.map fs).length = r.length := ec ..
  have f := Ak a dt
  have g := Ak c dj
  have i : m1 x (a :: b :: c :: r) = match l0 a, l0 c with
    | some w, U id => if 4 ≤ w ∨ pB b = 0 then (x, ji 2) else (yY x w (pB b, id, r.getD 0 .empty), gv [])
    | _, _ => (x, ji 2) := by
    unfold m1
    rw [cS (by simp; omega)]; rfl
  rw [i]
  clear i
  obtain ⟨e_, eB, el, fY, gV, m, hQ⟩ := x
  obtain ⟨j, n, o, p⟩ := q
  simp only at j n o p
  rcases r with _ | ⟨d, _ | ⟨e, r⟩⟩
  case cons.cons => simp at dQ
  all_goals
    cases m <;> cases s : l0 a <;> cases t : l0 c <;> (
      rw [s] at f
      rw [t] at g
      dsimp only
      refine A1 atS 2 Z cV f0 (dk ?_)
      refine kn cZ dw (cO ?_)
      refine d2 Z (cO ?_)
      refine df f (c7 ?_)
      refine kn cZ dw (cO ?_)
      refine d2 Z (cO ?_)
      refine df (alo b) (c7 ?_)
      refine kn cZ dw (cO ?_)
      refine d2 Z (cO ?_)
      refine df g (dk ?_)
      repeat' first
        | (refine df A2 (c7 ?_); try rw [if_pos R]
           exact jG ga Z Z Z ⟨Z, Z, Z, Z, Z, Z, Z, Z, dM⟩)
        | (refine pq (fun h => ?_) (fun h => ?_) <;> refine dk ?_))
  all_goals
    rename_i w id fb
    rw [cS R]
    try (refine kn cZ dw (cO ?_); refine d2 Z (dk ?_))
    have u : w = 0 ∨ w = 1 ∨ w = 2 ∨ w = 3 := by omega
    rcases u with rfl | rfl | rfl | rfl <;> (
      refine kn cZ cZ (dk ?_)
      refine fO 1000100 100 (by rw [ec]; exact fG (Nat.add_le_add_right (by first | exact j | exact n | exact o | exact p) 1) cZ) cZ cZ cZ (dk ?_)
      refine kn cZ cZ (dk ?_)
      refine df DP (c7 ?_)
      exact jG ga Z Z Z ⟨Z, by first | rfl | exact eL (fun l => U (d4.row l 3 L)) (Eq.symm LR), by first | rfl | exact eL (fun l => U (d4.row l 3 L)) (Eq.symm LR), by first | rfl | exact eL (fun l => U (d4.row l 3 L)) (Eq.symm LR), by first | rfl | exact eL (fun l => U (d4.row l 3 L)) (Eq.symm LR), Z, Z, Z, dM⟩)
structure iF(m:eu):Prop where
 ex:∃work,iU work m/\ ∀l∈work,l.length<=1000
 e3:0<=m.eh
 hi:m.eh<=700000
 pl:(m2 m).length<=1000
 mf:∀p∈m2 m,p.2.2.size<=1000
 oe:∀p∈m2 m,(0<=p.1/\p.1<1000000000) /\0<=p.2.1/\p.2.1<1000000000
 iB:m.dq.length<=190000
 k7:∀e∈m.dq,e.gs<1000000000/\ (0<=e.op.1/\e.op.1<1000000000) /\ (0<=e.op.2.1/\e.op.2.1<1000000000) /\ (0<=e.res.1/\e.res.1<1000000000) /\0<=e.res.2.2.1/\e.res.2.2.1<1000000000
 ol:m.s.out.length<=1000000
def iF.ok{m}(h:iF m):hY m:=by have⟨w,h,_⟩:=h.ex;exact h.ok
def iF.fm{m}(h:iF m):ey m.p.f:=by have⟨w,h,_⟩:=h.ex;have⟨t,_,_,g⟩:=h.ex;exact g.n2.fm
def iF.us{m}(h:iF m):iI m.p.d:=by have⟨w,h,_⟩:=h.ex;have⟨t,_,_,g⟩:=h.ex;exact g.n2.us
def LS(e:qo):I V:=[e.gs,e.op.1.toNat,e.op.2.1.toNat,e.res.1.toNat,e.res.2.2.1.toNat]
def um(l:I qo):I V:=l.flatMap LS
def LU(p:e'):I V:=[p.1.toNat,p.2.1.toNat]
def rn(l:I e'):I V:=l.flatMap LU
def vN(b:di):dG:=if b then ⟨#[111,107,32,121,101,115]⟩ else ⟨#[111,107,32,110,111]⟩
def pQ(m:eu)(hQ:V)(w:dG):eu×dG:=
 if w=⟨#[112,117,109,112]⟩ then(qq m,gv []) else
 if w=⟨#[114,111,117,110,100]⟩ then((kF m hQ L).1,vN (kF m hQ L).2) else
 if w=⟨#[104,105,115,116,111,114,121]⟩ then(m,gv (um m.dq)) else
 if w=⟨#[112,97,103,101,115]⟩ then(m,gv (rn (m2 m))) else
 if w=⟨#[99,108,111,99,107]⟩ then(m,gv [m.eh.toNat,m.s.out.length]) else(m,gv [])
def LV:∀l,(um l).length=5*l.length
 | []=>rfl
 |e::l=>by
  have:=LV l;simp[um,atT,kv,nF]at this⊢;rw[this];show 5+_=_;omega
def LW:∀l,(rn l).length=2*l.length
 | []=>rfl
 |e::l=>by
  have:=LW l;simp[rn,atT,kv,nF]at this⊢;rw[this];show 2+_=_;omega
def atU(l e):um (l++[e])=um l++LS e:=by simp[um]
def atV(l e):rn (l++[e])=rn l++LU e:=by simp[rn]
def atW(e:qo):Prop:=e.gs<1000000000/\ (0<=e.op.1/\e.op.1<1000000000) /\ (0<=e.op.2.1/\e.op.2.1<1000000000) /\ (0<=e.res.1/\e.res.1<1000000000) /\0<=e.res.2.2.1/\e.res.2.2.1<1000000000
def atX(p:e'):Prop:=(0<=p.1/\p.1<1000000000) /\0<=p.2.1/\p.2.1<1000000000
def atY{e}(h:atW e):(LS e).map f1=[[.int .i64 e.gs],[.int .i64 e.op.1],[.int .i64 e.op.2.1],[.int .i64 e.res.1],[.int .i64 e.res.2.2.1]]:=by have⟨_,⟨Q,_⟩,⟨a,_⟩,⟨eG,_⟩,fb,_⟩:=h;show [[c3.int .i64 (e.gs:J)],[.int .i64 ((e.op.1.toNat:V):J)],[.int .i64 ((e.op.2.1.toNat:V):J)],[.int .i64 ((e.res.1.toNat:V):J)],[.int .i64 ((e.res.2.2.1.toNat:V):J)]]=_;grind
def atZ{e}(h:atX e):(LU e).map f1=[[.int .i64 e.1],[.int .i64 e.2.1]]:=by have⟨⟨Q,_⟩,a,_⟩:=h;show [[c3.int .i64 ((e.1.toNat:V):J)],[.int .i64 ((e.2.1.toNat:V):J)]]=_;grind
set_option maxRecDepth 20000 in
def at0(e_ eB el fY f m o w)(h:iF m)(hw:o<=1000000):
  rL cQ 52 [.ptr 1000000 0 0,.d (.str w)] (jR ⟨e_,eB,el,fY,f,U m,o⟩) (jR ⟨e_,eB,el,fY,f,U (pQ m o w).1,o⟩) (.str (pQ m o w).2):=by
 have⟨work,E,v⟩:=h.ex;have u:=ac3 m h.ok.jH h.us;have s:=Si (adk E v HS o hw L);have q:=as6 m (by have:=h.iB;omega);have r:=ado m h.fm;have i:=as4 m;have j:=Hb m;have⟨y,b⟩:∃y,pQ m o w=y:=⟨_,Z⟩;rw[b];refine A1 Tryz.func52 2 Z cV f0 (c6 ?_)
 refine dT (λQ=>?_) λQ=>?_
 .refine c6 ?_
  have e:y=(qq m,gv []):=by rw[<-b,pQ,if_pos Q]
  subst e;refine gk u qu Z eJ Z (c6 ?_);refine df DP (c6 ?_);exact jG ga Z Z Z lP
 refine c6 ?_
 refine dT (λc=>?_) λc=>?_
 .refine c6 ?_
  have e:y=((kF m o L).1,vN (kF m o L).2):=by rw[<-b,pQ,cS Q,if_pos c]
  subst e;refine gk s qu Z eJ Z (c6 ?_);refine df (J' _) (c6 ?_);exact jG ga Z Z Z lP
 refine c6 ?_
 refine dT (λeG=>?_) λeG=>?_
 .refine c6 ?_
  have e:y=(m,gv (um m.dq)):=by rw[<-b,pQ,cS Q,cS c,if_pos eG]
  subst e;refine gk q qu Z eJ Z (c6 ?_)
  have z:(m.dq.map pK).length=m.dq.length:=ec ..
  have l:=h.iB;refine eW (D:=V) (λk=>[(6,.own 55),(32,.d (.dm (m.dq.map pK))),(33,.d (.int .i64 (m.dq.map pK).length)),(34,.d (.int .i64 k))]) (λk=>(55,.row ((um (m.dq.take k)).map f1) 1 L)::jR ⟨e_,eB,el,fY,f,U m,o⟩)
   (λk=>k<=m.dq.length) (λk=>m.dq.length-k) 0 (eY _) (nd (.row 6 55 1) g_ (dH ff By dV)) ?_
  intro k d
  conv=>whnf
  refine dT (λg=>?_) λg=>?_
  .have eR:k<m.dq.length:=by omega
   have c0:=h.k7 _ (hF eR);have E:(pK m.dq[k])=pK m.dq[k]:=rfl
   have t:(um (m.dq.take k)).length=5*k:=by rw[LV,o5];omega
   refine ea R (cO ?_);refine d2 (x:=pK m.dq[k]) iJ (c7 ?_);refine c6 ?_;refine fO 1000100 100 (by show pt _+5<=1000100;rw[ec,t];omega) cZ cZ cZ (c6 ?_);refine⟨k+1,R,R,dX (dH ff ⟨?_,Z,Z,Z,Z,Z,Z,Z,Z,dM⟩ dV)⟩;rw[mb eR,atU,jl,atY c0];rfl
  .have d:k=m.dq.length:=by omega
   subst d;rw[rW];refine c6 ?_;refine df (Ap nL (um m.dq) (λn c0=>by have h:=h.k7;have⟨e,f,c0⟩:=at1.1 c0;have⟨cW,⟨Q,a⟩,⟨g,b⟩,⟨eG,c⟩,fb,d⟩:=h e f;simp[LS,nG,Hf,LX]at c0;omega) (by rw[LV];omega)) (c6 ?_);exact jG ga Z Z Z lP
 refine c6 ?_
 refine dT (λfb=>?_) λfb=>?_
 .refine c6 ?_
  have e:y=(m,gv (rn (m2 m))):=by rw[<-b,pQ,cS Q,cS c,cS eG,if_pos fb]
  subst e;refine gk r qu Z eJ Z (c6 ?_)
  have z:((m2 m).map eC).length=(m2 m).length:=ec ..
  have l:=h.pl;have a:=h.oe;have⟨cM,p⟩:∃cM,m2 m=cM:=⟨_,Z⟩;rw[p]at z l a⊢;refine eW (D:=V) (λk=>[(6,.own 73),(61,.d (.dm (cM.map eC))),(62,.d (.int .i64 (cM.map eC).length)),(63,.d (.int .i64 k))]) (λk=>(73,.row ((rn (cM.take k)).map f1) 1 L)::jR ⟨e_,eB,el,fY,f,U m,o⟩)
   (λk=>k<=cM.length) (λk=>cM.length-k) 0 (eY _) (nd (.row 6 73 1) g_ (dH ff By dV)) ?_
  intro k d
  conv=>whnf
  refine dT (λg=>?_) λg=>?_
  .have eR:k<cM.length:=by omega
   have c0:=a _ (hF eR)
   have t:(rn (cM.take k)).length=2*k:=by rw[LW,o5];omega
   refine ea R (cO ?_);refine d2 (x:=eC cM[k]) iJ (c7 ?_);refine c6 ?_;refine fO 1000100 100 (by show pt _+2<=1000100;rw[ec,t];omega) cZ cZ cZ (c6 ?_);refine⟨k+1,R,R,dX (dH ff ⟨?_,Z,Z,Z,Z,Z,Z,Z,Z,dM⟩ dV)⟩;rw[mb eR,atV,jl,atZ c0];rfl
  .have d:k=cM.length:=by omega
   subst d;rw[rW];refine c6 ?_;refine df (Ap nL (rn cM) (λn c0=>by have h:=a;have⟨e,c,c0⟩:=at1.1 c0;have⟨⟨Q,a⟩,d,b⟩:=h e c;simp[LU,nG,Hf,LX]at c0;omega) (by rw[LW];omega)) (c6 ?_);exact jG ga Z Z Z lP
 refine c6 ?_
 refine dT (λdu=>?_) λdu=>?_
 .refine c6 ?_
  have e:y=(m,gv [m.eh.toNat,m.s.out.length]):=by rw[<-b,pQ,cS Q,cS c,cS eG,cS fb,if_pos du]
  subst e;refine gk i qu Z eJ Z (c6 ?_);refine gk j qu Z eJ Z (c6 ?_);refine fO 2 100 (by show 2<=2;decide) cZ cZ cZ (c6 ?_)
  have B:=Ap nL [m.eh.toNat,m.s.out.length] (λn c0=>by
   have:=h.hi;have:=h.ol
   grind) (by simp_all)
  have A:=Int.toNat_of_nonneg h.e3
  have C:d0 cQ 68 [.dm [[.int .i64 m.eh],[.int .i64 m.s.out.length]]] (.str (gv [m.eh.toNat,m.s.out.length])):=by
   have e:[m.eh.toNat,m.s.out.length].map f1=[[c3.int .i64 m.eh],[.int .i64 m.s.out.length]]:=by show [[c3.int .i64 ((m.eh.toNat:V):J)],_]=_;rw[A];rfl
   rwa[<-e]
  refine eH ?_;exact jG ga Z Z Z lP
 .refine c6 ?_
  have e:y=(m,gv []):=by rw[<-b,pQ,cS Q,cS c,cS eG,cS fb,cS du]
  subst e;refine df DP (c6 ?_);exact jG ga Z Z Z lP
