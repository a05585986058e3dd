/- What is proved here: what functions of the program compute, and what follows; no condition beyond each theorem's own. -/
import Derived.Conc.LeavingOf
import Derived.LaidMore
import Derived.Lay
import Derived.ProofKit
import Derived.SevenTiedAt
import Derived.Stop.Joined
import Derived.Test.YtfnijfdfhgpimaaGreatDoorCards
import Derived.Test.YtfnijfdfhgpimaaGreatDoorTie
import Derived.Test.YtfnijfdfhgpimaaGreatDoorWf
set_option linter.all false
noncomputable section
set_option maxHeartbeats 0
open Array renaming replicate->kx,toList_extract->YS
open Bool renaming false->L,false_or->Kf,true->N
open ByteArray renaming append_assoc->avl,data_extract->OZ,empty->fI,mk->JB
open Classical renaming choose->IZ,choose_spec->Wz
open Decidable renaming decide->gV
open Go renaming Act->e7,ChangeSpec->ael,Frame->gS,FuncId->ig,Goroutine->dN,Oper->gC,Operand->fu,TypeId->eH,Value->dp,World->c',laidMetH->Dr
open Go.Conc renaming stepG_cond->Ty
open Go.DataW renaming TrodAll->Jh,Whole->avT
open Go.DataW.TrodAll renaming respare->awn
open Go.DataW.Whole renaming of_heap->awo
open Go.Deferred renaming ofValue->sd
open Go.Frame renaming enter->Bt,finish_at->Ho
open Go.Lib renaming indexByte->kF
open Go.Lit renaming int->Xv
open Go.MakeChecks renaming laidMetH_plain->avW
open Go.MemAct renaming ofEvent->mq,touch?->k6
open Go.OpenSpec renaming ofChange->GP
open Go.Proofs.Tryz renaming checked->yD,f11->adO,f12->zS,func13->avh,prog->cR
open Go.Proofs.YtfnijfdfhgpimaaGreatDoor.Tryz renaming pinned->aer
open Go.Region renaming wanted->jf
open Go.Trace renaming act?->adA
open Go.Value renaming okWide->Jf,string->atx
open Go.World renaming cell?->j3
open List renaming drop->zx,exists_mem_of_length_pos->at2,find?_cons->adl,find?_eq_none->adk,length->pY,length_drop->PL,map->Js,map_eq_nil_iff->atf,map_map->Kc,mem_of_find?_eq_some->at7,mem_of_mem_take->QQ,mem_replicate->avG,range->iB,range'->ts,replicate->eL,set_getElem_self->Qx,take_succ_eq_append_getElem->avv
open List.Perm renaming append_left->R3
open Nat renaming beq->d2,lt_trans->Ti,strongRecOn->s6
open Option renaming none->cM,some->U
open Prod renaming fst->PT,snd->adM
open Prod.mk renaming injEq->IA
open _root_ renaming Array->ea,Bool->dh,ByteArray->dS,False->dA,Int->I,List->J,Nat->V,Option->dB,UInt8->hj,absurd->dQ,rfl->Z,trivial->dU
namespace Go.Lk
def GF:=@List.find?_append
namespace Dk
open Go.Proofs Go.RowKit
def as2{O p}(e:qJ 3000000 p=N)(h:nZ O (kj g8 p)):∀n B,fo.fF p n=U B->O n=U (ns g8 B):=λn B a=>by
 apply zF h n B n a;rw[I8]
 cases f:i7 n with|true=>rfl|false=>rw[(Fm e n).2 f]at a;cases a
def Gu{P f args dD r p d O K}(H:rn P f args r p d)
  (e:qJ 3000000 r=N)(h:nZ O (kj g8 r))(x:n' g8 args=dD)(k:K ⟨lx d,p,U 3000000⟩):y' P f dD O K:=
 MF (x▸H.2 O (as2 e h)) k
def ou(m:ey)(k:V):V:=match m.ws[k]? with|some w=>w.st|none=>0
def as3(m)(k:V):fG cR 83 [.ptr 1000000 0 0,.d k] (e9 m) (e9 m) (ou m k):=by
 have h:=ar5 m k;rw[if_pos R,gl]at h
 have e:((ou m k:V):I)=(match m.ws[k]? with|some w=>(w.st:I)|none=>0):=by rw[ou];cases m.ws[k]?<;>rfl
 grind
def as4{m work}(h:hr work m)(a:∀l∈work,l.length<=1000)(k):0<=hA m k/\hA m k<=1000:=by
 rw[hA]
 cases e:m.ws[k]? with
 |none=>simp_all
 |some w=>
  have⟨t,_,_,g⟩:=h.ex;have Q:=(g.ok.w k w e).ke
  have b:w.todo∈work:=by rw[<-g.oM];exact rJ (jg e)
  grind
def as5{m}(h:hk m)(k):ou m k<=6:=by
 rw[ou]
 cases e:m.ws[k]? with|none=>decide|some w=>exact(h.w k w e).CP
def sP(m:ey)(hQ gW:V):V:=IZ (Ru m hQ [] gW)
def Gv(m w gW):vr m w [] gW (sP m w gW):=Wz (Ru m w [] gW)
def countP(m:ey)(hQ:V)(w:dS)(n:V):ey×dS:=
 if w=⟨#[115,116,101,112]⟩ then((gz m n).1,wX (gz m n).2) else
 if w=⟨#[102,105,110,105,115,104]⟩ then((hP m n L).1,wX (hP m n L).2) else
 if w=⟨#[102,97,117,108,116]⟩ then((hP m n N).1,wX (hP m n N).2) else
 if w=⟨#[97,103,101]⟩ then(CK m n,gx []) else
 if w=⟨#[114,117,110]⟩ then(gF m hQ [] (sP m hQ (min n 500)),gx [sP m hQ (min n 500)]) else
 if w=⟨#[115,116,97,116,101]⟩ then(m,gx [ou m n,(hA m n).toNat]) else
 if w=⟨#[114,101,97,100]⟩ then(m,sO m n) else(m,gx [])
set_option maxRecDepth 20000 in
def as6(e0 eD eo gg d m o w)(n:V)(h:iQ m)(hw:o<=1000000)(cY:n<1000000000):
  rn cR 53 [.ptr 1000000 0 0,.d (.str w),.d n] (jG ⟨e0,eD,eo,gg,d,U m,o⟩) (jG ⟨e0,eD,eo,gg,d,U (countP m o w n).1,o⟩) (.str (countP m o w n).2):=by
 have⟨work,E,a⟩:=h.ex;have⟨t,H,z,g⟩:=E.ex;have F:=h.g6;have u:=acr g z a R n;have j:=Rr (Rq g R n L);have l:=asq (Rq g R n N);have i:=ar4 m n t g.nL z H;have r:=asr (ast E a o hw [] c1 (min n 500) R _ (Gv m o (min n 500)));have v:=as3 m n;have q:=acz E a n;have s:=asJ e0 eD eo gg d m o n h.fm h.pl h.l1;have⟨y,b⟩:∃y,countP m o w n=y:=⟨_,Z⟩;rw[b];refine Aw Tryz.func53 3 Z c2 f0 (de ?_)
 refine d3 (λQ=>?_) λQ=>?_
 .refine de ?_
  have e:y=((gz m n).1,wX (gz m n).2):=by rw[<-b,countP,if_pos Q]
  subst e;refine ga u qi Z eJ Z (de ?_);refine df (Jl _) (de ?_);exact jv g8 Z Z Z lY
 refine de ?_
 refine d3 (λc=>?_) λc=>?_
 .refine de ?_
  have e:y=((hP m n L).1,wX (hP m n L).2):=by rw[<-b,countP,cT Q,if_pos c]
  subst e;refine ga j qi Z eJ Z (de ?_);refine df (Jl _) (de ?_);exact jv g8 Z Z Z lY
 refine de ?_
 refine d3 (λeS=>?_) λeS=>?_
 .refine de ?_
  have e:y=((hP m n N).1,wX (hP m n N).2):=by rw[<-b,countP,cT Q,cT c,if_pos eS]
  subst e;refine ga l qi Z eJ Z (de ?_);refine df (Jl _) (de ?_);exact jv g8 Z Z Z lY
 refine de ?_
 refine d3 (λfy=>?_) λfy=>?_
 .refine de ?_
  have e:y=(CK m n,gx []):=by rw[<-b,countP,cT Q,cT c,cT eS,if_pos fy]
  subst e;refine ga i qi Z eJ Z (de ?_);refine df C8 (de ?_);exact jv g8 Z Z Z lY
 refine de ?_
 refine d3 (λdz=>?_) λdz=>?_
 .refine de ?_;have⟨dj,jx⟩:∃dj,sP m o (min n 500)=dj:=⟨_,Z⟩;have f:=(Gv m o (min n 500)).le
  have e:y=(gF m o [] dj,gx [dj]):=by rw[<-b,countP,cT Q,cT c,cT eS,cT fy,if_pos dz,jx]
  subst e;rw[jx]at r f;have A:((min n 500:V):I)=min (n:I) 500:=R;rw[A]at r;refine ga r qi Z eJ Z (de ?_);have x:=zQ nu [dj] (λk c6=>AM) (by show 1<=1000000;decide);refine e' ?_;exact jv g8 Z Z Z lY
 refine de ?_
 refine d3 (λdW=>?_) λdW=>?_
 .refine de ?_
  have e:y=(m,gx [ou m n,(hA m n).toNat]):=by rw[<-b,countP,cT Q,cT c,cT eS,cT fy,cT dz,if_pos dW]
  subst e;refine ga v qi Z eJ Z (de ?_);refine ga q qi Z eJ Z (de ?_);have B:=as4 E a n;have C:=as5 h.ok n;have x:=zQ nu [ou m n,(hA m n).toNat] (λk c6=>AM) (by show 2<=1000000;decide)
  have G:dX cR 68 [.dk [[(ou m n)],[(hA m n)]]] (.str (gx [ou m n,(hA m n).toNat])):=by
   have e:[ou m n,(hA m n).toNat].map f1=[[c3.int .i64 (ou m n)],[.int .i64 (hA m n)]]:=by show [[c3.int .i64 (ou m n)],[c3.int .i64 (((hA m n).toNat:V):I)]]=_;rw[Int.toNat_of_nonneg B.1]
   rwa[<-e]
  refine e' ?_;exact jv g8 Z Z Z lY
 refine de ?_
 refine d3 (λl5=>?_) λl5=>?_
 .refine de ?_
  have e:y=(m,sO m n):=by rw[<-b,countP,cT Q,cT c,cT eS,cT fy,cT dz,cT dW,if_pos l5]
  subst e;refine Gu s Z lY Z (de ?_);exact jv g8 Z Z Z lY
 .refine de ?_
  have e:y=(m,gx []):=by rw[<-b,countP,cT Q,cT c,cT eS,cT fy,cT dz,cT dW,cT l5]
  subst e;refine df C8 (de ?_);exact jv g8 Z Z Z lY
def sQ (x:hX) (w:dS) (l:J V):hX×dS:=
 if (l.length:I)≠qN w then (x,jD 2) else match x.m with
  |none=>(x,jD 13)
  |some m=>match l with
   | []=>(⟨x.e0,x.eD,x.eo,x.gg,x.gX,U (pH m x.hQ w).1,x.hQ⟩,(pH m x.hQ w).2)
   |n::_=>(⟨x.e0,x.eD,x.eo,x.gg,x.gX,U (countP m x.hQ w n).1,x.hQ⟩,(countP m x.hQ w n).2)
def Gw (x:hX) (w:dS) (ws:J dS):hX×dS:=
 if w=⟨#[100,111]⟩ then mL x ws else
 if w=⟨#[115,116,97,114,116]⟩ then mM x ws else
 match kY ws with
 |none=>(x,jD 2)
 |some l=>sQ x w l
def as7 {x:hX} {w:dS} {l:J V} (h:(l.length:I)≠qN w):sQ x w l=(x,jD 2):=by rw [sQ,if_pos h]
def as8 {e0 eD eo gg:J gH} {gX:gm} {hQ:V} {w:dS} {l:J V} (h:¬(l.length:I)≠qN w):sQ ⟨e0,eD,eo,gg,gX,cM,hQ⟩ w l=(⟨e0,eD,eo,gg,gX,cM,hQ⟩,jD 13):=by rw [sQ,cT h]
def as9 {e0 eD eo gg:J gH} {gX:gm} {m:ey} {hQ:V} {w:dS} (h:¬(([]:J V).length:I)≠qN w):sQ ⟨e0,eD,eo,gg,gX,U m,hQ⟩ w []=(⟨e0,eD,eo,gg,gX,U (pH m hQ w).1,hQ⟩,(pH m hQ w).2):=by rw [sQ,cT h]
def ata {e0 eD eo gg:J gH} {gX:gm} {m:ey} {hQ:V} {w:dS} {n:V} {l:J V} (h:¬((n::l).length:I)≠qN w):sQ ⟨e0,eD,eo,gg,gX,U m,hQ⟩ w (n::l)=(⟨e0,eD,eo,gg,gX,U (countP m hQ w n).1,hQ⟩,(countP m hQ w n).2):=by rw [sQ,cT h]
def gA (x:hX) (line:dS):hX×dS:=match jI line with
 | []=>(x,.empty)
 |w::ws=>Gw x w ws
def atb:∀ (l:J hj) (w:J hj),w∈mE l->w.length<=l.length:=by
 intro l
 induction h:l.length using s6 generalizing l with
 |_ n a=>
  intro w hw
  rcases Int.lt_or_le (kF l 32) 0 with cK|cK
  .have e:kF l 32=-1:=by have:=Jr l 32;omega
   rw [OX e] at hw
   simp at hw;subst hw;omega
  .have⟨k,c6⟩:=Int.eq_ofNat_of_zero_le cK;have⟨Q,c5⟩:=OY c6;rw [c5] at hw
   rcases m3.1 hw with rfl|hw
   .rw [pn];omega
   .have:=a (l.drop (k+1)).length (by rw [PL];omega) _ Z w hw
    rw [PL] at this;omega
def atc {s w:dS} (h:w∈jI s):w.size<=s.size:=by
 rw [jI] at h;obtain ⟨l,dw,rfl⟩:=h4.1 h;have:=atb _ l dw;rw [m6] at this;show l.toArray.size<=s.data.size
 simpa using this
def acM:∀ (l:J hj) (n k:V),iZ n l=U k->k<(n+1)*10^l.length
 | [],n,k,h=>by simp [iZ] at h;subst h;simp
 |c::l,n,k,h=>by
  rw [iZ] at h
  split at h
  .cases h
  .have:=acM l _ k h
   have c5:10*n+(c.toNat-48)+1<= (n+1)*10:=R
   have eS:=l4 (10^l.length) c5;rw [pW,Nat.pow_succ,Nat.mul_comm (10^l.length) 10,<-Nat.mul_assoc];omega
def acN {w:dS} {n:V} (h:lI w=U n):n<1000000000:=by
 rw [lI] at h
 split at h
 .cases h
 .rename_i dg;have Q:=acM _ _ _ h
  have c5:w.data.toList.length<=9:=by rw [m6];show w.size<=9;omega
  have eS:10^w.data.toList.length<=10^9:=Fw c1 c5;omega
def acO:∀ {ws:J dS} {l:J V},kY ws=U l->∀ n∈l,n<1000000000
 | [],l,h,n,cY=>by simp [kY] at h;subst h;cases cY
 |w::ws,l,h,n,cY=>by
  rw [kY] at h
  cases e:lI w with
  |none=>rw [e] at h;cases h
  |some k=>
   rw [e] at h
   cases a:kY ws with
   |none=>rw [a] at h;cases h
   |some r=>
    rw [a] at h;simp at h;subst h
    rcases m3.1 cY with rfl|cY
    .exact acN e
    .exact acO a n cY
def atd:dX cR 51 [.int .i64 13] (.str (jD 13)):=Ju 13 c1
set_option maxRecDepth 20000 in
def ate (x : hX) (p : ∀ m, x.m = U m → iQ m) (q : x.hQ ≤ 1000000) (line : dS) (dw : line.size ≤ 1000000)
    (r : ∀ ws, (∀ w ∈ ws, w.size ≤ 1000000) → rn cR 47 [.ptr 1000000 0 0, .d (.dk (ws.map fw))] (jG x) (jG (mL x ws).1) (.str (mL x ws).2))
    (s : ∀ ws, ws.length ≤ 1000000 → (∀ w ∈ ws, w.size ≤ 1000000) → rn cR 48 [.ptr 1000000 0 0, .d (.dk (ws.map fw))] (jG x) (jG (mM x ws).1) (.str (mM x ws).2)) :
    rn cR 22 [.ptr 1000000 0 0, .d (.str line)] (jG x) (jG (gA x line).1) (.str (gA x line).2) := by
  have c7 := ald line dw
  have t : (jI line).length ≤ 1000001 := by rw [FC]; have := X7 line.data.toList; rw [m6] at this; have : line.data.size = line.size := Z; omega
  have u : ∀ w ∈ jI line, w.size ≤ 1000000 := fun w h => by have := atc h; omega
  obtain ⟨y, a⟩ : ∃ y, gA x line = y := ⟨_, Z⟩
  rw [a]
  rw [gA] at a
  cases A : jI line with
  | nil => exact dQ A (by rw [jI]; intro h; exact Sw _ (atf.1 h))
  | cons w ws =>
  rw [A] at c7 a t u
  have B : ws.length ≤ 1000000 := by simpa using t
  have f : ∀ w ∈ ws, w.size ≤ 1000000 := fun v h => u v (.tail _ h)
  have K : (ws.map fw).length = ws.length := ef ..
  have cY := X0 ws B (fun v h => by have := f v h; omega)
  have C := aj5 w
  have g : zx 1 (List.take (Js fw (w :: ws)).length (Js fw (w :: ws))) = ws.map fw := by rw [p9]; rfl
  obtain ⟨X, b⟩ : ∃ X, X = x := ⟨_, Z⟩
  rw [← b] at a r s
  replace a : Gw X w ws = y := a
  rw [Gw] at a
  obtain ⟨e0, eD, eo, gg, gX, m, hQ⟩ := x
  cases m <;> (
    refine Aw Tryz.func22 2 Z c2 f0 (de ?_)
    refine df c7 (de ?_)
    refine kb c1 (by show (0 : I) < ((ws.map fw).length : I) + 1; omega) (cO ?_)
    refine dY (x := [.str w]) Z (de ?_)
    refine pc (fun Q => ?_) (fun Q => ?_) <;> conv => whnf
    · rw [if_pos Q] at a
      refine de ?_
      refine fC (fun e h => by obtain ⟨v, _, rfl⟩ := h4.1 h; rfl) (cO ?_)
      refine pd (by show 1 ≤ (ws.map fw).length + 1; omega) (cO ?_)
      rw [g]
      refine de ?_
      subst a
      have H := r ws f
      obtain ⟨⟨⟨D, k1, eF, u4, E, i, kw⟩, F⟩, j⟩ : ∃ z, mL X ws = z := ⟨_, Z⟩
      subst b
      rw [j] at H ⊢
      cases i <;> (
        refine Gu H Z ⟨Z, Z, Z, Z, Z, Z, Z, Z, dU⟩ Z (de ?_)
        exact jv g8 Z Z Z ⟨Z, Z, Z, Z, Z, Z, Z, Z, dU⟩)
    refine de ?_
    refine pc (fun c5 => ?_) (fun c5 => ?_) <;> conv => whnf
    · rw [cT Q, if_pos c5] at a
      refine de ?_
      refine fC (fun e h => by obtain ⟨v, _, rfl⟩ := h4.1 h; rfl) (cO ?_)
      refine pd (by show 1 ≤ (ws.map fw).length + 1; omega) (cO ?_)
      rw [g]
      refine de ?_
      subst a
      have H := s ws B f
      obtain ⟨⟨⟨D, k1, eF, u4, E, i, kw⟩, F⟩, j⟩ : ∃ z, mM X ws = z := ⟨_, Z⟩
      subst b
      rw [j] at H ⊢
      cases i <;> (
        refine Gu H Z ⟨Z, Z, Z, Z, Z, Z, Z, Z, dU⟩ Z (de ?_)
        exact jv g8 Z Z Z ⟨Z, Z, Z, Z, Z, Z, Z, Z, dU⟩)
    rw [cT Q, cT c5] at a
    refine de ?_
    refine fC (fun e h => by obtain ⟨v, _, rfl⟩ := h4.1 h; rfl) (cO ?_)
    refine pd (by show 1 ≤ (ws.map fw).length + 1; omega) (cO ?_)
    rw [g]
    refine de ?_
    cases e : kY ws with
    | none =>
      rw [e] at cY a
      refine df cY (de ?_)
      refine df Ax (de ?_)
      subst a b
      exact jv g8 Z Z Z ⟨Z, Z, Z, Z, Z, Z, Z, Z, dU⟩
    | some l =>
    rw [e] at cY a
    replace a : sQ X w l = y := a
    have o : (l.map f1).length = l.length := ef ..
    refine df cY (de ?_)
    refine kb c1 (by show (0 : I) < ((ws.map fw).length : I) + 1; omega) (cO ?_)
    refine dY (x := [.str w]) Z (de ?_)
    refine df C (de ?_)
    refine pc (fun eS => ?_) (fun eS => ?_) <;> conv => whnf
    rotate_left
    · have c : (l.length : I) ≠ qN w := by rw [← o]; exact eS
      rw [as7 c] at a
      refine de ?_
      refine df Ax (de ?_)
      subst a b
      exact jv g8 Z Z Z ⟨Z, Z, Z, Z, Z, Z, Z, Z, dU⟩
    have c : ¬ (l.length : I) ≠ qN w := by rw [← o]; exact fun h => h eS
    subst b
    refine de ?_
    first
    | (rw [as8 c] at a
       subst a
       refine df atd (de ?_)
       exact jv g8 Z Z Z ⟨Z, Z, Z, Z, Z, Z, Z, Z, dU⟩)
    | (refine pc (fun fy => ?_) (fun fy => ?_) <;> conv => whnf
       · have G : l = [] := List.length_eq_zero_iff.1 R
         subst G
         rw [as9 c] at a
         subst a
         refine de ?_
         refine kb c1 (by show (0 : I) < ((ws.map fw).length : I) + 1; omega) (cO ?_)
         refine dY (x := [.str w]) Z (de ?_)
         refine Gu (asZ e0 eD eo gg gX _ hQ w (p _ Z) q) Z ⟨Z, Z, Z, Z, Z, Z, Z, Z, dU⟩ Z (de ?_)
         exact jv g8 Z Z Z ⟨Z, Z, Z, Z, Z, Z, Z, Z, dU⟩
       cases l with
       | nil => exact dQ Z fy
       | cons n l =>
       rw [ata c] at a
       subst a
       have J : n < 1000000000 := acO e n (.head _)
       refine de ?_
       refine kb c1 (by show (0 : I) < ((ws.map fw).length : I) + 1; omega) (cO ?_)
       refine dY (x := [.str w]) Z (de ?_)
       refine kb c1 (by show (0 : I) < (((n :: l).map f1).length : I); rw [o]; show (0 : I) < ((l.length + 1 : V) : I); omega) (cO ?_)
       refine dY (x := [n]) Z (de ?_)
       refine Gu (as6 e0 eD eo gg gX _ hQ w n (p _ Z) q J) Z ⟨Z, Z, Z, Z, Z, Z, Z, Z, dU⟩ Z (de ?_)
       exact jv g8 Z Z Z ⟨Z, Z, Z, Z, Z, Z, Z, Z, dU⟩))
def atg(x:hX)(f:Rx x)(ws:J dS)(i:∀w∈ws,w.size<=1000000):rn cR 47 [.ptr 1000000 0 0,.d (.dk (ws.map fw))] (jG x) (jG (mL x ws).1) (.str (mL x ws).2):=by
 have g:=(⟨f.cW,f.Q,f.c5,f.eS⟩:x.e0.length<=1000/\x.eD.length<=1000/\x.eo.length<=1000/\x.gg.length<=1000)
 have z:∀w∈ws,w.size<=9223372036854775807:=λw h=>by have:=i w h;omega
 match ws,z with
 | [],_=>exact KW x [] (.inl (by show 0<3;decide))| [a],_=>exact KW x [a] (.inl (by show 1<3;decide))| [a,b],_=>exact KW x [a,b] (.inl (by show 2<3;decide))| [a,b,c],z=>exact acL x a b c [] (e3 _) (z a dt) (z c dt) g| [a,b,c,d],z=>exact acL x a b c [d] (fB 1) (z a dt) (z c dt) g|a::b::c::d::e::r,_=>exact KW x _ (.inr (by show 4<r.length+5;omega))
structure Ry (x:hX):Prop where
 ls:Rx x
 wk:x.hQ<=1000000
 fit:∀ m,x.m=U m->iQ m/\Rw m
 us:∀ n,(iH (o6 x) n).2=0->ix (iH (o6 x) n).1.d
section
open Go.Conc Go.Lib
set_option maxRecDepth 100000
theorem acP{x n K}(h:fo.fF (jG x) n=U K):ns g8 K=K:=by
 have⟨e0,eD,eo,gg,d,m,w⟩:=x
 have k:∀(l:J (V×d4)),(∀p∈l,ns g8 p.2=p.2)->fo.fF l n=U K->ns g8 K=K:=by
  intro l
  induction l with
  |nil=>intro _ h;cases h
  |cons p r i=>
   have⟨a,C⟩:=p;intro O h;simp[fo.fF]at h
   cases b:d2 n a with
   |true=>simp_all
   |false=>simp_all
 refine k _ (λp O=>?_) h
 cases m with
 |none=>simp[jG,m3,Gt,K2]at O;rcases O with rfl|rfl|rfl|rfl|rfl|rfl|rfl|rfl<;>rfl
 |some m=>simp[jG,m3,Gt,K2]at O;rcases O with rfl|rfl|rfl|rfl|rfl|rfl|rfl|rfl<;>rfl
theorem ath(x):tv (jG x)=N:=c2
structure Rz(cV:jm)(cO:c')(dJ:eE)(na B:V)(x:hX)(l:J hj)(w:c')(own:V->Prop)(M:eE)(D:gr)(O:V->dB d4)(p:dp)(r:dB V):Prop where
 hD:gG cV own M
 cK:∀c,w.heap.size<=c->own c
 dy:∀c,own c->cO.heap.size<=c
 sub:gJ dJ M
 mD:fq M w
 rel:er own M D O w
 lS:∀n K,fo.fF (jG x) n=U K->O n=U (ns g8 K)
 at_:∃cL,D 1000000=U (U cL) /\cL.blk=na
 fc:nX cV cO.heap.size cO w
 qM:p=.pointer cM\/p=eV B
 Gx:h_ L B p r l w
 e8:cO.heap.size<=B
 hu:¬own B
 pa:¬cV.F B
 K3:∀o,M B o=cM
 r0:∀k,r=U k->cO.heap.size<=k/\ ¬own k/\ ¬cV.F k/\ ∀o,M k o=cM
 ww:r≠cM->l≠[]
def nM(cV:jm)(cO:c')(dJ:eE)(na B:V)(x:hX)(l:J hj)(w:c'):Prop:=∃own M D O p r,Rz cV cO dJ na B x l w own M D O p r
section
variable {cV:jm} {cO w w':c'} {dJ:eE} {na B:V} {x:hX} {l:J hj}
theorem ati{own o M D O}(h:er own M D O w)(c:∀b cL,D b=U (U cL)->o cL.blk)(d:∀b cL,D b=U (U cL)->w'.heap[cL.blk]?=w.heap[cL.blk]?):er o M D O w':=
 ⟨h.fD,h.iN,λb K cL a f=>by
  have⟨q,cs,T,e,g⟩:=h.at_ b K cL a f
  exact⟨c b cL f,cs,T,by grind,g⟩,h.inj⟩
theorem RA{own M D O}(h:er own M D O w){b cL}(c:D b=U (U cL)):own cL.blk:=by
 cases a:O b with|none=>rw[(h.fD b).1 a]at c;cases c|some K=>exact(h.at_ b K cL a c).1
theorem nM.rel(h:nM cV cO dJ na B x l w)(r:eX cV.F w w'):nM cV cO dJ na B x l w':=by have⟨own,M,D,O,p,e,h⟩:=h;refine⟨own,M,D,O,p,e,h.hD,λc a=>h.cK c (by rwa[r.size]at a),h.dy,h.sub,tj h.hD r h.mD,BA h.hD r h.rel,h.lS,h.at_,⟨r.os.trans h.fc.os,r.tape.trans h.fc.tape,r.output.trans h.fc.output,by rw[r.size];exact h.fc.size,λk d q=>(r.block k q).trans (h.fc.block k d q)⟩,h.qM,h.Gx.h2 (r.block _ h.pa) λk b=>r.block _ (h.r0 k b).2.2.1,h.e8,h.hu,h.pa,h.K3,h.r0,h.ww⟩
theorem Rz.build{own M D O p p' r hZ n}(h:Rz cV cO dJ na B x l w own M D O p r)
  (m:p'=.pointer cM\/p'=eV B)(s:h_ L B p' hZ n w')(E:hZ=r\/ ∃k,hZ=U k/\w.heap.size<=k)(f:h5 cV.F (λk=>k=B\/r=U k) w w')(C:hZ≠cM->n≠[]):nM cV cO dJ na B x n w':=by
 have d:=λk Q A eS fy=>f.block k Q A λq=>q.elim eS fy
 have t:=λb o v cU=>by
  have a:=h.mD b o v cU;unfold j3 at a
  cases u:w.heap[b]? with|none=>simp[u]at a|some _=>exact(kv.1 u).1
 have xC:∀k,hZ=U k->cO.heap.size<=k/\ ¬cV.F k/\ (∀o,M k o=cM) /\ (¬own k\/w.heap.size<=k):=λk g=>by
  rcases E with e|⟨fr,H,i⟩
  .have⟨O9,fb,I,J⟩:=h.r0 k (e▸g);simp_all
  .rw[H]at g;cases g
   refine⟨fJ h.fc.size i,h.hD.own _ (h.cK _ i),λo=>?_,.inr i⟩
   cases cU:M k o with|none=>rfl|some v=>grind
 refine⟨λc=>own c/\hZ≠U c,M,D,O,p',hZ,h.hD.low λc a=>a.1,λc a=>⟨h.cK c (fJ f.size a),λe=>by have:=s.lt.2 c e;omega⟩,λc a=>h.dy c a.1,h.sub,λb o v cU=>?_,?_,h.lS,h.at_,
  ⟨f.os.trans h.fc.os,f.tape.trans h.fc.tape,f.output.trans h.fc.output,fJ h.fc.size f.size,λk y z=>?_⟩,m,s,h.e8,λq=>h.hu q.1,h.pa,h.K3,λk g=>?_,C⟩
 .have a:=h.mD b o v cU;have e:=d b (t b o v cU) (h.hD.mem b o v cU) (λe=>by subst e;rw[h.K3 o]at cU;cases cU) (λe=>by rw[(h.r0 b e).2.2.2 o]at cU;cases cU);unfold j3 at a⊢;simp_all
 .refine ati h.rel (λb cL G=>⟨RA h.rel G,λe=>?_⟩) λb cL G=>?_
  .rcases (xC _ e).2.2.2 with q|q
   .exact q (RA h.rel G)
   .have:=h.rel.lt G;omega
  .have j:=RA h.rel G;exact d _ (h.rel.lt G) (h.hD.own _ j) (λe=>h.hu (e▸j)) λe=>(h.r0 _ e).2.1 j
 .have cW:=h.e8;exact(d k (ro y h.fc.size) z R λe=>by have:=(h.r0 k e).1;omega).trans (h.fc.block k y z)
 simp_all
theorem nM.FE(h:nM cV cO dJ na B x l w){s}(b:l.length+s.size<=1000000000000):gT cR cV.main cV.F 21 #[eV B,.string s] w λq w'=>q=.tuple #[s.size,.nilIface] /\nM cV cO dJ na B x (l++s.data.toList) w':=by have⟨own,M,D,O,p,r,h⟩:=h;exact gT.mono (OA h.pa (λk d=>(h.r0 k d).2.2.1) (λk d=>h.hD.own k (h.cK k d)) h.qM h.Gx b) λq w' j=>have⟨e,hZ,c,g,z,i⟩:=j;⟨e,h.build (.inr Z) c g i λcY a=>have f:=(zj.1 a).1;have Sy:=(zj.1 a).2;have n:=lv λe=>h.ww e f;cY (z n Sx)⟩
theorem nM.O1(h:nM cV cO dJ na B x l w){c}(a:l.length+1<=1000000000000):gT cR cV.main cV.F 23 #[eV B,.int .u8 c.toNat] w λq w'=>q=.nilIface/\nM cV cO dJ na B x (l++[c]) w':=by have⟨own,M,D,O,p,r,h⟩:=h;exact gT.mono (Xm h.pa (λk d=>(h.r0 k d).2.2.1) (λk d=>h.hD.own k (h.cK k d)) h.qM h.Gx a) λq w' i=>have⟨e,hZ,b,f,g⟩:=i;⟨e,h.build (.inr Z) b f g λ_=>dt⟩
theorem nM.str(s:cR.follows .mixedOrders=N)(h:nM cV cO dJ na B x l w)(d:l.length<=1000000000000):gT cR cV.main cV.F 24 #[eV B] w λq w'=>q=.string ⟨l.toArray⟩ /\nX cV cO.heap.size cO w'/\fq dJ w':=by
 have⟨own,M,D,O,p,r,h⟩:=h;refine gT.mono (Xu s h.pa (λk n=>(h.r0 k n).2.2.1) h.Gx.f h.ww d) λq w' g=>have⟨e,m,f⟩:=g;⟨e,⟨f.os.trans h.fc.os,f.tape.trans h.fc.tape,f.output.trans h.fc.output,fJ h.fc.size f.size,λk i j=>?_⟩,λb o v cU=>?_⟩
 .exact(f.block k (ro i h.fc.size) j λe=>by have:=(h.r0 k e).1;omega).trans (h.fc.block k i j)
 .have a:=h.sub b o v cU;have c:=h.mD b o v a
  have t:b<w.heap.size:=by
   have c:=c;unfold j3 at c
   cases g:w.heap[b]? with|none=>simp_all|some _=>grind
  have e:=f.block b t (h.hD.mem b o v a) λe=>by rw[(h.r0 b e).2.2.2 o]at a;cases a
  unfold j3 at c⊢;simp_all
theorem nM.line(h:nM cV cO dJ na B x l w)(H:Ry x){line}(C:line.size<=1000000):gT cR cV.main cV.F 22 #[eV na,.string line] w λv w'=>v=.string (gA x line).2/\nM cV cO dJ na B (gA x line).1 l w':=by
 have⟨own,M,D,O,p,r,h⟩:=h;obtain⟨cL,I,rfl⟩:=h.at_;have E:=(ate x (λm d8=>(H.fit m d8).1) H.wk line C (atg x H.ls) λws Q c5=>asQ x (λm d8=>(H.fit m d8).2) ws Q (λw hw=>by have:=c5 w hw;omega) H.ls H.us).2 O h.lS
 have cP:y_ M D (n' g8 [.ptr 1000000 0 0,.d (.str line)]) #[eV cL.blk,.string line]:=by
  refine⟨Z,λi d v Q j=>?_⟩
  match i with
  |0=>
   cases Q;cases j
   have:=dV.ptr (M:=M) (D:=D) 1000000 0 0 cL I;show dV M D (.ptr 1000000 0 0) (eV cL.blk);simp_all
  |1=>cases Q;cases j;exact .d _ _ (.str _)
  |i+2=>cases Q
 refine gT.mono (E.2 cV own M D w _ h.hD h.cK h.mD h.rel cP) λv w' F=>?_;have⟨fN,g,eg,e,f,s,z,cY,G,a,cU⟩:=F
 cases e
 have cU:v=.string (gA x line).2:=by
  have cU:=cU
  cases cU with
  |d _ _ h=>cases h;rfl
 have t:∀b,¬own b->(∀o,M b o=cM)->∀o,g b o=cM:=λb J dj o=>by
  cases cU:g b o with
  |none=>rfl
  |some u=>
   rcases cY b o u cU with q|q
   .simp_all
   simp_all
 refine⟨cU,own,g,eg,_,p,r,h.hD.new s cY,λc A=>h.cK c (fJ f.size A),h.dy,h.sub.trans s,z,G,λn K m=>?_,⟨cL,(a 1000000 Z).trans I,Z⟩,
  ⟨f.os.trans h.fc.os,f.tape.trans h.fc.tape,f.output.trans h.fc.output,fJ h.fc.size f.size,λk dr y=>?_⟩,h.qM,
  h.Gx.h2 (f.block _ λq=>q.elim h.hu h.pa) (λk a=>f.block _ λq=>q.elim (h.r0 k a).2.1 (h.r0 k a).2.2.1),h.e8,h.hu,h.pa,t B h.hu h.K3,λk a=>⟨(h.r0 k a).1,(h.r0 k a).2.1,(h.r0 k a).2.2.1,t k (h.r0 k a).2.1 (h.r0 k a).2.2.2⟩,h.ww⟩
 .rw[acP m,uQ];rw[Ou (IY (ath _)) m]
 .exact(f.block k λq=>q.elim (λq=>by have:=h.dy k q;omega) y).trans (h.fc.block k dr y)
end
end
end Dk
open Go.Proofs Go.RowKit
def ft.atL{p P W dc u}(h:ft p P W dc u)(E:dc<=2147483647){q i:V}(c8:hG p.f (q) i){b}(r:b.size<=16)(cU:(P q).2.1<dc){l}(z:Dt.ha l=N)(m:∀y∈l,(y∈p.f.dK\/y.1=(q)) /\y.2<=p.now)(d:∀y∈p.f.dK,y∈l)(cP:∃y∈l,y.1=(q)):
  ft ⟨⟨p.f.cN,p.f.hand,p.f.eh,p.f.dE.set i (nD (p.f.dE[i]'c8.O) b),l⟩,p.d,p.now⟩ (hI P q (nD (P q) b)) W dc u:=by
 have cK:=c8.cK;have s:=c8.O;have f:=kJ.1 c8.wJ;have g:=h.at_ q i c8;rw[<-g]at cU;have c:gp (nD (p.f.dE[i]'c8.O) b)=N:=kJ.2 ⟨f.1,f.2.1,by show 1<= (p.f.dE[i]'c8.O).2.1+1;omega,by show(p.f.dE[i]'c8.O).2.1+1<=_;omega,r⟩;have w:=ew.Z' c8 c c8.dE z λy A=>(m y A).1;refine⟨⟨w,h.ei.rest,h.ei.fz,h.ei.sM,h.ei.l6,h.ei.fh,λx c=>(m x c).2⟩,h.pins,λk j B=>?_,⟨λk k1 a v=>?_,λk k1 a=>?_,λk=>?_,h.on.gX⟩,h.tY⟩
 .have C:=p_ h.ei.fm (by have:=B.fA;omega) B.cK B.cN;have t:=B.O
  by_cases e:k=q
  .subst e;have:=c8.wI C.cK C.cN;subst this;rw[tN,jZ,g]
  .have n:i≠j:=λo=>by
    subst o;have:=c8.cN.symm.trans C.cN;omega
   rw[wK n,mK _ _ e];exact h.at_ k j C
 .have n:k≠q:=λe=>by grind
  rw[mK _ _ n];exact h.on.lS k k1 a λx c=>v x (d x c)
 .by_cases e:k=q
  .subst e;rw[jZ,<-g];exact .inr ⟨c,c8.dE⟩
  .rw[mK _ _ e];exact h.on.sN k k1 a
 .by_cases e:k=q
  .subst e;rw[jZ,<-g];assumption
  .rw[mK _ _ e];exact h.on.rP k
def RK{p P W dc u}(h:ft p P W dc u){q i:V}(c8:hG p.f (q) i):hF p.f q=((i:I),0):=by rw[hF,if_pos (sD.2 c8.right),(pA c8.right.eh).2 ⟨c8.fA,c8.mem⟩];rfl
def atM{p P W dc u}(h:ft p P W dc u)(n:dc<=2147483647){q i}(cU:(P q).2.1<dc)(c8:hG p.f (q) i)(O:(p.f.cN[i]'c8.cK).2.1≠0){b}(o:b.size<=16):
  ∃f,iR p.f q b p.now=(f,0) /\ft ⟨f,p.d,p.now⟩ (hI P q (nD (P q) b)) W dc u/\nB f.dE i=nD (P q) b/\f.cN=p.f.cN:=by
 have c:=c8.O;have cK:=c8.cK;have e:=RK h c8;have a:=h.at_ q i c8;have v:=cU;rw[<-a]at v;have m:=arG h.ei.fm c8.fA c8.z' h.ei.l6 h.ei.fh h.ei.dK;have⟨g6,r,j,k⟩:=P4 (l:=p.f.dK) (p:=(q:I)) (t:=p.now) (by rw[m]);rw[m]at g6 r j k;refine⟨⟨p.f.cN,p.f.hand,p.f.eh,p.f.dE.set i (nD (p.f.dE[i]'c8.O) b),(if 0<=Dt.gy p.f.dK q 0 then p.f.dK else p.f.dK++[((q:I),p.now)])⟩,?_,?_,?_,Z⟩
 .rw[iR,e,cT (λq=>q Z),gl,jT cK,cT O,cT R,nC c,cT R,m,cT (λq=>q Z)]
 .refine h.atL n c8 o cU g6 (λy d=>⟨r y d,?_⟩) j k;split at d
  .exact h.ei.dK y d
  .rcases h3.1 d with g|g
   .exact h.ei.dK y g
   .rw[lE]at g;subst g;exact kZ _
 .rw[nC (by rwa[h']),tN,a]
def atN{p P W dc u}(h:ft p P W dc u){q i}(cU:(P q).2.1=2147483647)(c8:hG p.f (q) i)(O:(p.f.cN[i]'c8.cK).2.1≠0){b}(c:b.size<=16):(iR p.f q b p.now).2=7:=by have e:=RK h c8;have a:=c8.O;have g:=h.at_ q i c8;rw[iR,e,cT (λq=>q Z),gl,jT c8.cK,cT O,cT R,nC a,if_pos eG]
def acZ{p P W dc u}(h:ft p P W dc u)(j:0<=u)(o:u<2147483647){q}(Q:1<=q)(a:q<=16){n}(l:p.f.cN.length=n):qg p dc (u+1) (yu P W n 1 q) (tO p q):=by
 rw[yu,cT (show ¬((1:I)=2/\ (P q).1≠0) from λg=>dQ g.1 c1),cT (show ¬((1:I)=2) by decide)];rw[tO];rcases h.where Q with cY|⟨i,c8⟩
 .rw[qW h.ei.fm cY R,cT (show ¬L=N by decide),h.ei.get Q a,h.on.lS q Q a (h.out Q cY)]
  by_cases z:(P q).1=0
  .rw[if_pos z,if_pos ⟨Z,z⟩,if_pos (show(3:I)≠0 by decide)];exact qg.same (h.mono (kZ _) R) d' 3
  .rw[cT z,cT (λg=>z g.2),cT (show ¬((0:I)≠0) from λg=>g Z)];have⟨x,m⟩:=h.on.vq Q a z;exact ab1 (h.mono (kZ _) (show u<=u+1 by omega)) R Q a cY x m L (λ_=>Z) (h.on.rP q) l
 .have cK:=c8.cK;have e:=c8.O;have k:=oe.1 (h.ei.fm.ic.all i cK);have f:=h.tY q;have hw:=h.As c8;rw[hw]at f;have b:=arA c8 R
  have c:¬(W q=0/\tZ W 16=n):=λg=>by
   rw[<-l]at g;exact h.busy.1 g.2 i cK R
  rw[cT (λg=>h.vq c8 g.2),cT c,qa c8,if_pos Z,b,cT (λg=>g Z),gl]
  have r:nB (vd p.f i (Aa p.f.cN[i])).dE i=P q:=by rw[<-h.at_ q i c8];exact nC e
  have d:=h.Ab c8 (y:=Aa p.f.cN[i]) (oe.2 ⟨k.1,k.2.1,by show 0<= (p.f.cN[i]).2.1+1;omega,by show(p.f.cN[i]).2.1+1<=_;omega⟩) c8.cN (pX:=u+1) (by show(p.f.cN[i]).2.1+1<=_;omega) R;rw[ab0,r];refine⟨Z,Z,?_,Z,by show(p.f.cN.set i _).length=_;simp_all,Z,by simp,λg=>dQ Z g⟩;rwa[hw]
def ac0{p P W dc u}(h:ft p P W dc u)(b:1<=dc)(c:0<=u)(d:u<2147483647){q}(Q:1<=q)(a:q<=16){n}(l:p.f.cN.length=n):qg p dc (u+1) (yu P W n 2 q) (tP p q):=by
 rw[yu,cT (show ¬((2:I)=1/\ (P q).1=0) from λg=>dQ g.1 c1),if_pos (show((2:I)=2) from Z)];rw[tP];rcases h.where Q with cY|⟨i,c8⟩
 .rw[qW h.ei.fm cY R,cT (show ¬L=N by decide),h.ei.get Q a,h.on.lS q Q a (h.out Q cY)]
  by_cases z:(P q).1=0
  .rw[if_pos z,cT (λg=>g.2 z),if_pos Z];exact ab1 (h.mono (kZ _) (show u<=u+1 by omega)) R Q a cY (x:=q3 q) (abS R R) Z N (λg=>by cases g) b l
  .rw[cT z,if_pos ⟨Z,z⟩,cT (show ¬(0:I)=3 by decide),if_pos Z];exact qg.same (h.mono (kZ _) R) d' 4
 .rw[if_pos ⟨Z,h.vq c8⟩,qa c8,if_pos Z];exact qg.same (h.mono (kZ _) R) d' 4
def ac1{p P W dc u}(h:ft p P W dc u){q:V}(Q:1<=q)(a:q<=16):vk p q=gV (0<W q):=by
 rw[vk];rcases h.where Q with cY|⟨i,c8⟩
 .rw[qW h.ei.fm cY R,h.KR Q a cY];rfl
 .rw[qa c8,h.As c8,gl,jT c8.cK];rfl
def RL{p P W dc u}(h:ft p P W dc u)(l:dc<=2147483647){q i:V}(c8:hG p.f (q) i)(z:(p.f.cN[i]'c8.cK).2.1≠0)(b)(Q:1<=q)(j:q<=16):
  iS p (3,(q),b)=(p,P q,[],0) /\
  ((P q).2.1<dc\/dc=2147483647->∃p' r,iS p (4,(q),b)=(p',r.2,[],r.1) /\p'.now=p.now/\p'.f.cN.length=p.f.cN.length/\
   if 16<b.size then r=(5,d') /\p'=p else if(P q).2.1=2147483647 then r=(7,d') /\p'=p else r=(0,nD (P q) b) /\ft p' (hI P q (nD (P q) b)) W dc u) /\
  ∃p',iS p (5,(q),b)=(p',d',[],0) /\ft p' P (hI W q (W q-1)) dc u/\p'.now=p.now/\p'.f.cN.length=p.f.cN.length:=by
 have cK:=c8.cK;have o:=c8.O;have hw:=h.As c8;have k:=oe.1 (h.ei.fm.ic.all i cK);refine⟨?_,λv=>?_,?_⟩
 .rw[Ra (show 1<= (q:I) by omega) (show(q:I) <=16 by omega) (.inl Z),Rb (a:=(3,(q:I),b)) c8 z,cT (show ¬(3:I)=4 by decide),cT (show ¬(3:I)=5 by decide),h.at_ q i c8]
 .rw[Ra (show 1<= (q:I) by omega) (show(q:I) <=16 by omega) (.inr (.inl Z)),Rb (a:=(4,(q:I),b)) c8 z,if_pos Z]
  by_cases m:16<b.size
  .have e:iR p.f q b p.now=(p.f,5):=by
    rw[iR,RK h c8,cT (λq=>q Z),gl,jT cK,cT z,if_pos m]
   refine⟨p,(5,d'),?_,Z,Z,?_⟩
   .simp only[e];rfl
   simp_all
  .by_cases cU:(P q).2.1=2147483647
   .have e:=atN h cU c8 z (b:=b) R;refine⟨p,(7,d'),?_,Z,Z,?_⟩
    .simp only[e];rfl
    simp_all
   .have s:=h.on.rP q;have⟨f,x,t,w,d⟩:=atM h l R c8 z (b:=b) R;refine⟨⟨f,p.d,p.now⟩,(0,nD (P q) b),?_,Z,by rw[d],?_⟩
    .simp;simp_all
    simp_all
 .rw[Ra (show 1<= (q:I) by omega) (show(q:I) <=16 by omega) (.inr (.inr Z)),Rb (a:=(5,(q:I),b)) c8 z,cT (show ¬(5:I)=4 by decide),if_pos Z,arz c8 z,cT (λg=>g Z)];have c:=h.tY q;rw[hw]at c;have n:=h.Ab c8 (y:=CH p.f.cN[i]) (oe.2 ⟨k.1,k.2.1,by show 0<= (p.f.cN[i]).2.1-1;omega,by show(p.f.cN[i]).2.1-1<=_;omega⟩) c8.cN (pX:=u) (by show(p.f.cN[i]).2.1-1<=_;omega) (kZ _);refine⟨_,Z,?_,Z,by show(p.f.cN.set i _).length=_;simp_all⟩;rwa[hw]
def jc(P:V->e_)(o:gH):(V->e_)×lQ:=
 if o.1=1 then(if(P o.2.1.toNat).1≠0 then(P,(4,d')) else(hI P o.2.1.toNat (q3 o.2.1.toNat),(0,q3 o.2.1.toNat)))
 else if(P o.2.1.toNat).1=0 then(P,(3,d'))
 else if o.1=2 then(P,(0,P o.2.1.toNat))
 else if o.1=3 then(if 16<o.2.2.size then(P,(5,d')) else if(P o.2.1.toNat).2.1=2147483647 then(P,(7,d')) else(hI P o.2.1.toNat (nD (P o.2.1.toNat) o.2.2),(0,nD (P o.2.1.toNat) o.2.2)))
 else(hI P o.2.1.toNat d',(0,d'))
structure pI(dc:I)(p:fW)(P:V->e_)(n:V):Prop where
 inv:ft p P (λ_=>0) dc 0
 len:p.f.cN.length=n
abbrev lT(p:fW)(P:V->e_)(n:V):Prop:=pI 2147483647 p P n
def ft.GB{p P dc u}(h:ft p P (λ_=>0) dc u):ft p P (λ_=>0) dc 0:=⟨h.ei,h.pins,h.at_,h.on,λ_=>kZ _⟩
def atO(q):hI (hI (λ_=>(0:I)) q 1) q ((hI (λ_=>(0:I)) q 1) q-1)=λ_=>0:=by
 funext k
 by_cases e:k=q
 .subst e;rw[jZ,jZ];rfl
 .rw[mK _ _ e,mK _ _ e]
def K7{p P dc u}(h:ft p P (λ_=>0) dc u)(o:gH){q:V}(b:o.2.1=(q))(Q:1<=q)(a:q<=16)(r):sI o (p,r)=(p,r):=by rw[sI,cT];rw[b,ac1 h Q a];decide
def RM{p P dc u q}(h:ft p P (hI (λ_=>0) q 1) dc u)(Q:1<=q)(a:q<=16):∃i,∃c8:hG p.f (q) i,(p.f.cN[i]'c8.cK).2.1≠0:=by
 rcases h.where Q with cY|⟨i,c8⟩
 .have:=h.KR Q a cY;rw[jZ]at this;cases this
 .refine⟨i,c8,?_⟩;rw[<-h.As c8,jZ];decide
def RN{p P dc u}(c:dc<=2147483647){q}(h:ft p P (hI (λ_=>0) q 1) dc u)(o:gH)(d:o.2.1=(q))(Q:1<=q)(a:q<=16)(r):
  ∃p',sI o (p,r)=(p',r) /\ft p' P (λ_=>0) dc 0/\p'.now=p.now/\p'.f.cN.length=p.f.cN.length:=by
 have⟨i,c8,z⟩:=RM h Q a;have⟨_,_,p',e,b,n,l⟩:=RL h c c8 z fI Q a;rw[atO]at b;refine⟨p',?_,b.GB,n,l⟩
 have O:vk p o.2.1=N:=by rw[d,ac1 h Q a,jZ];rfl
 rw[sI,if_pos O];simp_all
def ac2(p){q:V}(Q:1<=q)(h:q<=16)(b):iS p (1,(q),b)=tO p q:=by rw[iS,cT (show ¬((1:I)<1\/ (8:I)<1) by decide),cT (show ¬((1:I)≠8/\ ((q:I)<1\/16<(q:I))) by omega),if_pos Z]
def RO(p){q:V}(Q:1<=q)(h:q<=16)(b):iS p (2,(q),b)=tP p q:=by rw[iS,cT (show ¬((2:I)<1\/ (8:I)<2) by decide),cT (show ¬((2:I)≠8/\ ((q:I)<1\/16<(q:I))) by omega),cT (show ¬(2:I)=1 by decide),if_pos Z]
def ac3(p){q:V}(Q:1<=q)(h:q<=16)(b):iS p (6,(q),b)=wM p q:=by rw[iS,cT (show ¬((6:I)<1\/ (8:I)<6) by decide),cT (show ¬((6:I)≠8/\ ((q:I)<1\/16<(q:I))) by omega),cT (show ¬(6:I)=1 by decide),cT (show ¬(6:I)=2 by decide),if_pos Z]
def K8{p p' x l e k s o r}(h:iS p (k,o.2.1,o.2.2)=(p',x,l,e))(a:e≠0):oY o (k::s) p r=(p',(e,d')):=by rw[oY];simp_all
def Da{p p' x l k s o r}(h:iS p (k,o.2.1,o.2.2)=(p',x,l,0)):oY o (k::s) p r=oY o s p' (r.1,x):=by rw[oY];simp_all
def ac4{n}(cY:1<=n)(q:V):¬((λ_=>(0:I)) q=0/\tZ (λ_=>(0:I)) 16=n):=λg=>by
 have:tZ (λ_=>(0:I)) 16=0:=Z;omega
def ac5{dc p P n}(w:dc<=2147483647)(x:1<=dc)(H:∀q,(P q).2.1<dc\/dc=2147483647)(h:pI dc p P n)(cY:1<=n)(o)(M:lR o=L):
  (gI p o).2=(jc P o).2/\pI dc (gI p o).1 (jc P o).1 n:=by
 have⟨h,A⟩:=h;have⟨⟨k1,W⟩,cX,cV⟩:=CT M;have⟨k,id,b⟩:=o;simp only[]at k1 W cX cV;obtain⟨q,rfl⟩:∃q:V,id=q:=⟨id.toNat,by omega⟩
 have Q:1<=q:=R
 have a:q<=16:=R
 have y:∀ {p':fW} {P':V->e_} {r:lQ},gI p (k,(q:I),b)=(p',r)->ft p' P' (λ_=>0) dc 0->p'.f.cN.length=p.f.cN.length->jc P (k,(q:I),b)=(P',r)->
   (gI p (k,(q:I),b)).2=(jc P (k,(q:I),b)).2/\pI dc (gI p (k,(q:I),b)).1 (jc P (k,(q:I),b)).1 n:=by
  intro p' P' r e i m d;rw[e,d];exact⟨Z,i,m.trans A⟩
 have E:k=1\/k=2\/k=3\/k=4:=R
 by_cases z:(P q).1=0
 .rcases E with rfl|E
  .have d:=ac0 h x (kZ _) c1 Q a A;rw[yu,cT (λg=>dQ g.1 c1),cT (λg=>g.2 z),cT (ac4 cY q),if_pos Z]at d;have⟨fA,l,e,f,B,D,_⟩:=d.eq;rw[<-RO p Q a b]at e;have⟨J,t,u,cL,T⟩:=RN w f (1,(q:I),b) Z Q a (0,q3 q);refine y (p':=J) (P':=hI P q (q3 q)) (r:=(0,q3 q)) ?_ u (T.trans D) ?_
   .rwa[gI,show kM 1=[2] from Z,Da (o:=(1,(q:I),b)) e]
   .rw[jc,if_pos Z,cT (λg=>g (by simpa using z))];simp
  .have j:jc P (k,(q:I),b)=(P,(3,d')):=by
    rw[jc,cT R,if_pos eG]
   by_cases X:k=4
   .subst X;have d:=ab2 h R Q a;rw[cT (show ¬(0:I)<0 by decide),if_pos z]at d;have⟨fA,l,e,f,B,D,_⟩:=d.eq;rw[<-ac3 p Q a b]at e;refine y (p':=fA) (P':=P) (r:=(3,d')) ?_ f.GB D j;rw[gI,show kM 4=[6] from Z,K8 (o:=(4,(q:I),b)) e c1];exact K7 f _ Z Q a _
   .have d:=acZ h (kZ _) c1 Q a A;rw[yu,if_pos ⟨Z,z⟩]at d;have⟨fA,l,e,f,B,D,_⟩:=d.eq;rw[<-ac2 p Q a b]at e;refine y (p':=fA) (P':=P) (r:=(3,d')) ?_ f.GB D j
    have⟨dr,F⟩:∃dr,kM k=1::dr:=by
     rcases E with rfl|rfl|rfl
     .exact⟨_,Z⟩
     .exact⟨_,Z⟩
     omega
    rw[gI,show kM (k,(q:I),b).1=1::dr from F,K8 (o:=(k,(q:I),b)) e c1];exact K7 f _ Z Q a _
 .have v:∃fA l,iS p (1,(q:I),b)=(fA,P q,l,0) /\ft fA P (hI (λ_=>0) q 1) dc 1/\fA.f.cN.length=p.f.cN.length:=by
   have d:=acZ h (kZ _) c1 Q a A;rw[yu,cT (λg=>z g.2),cT (λg=>dQ g.1 c1),cT (ac4 cY q),cT c1,ab0]at d;have⟨fA,l,e,f,B,D,_⟩:=d.eq;rw[<-ac2 p Q a b]at e;exact⟨fA,l,e,f,D⟩
  rcases E with rfl|rfl|rfl|rfl
  .have d:=ac0 h x (kZ _) c1 Q a A;rw[yu,cT (λg=>dQ g.1 c1),if_pos ⟨Z,z⟩]at d;have⟨fA,l,e,f,B,D,_⟩:=d.eq;rw[<-RO p Q a b]at e;refine y (p':=fA) (P':=P) (r:=(4,d')) ?_ f.GB D ?_
   .rw[gI,show kM 1=[2] from Z,K8 (o:=(1,(q:I),b)) e c1];exact K7 f _ Z Q a _
   .rw[jc,if_pos Z,if_pos eG]
  .have⟨fA,l,e,f,D⟩:=v;have⟨i,c8,O⟩:=RM f Q a;have t:=(RL f w c8 O b Q a).1;have⟨J,C,u,cL,T⟩:=RN w f (2,(q:I),b) Z Q a (0,P q);refine y (p':=J) (P':=P) (r:=(0,P q)) ?_ u (T.trans D) ?_
   .rwa[gI,show kM 2=[1,3] from Z,Da (o:=(2,(q:I),b)) e,Da (o:=(2,(q:I),b)) t]
   .rw[jc,cT (show ¬(2:I)=1 by decide),cT eG,if_pos Z];simp
  .have⟨fA,l,e,f,D⟩:=v;have⟨i,c8,O⟩:=RM f Q a;have⟨J,r,t,cL,T,c⟩:=(RL f w c8 O b Q a).2.1 (H q)
   have fin:∀ {P':V->e_},ft J P' (hI (λ_=>0) q 1) dc 1->(r.1≠0->r.2=d')->jc P (3,(q:I),b)=(P',r)->
     (gI p (3,(q:I),b)).2=(jc P (3,(q:I),b)).2/\pI dc (gI p (3,(q:I),b)).1 (jc P (3,(q:I),b)).1 n:=by
    intro P' u G d;have⟨Y,C,dj,S,da⟩:=RN w u (3,(q:I),b) Z Q a r;refine y (p':=Y) (P':=P') (r:=r) ?_ dj (da.trans (T.trans D)) d;rw[gI,show kM 3=[1,4] from Z,Da (o:=(3,(q:I),b)) e]
    by_cases s:r.1=0
    .rw[s]at t;rw[Da (o:=(3,(q:I),b)) t];rwa[show((0,r.2):lQ)=r by rw[<-s]]
    .rwa[K8 (o:=(3,(q:I),b)) t s,show((r.1,d'):lQ)=r by rw[<-G s]]
   have j:jc P (3,(q:I),b)=(if 16<b.size then(P,(5,d')) else if(P q).2.1=2147483647 then(P,(7,d')) else(hI P q (nD (P q) b),(0,nD (P q) b))):=by rw[jc,cT (show ¬(3:I)=1 by decide),cT (by simpa using z),cT (show ¬(3:I)=2 by decide),if_pos Z];simp
   by_cases K:16<b.size
   .rw[if_pos K]at c j;obtain⟨rfl,rfl⟩:=c;exact fin f (λ_=>Z) j
   .rw[cT K]at c j
    by_cases cU:(P q).2.1=2147483647
    .rw[if_pos cU]at c j;obtain⟨rfl,rfl⟩:=c;exact fin f (λ_=>Z) j
    .rw[cT cU]at c j;obtain⟨rfl,u⟩:=c;exact fin u (λg=>dQ Z g) j
  .have d:=ab2 h R Q a;rw[cT (show ¬(0:I)<0 by decide),cT z]at d;have⟨fA,l,e,f,B,D,_⟩:=d.eq;rw[<-ac3 p Q a b]at e;refine y (p':=fA) (P':=hI P q d') (r:=(0,d')) ?_ f.GB D ?_
   .rw[gI,show kM 4=[6] from Z,Da (o:=(4,(q:I),b)) e];exact K7 f _ Z Q a _
   .rw[jc,cT (show ¬(4:I)=1 by decide),cT eG,cT (show ¬(4:I)=2 by decide),cT (show ¬(4:I)=3 by decide)];simp
def Db{p P n}(h:lT p P n)(cY:1<=n)(o)(r:lR o=L):(gI p o).2=(jc P o).2/\lT (gI p o).1 (jc P o).1 n:=
 ac5 (kZ _) c1 (λ_=>.inr Z) h cY o r
def GC(P:V->e_)(k:V):dB e_:=if(P (k+1)).1≠0 then U (P (k+1)) else cM
def yw(P:V->e_)(k:V):J e_:=(iB k).filterMap (GC P)
def atQ{s}(h:(lL s).2=0):gp (lL s).1=N:=by rw[lL]at h⊢;grind
def RQ{s q}(h:(iL s q).2=0):gp (iL s q).1=N/\ (iL s q).1.1=(q):=by
 rw[iL]at h⊢;split at h
 .omega
 rename_i g;rw[cT g];split at h
 .cases h
 rename_i a;rw[cT a];exact⟨atQ aeC,by simp_all⟩
def atS{f:V->dB e_}(c:∀k x,f k=U x->x.1=(k)+1)(n):((iB n).filterMap f).Pairwise λa b=>a.1<b.1:=by rw[List.pairwise_filterMap];refine List.pairwise_lt_range.imp fun {a b} h x d y e=>?_;grind
def atT{l:J e_}(Q:∀x∈l,gp x=N)(c:l.Pairwise λa b=>a.1<b.1):Hy.KJ l:=
 ⟨Q,λi cK=>(xO.1 c) i (i+1) R cK R⟩
def ac6{l}(Q:∀x∈l,gp x=N)(c5:l.Pairwise λa b=>a.1<b.1){x}(c:x∈l):o5 l x.1=(x,N):=by obtain⟨i,cK,rfl⟩:=kg.1 c;have e:=Hy.abv cK (kZ _) λj dL d=>(xO.1 c5) j i d cK dL;rw[o5,if_pos ⟨Hy.KM.2 (atT Q c5),by rw[Hy.q2,e,fe cK];simp⟩,e,fe cK];rfl
def ac7{l id}(h:∀x∈l,x.1≠id):o5 l id=(d',L):=by rw[o5,cT];rintro⟨_,g⟩;rw[Hy.q2]at g;grind
def RR{d k x}(cP:∀q:V,1<=q->q<=16->k2 d q=iL d.sec q)(a:k<16)(h:t3 d k=U x):gp x=N/\x.1=(k)+1:=by
 have e:=cP (k+1) R R;rw[show(((k+1:V):I))=(k:I)+1 by omega]at e;rw[t3,e]at h;split at h
 .rename_i g
  cases h
  have:=RQ g;assumption
 .cases h
def RS{d x}:x∈o4 d 16↔∃k,k<16/\t3 d k=U x:=by rw[o4,J_];simp_all
def ac8{f g:V->dB e_}{n}(h:∀k,k<n->f k=g k):(iB n).filterMap f=(iB n).filterMap g:=by
 induction n with
 |zero=>rfl|succ n i=>rw[Gs,Gs,i λk a=>h k R,h n R]
def RU{m P n}(h:lT m.p P n):ll m=yw P 16:=by
 have cK:=h.inv;have cP:∀q:V,1<=q->q<=16->k2 m.p.d q=iL m.p.d.sec q:=λq Q l=>cK.ei.get Q l
 have r:∀x∈o4 m.p.d 16,gp x=N:=λx c=>by
  have⟨k,d,e⟩:=RS.1 c;exact(RR cP d e).1
 have s:(o4 m.p.d 16).Pairwise λa b=>a.1<b.1:=by
  have e:o4 m.p.d 16=(iB 16).filterMap λk=>if k<16 then t3 m.p.d k else cM:=ac8 λk d=>by simp_all
  rw[e];refine atS (λk x c=>?_) 16;split at c
  .rename_i d;exact(RR cP d c).2
  .cases c
 refine ac8 λk d=>?_;rw[C9,GC,show((k:I)+1)=((k+1:V):I) by omega];rcases cK.where (q:=k+1) R with cY|⟨i,c8⟩
 .rw[qW cK.ei.fm cY R,cT c1];have e:=cK.on.lS (k+1) R R (cK.out R cY)
  by_cases z:(P (k+1)).1=0
  .rw[if_pos z]at e;rw[ac7,cT c1,cT (show ¬(P (k+1)).1≠0 from λg=>g z)];intro x c t;have⟨j,o,f⟩:=RS.1 c;have u:=(RR cP o f).2
   have:j=k:=R
   subst this;rw[t3,show((j:I)+1)=((j+1:V):I) by omega,cP (j+1) R R,e,cT c1]at f
   cases f
  .rw[cT z]at e;rw[if_pos z]
   have p:=RS.2 ⟨k,d,by rw[t3,show((k:I)+1)=((k+1:V):I) by omega,cP (k+1) R R,e,if_pos Z]⟩
   have:=ac6 r s p;rw[(cK.on.vq (q:=k+1) R R z).2]at this;simp_all
 .rw[qa c8,if_pos Z,if_pos (cK.vq c8)];simp;rw[nC c8.O,cK.at_ (k+1) i c8]
def mi.new{p n work}(a:1<=n)(b:n<=8)(O:p.f.cN.length=n)(h:gc 0 p)(t:1<=work.length)(c:work.length<=4):mi work 0 (mg p n work):=
 ⟨apo a b O t c,h,by
  show(work.map pB).map (·.todo)=work;rw[Kc]
  exact List.map_id'' (λ_=>Z) _,kZ _⟩
def lT.nL{p P n}(h:lT p P n):gc p.now p:=⟨h.inv.ei.fm,by
 have:=h.inv.ei.rest.us
 rwa[<-h.inv.ei.d]at this,Z⟩
def RV{n}(Q:1<=n)(a:n<=8):lT (ja n) (λ_=>d') n:=⟨(arK Q a).mono c1 c1,uO ..⟩
inductive ov(m:ey):ey->Prop
 |same (hi:hH) (ko:J hz) (s':gn) (mX:I) (dg:mX=m.d5\/mX=m.d5+1):ov m ⟨m.ws,m.p,hi,ko,s',mX,m.du⟩
 |gD (a:I):ov m (CK m a)
 |Dc (k:V) (w:fH) (hi:hH) (c6:m.ws[k]?=U w) (c7:w.st=0) (he:w.ended<w.todo.length):ov m ⟨m.ws.set k {w with jW:=m.d5,st:=1},m.p,hi,m.ek,m.s,m.d5+1,m.du⟩
 |wZ (k:V) (w:fH) (a p:dh) (s:V) (hi:hH) (ko:J hz) (s':gn) (c6:m.ws[k]?=U w) (Q:1<=w.st) (dz:w.st<6) (c5:2<=s) (dW:s<=5):ov m ⟨m.ws.set k {w with asked:=a,pinned:=p,st:=s},m.p,hi,ko,s',m.d5+1,m.du⟩
 |Dd (k:V) (w:fH) (s':gn) (c6:m.ws[k]?=U w) (c7:w.st=4):ov m ⟨m.ws.set k {w with st:=5},m.p,m.h,m.ek,s',m.d5,m.du⟩
 |fail (k:V) (w:fH) (s':gn) (c6:m.ws[k]?=U w) (c7:w.st=4):ov m ⟨m.ws.set k (me w (8,d') (m.d5-1)),m.p,m.h,m.ek,s',m.d5,m.du⟩
 |refuse (k:V) (w:fH) (c6:m.ws[k]?=U w) (c7:w.st=1) (dI:lR w.op=N):ov m ⟨m.ws.set k (me w (1,d') m.d5),m.p,m.h,m.ek,m.s,m.d5+1,m.du⟩
 |work (k:V) (w:fH) (c6:m.ws[k]?=U w) (c7:w.st=5) (dI:lR w.op=L):ov m ⟨m.ws.set k (me w (gI m.p w.op).2 m.d5),(gI m.p w.op).1,m.h,m.ek,m.s,m.d5+1,m.du⟩
 |leave (k:V) (w:fH) (hi:hH) (ko:J hz) (c6:m.ws[k]?=U w) (c7:w.st=6):ov m ⟨m.ws.set k (CU w),m.p,hi,ko,m.s,m.d5+1,m.du++[⟨k,w.op,w.res,w.jW,w.done,m.d5⟩]⟩
def RX{m}(o:hk m)(k):ov m (gz m k).1:=by
 rw[gz];split
 .exact .same m.h m.ek m.s m.d5 (.inl Z)
 split
 .exact .same m.h m.ek m.s m.d5 (.inl Z)
 .rename_i w a;have v:=o.w _ w a;have n:ov m {m with d5:=m.d5+1}:=.same m.h m.ek m.s (m.d5+1) (.inr Z);unfold stepW;split
  .rename_i s;split
   .exact n
   .exact .Dc _ w _ a s R
  .rename_i s;split
   .exact n
   split
   .rename_i r;exact .refuse _ w a s r
   .exact .wZ _ w N w.pinned 2 _ _ _ a R R R R
  .rename_i s;split
   .exact n
   .exact .wZ _ w w.asked w.pinned 3 _ _ _ a R R R R
  .rename_i s;split
   .exact n
   split
   .exact .wZ _ w w.asked N 4 _ _ _ a R R R R
   .exact .wZ _ w w.asked N 5 _ _ _ a R R R R
  .rename_i s;exact .work _ w a s (v.val (v.ask R R))
  .rename_i s;exact .leave _ w _ _ a s
  .exact n
def RY{m}(o:hk m)(i b):ov m (hP m i b).1:=by
 rw[hP];split
 .exact .same m.h m.ek m.s m.d5 (.inl Z)
 split
 .exact .same m.h m.ek _ m.d5 (.inl Z)
 .split
  .exact .same m.h m.ek _ m.d5 (.inl Z)
  .rename_i w k;split
   .exact .same m.h m.ek _ m.d5 (.inl Z)
   .rename_i s;unfold qe;split
    .exact .fail _ w _ k R
    .exact .Dd _ w _ k R
structure RZ(P:V->e_):Prop where
 ok:∀q:V,1<=q->q<=16->P q=d'\/ (gp (P q)=N/\ (P q).1=(q:I))
def lT.sN{p P n}(h:lT p P n):RZ P:=⟨h.inv.on.sN⟩
def RZ.vq{P}(h:RZ P){q}(Q:1<=q)(a:q<=16)(z:(P q).1≠0):gp (P q)=N/\ (P q).1=(q):=by
 rcases h.ok q Q a with e|e
 .rw[e]at z;exact dQ Z z
 .exact e
def sR(P:V->e_)(o:gH):(V->e_)×lQ:=if lR o=N then(P,(1,d')) else jc P o
def ac9(P o):(sR P o).2.1≠8:=by
 rw[sR];split
 .simp_all
 rw[jc];grind
def atU{P x}:x∈yw P 16↔∃q,1<=q/\q<=16/\ (P q).1≠0/\x=P q:=by
 rw[yw,J_];simp[E_,GC];constructor
 .grind
 .rintro⟨q,Q,h,z,rfl⟩;exact⟨q-1,by omega,by simp_all⟩
def atV(P):(yw P 16).length<=16:=KV _ _
def rR{ws:J fH}{k j w v}(h:(ws.set k w)[j]?=U v):(j=k/\v=w) \/ (j≠k/\ws[j]?=U v):=g3
def mP(l:J sH)(k:V):J gH:=(l.filter λe=>e.fi==k).map (·.op)
def atW(l e k):mP (l++[e]) k=mP l k++(if e.fi=k then [e.op] else []):=by rw[mP,wh,jt,<-mP];grind
structure w0(m:ey):Prop where
 fi:∀e∈m.du,e.fi<m.ws.length
 ops:∀(k:V) (w:fH),m.ws[k]?=U w->mP m.du k=w.todo.take w.ended
 ju:∀(k:V) (w:fH),m.ws[k]?=U w->w.st≠0->w.ended<w.todo.length
def w0.upd{m}(g:w0 m){k w w' p' d l s' c}(i:m.ws[k]?=U w)(o:w'.todo=w.todo)(b:w'.ended=w.ended)(n:w.ended<w.todo.length):w0 ⟨m.ws.set k w',p',d,l,s',c,m.du⟩:=by
 refine⟨λe f=>by rw[h'];exact g.fi e f,λj v a=>?_,λj v a s=>?_⟩
 .rcases rR a with⟨rfl,rfl⟩|⟨_,h⟩
  .rw[o,b];exact g.ops _ w i
  .exact g.ops j v h
 .rcases rR a with⟨rfl,rfl⟩|⟨_,h⟩
  .simp_all
  .exact g.ju j v h s
def w0.hc{m kV}(g:w0 m)(t:ov m kV):w0 kV:=by
 cases t with
 |same hi ko s' mX dg=>exact⟨g.fi,g.ops,g.ju⟩
 |gD a=>exact⟨g.fi,g.ops,g.ju⟩
 |Dc k w hi c6 c7 he=>exact g.upd c6 Z Z he
 |wZ k w a p s hi ko s' c6 Q dz c5 dW=>exact g.upd c6 Z Z (g.ju k w c6 R)
 |Dd k w s' c6 c7=>exact g.upd c6 Z Z (g.ju k w c6 R)
 |fail k w s' c6 c7=>exact g.upd c6 Z Z (g.ju k w c6 R)
 |refuse k w c6 c7 dI=>exact g.upd c6 Z Z (g.ju k w c6 R)
 |work k w c6 c7 dI=>exact g.upd c6 Z Z (g.ju k w c6 R)
 |leave k w hi ko c6 c7=>
  have d:=(fM.1 c6).1;have hb:=g.ju k w c6 R;refine⟨λe he=>?_,λj v dL=>?_,λj v dL b=>?_⟩
  .rw[h'];rcases h3.1 he with he|he
   .exact g.fi e he
   simp_all
  .rw[atW];rcases rR dL with⟨rfl,rfl⟩|⟨c,h⟩
   .rw[if_pos Z,g.ops _ w c6];show _++[w.op]=w.todo.take (w.ended+1);rw[lX hb,fH.op,fe hb];rfl
   .rw[cT (λe=>c e.symm),p0];exact g.ops j v h
  .rcases rR dL with⟨rfl,rfl⟩|⟨_,h⟩
   .exact dQ Z b
   .exact g.ju j v h b
structure AB(m:ey):Prop where
 eT:0<=m.d5
 iJ:m.ws.length<=4
 du:∀e∈m.du,e.fi<4/\0<=e.jW/\e.jW<e.done/\e.done<e.ended/\e.ended<m.d5
 up:m.du.Pairwise λa b=>a.ended<b.ended
 seq:m.du.Pairwise λa b=>a.fi=b.fi->a.ended<b.jW
 w1:∀(k:V) (w:fH),m.ws[k]?=U w->w.st≠0->0<=w.jW/\w.jW<m.d5/\ ∀e∈m.du,e.fi=k->e.ended<w.jW
 w2:∀(k:V) (w:fH),m.ws[k]?=U w->2<=w.st->w.jW+1<m.d5
 uZ:∀(k:V) (w:fH),m.ws[k]?=U w->w.st=6->w.jW<w.done/\w.done<m.d5
def AB.upd{m}(g:AB m){k w' p' b l s' c}(i:m.d5<=c)
  (Q:w'.st≠0->0<=w'.jW/\w'.jW<c/\ ∀e∈m.du,e.fi=k->e.ended<w'.jW)(d:2<=w'.st->w'.jW+1<c)(dW:w'.st=6->w'.jW<w'.done/\w'.done<c):AB ⟨m.ws.set k w',p',b,l,s',c,m.du⟩:=by
 refine⟨by have:=g.eT;grind,by rw[h'];exact g.iJ,λe f=>?_,g.up,g.seq,λj v a s=>?_,λj v a s=>?_,λj v a s=>?_⟩
 .have:=g.du e f;grind
 .rcases rR a with⟨rfl,rfl⟩|⟨_,h⟩
  .exact Q s
  .have:=g.w1 j v h s;grind
 .rcases rR a with⟨rfl,rfl⟩|⟨_,h⟩
  .exact d s
  .have:=g.w2 j v h s;grind
 .rcases rR a with⟨rfl,rfl⟩|⟨_,h⟩
  .exact dW s
  .have:=g.uZ j v h s;grind
def AB.hc{m kV}(g:AB m)(t:ov m kV):AB kV:=by
 have eT:=g.eT
 cases t with
 |same hi ko s' mX dg=>
  refine⟨by grind,g.iJ,λe he=>?_,g.up,g.seq,λj v dL c7=>?_,λj v dL c7=>?_,λj v dL c7=>?_⟩
  .have:=g.du e he;grind
  .have:=g.w1 j v dL c7;grind
  .have:=g.w2 j v dL c7;grind
  .have:=g.uZ j v dL c7;grind
 |gD a=>exact⟨g.eT,g.iJ,g.du,g.up,g.seq,g.w1,g.w2,g.uZ⟩|Dc k w hi c6 c7 he=>refine g.upd R (λ_=>⟨eT,by grind,λe he _=>(g.du e he).2.2.2.2⟩) (λq=>dQ (show 2<=1 from q) c1) (λq=>dQ (show 1=6 from q) c1)|wZ k w a p s hi ko s' c6 Q dz c5 dW=>have c:=g.w1 k w c6 R;refine g.upd R (λ_=>⟨c.1,by grind,c.2.2⟩) (λ_=>by simp_all) (λq=>dQ (show s=6 from q) R)|Dd k w s' c6 c7=>have c:=g.w1 k w c6 R;have fb:=g.w2 k w c6 R;exact g.upd R (λ_=>c) (λ_=>fb) (λq=>dQ (show 5=6 from q) c1)|fail k w s' c6 c7=>have c:=g.w1 k w c6 R;have fb:=g.w2 k w c6 R;exact g.upd R (λ_=>c) (λ_=>fb) (λ_=>⟨by show w.jW<m.d5-1;omega,by show m.d5-1<m.d5;omega⟩)|refuse k w c6 c7 dI=>have c:=g.w1 k w c6 R;exact g.upd R (λ_=>⟨c.1,by show w.jW<m.d5+1;omega,c.2.2⟩) (λ_=>by show w.jW+1<m.d5+1;omega) (λ_=>⟨c.2.1,by show m.d5<m.d5+1;omega⟩)|work k w c6 c7 dI=>have c:=g.w1 k w c6 R;exact g.upd R (λ_=>⟨c.1,by show w.jW<m.d5+1;omega,c.2.2⟩) (λ_=>by show w.jW+1<m.d5+1;omega) (λ_=>⟨c.2.1,by show m.d5<m.d5+1;omega⟩)
 |leave k w hi ko c6 c7=>
  have i:=(fM.1 c6).1;have iJ:=g.iJ;have c:=g.w1 k w c6 R;have l:=g.uZ k w c6 c7;refine⟨by grind,by simp_all,λe he=>?_,?_,?_,λj v dL d=>?_,λj v dL d=>?_,λj v dL d=>?_⟩
  .rcases h3.1 he with he|he
   .have:=g.du e he;grind
   grind
  .refine Cz.2 ⟨g.up,by simp,λa dq b hb=>?_⟩;rw[lE.1 hb];exact(g.du a dq).2.2.2.2
  .refine Cz.2 ⟨g.seq,by simp,λa dq b hb hw=>?_⟩;simp_all
  .rcases rR dL with⟨rfl,rfl⟩|⟨f,h⟩
   .exact dQ Z d
   .have:=g.w1 j v h d;grind
  .rcases rR dL with⟨rfl,rfl⟩|⟨f,h⟩
   .exact dQ (show 2<=0 from d) c1
   .have:=g.w2 j v h d;grind
  .rcases rR dL with⟨rfl,rfl⟩|⟨f,h⟩
   .exact dQ (show 0=6 from d) c1
   .have:=g.uZ j v h d;grind
structure je where
 op:gH
 res:lQ
 done:I
def t6(e:sH):je:=⟨e.op,e.res,e.done⟩
def t7(w:fH):dB je:=if w.st=6 then U ⟨w.op,w.res,w.done⟩ else cM
def nN(ws:J fH):J je:=ws.filterMap t7
def yx(m:ey):J je:=m.du.map t6++nN m.ws
def GD(r:je):dh:=gV (r.res.1≠8)
def De:(V->e_)->J je->(V->e_)->Prop
 |P,[],P'=>P'=P
 |P,r::G,P'=>(sR P r.op).2=r.res/\De (sR P r.op).1 G P'
def De.snoc{o r d}:∀ {G P P'},De P G P'->(sR P' o).2=r->De P (G++[⟨o,r,d⟩]) (sR P' o).1
 | [],P,P',h,a=>by
  cases (show P'=P from h)
  exact⟨a,Z⟩
 |x::G,P,P',h,a=>⟨h.1,De.snoc (G:=G) h.2 a⟩
def atX{ws k}{w:fH}(h:ws[k]?=U w):∃A B,ws=A++w::B/\ ∀w',ws.set k w'=A++w'::B:=by
 have cK:=(fM.1 h).1;have j:=(fM.1 h).2;refine⟨ws.take k,ws.drop (k+1),?_,λw'=>?_⟩
 .rw[<-j,<-rk cK,E9]
 .rw[List.set_eq_take_append_cons_drop,if_pos cK]
def R0{ws k w}(h:ws[k]?=U w):∃A B,nN ws=A++((t7 w).toList++B) /\ ∀w',nN (ws.set k w')=A++((t7 w').toList++B):=by
 have⟨A,B,b,a⟩:=atX h
 have y:∀v:fH,nN (A++v::B)=nN A++((t7 v).toList++nN B):=λv=>by
  rw[nN,List.filterMap_append,List.filterMap_cons]
  cases e:t7 v<;>rfl
 grind
def R1{ws k w w'}(h:ws[k]?=U w)(Q:w.st≠6)(a:w'.st≠6):nN (ws.set k w')=nN ws:=by have⟨A,B,b,e⟩:=R0 h;rw[b,e,t7,t7,cT Q,cT a]
def R2{ws k w w'}(h:ws[k]?=U w)(Q:w.st≠6)(a:w'.st=6):(nN (ws.set k w')).Perm (nN ws++[⟨w'.op,w'.res,w'.done⟩]):=by have⟨A,B,b,e⟩:=R0 h;rw[b,e,t7,t7,cT Q,if_pos a];exact List.perm_middle.trans (List.perm_append_singleton _ _).symm
def atY{ws k w w'}(h:ws[k]?=U w)(Q:w.st=6)(a:w'.st≠6):(nN ws).Perm (⟨w.op,w.res,w.done⟩::nN (ws.set k w')):=by have⟨A,B,b,e⟩:=R0 h;rw[b,e,t7,t7,if_pos Q,cT a];simp_all
structure q4(Df:V->e_)(n:V)(m:ey):Prop where
 fh:1<=n
 ex:∃(G:J je) (P:V->e_),De Df G P/\lT m.p P n/\G.Pairwise (λa b=>a.done<b.done) /\ (∀r∈G,r.done<m.d5) /\ ((yx m).filter GD).Perm G
 bad:∀r∈yx m,r.res.1=8->r.res=(8,d')
def q4.h2{b n m a}(g:q4 b n m)(O:a.p=m.p)(j:m.d5<=a.d5)(h:(yx a).Perm (yx m)):q4 b n a:=by have⟨G,P,dG,f,d,i,e⟩:=g.ex;refine⟨g.fh,⟨G,P,dG,by simp_all,d,λr c=>by grind,(h.filter _).trans e⟩,λr c=>g.bad r (h.mem_iff.1 c)⟩
def q4.same{P n m a}(g:q4 P n m)(O:a.p=m.p)(c:m.d5<=a.d5)(h:yx a=yx m):q4 P n a:=g.h2 O c (by rw[h])
def q4.add{b n m a}(g:q4 b n m){o r}(hw:∀P,lT m.p P n->r=(sR P o).2/\lT a.p (sR P o).1 n)(l:m.d5<a.d5)(c:(yx a).Perm (yx m++[⟨o,r,m.d5⟩])):q4 b n a:=by
 have⟨G,P,dG,d,j,k,f⟩:=g.ex;have⟨Q,i⟩:=hw P d
 have e:r.1≠8:=by rw[Q];exact ac9 P o
 refine⟨g.fh,⟨G++[⟨o,r,m.d5⟩],(sR P o).1,dG.snoc Q.symm,i,?_,λx h=>?_,?_⟩,λx h q=>?_⟩
 .grind
 .grind
 .apply (c.filter _).trans;rw[wh];apply f.append
  have:GD ⟨o,r,m.d5⟩=N:=by simp[GD,e]
  simp_all
 .rcases h3.1 (c.mem_iff.1 h) with h|h
  .exact g.bad x h q
  simp_all
def pI.gD{dc p P n}(h:pI dc p P n)(a b):pI dc (iS (oj p 1) (8,a,b)).1 P n:=by
 have c:pI dc (oj p 1) P n:=by
  refine⟨?_,?_⟩
  .have cK:=h.inv;have o:=cK.ei.l6;have k:=cK.ei.fh
   have mk:∀t:I,p.now<=t->t<=2147483647->ft ⟨p.f,p.d,t⟩ P (λ_=>0) dc 0:=λt r m=>⟨⟨cK.ei.fm,cK.ei.rest,cK.ei.fz,cK.ei.sM,by grind,m,λx i=>by have:=cK.ei.dK x i;grind⟩,cK.pins,cK.at_,cK.on,cK.tY⟩
   rw[oj];grind
  .rw[oj];repeat' split
   all_goals exact h.len
 have d:=(arJ c.inv a).1;have⟨q,l,e,j,k,s,_⟩:=d.eq
 have f:iS (oj p 1) (8,a,b)=wN (oj p 1) a:=by rw[iS,cT (show ¬((8:I)<1\/ (8:I)<8) by decide),cT (show ¬((8:I)≠8/\_) from λg=>g.1 Z)];rfl
 rw[f,e];exact⟨j,s.trans c.len⟩
def q4.hc{Df n m kV}(g:q4 Df n m)(t:ov m kV):q4 Df n kV:=by
 cases t with
 |same hi ko s' mX dg=>exact g.same Z g3 Z
 |gD a=>have⟨G,P,dG,b,c,d,e⟩:=g.ex;exact⟨g.fh,⟨G,P,dG,b.gD a _,c,d,e⟩,g.bad⟩
 |Dc k w hi c6 c7 he=>exact g.same Z g3 (eR (m.du.map t6++·) (R1 c6 R (show 1≠6 by decide)))
 |wZ k w a p s hi ko s' c6 Q dz c5 dW=>exact g.same Z g3 (eR (m.du.map t6++·) (R1 c6 R (show s≠6 by omega)))
 |Dd k w s' c6 c7=>exact g.same Z (kZ _) (eR (m.du.map t6++·) (R1 c6 R (show 5≠6 by decide)))
 |fail k w s' c6 c7=>
  have⟨G,P,dG,b,c,d,e⟩:=g.ex;have dq:=R3 (m.du.map t6) (R2 (w':=me w (8,d') (m.d5-1)) c6 R Z);rw[<-jC]at dq;refine⟨g.fh,⟨G,P,dG,b,c,d,(dq.filter _).trans ?_⟩,λr dI h=>?_⟩
  .rw[wh];have:List.filter GD [(⟨w.op,(8,d'),m.d5-1⟩:je)]=[]:=Z;rwa[show([⟨(me w (8,d') (m.d5-1)).op,(me w (8,d') (m.d5-1)).res,(me w (8,d') (m.d5-1)).done⟩]:J je)=[⟨w.op,(8,d'),m.d5-1⟩] from Z,this,p0]
  .rcases h3.1 (dq.mem_iff.1 dI) with dI|dI
   .exact g.bad r dI h
   .rw[lE.1 dI];rfl
 |refuse k w c6 c7 dI=>have dq:=R3 (m.du.map t6) (R2 (w':=me w (1,d') m.d5) c6 R Z);rw[<-jC]at dq;refine g.add (o:=w.op) (r:=(1,d')) (λP f=>?_) g3 dq;rw[sR,if_pos dI];simp_all
 |work k w c6 c7 dI=>have dq:=R3 (m.du.map t6) (R2 (w':=me w (gI m.p w.op).2 m.d5) c6 R Z);rw[<-jC]at dq;refine g.add (o:=w.op) (r:=(gI m.p w.op).2) (λP f=>?_) g3 dq;rw[sR,cT eG];exact Db f g.fh w.op dI
 |leave k w hi ko c6 c7=>refine g.h2 Z g3 ?_;have O:=atY (w':=CU w) c6 c7 (show 0≠6 by decide);show((m.du++[_]).map t6++nN (m.ws.set k (CU w))).Perm (m.du.map t6++nN m.ws);rw[jt,jC];exact R3 _ O.symm
structure q5(Df:V->e_)(n:V)(work:J (J gH))(m:ey):Prop where
 g:hr work m
 dE:w0 m
 R4:AB m
 tr:q4 Df n m
def q5.step{P n work m}(h:q5 P n work m)(k):q5 P n work (gz m k).1:=
 have t:=RX h.g.ok k
 ⟨h.g.step k,h.dE.hc t,h.R4.hc t,h.tr.hc t⟩
def atZ(a b k):mP (a++b) k=mP a k++mP b k:=by rw[mP,wh,jt];rfl
def GE(m:ey)(k:V):I:=match m.ws[k]? with|some w=>(w.st:I)|none=>0
def R5(m c k w now n):(stepW {m with d5:=c} k w n).2=(stepW m k w now).2:=by
 unfold stepW;repeat' split
 all_goals first|rfl|(exfalso;simp[jY]at*;simp_all;done)
def ada(m c k):(gz {m with d5:=c} k).2=(gz m k).2:=by
 rw[gz,gz];split
 .rfl
 .cases h:m.ws[k.toNat]? with|none=>rfl|some w=>exact(R5 m (c+1) _ w 0 c).trans (R5 m (m.d5+1) _ w 0 m.d5).symm
def at0(m k w now):(stepW m k w now).2=L->(stepW m k w now).1=m:=by
 unfold stepW;repeat' split
 all_goals simp_all
def adb{m k}(h:(gz m k).2=L):∃c,(gz m k).1={m with d5:=c} /\m.d5<=c/\c<=m.d5+1:=by
 rw[gz]at h⊢;split
 .grind
 .rename_i a;rw[cT a]at h
  cases e:m.ws[k.toNat]? with|none=>grind|some w=>rw[e]at h;exact⟨m.d5+1,at0 _ _ _ _ h,R,R⟩
def rS(m:ey)(k:V):Prop:=(gz m k).2=N\/GE m k=4
def Dg{m}{k:V}{w}(a:m.ws[k]?=U w):(gz m k).2=(stepW m k w 0).2:=by rw[gz,cT R,gl,a];exact R5 m _ _ w 0 _
def K9{m k w}(h:m.ws[k]?=U w):GE m k=w.st:=by rw[GE,h]
def ade{m}(o:hk m)(z:∀k,¬rS m k){k:V}{w}(j:m.ws[k]?=U w):w.st<3:=by
 have v:=o.w k w j;have dW:=v.CP;have q:=z k;rw[rS,Dg j,K9 j]at q;refine lv λcY=>q ?_;have t:w.st=3\/w.st=4\/w.st=5\/w.st=6:=R;rcases t with d|d|d|d
 .left;simp[stepW,d];split
  .rename_i A
   have i:0<hU m.h.ds:=by have:=o.kp.fh;omega
   have⟨c,u,y⟩:=B2.1 i;have x:c.1∈m.h.all:=h3.2 (.inl (rJ (f:=(·.1)) u));have l:=o.hw _ x;have⟨a,b⟩:∃a,m.ws[c.1]?=U a:=⟨_,fe l⟩;have n:=o.w _ a b
   have O:a.pinned=N:=by rw[<-n.held];exact F9.2 g3
   have p:¬a.st<4:=λg=>by rw[n.yK g]at O;cases O
   have r:=n.CP;have e:=z c.1;rw[rS,Dg b,K9 b]at e;refine dQ ?_ e;have t:a.st=4\/a.st=5\/a.st=6:=R;rcases t with s|s|s
   .right;omega
   .left;simp[stepW,s]
   .left;simp[stepW,s]
  grind
 .right;omega
 .left;simp[stepW,d]
 .left;simp[stepW,d]
def adf{m}(o:hk m)(z:∀k,¬rS m k){k:V}{w}(n:m.ws[k]?=U w):w.st<2:=by
 have C:=ade o z n;refine lv λcY=>?_;have x:=R;have v:=o.w k w n;have i:=v.ask R R;have⟨_,A,B⟩:=CT (v.val i)
 have cK:w.op.2.1.toNat<m.ek.length:=by rw[o.sJ];omega
 have⟨l,f⟩:∃l,m.ek[w.op.2.1.toNat]?=U l:=⟨_,fe cK⟩;have s:=(v.lt _ l f).2 ⟨i,R⟩;have cL:=o.li _ l f
 have y:∀j,j∈l.c7->dA:=λj d=>by
  have t:=cL.lt j (h3.2 (.inl d));have⟨b,a⟩:∃b,m.ws[j]?=U b:=⟨_,fe t⟩;have r:=o.w _ b a;have⟨q,u⟩:=(r.lt _ l f).1 (h3.2 (.inl d));have D:=ade o z a
  have E:¬b.st<2:=λg=>by rw[r.CQ g]at q;cases q
  have p:b.st=2:=R;have c:=z j;rw[rS,Dg a]at c;refine c (.inl ?_)
  have e:jY m b.op.2.1=l:=by rw[jY,u,gl,f];rfl
  simp[stepW,p];rw[e,vi,List.contains_iff_mem.2 d];rfl
 rcases h3.1 s with h|h
 .grind
 .rcases cL.shut with e|⟨e,_⟩
  .simp_all
  .have⟨j,d⟩:=List.exists_mem_of_ne_nil _ e;simp_all
def at1{m}(o:hk m)(z:∀k,¬rS m k){k:V}{w}(i:m.ws[k]?=U w):w.st=0:=by
 have t:=adf o z i;refine lv λcY=>?_;have u:=R;have v:=o.w k w i;have r:=v.mF.2 cY
 have y:∀j,jV m.h j=N->dA:=λj q=>by
  have b:j∈m.h.all:=h3.2 (.inl (Ai.1 q));have l:=o.hw j b;have⟨d,a⟩:∃d,m.ws[j]?=U d:=⟨_,fe l⟩;have s:=o.w _ d a;have A:=s.mF.1 b;have B:=adf o z a;have p:d.st=1:=R;have g:=z j;rw[rS,Dg a]at g;refine g (.inl ?_);simp[stepW,p];grind
 rcases h3.1 r with h|h
 .exact y k (Ai.2 h)
 .rcases o.kp.shut with e|e
  .simp_all
  .have x:=o.kp.fh;have:0<m.h.ds.length:=R;have⟨c,n⟩:=at2 this;exact y c.1 (Ai.2 (rJ (f:=(·.1)) n))
def at3{m}(o:hk m)(z:∀k,¬rS m k){k:V}{w}(h:m.ws[k]?=U w):w.ended=w.todo.length:=by have Q:=at1 o z h;have v:=o.w k w h;refine lv λcY=>?_;have g:=z k;rw[rS,Dg h]at g;refine g (.inl ?_);simp[stepW,Q];rw[cT (by have:=v.ke;omega)]
def at4{m}(o:hk m){k w}(a:m.ws[k]?=U w)(h:rS m k):w.ended<w.todo.length:=by
 have v:=o.w k w a;rw[rS,Dg a,K9 a]at h
 by_cases s:w.st=0
 .rcases h with h|h
  .simp[stepW,s]at h;grind
  .omega
 .exact v.ju s
def goes{m}(o:hk m):(∃k,k<m.ws.length/\rS m k)↔∃k,k<m.ws.length/\0<hA m k:=by
 constructor
 .rintro⟨k,b,h⟩;refine⟨k,b,?_⟩;have:=at4 o (fe b) h;rw[hA,fe b];simp_all
 .rintro⟨k,b,h⟩;refine lv λcY=>?_
  have z:=λj a=>by
   by_cases e:j<m.ws.length
   .exact cY ⟨j,e,a⟩
   .rw[rS,gz,cT R,gl,Cc R,GE,Cc R]at a;rcases a with a|a
    .cases a
    .exact dQ a c1
  have:=at3 o z (fe b);rw[hA,fe b]at h;simp_all
def at5{m k w}(h:m.ws[k]?=U w):hA m k=(w.todo.length:I)-w.ended:=by rw[hA,h]
def kO(s:gn)(k:V):V:=match s.out.find? (λf=>f.fi==k) with|some f=>f.hc|none=>1
def ph(s:gn)(k:V)(w:fH):V:=if w.st=4 then 3+kO s k else if w.st=5 then 7 else if w.st=6 then 8 else w.st
def j0(m:ey)(k:V):V:=match m.ws[k]? with|none=>0|some w=>9*(w.todo.length-w.ended)-ph m.s k w
def j_(m:ey):V:=j0 m 0+j0 m 1+j0 m 2+j0 m 3
def adg{m k w}(h:m.ws[k]?=U w):j0 m k=9*(w.todo.length-w.ended)-ph m.s k w:=by rw[j0,h]
def at6{m k}(h:m.ws.length<=k):j0 m k=0:=by rw[j0,Cc h]
structure ow(m kV:ey)(d:dh):Prop where
 le:∀k,j0 kV k<=j0 m k
 lt:d=N->∃k,k<4/\j0 kV k<j0 m k
def ow.j_ {m kV:ey} {d:dh} (h:ow m kV d):j_ kV<=j_ m/\ (d=N->j_ kV<j_ m):=by
 have cW:=h.le 0;have Q:=h.le 1;have c5:=h.le 2;have a:=h.le 3;refine ⟨by unfold Go.Lk.j_;omega,fun cP=>?_⟩;obtain ⟨k,c6,dw⟩:=h.lt cP
 have:k=0\/k=1\/k=2\/k=3:=by omega
 unfold Go.Lk.j_
 rcases this with rfl|rfl|rfl|rfl<;>omega
def ow.same{m a}(h:∀k,j0 a k=j0 m k):ow m a L:=⟨λk=>by simp_all,λq=>yP⟩
def ow.trans{a b c d e}(Q:ow a b d)(f:ow b c e):ow a c (d||e):=by
 refine⟨λk=>fJ (f.le k) (Q.le k),λh=>?_⟩;rcases Bool.or_eq_true_iff.1 h with h|h
 .have⟨k,g,l⟩:=Q.lt h;exact⟨k,g,Nat.lt_of_le_of_lt (f.le k) l⟩
 .have⟨k,g,l⟩:=f.lt h;exact⟨k,g,ro l (Q.le k)⟩
def adh{h ek s k w}(v:CO h ek s k w)(a:lj s):ph s k w<=8/\ (w.st=4->4<=ph s k w/\ph s k w<=6):=by
 have dW:=v.CP
 have t:1<=kO s k/\kO s k<=3:=by
  rw[kO]
  cases e:s.out.find? (λf=>f.fi==k) with|none=>simp_all|some f=>have:=a.lt f (at7 e);simp_all
 rw[ph];grind
def vv{m a k w w'}(c:m.ws[k]?=U w)(g:a.ws=m.ws.set k w')(f:∀j,j≠k->kO a.s j=kO m.s j)(n:k<4)(l:9*(w'.todo.length-w'.ended)-ph a.s k w'<9*(w.todo.length-w.ended)-ph m.s k w):ow m a N:=by
 have i:=(fM.1 c).1
 have b:a.ws[k]?=U w':=eG
 have s:j0 a k<j0 m k:=by rwa[adg b,adg c]
 refine⟨λj=>?_,λ_=>⟨k,n,s⟩⟩
 by_cases e:j=k
 .grind
 .have d:a.ws[j]?=m.ws[j]?:=g3
  rw[j0,j0,d]
  cases h:m.ws[j]? with|none=>simp_all|some v=>simp only[ph,f j e];omega
def aua{s k}(h:∀p,¬jF s k p):kO s k=1:=by
 rw[kO]
 cases e:s.out.find? (λf=>f.fi==k) with
 |none=>rfl
 |some f=>
  have Q:f.fi=k:=by have:=List.find?_some e;simpa using this
  exact dQ (.inr ⟨f,at7 e,Q,Z⟩) (h f.dE)
def aub{m}(o:hk m)(k):ow m (gz m k).1 (gz m k).2:=by
 cases cP:(gz m k).2 with
 |false=>have⟨c,e,_⟩:=adb cP;rw[e];exact ow.same λj=>Z
 |true=>
  rw[gz]at cP⊢;split at cP
  .cases cP
  rename_i g;rw[cT g]
  cases d:m.ws[k.toNat]? with
  |none=>simp_all
  |some w=>
   rw[d]at cP;have l:=(fM.1 d).1
   have h:k.toNat<4:=by have:=o.iJ;omega
   have v:=o.w _ w d;have O:=adh v o.hf;have b:=v.ju;simp only[]at cP⊢;unfold stepW at cP⊢;split
   .rename_i a;split
    .rename_i cY;rw[a]at cP;simp only[if_pos cY]at cP
     cases cP
    .rename_i cY;refine vv d Z (λ_ _=>Z) h ?_;simp only[ph,a];simp;omega
   .rename_i a;have f:=b R;split
    .rename_i cY;rw[a]at cP;simp only[if_pos cY]at cP
     cases cP
    split
    .refine vv d Z (λ_ _=>Z) h ?_;simp only[ph,a,me];simp;omega
    .refine vv d Z (λ_ _=>Z) h ?_;simp only[ph,a];simp;omega
   .rename_i a;have f:=b R;split
    .rename_i cY;rw[a]at cP;simp only[if_pos cY]at cP
     cases cP
    .refine vv d Z (λ_ _=>Z) h ?_;simp only[ph,a];simp;omega
   .rename_i a;have f:=b R;split
    .rename_i cY;rw[a]at cP;simp only[if_pos cY]at cP
     cases cP
    split
    .refine vv d Z (λ_ _=>Z) h ?_
     have t:kO (tT m.s k.toNat w.op.2.1) k.toNat=1:=aua (s:=m.s) (k:=k.toNat) λp i=>by have:=(v.pD p).1 i;omega
     simp[ph,a];simp only[t];simp;omega
    .refine vv d Z (λ_ _=>Z) h ?_;simp only[ph,a];simp;omega
   .rename_i a;have f:=b R;refine vv d Z (λ_ _=>Z) h ?_;simp only[ph,a,me];simp;omega
   .rename_i a;have f:=b R;refine vv d Z (λ_ _=>Z) h ?_;simp only[ph,a];simp;omega
   .rename_i n q r u x y;exfalso;revert cP;split
    all_goals simp_all
def auc{s k f}(Q:f.hc=1)(s')(h:s'.out=s.out++[f]):kO s' k=kO s k:=by rw[kO,kO,h,GF];grind
def adi:∀n s k,kO (nF n s) k=kO s k
 |0,s,k=>rfl
 |n+1,s,k=>by
  rw[nF];split
  .split
   .rfl
   .rename_i j h;rw[adi n];exact auc Z _ Z
  .rfl
def aud(m):ow m (mf m) L:=ow.same λk=>by
 rw[j0,j0];show(match m.ws[k]? with|none=>0|some w=>9*(w.todo.length-w.ended)-ph (sG m.s) k w)=_
 cases m.ws[k]? with|none=>rfl|some w=>simp[ph,show kO (sG m.s) k=kO m.s k from adi 5 m.s k]
def adj{s i j A B}(c:oV s i j A B){k}(h:k≠j.fi){s' C}(o:s'.out=(A++B)++C)(a:∀f∈C,f.fi=j.fi):kO s' k=kO s k:=by
 have e:(j.fi==k)=L:=by simpa using λq=>h q.symm
 have d:C.find? (λf=>f.fi==k)=cM:=by rw[adk];intro f b;rw[a f b];simpa using λq=>h q.symm
 rw[kO,kO,o,c.o,GF,d,GF,GF,adl,e,Option.or_none]
def aue{s}(h:lj s){i j A B}(c:oV s i j A B):kO s j.fi=j.hc:=by
 have b:A.find? (λf=>f.fi==j.fi)=cM:=by rw[adk];intro f a;have:=c.w f (h3.2 (.inl a));simpa using this
 rw[kO,c.o,GF,b,adl];simp
def auf{s i j g A B}(c:oV s i j A B){s'}(o:s'.out=(A++B)++[g])(a:g.fi=j.fi):kO s' j.fi=g.hc:=by
 have b:(A++B).find? (λf=>f.fi==j.fi)=cM:=by rw[adk];intro f h;have:=c.w f h;simpa using this
 rw[kO,o,GF,b,adl];simp[a]
def aug{m}(o:hk m)(i b):ow m (hP m i b).1 (hP m i b).2:=by
 rw[hP];split
 .exact ow.same λj=>Z
 .rename_i cK;have⟨j,x⟩:∃j,m.s.out[i.toNat]?=U j:=⟨_,fe R⟩;have⟨A,B,c⟩:=aas o.hf x;have DC:=(c.mem j).2 (.inl Z);have r:jF m.s j.fi j.dE:=.inr ⟨j,DC,Z,Z⟩;have l:=SK;have⟨w,e⟩:∃w,m.ws[j.fi]?=U w:=⟨_,fe l⟩;have v:=o.w _ w e;have h:=((v.pD _).1 r).1;have H:=v.ju R;have z:=(o.hf.lt j DC).2.2.2;have y:=aue o.hf c
  have a:j.fi<4:=by have:=o.iJ;omega
  rw[Ah,x];simp only[];rw[c.e];split
  .rename_i s cP;split at cP
   .rename_i dr
    cases cP
    refine vv (w:=w) (w':=w) e ?_ (λq n=>adj c n Z λf u=>by simp_all) a ?_
    .have⟨E,F⟩:=fM.1 e;rw[<-F];exact(Qx E).symm
    .have t:kO {m.s with next:=m.s.next+1,out:=(A++B)++[⟨m.s.next,j.fi,j.dE,j.hc+1⟩]} j.fi=j.hc+1:=auf (g:=⟨m.s.next,j.fi,j.dE,j.hc+1⟩) c Z Z;simp only[ph,h,if_pos,y,t];omega
   .cases cP
  .rename_i s k bad cP;split at cP
   .cases cP
   .cases cP
    rw[e];simp only[];rw[cT (λq=>q h)]
    have hw:∀d:dh,(qe m w d).todo=w.todo/\ (qe m w d).ended=w.ended/\ ((qe m w d).st=5\/ (qe m w d).st=6):=λd=>by
     unfold qe;split
     .exact⟨Z,Z,.inr Z⟩
     simp_all
    apply vv (w:=w) (w':=qe m w _) e Z (λq n=>adj (C:=[]) c n eG (λf u=>by cases u)) a;rw[(hw _).1,(hw _).2.1]
    have p:ph m.s j.fi w=3+j.hc:=by rw[ph,if_pos h,y]
    rw[p]
    have G:∀s d,7<=ph s j.fi (qe m w d) /\ph s j.fi (qe m w d) <=8:=λs d=>by
     rw[ph];grind
    grind
def adm{work m}(h:hr work m):∀k,ow m (gd m k).1 (gd m k).2
 |0=>ow.same λ_=>Z|k+1=>(adm h k).trans (aub (h.gd k).ok k)
def auh{work m}(h:hr work m)(n b):ow m (kq m n b).1 (kq m n b).2:=by have Q:=adm h (min n 4);have a:=aud (gd m (min n 4)).1;have c:=aug ((h.gd (min n 4)).qY).ok 0 b;have:=(Q.trans a).trans c;rwa[Bool.or_false]at this
def K_{m}:∀ {k},(gd m k).2=L->(∃c,(gd m k).1={m with d5:=c}) /\ ∀j,j<k->(gz m j).2=L
 |0,_=>⟨⟨m.d5,Z⟩,λj d=>dQ d (ps _)⟩
 |k+1,h=>by
  have h:((gd m k).2||(gz (gd m k).1 k).2)=L:=h;rw[Bool.or_eq_false_iff]at h;have⟨⟨c,e⟩,d⟩:=K_ h.1;have a:=h.2;have⟨f,b,_⟩:=adb a;rw[e]at a b;refine⟨⟨f,?_⟩,λj g=>?_⟩
  .show(gz (gd m k).1 k).1=_;rw[e,b]
  .by_cases q:j=k
   .rwa[q,<-ada m c]
   grind
def aui(m n b):(kq m n b).2=((gd m (min n 4)).2||(hP (mf (gd m (min n 4)).1) 0 b).2):=rfl
def auj{work m}(h:hr work m){n}(cY:m.ws.length<=n)(b)(A:m.s.next+4<2147483647):(kq m n b).2=N↔∃k,k<m.ws.length/\0<hA m k:=by
 have o:=h.ok;have H:=o.iJ;rw[<-goes o,aui];constructor
 .intro cP
  cases s:(gd m (min n 4)).2 with
  |true=>
   refine lv λB=>?_
   have E:∀k,k<=min n 4->(gd m k).2=L:=λk=>by
    induction k with
    |zero=>exact λ_=>Z
    |succ k C=>
     intro x;have y:=C R;have⟨⟨c,e⟩,_⟩:=K_ y;show((gd m k).2||(gz (gd m k).1 k).2)=L;rw[y,e,Kf,ada]
     cases q:(gz m k).2 with
     |false=>rfl
     |true=>
      by_cases r:k<m.ws.length
      .exact dQ ⟨k,r,.inl q⟩ B
      .rw[gz,cT R,gl,Cc R]at q;cases q
   simp_all
  |false=>
   rw[s,Kf]at cP;have⟨⟨c,e⟩,_⟩:=K_ s;rw[e]at cP;rw[hP]at cP;split at cP
   .cases cP
   .rename_i cK;have O:=CN 5 o.hf
    have l:0<(sG m.s).out.length:=by have z:¬((0:I)<0\/((sG m.s).out.length:I)<=0):=cK;omega
    have⟨f,g⟩:=at2 l;have d:jF (sG m.s) f.fi f.dE:=.inr ⟨f,g,Z,Z⟩;have j:=(O.Kg _ _).1 d
    have a:f.fi<m.ws.length:=by have:=(O.hf.lt f g).2.1;rwa[O.len,o.rY]at this
    have:=((o.w _ _ (fe a)).pD _).1 j;exact⟨f.fi,a,.inr (by rw[K9 (fe a),this.1];rfl)⟩
 .rintro⟨k,x,i⟩
  cases s:(gd m (min n 4)).2 with
  |true=>rfl
  |false=>
   rw[Kf];have⟨⟨c,e⟩,F⟩:=K_ s;rcases i with i|i
   .grind
   .rw[e]
    have hw:∃w,m.ws[k]?=U w/\w.st=4:=by
     rw[GE]at i
     cases q:m.ws[k]? with
     |none=>simp_all
     |some w=>grind
    have⟨w,t,u⟩:=hw;have d:=((o.w k w t).pD _).2 ⟨u,Z⟩;have O:=CN 5 o.hf;have j:jF (sG m.s) k w.op.2.1:=(O.Kg _ _).2 d;have v:=aoV o.hf A k (by rwa[o.rY]);rcases j with G|⟨f,g,_⟩
    .simp_all
    .have l:=List.length_pos_of_mem g
     rw[hP,cT (by
      show ¬((0:I)<0\/((sG m.s).out.length:I)<=0)
      omega)]
     split
     .rfl
     grind
def adn{m}(o:hk m)(k):0<j0 m k↔0<hA m k:=by
 rw[j0,hA]
 cases h:m.ws[k]? with|none=>simp_all|some w=>have v:=o.w k w h;have O:=(adh v o.hf).1;grind
def ado{m}(o:hk m):0<j_ m↔∃k,k<m.ws.length/\0<hA m k:=by
 constructor
 .intro h;unfold j_ at h;have:0<j0 m 0\/0<j0 m 1\/0<j0 m 2\/0<j0 m 3:=R
  have e:∀k,0<j0 m k->∃k,k<m.ws.length/\0<hA m k:=λk a=>by
   refine⟨k,lv λcY=>?_,(adn o k).1 a⟩;rw[at6 R]at a;omega
  grind
 .rintro⟨k,a,h⟩;have Q:=(adn o k).2 h;have:=o.iJ;have:k=0\/k=1\/k=2\/k=3:=R;unfold j_;grind
def auk(m k):(gz m k).1.s.next=m.s.next:=by
 rw[gz];repeat' split
 .rfl
 .rfl
 .unfold stepW;repeat' split
  all_goals rfl
def adp(m):∀k,(gd m k).1.s.next=m.s.next
 |0=>rfl|k+1=>(auk _ _).trans (adp m k)
def aul{m}(o:hk m):(mf m).s.next<=m.s.next+4:=by have h:=CN 5 o.hf;have:=h.fk;have:=h.hf.iX;show(nF 5 m.s).next<=_;omega
def aum(m i b):(hP m i b).1.s.next<=m.s.next+1:=by
 have k:∀n,(Ah m.s n b).1.next<=m.s.next+1:=λn=>by
  rw[Ah];grind
 have h:=k i.toNat;rw[hP];grind
def aun{work m}(h:hr work m)(n b):(kq m n b).1.s.next<=m.s.next+5:=by have Q:=adp m (min n 4);have a:=aul (h.gd (min n 4)).ok;have c:=aum (mf (gd m (min n 4)).1) 0 b;show(hP (mf (gd m (min n 4)).1) 0 b).1.s.next<=_;omega
def adq{work m}(h:hr work m)(n f):∀i,(gF m n f i).s.next<=m.s.next+5*i
 |0=>by show m.s.next<=_;omega
 |i+1=>by
  have Q:=adq h n f i;have a:=aun (h.gF n f i) n (qh f i);show(kq (gF m n f i) n (qh f i)).1.s.next<=_;omega
def R6{work m}(h:hr work m):m.ws.length=work.length:=by have⟨t,_,_,g⟩:=h.ex;rw[<-g.oM,ef]
def adr{work m}(h:hr work m){n}(cY:work.length<=n)(f):∀i,m.s.next+5*i<=2147483600->j_ (gF m n f i) <=j_ m-i
 |0,_=>by show j_ m<=_;omega
 |i+1,b=>by
  have c:=adr h cY f i R;have M:=h.gF n f i;have x:=adq h n f i;have l:=R6 M;have a:=(auh M n (qh f i)).j_;have r:=auj M (n:=n) R (qh f i) R;rw[<-ado M.ok]at r;show j_ (kq (gF m n f i) n (qh f i)).1<=_;grind
def auo{work m}(h:hr work m){n}(cY:work.length<=n)(f){i}(cK:j_ m<=i)(c:m.s.next+5*i<=2147483600)(k):hA (gF m n f i) k=0:=by
 have Q:=adr h cY f i c;have M:=h.gF n f i;have b:¬0<j_ (gF m n f i):=R;rw[ado M.ok]at b
 by_cases a:k<(gF m n f i).ws.length
 .have d:¬0<hA (gF m n f i) k:=λq=>b ⟨k,a,q⟩;have:=(M.ok.w k _ (fe a)).ke;rw[at5 (fe a)]at d⊢;omega
 .exact acy R
def q5.qY{P n work m}(h:q5 P n work m):q5 P n work (mf m):=by have t:ov m (mf m):=.same m.h m.ek _ m.d5 (.inl Z);exact⟨h.g.qY,h.dE.hc t,h.R4.hc t,h.tr.hc t⟩
def q5.fin{P n work m}(h:q5 P n work m)(i b):q5 P n work (hP m i b).1:=by have t:=RY h.g.ok i b;exact⟨h.g.fin i b,h.dE.hc t,h.R4.hc t,h.tr.hc t⟩
structure pJ(m:ey):Prop where
 w:∀(k:V) (w:fH),m.ws[k]?=U w->w.st=6->w.res.1≠8
 e:∀e∈m.du,e.res.1≠8
def pJ.upd{m b}(h:pJ m){k w'}(w:b.ws=m.ws.set k w')(dW:w'.st=6->w'.res.1≠8)(a:∀e∈b.du,e.res.1≠8):pJ b:=
 ⟨λj v cU=>by
  rw[w]at cU;rcases rR cU with⟨_,rfl⟩|⟨_,cU⟩
  .exact dW
  .exact h.w j v cU,a⟩
def pJ.h2{m a}(h:pJ m)(b:a.ws=m.ws)(e:a.du=m.du):pJ a:=
 ⟨by rw[b];exact h.w,by rw[e];exact h.e⟩
def pJ.step{d n m}(o:hk m)(g:q4 d n m)(h:pJ m)(k):pJ (gz m k).1:=by
 rw[gz];split
 .exact h
 split
 .exact h
 .rename_i w c;have v:=o.w _ w c;have b:pJ {m with d5:=m.d5+1}:=h.h2 Z Z;unfold stepW;split
  .split
   .exact b
   .exact h.upd Z dt h.e
  .split
   .exact b
   split
   .exact h.upd Z (λ_=>(by decide:(1:I)≠8)) h.e
   .exact h.upd Z dt h.e
  .split
   .exact b
   .exact h.upd Z dt h.e
  .split
   .exact b
   split
   .exact h.upd Z dt h.e
   .exact h.upd Z dt h.e
  .rename_i s;have⟨G,P,_,e,_⟩:=g.ex;have r:=v.val (v.ask R R);have Q:=(Db e g.fh w.op r).1;have f:=ac9 P w.op;rw[sR,cT eG,<-Q]at f;exact h.upd Z (λ_=>f) h.e
  .rename_i s;refine h.upd Z dt λx a=>?_;rcases h3.1 a with a|a
   .exact h.e x a
   .rw[lE.1 a];exact h.w _ w c s
  .exact b
def pJ.fin{m}(h:pJ m)(i):pJ (hP m i L).1:=by
 rw[hP];split
 .exact h
 split
 .exact h.h2 Z Z
 .rename_i s k bad cP
  have b:bad=L:=by
   rw[Ah]at cP;split at cP
   .cases cP
   .simp_all
  subst b;split
  .exact h.h2 Z Z
  .rename_i w a;split
   .exact h.h2 Z Z
   .exact h.upd Z (by simp[qe]) h.e
def ads{work m}(h:hr work m)(f){i}(cK:j_ m<=i)(b:m.s.next+5*i<=2147483600):o2 (gF m work.length f i) work.length=L:=
 Rs.2 λk a=>by rw[auo h (fB _) f cK b k];decide
def vr.aup{work m}(h:hr work m){f gW dj}(r:vr m work.length f gW dj)(b:m.s.next+5*j_ m<=2147483600):dj<=j_ m:=by
 refine lv λcY=>?_;have:=r.all (j_ m) R;rw[ads h f (fB _) b]at this
 cases this
def vr.stops{work m}(h:hr work m){f gW dj}(r:vr m work.length f gW dj)(a:j_ m<=gW)(b:m.s.next+5*j_ m<=2147483600):o2 (gF m work.length f dj) work.length=L:=by
 rcases r.stop with e|e
 .have:=r.aup h b;rw[show dj=j_ m by omega];exact ads h f (fB _) b
 .exact e
def vr.uniq{m n f gW dj a}(r:vr m n f gW dj)(e:o2 (gF m n f dj) n=L)(Q:∀i,i<a->o2 (gF m n f i) n=N)(b:o2 (gF m n f a) n=L):dj=a:=by
 rcases Nat.lt_trichotomy dj a with h|h|h
 .simp_all
 .exact h
 .have:=r.all a h;simp_all
def K'{p n work}(k):j0 (mg p n work) k=9*((work[k]?).getD []).length:=by
 rw[j0];show(match (work.map pB)[k]? with|none=>0|some w=>9*(w.todo.length-w.ended)-ph (mg p n work).s k w)=_;rw[iO]
 cases h:work[k]? with|none=>rfl|some l=>rfl
def GG(work:J (J gH)):V:=(work.map pY).sum
def auq(p n work)(e:work.length<=4):j_ (mg p n work)=9*GG work:=by
 rw[j_,K',K',K',K',GG]
 match work,e with
 | [],_=>rfl| [a],_=>simp| [a,b],_=>simp;omega| [a,b,c],_=>simp;omega| [a,b,c,d],_=>simp;omega
def q5.Ew{P n p}(h:lT p P n)(z:p.now=0)(f:1<=n)(i:n<=8){work}(Q:1<=work.length)(j:work.length<=4):q5 P n work (mg p n work):=by
 have s:∀(k:V) (w:fH),(work.map pB)[k]?=U w->w.st=0/\w.ended=0:=λk w h=>by
  rw[iO]at h;obtain⟨l,_,rfl⟩:=vH.1 h;exact hg
 have hh:nN (work.map pB)=[]:=by rw[nN,List.filterMap_eq_nil_iff];intro w hw;obtain⟨l,_,rfl⟩:=h4.1 hw;rfl
 have g:hr work (mg p n work):=⟨0,kZ 0,c1,mi.new (n:=n) f i h.len (z▸h.nL) Q j⟩;refine⟨g,⟨λe d=>(by cases d),λk w a=>?_,λk w a b=>dQ (s k w a).1 b⟩,⟨kZ 0,by show(work.map pB).length<=4;simp_all,λe d=>(by cases d),.nil,.nil,λk w a b=>dQ (s k w a).1 b,λk w a b=>?_,λk w a b=>?_⟩,⟨f,⟨[],_,Z,h,.nil,λr c=>(by cases c),?_⟩,λr c=>?_⟩⟩
 .rw[(s k w a).2];rfl
 .have:=(s k w a).1;omega
 .have:=(s k w a).1;omega
 .show((([]:J sH).map t6++nN (work.map pB)).filter GD).Perm [];simp_all
 .have c:r∈([]:J sH).map t6++nN (work.map pB):=c;simp_all
def aur{work m}(h:hr work m)(l:o2 m work.length=L):∀k,hA m k=0:=λk=>by
 have n:=h.ok.iJ;have w:=R6 h
 by_cases a:k<work.length
 .have Q:=Rs.1 l k R;have hw:m.ws[k]?=U (m.ws[k]' R):=fe R;have e:=(h.ok.w k _ hw).ke;rw[hA,hw]at Q⊢;grind
 .exact acy R
def aus{work m}(h:hr work m)(l:∀k,hA m k=0):∀(k:V) (w),m.ws[k]?=U w->w.st=0/\w.ended=w.todo.length:=λk w hw=>by
 have v:=h.ok.w k w hw;have Q:=l k;rw[hA,hw]at Q;simp only[]at Q;refine⟨lv λs=>?_,R⟩;have:=v.ju s;omega
def adt:∀ {l},(∀e∈l,e.fi<4)->l.length=(mP l 0).length+(mP l 1).length+(mP l 2).length+(mP l 3).length
 | [],_=>rfl
 |e::l,h=>by
  have i:=adt (l:=l) λe a=>h e (.tail _ a);have a:=h e (.head _)
  have y:∀k,(mP (e::l) k).length=(if e.fi=k then 1 else 0)+(mP l k).length:=λk=>by
   have:=atZ [e] l k;rw[List.singleton_append]at this;rw[this,kG]
   congr 1
   rw[mP,BY];grind
  grind
namespace Dk
open Go.Proofs Go.RowKit
def rT(o:gH):Prop:=(0<=o.1/\o.1<1000000000) /\ (0<=o.2.1/\o.2.1<1000000000)
def rU(T:I)(r:lQ):Prop:=(0<=r.1/\r.1<=100) /\0<=r.2.2.1/\r.2.2.1<=T
def rU.up{T a r}(h:rU T r)(t:T<=a):rU a r:=⟨h.1,h.2.1,Int.le_trans h.2.2 t⟩
def GH{dc a p P n}(h:pI dc p P n)(cU:dc<=a):pI a p P n:=⟨h.inv.mono cU (kZ _),h.len⟩
structure g5(T:I)(m:ey):Prop where
 t1:1<=T
 t2:T<=1000000
 g:∃work,hr work m/\ ∀l∈work,l.length<=60/\ ∀o∈l,rT o
 dE:w0 m
 doc:∃P n,1<=n/\pI T m.p P n
 eT:0<=m.d5
 g6:m.d5<=T
 du:∀e∈m.du,rU T e.res
 ws:∀(k:V) (w:fH),m.ws[k]?=U w->w.st=6->rU T w.res
def aut{T}(t:1<=T){P}(h:∀q,0<= (P q).2.1/\ (P q).2.1<=T)(o):rU (T+1) (jc P o).2:=by
 have b:=h o.2.1.toNat;have z:∀c:I,0<=c/\c<=100->rU (T+1) (c,d'):=λc a=>⟨a,SW,aeE⟩;have y:∀p:e_,0<=p.2.1/\p.2.1<=T+1->rU (T+1) (0,p):=λp O=>⟨⟨kZ 0,by omega⟩,O.1,O.2⟩;rw[jc];repeat' split
 .grind
 .exact y _ ⟨by show(0:I) <=1;decide,by show(1:I) <=T+1;omega⟩
 .grind
 .grind
 .grind
 .grind
 .exact y _ ⟨by show(0:I) <= (P o.2.1.toNat).2.1+1;omega,by show(P o.2.1.toNat).2.1+1<=T+1;omega⟩
 simp_all
def auu{T}(t:1<=T)(t2:T<=1000000){p P n}(cY:1<=n)(h:pI T p P n)(o)(r:lR o=L):
  rU (T+1) (gI p o).2/\ ∃P',pI (T+1) (gI p o).1 P' n:=by
 have⟨⟨k1,k⟩,c,b⟩:=CT r;have w:=ac5 (dc:=T+1) R R (λq=>.inl (by have:=h.inv.on.rP q;omega)) (GH h R) cY o r;refine⟨?_,_,w.2⟩;rw[w.1];have⟨da,d⟩:∃da:V->e_,da=λq=>if q=o.2.1.toNat then P q else d':=⟨_,Z⟩
 have e:(jc P o).2=(jc da o).2:=by
  have:P o.2.1.toNat=da o.2.1.toNat:=by rw[d];simp
  simp[jc,this]
  repeat' split
  all_goals rfl
 rw[e];refine aut t (λq=>?_) o;rw[d];simp only
 split
 .rename_i a;subst a;refine⟨?_,h.inv.on.rP _⟩;rcases h.inv.on.sN o.2.1.toNat R R with e|⟨e,_⟩
  .rw[e];decide
  .have:=(kJ.1 e).2.2.1;omega
 .exact⟨c1,by show(0:I) <=T;omega⟩
def g5.hc{T m kV}(h:g5 T m)(cS:T+1<=1000000)(t:ov m kV)(l:∀work,hr work m->hr work kV):g5 (T+1) kV:=by
 have t1:=h.t1;have eT:=h.eT;have g6:=h.g6;have⟨work,hw,hb⟩:=h.g;have b:=l _ hw;have c:=h.dE.hc t;have⟨P,n,fh,cP⟩:=h.doc;have d:pI (T+1) m.p P n:=GH cP R;have f:∀e∈m.du,rU (T+1) e.res:=λe he=>(h.du e he).up R;have i:∀(k:V) (w:fH),m.ws[k]?=U w->w.st=6->rU (T+1) w.res:=λk w c6 c7=>(h.ws k w c6 c7).up R
 have set:∀ {k:V} {w':fH},(w'.st=6->rU (T+1) w'.res)->∀(j:V) (v:fH),(m.ws.set k w')[j]?=U v->v.st=6->rU (T+1) v.res:=λdI j v dL c7=>by
  grind
 cases t with|same hi ko s' mX dg=>exact⟨R,cS,⟨work,b,hb⟩,c,⟨P,n,fh,d⟩,by grind,by grind,f,i⟩|gD a=>exact⟨R,cS,⟨work,b,hb⟩,c,⟨P,n,fh,d.gD a _⟩,eT,by show m.d5<=T+1;omega,f,i⟩|Dc k w hi c6 c7 he=>exact⟨R,cS,⟨work,b,hb⟩,c,⟨P,n,fh,d⟩,by grind,by simp_all,f,set λq=>dQ (show 1=6 from q) c1⟩|wZ k w a p s hi ko s' c6 Q dz c5 dW=>exact⟨R,cS,⟨work,b,hb⟩,c,⟨P,n,fh,d⟩,by grind,by simp_all,f,set λq=>dQ (show s=6 from q) R⟩|Dd k w s' c6 c7=>exact⟨R,cS,⟨work,b,hb⟩,c,⟨P,n,fh,d⟩,eT,by grind,f,set λq=>dQ (show 5=6 from q) c1⟩|fail k w s' c6 c7=>exact⟨R,cS,⟨work,b,hb⟩,c,⟨P,n,fh,d⟩,eT,by grind,f,set λ_=>⟨by show(0:I) <=8/\ (8:I) <=100;decide,by show(0:I) <=0;decide,by show(0:I) <=T+1;omega⟩⟩|refuse k w c6 c7 dI=>exact⟨R,cS,⟨work,b,hb⟩,c,⟨P,n,fh,d⟩,by grind,by simp_all,f,set λ_=>⟨by show(0:I) <=1/\ (1:I) <=100;decide,by show(0:I) <=0;decide,by show(0:I) <=T+1;omega⟩⟩|work k w c6 c7 dI=>have⟨o,P',r⟩:=auu t1 h.t2 fh cP w.op dI;exact⟨R,cS,⟨work,b,hb⟩,c,⟨P',n,fh,r⟩,by grind,by simp_all,f,set λ_=>o⟩|leave k w hi ko c6 c7=>refine⟨R,cS,⟨work,b,hb⟩,c,⟨P,n,fh,d⟩,by grind,by simp_all,λe he=>?_,set λq=>dQ (show 0=6 from q) c1⟩;grind
def g5.up{T a m}(h:g5 T m)(Q:T<=a)(b:a<=1000000):g5 a m:=by have⟨P,n,f,cP⟩:=h.doc;exact⟨by have:=h.t1;omega,b,h.g,h.dE,⟨P,n,f,GH cP Q⟩,h.eT,G6,λe c=>(h.du e c).up Q,λk w d s=>(h.ws k w d s).up Q⟩
def g5.ok{T m}(h:g5 T m):hk m:=by have⟨_,g,_⟩:=h.g;exact g.ok
def g5.step{T m}(h:g5 T m)(cS:T+1<=1000000)(k):g5 (T+1) (gz m k).1:=h.hc cS (RX h.ok k) λ_ g=>g.step k
def g5.fin{T m}(h:g5 T m)(cS:T+1<=1000000)(i b):g5 (T+1) (hP m i b).1:=h.hc cS (RY h.ok i b) λ_ g=>g.fin i b
def g5.qY{T m}(h:g5 T m)(cS:T+1<=1000000):g5 (T+1) (mf m):=h.hc cS (.same m.h m.ek (sG m.s) m.d5 (.inl Z)) λ_ g=>g.qY
def g5.gD{T m}(h:g5 T m)(cS:T+1<=1000000)(a):g5 (T+1) (CK m a):=h.hc cS (.gD a) λ_ g=>by
 have⟨t,cW,Q,g⟩:=g.ex;exact⟨Av t,(acs cW Q).1,(acs cW Q).2,g.gD _⟩
def g5.gd {T:I} {m:ey} (h:g5 T m):∀ (k:V),T+k<=1000000->g5 (T+k) (gd m k).1
 |0,cW=>h.up (by omega) cW
 |k+1,c6=>by
  have:=(g5.gd h k (by omega)).step (by omega) k;rw [show T+((k+1:V):I)=T+(k:I)+1 by omega];exact this
def g5.round{T m}(h:g5 T m)(cS:T+6<=1000000)(n b):g5 (T+6) (kq m n b).1:=
 (((h.gd (min n 4) R).qY R).fin R 0 b).up R cS
def g5.gF {T:I} {m:ey} (h:g5 T m) (n:V) (ir:J dh):∀ (i:V),T+6*i<=1000000->g5 (T+6*i) (gF m n ir i)
 |0,cW=>h.up (by omega) cW
 |i+1,cK=>by
  have:=(g5.gF h n ir i (by omega)).round (by omega) n (qh ir i);rw [show T+6*((i+1:V):I)=T+6*(i:I)+6 by omega];exact this
def g5.j7{T m}(h:g5 T m):m.du.length<=240:=by
 have⟨work,g,f⟩:=h.g;have n:=g.ok.iJ;have hw:=R6 g;rw[adt λe a=>by have:=h.dE.fi e a;omega]
 have y:∀k,(mP m.du k).length<=60:=λk=>by
  cases e:m.ws[k]? with
  |none=>
   have:mP m.du k=[]:=by rw[mP,atf,List.filter_eq_nil_iff];intro b a;have Q:=h.dE.fi b a;have d:=List.getElem?_eq_none_iff.1 e;simp;omega
   simp_all
  |some w=>
   rw[h.dE.ops k w e,pn];have⟨t,_,_,c⟩:=g.ex
   have d:w.todo∈work:=by rw[<-c.oM];exact rJ (jg e)
   grind
 grind
def g5.adu{T m}(h:g5 T m)(cS:T<=700000):iQ m:=by
 have⟨work,g,s⟩:=h.g;have⟨P,n,C,cP⟩:=h.doc;have d:lT m.p P n:=GH cP R;have a:=RU d;have o:=d.sN
 have x:∀p∈ll m,(1<=p.1/\p.1<=16) /\ (0<=p.2.1/\p.2.1<=T) /\p.2.2.size<=16:=λp O=>by
  rw[a]at O;obtain⟨q,y,f,z,rfl⟩:=atU.1 O;have:=kJ.1 (o.vq y f z).1;have:=cP.inv.on.rP q;omega
 have v:=g.ok.iJ;refine⟨⟨work,g,λl A=>by grind⟩,h.eT,G6,?_,λp O=>by grind,λp O=>by grind,by have:=h.j7;omega,λe b=>?_,by have:=g.ok.hf.iX;omega⟩
 .rw[a];have:=atV P;omega
 .have hw:=h.dE.fi e b;have r:=h.du e b;have u:=fe hw;have w:=h.dE.ops e.fi _ u
  have i:e.op∈mP m.du e.fi:=by rw[mP];exact h4.2 ⟨e,n9.2 ⟨b,dt⟩,Z⟩
  rw[w]at i;have c:=QQ i;have⟨t,_,_,j⟩:=g.ex
  have k:m.ws[e.fi].todo∈work:=by rw[<-j.oM];exact rJ (hS hw)
  have B:=(s _ k).2 _ c;exact⟨R,B.1,B.2,by have:=r.1;omega,by have:=r.2;omega⟩
def g5.auv{T m}(h:g5 T m):Rw m:=by have⟨P,n,a,cP⟩:=h.doc;have f:=cP.inv.ei.fm;have r:=cP.inv.ei.rest;have:=f.iX;have:=f.eh.len;have:=f.pl;have:=f.dl;have:=r.m;have c:=cP.inv.ei.fz;exact⟨R,R,R,R,R,by simp_all⟩
def auw{d n}(h:n<1\/8<n):(iH d n).2=1:=by rw[iH];simp_all
structure o7(T:I)(d:gm):Prop where
 rest:iK d.sec
 fz:d.fz=[]
 sM:d.sec[0]?.getD fI=jE
 gX:∀q:V,1<=q->q<=16->iL d.sec q=(d',3) \/ ((iL d.sec q).2=0/\ (iL d.sec q).1.2.1<=T)
def o7.new{T}(h:0<=T):o7 T iw:=⟨Q8,Z,Rh,λq _ a=>.inl (Q9 a)⟩
def g5.lS{T m}(h:g5 T m):o7 T m.p.d:=by have⟨P,n,a,cP⟩:=h.doc;exact⟨cP.inv.ei.rest,cP.inv.ei.fz,cP.inv.ei.sM,cP.inv.on.gX⟩
open Classical in
def yy(d:gm)(q:V):e_:=if 1<=q/\q<=16/\ (iL d.sec q).2=0 then(iL d.sec q).1 else d'
def o7.on{T d}(h:o7 T d)(cS:0<=T):yt d.sec [] (yy d) T:=by
 have z:d'.1=0:=Z;refine⟨λq Q a _=>?_,λq Q a=>?_,λq=>?_,h.gX⟩
 .rcases h.gX q Q a with e|⟨e,_⟩
  .have:yy d q=d':=by rw[yy,cT];rintro⟨_,_,g⟩;rw[e]at g;cases g
   simp_all
  .have b:=RQ e
   have:yy d q=(iL d.sec q).1:=by rw[yy,if_pos ⟨Q,a,e⟩]
   grind
 .rw[yy];split
  .rename_i g;exact .inr (RQ g.2.2)
  simp_all
 .rw[yy];split
  .rename_i g;rcases h.gX q g.1 g.2.1 with e|⟨_,e⟩
   .simp_all
   .exact e
  .exact cS
def o7.open_{T d}(h:o7 T d)(cS:0<=T){n}(o:(iH d n).2=0):∃k:V,n=k/\1<=k/\k<=8/\iH d n=(⟨m_ k,d,0⟩,0) /\pI T ⟨m_ k,d,0⟩ (yy d) k:=by
 have cP:d=⟨d.sec,[]⟩:=Lw
 have b:1<=n/\n<=8:=lv λg=>by
  rw[auw R]at o;cases o
 obtain⟨k,rfl⟩:∃k:V,n=k:=⟨n.toNat,R⟩;have e:=RP h.rest h.sM b.1 b.2;rw[<-cP,gl]at e;refine⟨k,Z,R,R,e,⟨?_,uO ..⟩⟩;have:=ft.new (n:=k) R R h.rest h.sM (h.on cS) (kZ 0);grind
def o7.us{T d}(h:o7 T d)(cS:0<=T)(n)(o:(iH d n).2=0):ix (iH d n).1.d:=by have⟨k,_,_,_,e,_⟩:=h.open_ cS o;rw[e];have cP:d=⟨d.sec,[]⟩:=Lw;rw[cP];exact h.rest.us
def g5.new{T}(t:1<=T)(t2:T<=1000000){d}(h:o7 T d){n}(f:(iH d n).2=0){todo}(cS:vt todo)(B:∀l∈todo,∀o∈l,rT o):g5 T (mg (iH d n).1 n.toNat todo):=by
 obtain⟨k,rfl,k1,g,e,cP⟩:=h.open_ R f;rw[e];have dr:=q5.Ew (GH cP (show T<=2147483647 by omega)) Z k1 g (work:=todo) cS.fh cS.iJ;rw[gl]
 have s:∀(k:V) (w:fH),(todo.map pB)[k]?=U w->w.st=0:=λk w h=>by
  rw[iO]at h;obtain⟨l,_,rfl⟩:=vH.1 h;rfl
 exact⟨t,t2,⟨todo,dr.g,λl a=>⟨cS.acJ l a,B l a⟩⟩,dr.dE,⟨_,k,k1,cP⟩,kZ 0,by show(0:I) <=T;omega,λe b=>(by cases b),λj w c i=>by have:=s j w c;omega⟩
end Dk
open Go.Proofs Go.RowKit
def kP(f:hq):J I:=f.cN.map (·.1)
def adH(f i x)(b:∀h,x.1=f.cN[i].1):kP (vd f i x)=kP f:=by
 show(f.cN.set i x).map (·.1)=f.cN.map (·.1);rw[sv]
 by_cases h:i<f.cN.length
 .rw[b h]
  have a:i<(f.cN.map (·.1)).length:=by rwa[ef]
  have:f.cN[i].1=(f.cN.map (·.1))[i]:=dt;rw[this];exact Qx a
 .rw[List.set_eq_of_length_le S7]
def auL(f p):kP (lN f p).1=kP f:=by
 rw[lN];repeat' split
 all_goals first|rfl|(refine adH _ _ _ λh=>?_;show(rE f.cN _).1=_;rw[jT h])
def auM(f p):kP (mb f p).1=kP f:=by
 rw[mb];repeat' split
 all_goals first|rfl|(refine adH _ _ _ λh=>?_;show(rE f.cN _).1=_;rw[jT h])
def auN(f p b n):kP (iR f p b n).1=kP f:=by
 rw[iR];repeat' split
 all_goals rfl
def auO(p a):kP (oW p a).1.f=kP p.f:=by
 rw[oW];repeat' split
 all_goals first|rfl|exact auN _ _ _ _|exact auM _ _
def auP{p id}(h:rI p id=N):kP (tO p id).1.f=kP p.f:=by
 rw[tO,if_pos (show(jS p.f id).2=N from h)];split
 .rfl
 .exact auL _ _
def auQ{p a}(h:(a.1=1/\rI p a.2.1=N) \/a.1=3\/a.1=4\/a.1=5):kP (iS p a).1.f=kP p.f:=by
 rw[iS];split
 .rfl
 split
 .rfl
 split
 .rename_i Q;rcases h with h|h|h|h
  .exact auP h.2
  all_goals omega
 rw[cT R,cT R,cT R,cT R];exact auO _ _
def auR(o q):kP (sI o q).1.f=kP q.1.f:=by
 rw[sI];split
 .exact auQ (.inr (.inr (.inr Z)))
 .rfl
def auS{p P n}(h:lT p P n){q:V}(Q:1<=q):rI p q=N↔(q:I)∈kP p.f:=by
 have m:(q:I)∈kP p.f↔∃i,∃cK:i<p.f.cN.length,p.f.cN[i].1=(q:I):=by
  rw[kP,h4];constructor
  .rintro⟨x,a,e⟩;obtain⟨i,cK,rfl⟩:=kg.1 a;grind
  .grind
 rw[m,rI];rcases h.inv.where Q with cY|⟨i,c8⟩
 .rw[qW h.inv.ei.fm cY R];simp_all
 .rw[qa c8];exact⟨λ_=>⟨i,c8.cK,c8.cN⟩,λ_=>Z⟩
def auT{p P n}(h:lT p P n){q}(Q:1<=q)(a:q<=16)(z:(P q).1=0){i}(cK:i<p.f.cN.length)(f:p.f.cN[i].1=0)(b):
  ∃j,(kP p.f)[j]?=U 0/\kP (gI p (1,(q),b)).1.f=(kP p.f).set j q:=by
 have dr:=h.inv
 have cY:∀i (cK:i<p.f.cN.length),p.f.cN[i].1≠(q:I):=by
  rcases dr.where Q with cY|⟨k,c8⟩
  .exact cY
  .exact dQ z (dr.vq c8)
 have⟨j,d,l,e,_,_⟩:=abT (arx dr.ei.fm ⟨i,cK,f⟩) dr.ei.fm (x:=q3 q) (abS R R) dr.ei.l6 dr.ei.fh N cY ⟨i,cK,f⟩ dr.ei.dK
 have c:tP p q=rF p (q3 q) N:=by
  rw[tP,qW dr.ei.fm cY R,cT (show ¬L=N by decide),dr.ei.get Q a,dr.on.lS q Q a (dr.out Q cY),if_pos z,cT (show ¬(3:I)=0 by decide)]
  first|rfl|(rw[if_pos Z];rfl)
 refine⟨j,?_,?_⟩
 .rw[kP,iO,fe d];simp_all
 .rw[gI,auR];show kP (oY (1,(q:I),b) [2] p (0,d')).1.f=_;rw[oY];simp only[];rw[RO p Q a,c,e];simp only[];rw[cT (λg=>g Z),oY];show(p.f.cN.set j ((q3 q).1,1,N)).map (·.1)=_;rw[sv];rfl
namespace Dk
section
open Go.Conc Go.Lib Go.Proofs
open Go.ConcR (KK WgAt stA mk)
set_option maxRecDepth 100000
section
variable {F fg:V->Prop} {dv:dN->c'->Prop} {g:dN} {w:c'}
theorem atj(w):mv F fg w w #[]:=(oJ w).x
theorem dO.K4 {f} {vs} {dM} (c:gT cR N F f vs w dM) (s:∀ v w' b,dM v w'->eX F w' b->dM v b) (k:∀ v w',dM v w'->dO cR N (kQ F fg) (mv F fg) dv (put g v) w')
  (o:(e5 g).op=.call {callee:=.value (.func f),args:=uH g,argTypes:=Ex g}:=by kernel_rfl) (cU:(uH g).map (eA g).eval=vs:=by kernel_rfl) (h:it g:=by exact kA):dO cR N (kQ F fg) (mv F fg) dv g w:=
 ((dO.H1 h o cU c (dv:=fun g' w'=>∃ v,g'=put g v/\dM v w') fun v w' O=>.stop fun c0 a=>⟨v,Z,s v w' c0 O a⟩).mono (fun _ _ h=>h.f) (fun _ _ _ h=>h.x) (fun _ _ h=>h)).bind iT.refl fun g' w' ⟨v,e,O⟩=>e▸k v w' O
theorem Ay(n:V)(k:dO cR N (kQ F fg) (mv F fg) dv (e6 n g) w)(h:jN cR N g (e6 n g):=by exact oL):dO cR N (kQ F fg) (mv F fg) dv g w:=dO.pure iT.trans atj h k
end
noncomputable def mj:hX->J dS->J hj
 |_,[]=>[]
 |x,l::ls=>(gA x l).2.data.toList++10::mj (gA x l).1 ls
def Gy:hX->J dS->Prop
 |_,[]=>True
 |x,l::ls=>Ry x/\l.size<=1000000/\Gy (gA x l).1 ls
section
variable {F fg c4 Rd:V->Prop} {q:zR} {cO:c'} {dJ:eE} {uo:dN->c'->Prop}
theorem atk (T) (cS:T.length<=1000000000000) (S:∀ x f w,nM ⟨N,F⟩ cO dJ q.h_ q.B x T w->dO cR N (kQ F fg) (mv F fg) uo (Fh q f) w):
  ∀ (ls) (x) (l) (f) (w),nM ⟨N,F⟩ cO dJ q.h_ q.B x l w->Gy x ls->l++mj x ls=T->
   dO cR N (kQ F fg) (mv F fg) (Mj cR c4 q.Wg Rd fg F q.d_ (.string ⟨#[]⟩) uo (ls.map .string)) (Co q f) w:=by
 intro ls
 induction ls with
 |nil=>
  intro x l f w dr _ a
  have e:l=T:=by simpa [mj] using a
  subst e
  exact .stop fun w1 m=>⟨c2,#[],Yx w1,dt,Ay 7 (S x f w1 (dr.rel m.f))⟩
 |cons v vs u=>
  intro x l f w dr c8 a;have⟨Q,t,eS⟩:=c8
  refine .stop fun w1 m=>⟨c2,#[],Yx w1,dt,fun A y=>Ay 15 (dO.K4 (((dr.rel m.f).rel y.f).line Q t) (fun _ w' d O r=>⟨O.1,O.2.rel r⟩) fun p C b=>?_)⟩
  obtain ⟨rfl,i⟩:=b
  have n:l.length+((gA x v).2.size+1) <=1000000000000:=by have e:=eR pY a;simp [mj,kG,pW,m6] at e;have o:(gA x v).2.data.size=(gA x v).2.size:=Z;omega
  refine dO.K4 (i.FE (s:=(gA x v).2) R) (fun _ w' d O r=>⟨O.1,O.2.rel r⟩) fun p E b=>?_
  obtain ⟨rfl,j⟩:=b;refine Ay 2 (dO.K4 (j.O1 (c:=10) (by have o:(gA x v).2.data.toList.length=(gA x v).2.size:=m6;grind)) (fun _ w' d O r=>⟨O.1,O.2.rel r⟩) fun p z b=>?_)
  obtain ⟨rfl,k⟩:=b;refine Ay 5 (dF.h (Co q) fun f=>?_);apply u _ _ _ z k eS;rw [<-a,mj];simp
end
end
section
open Go.Conc Go.Lib Go.Proofs
open Go.ConcR (KK WgAt stA mk)
set_option maxRecDepth 100000
section
variable {P:Program} {dm:eH} {Wg:V} {cX:c'->c'->Prop} {Fin K5 gq acQ:dN->c'->Prop} {g:dN} {w:c'}
theorem acR(F:∀g w,Fin g w->K5 g w)(h:A0 P Wg cX Fin g w):A0 P Wg cX K5 g w:=let ⟨a,g',b,c⟩:=h;⟨a,g',b,c.mono (λ_ _ h=>h) (λ_ _ _ h=>h) λ_ _=>λh=>let ⟨a,g',b,c⟩:=h;⟨a,g',b,F _ _ c⟩⟩
theorem atl(F:∀g w,Fin g w->K5 g w)(c8:∀g w,gq g w->acQ g w)(h:r4 P dm Wg cX Fin gq g w):r4 P dm Wg cX K5 acQ g w:=
 ⟨h.1,λx=>let ⟨g',b,c⟩:=h.2.1 x;⟨g',b,c.mono (λ_ _ h=>h) (λ_ _ _ h=>h) λ_ _=>λh=>⟨h.1,λx=>let ⟨g',b,c⟩:=h.2.1 x;⟨g',b,c.mono (λ_ _ h=>h) (λ_ _ _ h=>h) λ_ _=>λh=>⟨h.1,h.2.1,h.2.2.1,λx=>let ⟨g',b,c⟩:=h.2.2.2 x;⟨g',b,c.mono (λ_ _ h=>h) (λ_ _ _ h=>h) λ_ _=>λh=>⟨h.1,λx=>let ⟨g',b,c⟩:=h.2 x;⟨g',b,c.mono (λ_ _ h=>h) (λ_ _ _ h=>h) λ_ _=>acR F⟩⟩⟩⟩⟩,λx=>let ⟨g',b,c⟩:=h.2.2 x;⟨g',b,c.mono (λ_ _ h=>h) (λ_ _ _ h=>h) c8⟩⟩⟩,λx=>let ⟨g',b,c⟩:=h.2.2 x;⟨g',b,c.mono (λ_ _ h=>h) (λ_ _ _ h=>h) λ_ _=>acR F⟩⟩
end
def Gz(F:V->Prop)(cO:c')(dJ:eE)(w:c'):Prop:=nX ⟨N,F⟩ cO.heap.size cO w/\fq dJ w
section
variable (F:V->Prop) (q:zR) (o:dS) (cO:c') (dJ:eE)
def K6(g:dN)(w:c'):Prop:=∃f w1,Gz F cO dJ w1/\Ix F q.Wg (wx q f o) q.cs w1 g w
def acS(g:dN)(w:c'):Prop:=∃f w1,Gz F cO dJ w1/\g=G {wx q f o with mode:=.returning} q.cs/\pm F eY.tWg q.Wg w1 w
def acT:dN->c'->Prop:=dO cR N (k7 F eY.tWg q.Wg) (hK q.Wg) (acS F q o cO dJ)
end
section
variable {F fg c4 Rd:V->Prop} {q:zR} {o:dS} {cO:c'} {dJ:eE}
theorem atm(W:F q.Wg)(g w)(h:K6 F q o cO dJ g w):
  dO cR N (k7 F eY.tWg q.Wg) (hK q.Wg) (r4 cR eY.tWg q.Wg (k7 F eY.tWg q.Wg) (acT F q o cO dJ) (K6 F q o cO dJ)) g w:=by
 have⟨f,w1,e,h⟩:=h;exact(ahc W (λw k=>@id (acS F q o cO dJ _ w) ⟨f,w1,e,Z,k⟩) g w h).mono (λ_ _ h=>h) (λ_ _ _ h=>h) λg w h=>atl (λg w h=>h) (λg w h=>⟨f,w1,e,h⟩) h
theorem GA(M:∀b o v,dJ b o=U v->¬F b){w w'}(h:Gz F cO dJ w)(r:eX F w w'):Gz F cO dJ w':=
 ⟨⟨r.os.trans h.1.os,r.tape.trans h.1.tape,r.output.trans h.1.output,by rw[r.size];exact h.1.size,λk a q=>(r.block k q).trans (h.1.block k a q)⟩,λb o v cU=>by rw[Nc r (M b o v cU)];exact h.2 b o v cU⟩
theorem atn(y:cR.follows .mixedOrders=N)(M:∀b o v,dJ b o=U v->¬F b)(j:F q.en)(S:q.en≠q.Wg)(C:q.la≠q.en){T}(cS:T.length<=1000000000000)(z:o=⟨T.toArray⟩)(x f w)(h:nM ⟨N,F⟩ cO dJ q.h_ q.B x T w):
  dO cR N (kQ F fg) (mv F fg) (uo cR eY.tWg q.Wg q.la q.en c4 Rd F (K6 F q o cO dJ)) (Fh q f) w:=by
 subst z;refine dO.K4 (h.str y cS) (λ_ w' dr O r=>⟨O.1,(GA M O.2 r).1,(GA M O.2 r).2⟩) λ_ w1 A=>?_;obtain⟨rfl,E⟩:=A;replace E:Gz F cO dJ w1:=E;refine Ay 3 (.stop λi G=>have E:=GA M E G.f;⟨c2,λt k=>have⟨es,Q,m⟩:=Yg (P:=cR) (cN:=Pd q f ⟨T.toArray⟩) (cs:=(zU q f ⟨T.toArray⟩).callers) (ats:=#[54]) (dm:=0) (Ck:=#[L]) t;have l:eX F i (i.setChan q.en 0 #[] N 0 0 L):=⟨Z,Z,Z,by simp[World.setChan],λb n=>q' λe=>n (e▸j)⟩;have⟨st,H,k⟩:=k;⟨alW q f ⟨T.toArray⟩,_,es,(show stepG cR N (zU q f ⟨T.toArray⟩) i=callDeferred cR (Pd q f ⟨T.toArray⟩) (zU q f ⟨T.toArray⟩).callers cM {target:=.builtin .close #[54] 0 #[L],args:=#[.chan (U q.en)]} i from c2).trans Q,λe u=>?_,q' (Ne.symm S),q' C,?_⟩⟩)
 .rcases m e u with rfl|rfl
  .refine⟨λx d=>?_,dt,dt,dt⟩;simp[mq,k6]at d;subst d;exact⟨λ_=>dt,λ_=>dt,λ_ ⟨_,e,_⟩=>rZ⟩
  .exact⟨λx d=>by simp[mq,k6]at d,dt,dt,dt⟩
 .apply dO.pure A8.trans BR (g':=BQ q.Wg (wx q f ⟨T.toArray⟩) q.cs) (qB 1);exact(ahd (F:=F) (NB:=i.setChan q.en 0 #[] N 0 0 L) ⟨.refl _ _,st,H,k.of_block (q' (Ne.symm S))⟩).mono (λ_ _ h=>h) (λ_ _ _ h=>h) λg w h=>have⟨a,g',b,c⟩:=h;⟨a,g',b,c.mono (λ_ _ h=>h) (λ_ _ _ h=>h) λg w h=>⟨f,_,GA M E l,h⟩⟩
end
end
section
open Go.Conc Go.Lib Go.Proofs
set_option maxRecDepth 100000
def RB(a b:dp):ea dp:=#[.slice cM 0 0,.slice cM 0 0,.slice cM 0 0,.slice cM 0 0,a,b,.pointer cM,.int .i64 0]
def Az(q:zR):J (V×Obj):=
 [(q.Wg,.cells #[.int .u64 0,.int .u32 0] 64 (0,0)),(q.lK,.cells #[.chan (U q.en)] 54 (0,0)),(q.en,.chan 0 #[] L 0 0 L),(q.lJ,.cells #[.chan (U q.d_)] 53 (0,0)),(q.d_,.chan 0 #[] L 0 0 L),(q.B,.cells #[.pointer cM,.slice cM 0 0] 52 (0,0)),(q.h_,.cells (RB q.Cm q.Cn) 46 (0,0)),(q.la,.cells #[.string q.s] 9 (0,0))]
theorem ato{M d v}(h:e1 M (.dP [iF d,.int .i64 0]) v):∃a b,v=.tuple #[.agg #[a,b],.int .i64 0] /\e1 M (.dk (d.sec.map hN)) a/\e1 M (.dk (d.fz.map Go.Lk.fw)) b:=by
 cases h with
 |dP _ vs dw cP=>
  have⟨l⟩:=vs
  match l,dw,cP with
  | [u,v],_,cP=>
   have Q:=cP 0 _ _ Z Z;have c5:=cP 1 _ _ Z Z;clear cP
   cases c5
   cases Q with
   |agg _ e f c=>
    have⟨eo⟩:=e
    match eo,f,c with
    | [a,b],_,c=>exact⟨a,b,Z,c 0 _ _ Z Z,c 1 _ _ Z Z⟩
theorem acU{M l v}(h:e1 M (.dk l) v):v.oneCell'=N/\v.cells=#[v]:=by cases h<;>exact hg
section
variable {c4:V->Prop} {s:dS} {cs:J gS} {w:c'} {dJ:eE} {dv:dN->c'->Prop}
theorem atp(f':gG ⟨N,c4⟩ (λc=>w.heap.size<=c) dJ)(dq:fq dJ w)
  (k:∀q f w',q.s=s->q.cs=cs->hy ⟨N,c4⟩ w dJ w' f (Az q)->e1 f (.dk (iw.sec.map hN)) q.Cm->e1 f (.dk (iw.fz.map Go.Lk.fw)) q.Cn->dv (Pb q) w'):
  dF N c4 dv (JC s cs) w:=by
 refine dF.p 2 ?_;have A:=hy.init f' dq;have⟨la,b⟩:=c7 w;refine A.m7 5 b (.cells #[.string s] 9) eV λw A b=>?_;have⟨na,b⟩:=c7 w;refine A.m7 5 b (.cells (RB (.slice cM 0 0) (.slice cM 0 0)) 46) eV λw A _=>?_
 refine A.call am2 (zO (.int _ _)) λM w v A d=>?_;obtain⟨a,c,rfl,g,h⟩:=ato d;refine dF.p 5 ?_;refine A.Y2 3 0 4 (acU g) (acU h) λw A=>?_;have⟨B,b⟩:=c7 w;refine A.m7 3 b (.cells #[.pointer cM,.slice cM 0 0] 52) eV λw A _=>?_
 have⟨cL,b⟩:=c7 w;refine A.m7 0 b (.chan 0 #[] L 0 0 L) (λb=>.chan (U b)) λw A _=>?_;have⟨lJ,b⟩:=c7 w;refine A.m7 0 b (.cells #[.chan cM] 53) eV λw A _=>?_;refine A.st 3 0 0 (.chan (U cL)) λw A=>?_
 have⟨S,b⟩:=c7 w;refine A.m7 0 b (.chan 0 #[] L 0 0 L) (λb=>.chan (U b)) λw A _=>?_;have⟨lK,b⟩:=c7 w;refine A.m7 0 b (.cells #[.chan cM] 54) eV λw A _=>?_;refine A.st 3 0 0 (.chan (U S)) λw A=>?_
 have⟨W,b⟩:=c7 w;refine A.m7 7 b (.cells #[.int .u64 0,.int .u32 0] 64) eV λw A _=>?_;refine A.nt 5 1 0 λw A=>?_
 exact dF.e (g':=Pb ⟨s,cs,la,na,a,c,B,cL,lJ,S,lK,W⟩) (.stop λw r=>k _ M w Z Z (A.rel r) g h)
end
end
section
open Go.Conc Go.Lib Go.Proofs
open Go.ConcR (KK WgAt stA mk)
set_option maxRecDepth 100000
def ln:hX:=⟨[],[],[],[],iw,cM,0⟩
def fK(na:V):gr:=λn=>bif d2 n 1000000 then U (U ⟨na,8,8,0⟩) else bif i7 n then U cM else cM
def f6(c4:V->Prop)(q:zR)(b:V):Prop:=c4 b\/ (b=q.la\/ (b=q.d_\/ (b=q.lJ\/ (b=q.en\/ (b=q.lK\/b=q.Wg)))))
section
variable {c4:V->Prop} {q:zR} {cO w:c'} {dJ M:eE}
theorem atq(S:hy ⟨N,c4⟩ cO dJ w M (Az q))(H:e1 M (.dk (iw.sec.map hN)) q.Cm)(dr:e1 M (.dk (iw.fz.map Go.Lk.fw)) q.Cn):nM ⟨N,f6 c4 q⟩ cO dJ q.h_ q.B ln [] w:=by
 have l:=S.P;simp[Az]at l
 have e:=S.H;simp[Az,m3,Gt,K2,forall_eq_or_imp,forall_eq]at e;have⟨W,u,z,t,y,i,c3,P⟩:=e;have s:=λp O=>S.lt (p:=p) O;have cV:=s _ (.head _)
 have m:∀b o v,M b o=U v->¬f6 c4 q b:=λb o v cU=>by
  rintro (h|h|h|h|h|h|h)
  .exact S.K.hD.mem b o v cU h
  all_goals(subst h;simp_all)
 have A:¬f6 c4 q q.h_:=by
  rintro (h|h|h|h|h|h|h)
  .exact S.js _ c3.1 h
  all_goals omega
 have F:¬f6 c4 q q.B:=by
  rintro (h|h|h|h|h|h|h)
  .exact S.js _ i.1 h
  all_goals omega
 have E:∀ {b cL},fK q.h_ b=U (U cL)->b=1000000/\cL=⟨q.h_,8,8,0⟩:=fun {b cL} h=>by
  unfold fK at h
  cases Q:d2 b 1000000 with
  |true=>rw[Q]at h;exact⟨gs Q,(pM (pM h)).symm⟩
  |false=>
   rw[Q]at h
   cases f:i7 b with
   |true=>rw[f]at h;cases h
   |false=>rw[f]at h;cases h
 refine⟨λc=>c=q.h_\/w.heap.size<=c,M,fK q.h_,fo.fF (jG ln),.pointer cM,cM,⟨⟨λc a=>?_,m,S.K.hD.xo⟩,λc a=>.inr a,λc a=>?_,S.K.sub,S.K.mD,?_,λn K r=>by rwa[acP r],⟨_,Z,Z⟩,?_,.inl Z,?_,i.1,λh=>?_,F,i.2.2,λk dj=>(by cases dj),λh=>dQ Z h⟩⟩
 .rcases a with rfl|a
  .exact A
  .rintro (h|h|h|h|h|h|h)
   .exact S.js c (fJ S.K.fc.size a) h
   all_goals omega
 .rcases a with rfl|a
  .exact c3.1
  .exact fJ S.K.fc.size a
 .refine⟨λb=>?_,λb g=>?_,λb K cL r D=>?_,λb I cL ej Q f _=>(E Q).1.trans (E f).1.symm⟩
  .rw[Fm (l:=jG ln) Z b];unfold fK
   cases Q:d2 b 1000000 with
   |true=>rw[gs Q];simp[i7]
   |false=>cases f:i7 b<;>simp
  .have G:b≠1000000/\i7 b=N:=by
    unfold fK at g
    cases Q:d2 b 1000000 with
    |true=>rw[Q]at g;cases g
    |false=>
     rw[Q]at g
     cases f:i7 b with
     |true=>exact⟨λe=>(by subst e;cases Q),Z⟩
     |false=>rw[f]at g;cases g
   have eS:=(B6.1 G.2).resolve_left G.1;have:b=3000001\/b=3000002\/b=3000003\/b=3000004\/b=3000005\/b=3000006\/b=3000007:=R;rcases this with rfl|rfl|rfl|rfl|rfl|rfl|rfl<;>exact⟨_,_,Z⟩
  .obtain⟨rfl,rfl⟩:=E D;have C:=pM r;subst C;refine⟨.inl Z,RB q.Cm q.Cn,46,c3.2.1,Z,Z,Z,⟨Z,λj x d=>?_⟩,λh=>(by cases h),λ_=>c3.2.2⟩
   match j with
   |0=>cases d;exact⟨_,Z,.h7 _ _ Z⟩
   |1=>cases d;exact⟨_,Z,.h7 _ _ Z⟩
   |2=>cases d;exact⟨_,Z,.h7 _ _ Z⟩
   |3=>cases d;exact⟨_,Z,.h7 _ _ Z⟩
   |4=>cases d;exact⟨_,Z,.d _ _ H⟩
   |5=>cases d;exact⟨_,Z,.d _ _ dr⟩
   |6=>cases d;exact⟨_,Z,.d _ _ .ka⟩
   |7=>cases d;exact⟨_,Z,.d _ _ (.int _ _)⟩
   |j+8=>cases d
 .exact⟨S.K.fc.os,S.K.fc.tape,S.K.fc.output,S.K.fc.size,λk da cX=>S.K.fc.block k da λh=>cX (.inl h)⟩
 .exact⟨.slice cM 0 0,i.2.1,World.ownsRow_nil _ _ _ _,Z⟩
 .rcases h with h|h<;>omega
end
end
section
open Go.Conc Go.Lib Go.Proofs
open Go.ConcR (KK WgAt stA mk)
set_option maxRecDepth 100000
theorem C_{c4 e}(h:i2 c4 e):vS c4 e:=by
 have⟨d,wr,Lt⟩:=e
 cases d with
 |cell a=>
  have⟨Q,c5⟩:=h;simp only at Q;subst Q;refine⟨λx eC c7=>?_,dt,dt,dt⟩
  have e:x.loc=.cell a:=by cases wr<;>simp[mq,k6]at eC<;>subst eC<;>rfl
  rcases c7 with⟨b,hb,c⟩|⟨r,dI,_⟩
  .simp_all
  simp_all
 |mark m=>
  cases m with|extern g=>exact⟨λx eC=>GT,dt,dt,dt⟩|noRoom=>exact⟨λx eC=>GT,dt,dt,dt⟩|_=>exact h.elim
 |obj r=>
  have⟨Q,c5⟩:=h;simp only at Q;subst Q;refine⟨λx eC c7=>?_,dt,dt,dt⟩
  have e:x.loc=.obj r:=by cases wr<;>simp[mq,k6]at eC<;>subst eC<;>rfl
  rcases c7 with⟨b,hb,c⟩|⟨r,dI,c⟩
  .simp_all
  simp_all
 |_=>exact h.elim
def AA(c4:V->Prop)(d_ en b:V):Prop:=c4 b\/ (b=d_\/b=en)
theorem ku.mono{c4 gk d t}(s:∀b,c4 b->gk b)(h:ku c4 d t):ku gk d t:=
 ⟨h.clean,λi a c m=>(h.known i a c m).imp id λ⟨q,k⟩=>⟨q.imp (λ⟨x,e,y⟩=>⟨x,e,s _ y⟩) (λ⟨r,e,y⟩=>⟨r,e,s _ y⟩),k⟩,h.over,h.norel,h.hears⟩
theorem fR.mono{P dM c4 gk g w}(s:∀b,c4 b->gk b)(h:fR P dM gk g w):fR P dM c4 g w:=
 λcZ sl T q cW O cS=>h cZ sl T q cW O (ku.mono s cS)
theorem atr{c4:V->Prop}{Wg w w' es}(h:hK Wg w w' es):∀e∈es,vS (λb=>c4 b\/b=Wg) e:=λe c=>by
 have⟨Q,a,eS,fy⟩:=h.2 e c;exact⟨λx d _=>(Q x d).2,a,eS,fy⟩
def io(s:dS):J dS:=(i9 s.data.toList).map λl=>⟨l.toArray⟩
theorem att(s):sr (i9 s.data.toList)=(io s).map .string:=by rw[sr,io,Kc];rfl
noncomputable def mN(s:dS):dS:=⟨(mj ln (io s)).toArray⟩
section
variable {c4:V->Prop} {dM:dp->c'->Prop} {s:dS} {cs:J gS} {w:c'} {dJ:eE}
theorem atu(d8:cR.follows .mixedOrders=N)(f':gG ⟨N,c4⟩ (λc=>w.heap.size<=c) dJ)(dq:fq dJ w)(ao:s.size<=1000000)(c8:Gy ln (io s))(cS:(mj ln (io s)).length<=1000000000000)
  (k:∀gk a todo w',(∀b,gk b->c4 b\/ (w.heap.size<=b/\b<w'.heap.size))->fq dJ w'->nX ⟨N,c4⟩ w.heap.size w w'->a.defers=[]->
   (∀w,(results zS a.tmps).run cR w=.ok (.string (mN s)) w/\ (results zS a.tmps).events cR w #[]=#[])->
   fR cR dM gk (G {(base 12).at a todo with mode:=.returning} cs) w'):fR cR dM c4 (JC s cs) w:=by
 refine fR.y3 A9 (λ_ _ _ h e he=>C_ (h.du e he)) (atp (cs:=cs) (s:=s) (dv:=λg w'=>∃q i,q.s=s/\q.cs=cs/\hy ⟨N,c4⟩ w dJ w' i (Az q) /\e1 i (.dk (iw.sec.map hN)) q.Cm/\e1 i (.dk (iw.fz.map Go.Lk.fw)) q.Cn/\g=Pb q) f' dq
  λq i w' a b Q A B=>⟨q,i,a,b,Q,A,B,Z⟩) λg w1 h=>?_
 obtain⟨q,i,rfl,rfl,gB,A,B,rfl⟩:=h;have l:=gB.P;have e:=gB.H;simp[Az]at l;simp[Az]at e;have⟨D,I,J,E,M,ap,aq,r⟩:=e;have ar:=gB.lt (p:=(q.Wg,_)) (.head _)
 have O:∀b o v,dJ b o=U v->¬f6 c4 q b:=λb o v cU=>by
  have aa:=gB.K.sub b o v cU;rintro (h|h|h|h|h|h|h)
  .exact gB.K.hD.mem b o v aa h
  all_goals(subst h;simp_all)
 have S:=gB.js
 have dc:∀c,c≠0->qr cR eY.tWg q.Wg c q.la q.d_ q.en (AA c4 q.d_ q.en) (Ye q.lJ q.la q.lK) (λb=>b=q.lJ) (f6 c4 q) (acT (f6 c4 q) q (mN q.s) w dJ) (K6 (f6 c4 q) q (mN q.s) w dJ) dM:=λc dg=>by
  refine {eT:=dg,xj:=?_,Hs:=?_,D7:=?_,Ht:=?_,D8:=?_,Mk:=?_,D9:=?_,yZ:=?_,D_:=?_,TJ:=?_,TK:=?_,vP:=?_,ds:=?_,cs:=?_,lw:=?_,ls:=?_,anch:=?_,fin:=?_}
  .simp[f6]
  .simp[f6]
  .simp[f6]
  .simp[f6]
  .rintro b (rfl|rfl|rfl)<;>simp[f6]
  .rintro b (h|rfl|rfl)<;>simp_all[f6]
  .rintro (h|h|h)<;>omega
  .rintro (h|h|h)<;>omega
  .exact λb h=>.inl h
  .omega
  .rintro b rfl (h|h|h)
   .exact S _ E.1 h
   all_goals omega
  all_goals first|omega|skip
  .exact λg w h=>atm (by simp[f6]) g w h
  .intro cZ sl ab ac g w' cW ad ae ee;refine fR.y3 (c4:=λb=>AA c4 q.d_ q.en b\/b=q.Wg) A8 (λ_ _ _ h=>atr h) ee (λg w' h=>?_) cZ sl ab ac cW ad ae;have⟨f,w2,af,u,T⟩:=h;rw[u];have j:=GA O af T.1;have V:G {wx q f (mN q.s) with mode:=.returning} q.cs=G {(base 12).at ⟨(wx q f (mN q.s)).tmps,[]⟩ (wx q f (mN q.s)).todo with mode:=.returning} q.cs:=c2;rw[V];have W:∀w,(results zS (wx q f (mN q.s)).tmps).run cR w=.ok (.string (mN q.s)) w/\ (results zS (wx q f (mN q.s)).tmps).events cR w #[]=#[]:=λw=>(⟨c2,c2⟩);clear u V;generalize wx q f (mN q.s)=cN at W⊢
   have ag:q.Wg<w'.heap.size:=by have⟨st,j2,u⟩:=T.2;exact(kv.1 u).1
   refine k (λb=>AA c4 q.d_ q.en b\/b=q.Wg) ⟨cN.tmps,[]⟩ cN.todo w' ?_ j.2 ⟨j.1.os,j.1.tape,j.1.output,j.1.size,λc ah ai=>j.1.block c ah ?_⟩ Z W
   .rintro b ((h|rfl|rfl)|rfl)
    .exact .inl h
    .exact .inr ⟨M.1,R⟩
    .exact .inr ⟨J.1,R⟩
    .exact .inr ⟨D.1,ag⟩
   .rintro (h|h|h|h|h|h|h)
    .exact ai h
    all_goals (have:=r.1;omega)
 apply fR.mono (gk:=AA c4 q.d_ q.en) (λb h=>.inl h);have y:∀b,w.heap.size<=b->b≠q.d_->b≠q.en->¬AA c4 q.d_ q.en b:=λb Q c5 eS h=>h.elim (S b Q) λh=>h.elim c5 eS
 refine fR.run (cX:=AtRel) (c3:=Ci (AA c4 q.d_ q.en)) A' (λ_ _ _ h=>h) dc R (λb hb=>by
  rcases hb with rfl|rfl|rfl
  .exact y _ E.1 R R
  .exact y _ r.1 R R
  .exact y _ I.1 R R) (sr (i9 q.s.data.toList)) (s_:=.string q.s) (z:=.string ⟨#[]⟩) (fY:=.string ⟨#[]⟩) (gY:=.agg #[]) ?_
 haveI:Go.ConcX.Payload:=⟨9⟩;refine aly kf (C:=q.la) (y _ r.1 R R) (show WgAt eY.tWg q.Wg w1 0 0 from D.2.1) λd=>dO.pure A'.trans (λw e he=>by simp at he) (g':=Pc q) (qB 4) (.stop λw2 c5=>?_)
 have dI:eX (f6 c4 q) w1 w2:=by obtain⟨X,rfl⟩:=c5;exact(D' (w:=w1) (F:=f6 c4 q) (a:=stA q.Wg) (by simp[f6,stA]) Z (.int .u64 KK)).trans ⟨Z,Z,Z,Z,λ_ _=>Z⟩
 have n:∀b,b≠q.Wg->w2.heap[b]?=w1.heap[b]?:=λb hb=>by
  obtain⟨X,rfl⟩:=c5;exact tw hb _
 have aj:WgAt eY.tWg q.Wg w2 KK 0:=by obtain⟨X,rfl⟩:=c5;exact uX (b:=q.Wg) (o:=0) D.2.1 (.int .u64 KK)
 have D7:=(n q.d_ R).trans M.2.1;have Ht:=(n q.en R).trans J.2.1;have Y:=(n q.lJ R).trans E.2.1;have ak:=(n q.lK R).trans I.2.1;have al:=(n q.la R).trans r.2.1;have am:=(atq gB A B).rel dI;refine⟨c2,_,_,#[],alX,dt,⟨aj,⟨0,0,D7⟩,Ht⟩,?_,?_⟩
 .refine Ay 4 (dO.load (t:=53) (x:=.tmp 5) (eb:=⟨q.lJ,0,cM⟩) (v:=.chan (U q.d_)) kA c2 c2 alC (λc0 h₁=>by
   have:=(h₁.m q.lJ Z).trans Y
   simp[j3,this]) (λc0 es h₁ he=>⟨.refl _ _,λe h=>.inr ⟨⟨q.lJ,0,cM⟩,by rw[he e h],Z,by rw[he e h],by rw[he e h]⟩⟩) λan eS=>Ay 5 (dF.h (Co q) λf=>?_))
  rw[att];exact atk (mj ln (io q.s)) cS (λx f w h=>atn d8 O (by simp[f6]) R R cS Z x f w h) (io q.s) ln [] _ an (am.rel eS.f) c8 Z
 .exact alU (c4:=AA c4 q.d_ q.en) (q:=⟨q.Wg,q.lJ,q.la,q.lK,q.d_,q.en,q.s⟩) (.inr (.inl Z)) (show q.Wg≠q.d_ from R) (show q.la≠q.d_ from R) (show q.s.size<=_ from R) ⟨by simp[j3,Y],by simp[j3,al],by simp[j3,ak]⟩
end
end
section
open Go.Conc Go.Lib Go.Proofs
open Go.ConcR (KK WgAt stA mk)
set_option maxRecDepth 100000
theorem atv{w:c'}{b o v}(h:w.cell? ⟨b,o,cM⟩=U v):b<w.heap.size:=by refine Nat.lt_of_not_le λcY=>?_;unfold j3 at h;simp_all
theorem acV{P f fn c}(a:P.funcs[f]?=U fn)(n:(fn.name== "runtime.NumGoroutine")=L)(hb:fn.body=U c)(vs w):(callFunc f vs).run P w=.ok (.enter f vs) w/\ (callFunc f vs).events P w #[]=#[]:=by
 have o:fn.body.isSome=N:=DG
 have e:fn.name≠ "runtime.NumGoroutine":=by simpa using n
 simp[callFunc,a,e,hb]
section
variable {c4:V->Prop} {dM:dp->c'->Prop} {s:dS} {w:c'} {dJ:eE} {g:dN}
theorem atw(P:cR.follows .mixedOrders=N)(h:it g){x ats}(da:(e5 g).op=.call {callee:=.value (.func 12),args:=#[x],argTypes:=ats})(cU:#[x].map (eA g).eval=#[.string s])
  (z:gG ⟨N,c4⟩ (λc=>w.heap.size<=c) dJ)(cL:fq dJ w)(B:s.size<=1000000)(c8:Gy ln (io s))(cS:(mj ln (io s)).length<=1000000000000)
  (k:∀gk w',gG ⟨N,gk⟩ (λc=>w'.heap.size<=c) dJ->fq dJ w'->(∀b,gk b->c4 b\/w.heap.size<=b)->nX ⟨N,c4⟩ w.heap.size w w'->fR cR dM gk (put g (.string (mN s))) w'):fR cR dM c4 g w:=by
 have E:=Tryz.func12;have y:zS.body=U (zS.body.getD .skip):=c2
 have M:∀c0,(execOp (eA g).eval (e5 g)).run cR c0=.ok (.enter 12 #[.string s]) c0/\ (execOp (eA g).eval (e5 g)).events cR c0 #[]=#[]:=λc0=>by
  have F:(eA g).eval (.func 12)=.func (.func 12) #[] #[]:=rfl
  have e:execOp (eA g).eval (e5 g)=callFunc 12 #[.string s]:=by rw[<-cU];simp[execOp,da,resolve,F,sd,invoke]
  rw[e];exact acV E c2 y _ c0
 have n:∀v,(g.frame.at (eA g) (.inRegion (i6 g) (k8 g::k9 g)::g.frame.todo.tail)).finish v=g.frame.at ((eA g).put (e5 g).dst v) (.inRegion (i6 g) (k9 g)::g.frame.todo.tail):=λv=>by
  rw[Ho,h.op];rfl
 refine fR.y3 (cX:=eX c4) (c3:=i3 c4) (dv:=λg' w'=>eX c4 w w'/\g'=JC s (g.frame.at (eA g) (.inRegion (i6 g) (k8 g::k9 g)::g.frame.todo.tail)::g.callers)) A9 (λ_ _ _ h e C=>C_ (h.du e C)) ?_ λg' w1 H=>?_
 .refine dO.ng h.run λc0 m=>?_
  have K:stepG cR N g c0=.go (G (Bt cR 12 #[.string s] .normal) (g.frame.at (eA g) (.inRegion (i6 g) (k8 g::k9 g)::g.frame.todo.tail)::g.callers)) c0 (listed cR g.frame.fn (eA g) (e5 g) c0):=by
   conv=>lhs;rw[h.eq]
   exact Hp h.op h.wanted h.ne (M c0).1
  refine⟨_,c0,_,K,?_,?_⟩
  .unfold listed;rw[(M c0).2,Bu];exact oJ c0
  .rw[D4 _ E y];exact .stop λf i=>⟨m.trans i,Z⟩
 obtain⟨r,rfl⟩:=H
 have cV:gG ⟨N,c4⟩ (λc=>w1.heap.size<=c) dJ:=z.low λc j=>by rwa[r.size]at j
 refine atu P cV (tj z r cL) B c8 cS λgk a todo dj D J p T I=>?_
 have l:gG ⟨N,gk⟩ (λc=>dj.heap.size<=c) dJ:=⟨λc j dr=>by
   rcases D c dr with h|h
   .exact cV.own c (fJ p.size j) h
   omega,λb o v cU dr=>by
   rcases D b dr with h|h
   .exact cV.mem b o v cU h
   .have j:=tj z r cL b o v cU;have:=atv j
    omega,z.xo⟩
 refine fR.y3 (cX:=eX gk) (c3:=i3 gk) (dv:=λg' w'=>eX gk dj w'/\g'=put g (.string (mN s))) A9 (λ_ _ _ h e C=>C_ (h.du e C)) ?_ λg' S H=>?_
 .refine dO.ng Z λf i=>⟨_,_,_,D3 (b:=base 12) Z T E (I f).1,?_,?_⟩
  .rw[(I f).2,Bu];exact oJ f
  .rw[n];exact .stop λO t=>⟨i.trans t,Z⟩
 obtain⟨d,rfl⟩:=H
 have u:∀c,gk c->c4 c\/w.heap.size<=c:=λc h=>(D c h).imp id λq=>by rw[<-r.size];exact q.1
 refine k gk S (l.low λc j=>by rwa[d.size]at j) (tj l d J) u ⟨d.os.trans (p.os.trans r.os),d.tape.trans (p.tape.trans r.tape),d.output.trans (p.output.trans r.output),by rw[d.size,<-r.size];exact p.size,λc Q A=>?_⟩;rw[d.block c λh=>(u c h).elim A λh=>R,p.block c (by rwa[r.size]) A,r.block c A]
end
end
open Go.Conc Go.Proofs Go.RowKit
theorem gw.rely{cV own cO dJ fK dj st a w c0}(b:gG cV own dJ)(h:gw cV own cO dJ fK dj st a w)(r:eX cV.F w c0):gw cV own cO dJ fK dj st a c0:=by have⟨M,D,Q,f,eS,fy,dz,dW,l5,g,i⟩:=h;exact⟨M,D,Q,tj (b.new Q eS) r f,eS,⟨r.os.trans fy.os,r.tape.trans fy.tape,r.output.trans fy.output,by rw[r.size];exact fy.size,λc d=>(r.block c λe=>d (.inr e)).trans (fy.block c d)⟩,BA (b.new Q eS) r dz,dW,l5,g,i⟩
structure t5(hl:c')(c4:V->Prop)(w:c'):Prop where
 sh:∀b,c4 b->hl.heap.size<=b
 fc:nX ⟨N,λ_=>dA⟩ hl.heap.size hl w
theorem t5.next{hl w w' c4 gk}(h:t5 hl c4 w)(Q:∀b,gk b->c4 b\/w.heap.size<=b)(a:nX ⟨N,c4⟩ w.heap.size w w'):t5 hl gk w':=
 ⟨λb f=>(Q b f).elim (h.sh b) λq=>fJ h.fc.size q,⟨a.os.trans h.fc.os,a.tape.trans h.fc.tape,a.output.trans h.fc.output,fJ h.fc.size a.size,λc d g=>(a.block c (ro d h.fc.size) λe=>by have:=h.sh c e;omega).trans (h.fc.block c d g)⟩⟩
theorem t5.frame{hl cO w c4 own}(h:t5 hl c4 cO)(o:∀c,own c->hl.heap.size<=c)(f:jM (pe ⟨N,c4⟩ own) cO w):t5 hl c4 w:=
 ⟨h.sh,⟨f.os.trans h.fc.os,f.tape.trans h.fc.tape,f.output.trans h.fc.output,fJ h.fc.size f.size,λc q a=>(f.block c λe=>e.elim (λe=>by grind) λe=>by have:=h.sh c e;omega).trans (h.fc.block c q a)⟩⟩
def RC(f:ig)(vs:ea dp)(v:dp):Prop:=
 ∀ {hl:c'} {c4:V->Prop} {dM:dp->c'->Prop} {w:c'} {M:eE} {g:dN} {dD:ea fu} {ats:ea eH},it g->(e5 g).op=.call {callee:=.value (.func f),args:=dD,argTypes:=ats}->dD.map (eA g).eval=vs->
  gG ⟨N,c4⟩ (λc=>w.heap.size<=c) M->fq M w->t5 hl c4 w->(∀(gk:V->Prop) (w':c'),gG ⟨N,gk⟩ (λc=>w'.heap.size<=c) M->fq M w'->t5 hl gk w'->fR cR dM gk (put g v) w')->fR cR dM c4 g w
def acW(o:gC):dB (ig×J fu):=
 match o.op with
 | .call c=>match c.callee with
  | .value (.func f)=>bif d2 f 12 then U (f,c.args.toList) else bif d2 f 11 then U (f,c.args.toList) else cM
  |_=>cM
 |_=>cM
def RD:dn->dh
 | .d _=>N
 | .e4=>N
 | .fd=>N
 |_=>L
def C':J (V×dn)->dh
 | []=>N
 |(_,x)::r=>bif RD x then C' r else L
structure RE(f:ig)(dD:J dn)(db:V->dn)(dst:dB Tmp)(K:fs->Prop):Prop where
 out:∃(RF:J dS) (v:dp) (d:c3) (l:J (V×dn)) (t:Tmp),dD=RF.map (λs=>.d (.str s)) /\RC f (RF.map atx).toArray v/\ (∀M,e1 M d v) /\dst=U t/\C' l=N/\za db l/\K ⟨eO (fo.sa l) t (.d d),λ_=>cM⟩
def wY(o:gC)(db:V->dn)(O:V->dB d4)(a:fs->Prop):Prop:=
 match acW o with
 |some (f,dD)=>RE f (j7 (iW db) dD) db o.dst a
 |none=>uy T cR o (iW db) O λe=>hR db O o.dst e a
def RG(all:ea gC)(o:gC)(a:fs->(fs->Prop)->Prop)(st:fs)(K:fs->Prop):Prop:=
 match st with
  |⟨db,O⟩=>match o.guard with
   |none=>wY o db O λst=>a st K
   |some (g,h1)=>match (all[g]?).bind (·.dst) with
    |none=>dA
    |some t=>match db t with
     | .e4=>bif h1 then wY o db O λst=>a st K else hR db O o.dst ⟨.dP [],[],cM⟩ λst=>a st K
     | .fd=>bif h1 then hR db O o.dst ⟨.dP [],[],cM⟩ λst=>a st K else wY o db O λst=>a st K
     | .d (.bool b)=>jy b
      (bif h1 then wY o (eO db t .e4) O λst=>a st K else hR (eO db t .e4) O o.dst ⟨.dP [],[],cM⟩ λst=>a st K)
      (bif h1 then hR (eO db t .fd) O o.dst ⟨.dP [],[],cM⟩ λst=>a st K else wY o (eO db t .fd) O λst=>a st K)
     | .dP []=>hR db O o.dst ⟨.dP [],[],cM⟩ λst=>a st K
     |_=>dA
def yv(all:ea gC)(l:J gC):fs->(fs->Prop)->Prop:=
 List.rec (motive:=λ_=>fs->(fs->Prop)->Prop) (λst K=>K st) (λo _ a=>RG all o a) l
theorem aty{a o r st K}:yv a (o::r) st K=RG a o (yv a r) st K:=rfl
def RH(ops:ea gC)(draw:dh)(st:fs)(da:m0->fs->Prop):Prop:=
 bif draw then(match st with
  |⟨db,O⟩=>tg T cR ops ops.toList db O [] (da .normal)) else yv ops ops.toList st (da .normal)
def ml(c:Code):fs->(m0->fs->Prop)->Prop:=
 Code.rec (motive:=λ_=>fs->(m0->fs->Prop)->Prop)
  (skip:=λst da=>da .normal st)
  (region:=λ_ ops draw st da=>RH ops draw st da)
  (seq:=λ_ _ A B st da=>A st (HR B da))
  (cond:=λc _ _ A B st da=>Bq c A B st da)
  (block:=λid _ A st da=>A st (HS id da))
  (loop:=λ_ A st da=>Es A st da)
  (rangeFunc:=λ_ _ _ _ _ _ _ _=>dA)
  (exit:=λid st da=>da (.exit id) st)
  (scope:=λ_ _ _ _=>dA)
  (label:=λ_ st da=>da .normal st)
  (goto:=λ_ _ _=>dA)
  (ret:=λst da=>da .ret st)
  (refuse:=λ_ _ _=>dA) c
theorem atz{id ops d st da}:ml (.region id ops d) st da=RH ops d st da:=rfl
theorem atA{a b st da}:ml (.seq a b) st da=ml a st (HR (ml b) da):=rfl
theorem atB{c a b st da}:ml (.cond c a b) st da=Bq c (ml a) (ml b) st da:=rfl
theorem atC{id a st da}:ml (.block id a) st da=ml a st (HS id da):=rfl
theorem atD{a st da}:ml (.loop a) st da=Es (ml a) st da:=rfl
def mO(hl:c')(lo:eE)(c4:V->Prop)(dj:V)(st:fs)(a:e7)(w:c'):Prop:=
 ∃(own:V->Prop) (cO:c') (dJ:eE),gG ⟨N,c4⟩ own dJ/\ (∀c,cO.heap.size<=c->own c) /\ ((∀c,own c->hl.heap.size<=c) /\t5 hl c4 cO/\gJ lo dJ) /\gw ⟨N,c4⟩ own cO dJ (λ_=>cM) dj st a w
section
variable {hl:c'} {lo:eE} {c4:V->Prop} {dM:dp->c'->Prop} {dj:V} {b:gS} {cs:J gS} {k:J Item} {w:c'} {a:e7} {st:fs}
theorem atE{P main F dv ops i rest o}(B:b.kind≠.early)(z:ops[i]?=U o)(hw:jf o (yielded ops a.tmps)=N)
  (h:nT P main F o a w λd9 w'=>iA P main F dv (G (b.at d9 (.inRegion ops rest::k)) cs) w'):iA P main F dv (G (b.at a (.inRegion ops (i::rest)::k)) cs) w:=by
 have u:∀v,(b.at a (.inRegion ops (i::rest)::k)).finish v=b.at (a.put o.dst v) (.inRegion ops rest::k):=λv=>by rw[Ho,z];rfl
 refine iA.ng Z λc0 x=>?_;have:=h c0 x;have C:∀e∈listed P b.fn a o c0,e∈(execOp a.eval o).events P c0 #[]:=λe p=>mem_seen p;generalize H:(execOp a.eval o).run P c0=r at this
 match r,this with
 | .ok (.value v) w',⟨d,n⟩=>rw[stepG_value z hw B H];exact⟨⟨d.mV,λe p=>d.du e (C e p)⟩,n⟩| .ok .skip w',⟨d,n⟩=>rw[stepG_none z hw B H];exact⟨⟨d.mV,λe p=>d.du e (C e p)⟩,n⟩
 | .ok (.enter f vs) w',⟨d,A,c,cV,E,y,dr⟩=>
  rw[Hp z hw B H,D4 _ cV y]
  have j:∀(d9:e7) (g:c') (todo:J Item),(d9.defers=[] /\ ∃v,ul P F A d9.tmps v g/\iA P main F dv (G (b.at (a.put o.dst v) (.inRegion ops rest::k)) cs) g)->
    iA P main F dv (G {(base f).at d9 todo with mode:=.returning} (b.at a (.inRegion ops (i::rest)::k)::cs)) g:=by
   rintro d9 g todo ⟨cP,v,s,n⟩;refine iA.ng Z λt m=>?_;rw[D3 (b:=base f) Z cP cV (s t m).1,u];exact⟨⟨.refl _ _,λe p=>(s t m).2 e (mem_seen p)⟩,n.rely m⟩
  refine⟨⟨d.mV,λe p=>d.du e (C e p)⟩,dr _ dv λe d9 g q=>?_⟩
  cases e with|normal=>exact nh Z (λ_=>stepG_end) (j d9 g [] q)|ret=>exact λtodo=>j d9 g todo q|exit id=>exact q.elim|goto l=>exact q.elim|panic K=>exact q.elim|outgrown=>exact q.elim
theorem fR.RI{g dv}(h:iA cR N c4 dv g w)(k:∀g w,dv g w->fR cR dM c4 g w):fR cR dM c4 g w:=
 fR.y3 (cX:=eX c4) (c3:=i3 c4) A9 (λ_ _ _ h e a=>C_ (h.du e a)) (dO.M8 h) k
theorem fR.ctl{g g'}(b:g.status=.running)(s:∀w,stepG cR N g w=.go g' w)(h:∀c0,eX c4 w c0->fR cR dM c4 g' c0):fR cR dM c4 g w:=
 fR.RI (dv:=λx y=>x=g'/\eX c4 w y) (nh b s (.stop λc0 a=>⟨Z,a⟩)) λ_ _ ⟨e,r⟩=>e▸h _ r
theorem mO.rely(h:mO hl lo c4 dj st a w){c0}(r:eX c4 w c0):mO hl lo c4 dj st a c0:=by have⟨own,cO,dJ,Q,b,fy,eS⟩:=h;exact⟨own,cO,dJ,Q,b,fy,gw.rely Q eS r⟩
theorem mO.BV{s}(h:mO hl lo c4 dj st a w)(l:v4 s st):mO hl lo c4 dj s a w:=by have⟨own,cO,dJ,Q,b,fy,eS⟩:=h;exact⟨own,cO,dJ,Q,b,fy,eS.BV l⟩
theorem fR.op{ops i rest o}(d:b.kind≠.early)(f:ops[i]?=U o)(hw:jf o (yielded ops a.tmps)=N){dj}(jx:∀d9 w' c0,dj d9 w'->eX c4 w' c0->dj d9 c0)
  (h:nT cR N c4 o a w dj)(kk:∀d9 w',dj d9 w'->fR cR dM c4 (G (b.at d9 (.inRegion ops rest::k)) cs) w'):fR cR dM c4 (G (b.at a (.inRegion ops (i::rest)::k)) cs) w:=
 fR.RI (dv:=λg w'=>∃d9,g=G (b.at d9 (.inRegion ops rest::k)) cs/\dj d9 w') (atE d f hw (vQ (λd9 w' cY=>.stop λc0 c=>⟨d9,Z,jx _ _ _ cY c⟩) h)) λg w' ⟨d9,e,cY⟩=>e▸kk d9 w' cY
theorem atG{M D eg x v}(a:RD x=N)(h:dV M D x v):dV M eg x v:=by cases x<;>first|(cases h;first|exact .e4|exact .fd|exact .d _ _ (by assumption))|cases a
theorem acX{M D eg}:∀ {l db} {f:V->dp},C' l=N->za db l->(∀t,dV M D (db t) (f t))->∀t,dV M eg (fo.sa l t) (f t)
 | [],_,_,_,_,_,t=>.dead _
 |(s,x)::r,db,f,h,c,cP,t=>by
  simp only[C']at h
  cases a:RD x with
  |false=>simp_all
  |true=>
   simp[a,fE]at h;simp[fo.sa]
   cases b:d2 t s with
   |true=>have:=gs b;subst this;exact atG a (by have:=cP t;rwa[c.1]at this)
   |false=>exact acX h c.2 cP t
theorem atH{M D}:∀ {a:J dS} {vs},y_ M D (a.map (λs=>.d (.str s))) vs->vs=(a.map atx).toArray:=by
 intro a vs h;refine Array.ext' (EP λi=>?_);rw[iO,ER];have z:=h.1;rw[ef]at z
 cases b:a[i]? with|none=>simp_all|some s=>have cK:=(fM.1 b).1;have cU:vs[i]?=U vs[i]:=yU R;have:=h.2 i (.d (.str s)) vs[i] eG cU;rw[cU,sg this];rfl
theorem atI{ops i rest o}(e:b.kind≠.early)(g:ops[i]?=U o)(hw:jf o (yielded ops a.tmps)=N)(cP:xH dj o)
 {db O K}(h:wY o db O K)(c:mO hl lo c4 dj ⟨db,O⟩ a w)(kk:∀gk s d9 w',K s->mO hl lo gk dj s d9 w'->fR cR dM gk (G (b.at d9 (.inRegion ops rest::k)) cs) w'):
 fR cR dM c4 (G (b.at a (.inRegion ops (i::rest)::k)) cs) w:=by
 unfold wY at h;split at h
 .rename_i f dD m;have H:=g;have I:=c;have⟨RF,v,d,l,t,J,S,q,j,da,n,cX⟩:=h.out;have⟨own,cO,dJ,W,X,E,M,D,Q,P,eS,fy,dz,dW,l5,R,aa⟩:=I
  have p:∃(z:ea fu) (ats:ea eH),o.op=.call {callee:=.value (.func f),args:=z,argTypes:=ats}/\z.toList=dD:=by
   unfold acW at m;split at m
   .rename_i c n;split at m
    .rename_i F ee
     cases y:d2 F 12 with
     |true=>simp[y,fE,fx,IA]at m;obtain⟨rfl,rfl⟩:=m;have⟨dr,cV,T⟩:=c;simp_all
     |false=>
      simp[y,jk]at m
      cases A:d2 F 11 with
      |true=>simp[A,fE,fx,IA]at m;obtain⟨rfl,rfl⟩:=m;have⟨dr,cV,T⟩:=c;simp_all
      |false=>simp_all
    .cases m
   .cases m
  obtain⟨z,ats,ab,rfl⟩:=p;have C:=atH (M:=M) (D:=D) (by rw[<-J];exact IE (zw l5) z)
  have r:e5 (G (b.at a (.inRegion ops (i::rest)::k)) cs)=o:=by show(ops[i]?).getD default=o;rw[H];rfl
  refine S (g:=G (b.at a (.inRegion ops (i::rest)::k)) cs) (M:=M) ⟨Z,by rwa[r],by rwa[r],by show(b.kind==.early)=L;simp_all⟩ (by rwa[r]) C ((W.new Q eS).low λc n=>X c (fJ fy.size n)) P (E.2.1.frame E.1 fy) λgk w' Y V x=>?_
  have u:put (G (b.at a (.inRegion ops (i::rest)::k)) cs) v=G (b.at (a.put o.dst v) (.inRegion ops rest::k)) cs:=by show G (b.at (a.put (e5 (G (b.at a (.inRegion ops (i::rest)::k)) cs)).dst v) (.inRegion ops rest::k)) cs=_;rw[r]
  rw[u];have dc:=cP t j;refine kk gk _ _ w' cX ⟨λc=>w'.heap.size<=c,w',M,Y,λc n=>n,⟨λc n=>fJ x.fc.size n,x,E.2.2.trans Q⟩,M,λ_=>cM,λ_ _ _ h=>h,V,λb o v cU=>.inl cU,⟨Z,Z,Z,fB _,λ_ _=>Z⟩,⟨λb=>⟨λ_=>Z,λ_=>Z⟩,λb h=>(by cases h),λb B cL h=>(by cases h),λb d7 cL ej h=>(by cases h)⟩,λ_ _ _=>Z,λs=>?_,?_,by rwa[j]⟩
  .rw[j,VP eG];show dV M _ (eO _ t _ s) _;unfold eO
   cases y:d2 s t with
   |true=>have:=gs y;subst this;rw[if_pos Z];exact .d _ _ (q M)
   |false=>rw[cT (λe=>by simp_all)];exact acX da n l5 s
  .rw[j];simpa[Go.Act.put]using R
 .have⟨own,cO,dJ,j,l,n,c⟩:=c;exact fR.op e g hw (dj:=λd9 w'=>∃st,K st/\gw ⟨N,c4⟩ own cO dJ (λ_=>cM) dj st d9 w') (λd9 w' c0 ⟨st,q,d⟩ r=>⟨st,q,gw.rely j d r⟩) (VU (cV:=⟨N,c4⟩) sn j l h c cP) λd9 w' ⟨st,q,d⟩=>kk c4 st d9 w' q ⟨own,cO,dJ,j,l,n,d⟩
theorem RJ{ops K}(C:b.kind≠.early)(cP:∀o∈ops,xH dj o)(kk:∀gk s d9 w',K s->mO hl lo gk dj s d9 w'->fR cR dM gk (G (b.at d9 k) cs) w'):
 ∀l i c4 st a w,ops.toList.drop i=l->yv ops l st K->mO hl lo c4 dj st a w->fR cR dM c4 (G (b.at a (.inRegion ops (ts i l.length)::k)) cs) w
 | [],i,c4,st,a,w,E,h,f=>fR.ctl Z (λ_=>stepG_region_end) λc0 r=>kk c4 st a c0 h (f.rely r)
 |o::rest,i,c4,st,a,w,E,h,f=>by
  have F:ops[i]?=U o:=by have:=eR (·[0]?) E;simpa using this
  have q:ops.toList.drop (i+1)=rest:=by have:=eR (zx 1) E;simpa[Nat.add_comm]using this
  have j:=cP o (DU F);have⟨db,O⟩:=st;simp
  have y:jf o (yielded ops a.tmps)=N->∀m,wY o m O (λst=>yv ops rest st K)->mO hl lo c4 dj ⟨m,O⟩ a w->fR cR dM c4 (G (b.at a (.inRegion ops (i::ts (i+1) rest.length)::k)) cs) w:=
   λhw m h f=>atI C F hw j h f λgk s d9 w' I P=>RJ C cP kk rest (i+1) gk s d9 w' q I P
  have skip:jf o (yielded ops a.tmps)=L->∀m,hR m O o.dst ⟨.dP [],[],cM⟩ (λst=>yv ops rest st K)->mO hl lo c4 dj ⟨m,O⟩ a w->fR cR dM c4 (G (b.at a (.inRegion ops (i::ts (i+1) rest.length)::k)) cs) w:=
   λhw m h f=>fR.ctl Z (λ_=>stepG_unwanted F hw) λc0 r=>by
    have⟨own,cO,dJ,z,A,B,f⟩:=f.rely r;exact RJ C cP kk rest (i+1) c4 _ _ c0 q (Bk h).2 ⟨own,cO,dJ,z,A,B,NW f j⟩
  rw[aty]at h;simp[RG]at h
  cases p:o.guard with
  |none=>simp[p]at h;exact y (by simp[jf,p]) db h f
  |some dr=>
   have⟨g,n⟩:=dr;simp[p]at h
   cases H:(ops[g]?).bind (·.dst) with
   |none=>simp_all
   |some t=>
    simp[H]at h
    have d:∃M D,dV M D (db t) (a.tmps.getD t undef):=by have⟨own,cO,dJ,z,A,B,M,D,Q,da,eS,fy,dz,dW,l5,J,R⟩:=f;exact⟨M,D,l5 t⟩
    have⟨M,D,d⟩:=d
    have u:∀(c:dh) m,a.tmps.getD t undef=.bool c->mO hl lo c4 dj ⟨m,O⟩ a w->
     (if c=n then wY o m O (λst=>yv ops rest st K) else hR m O o.dst ⟨.dP [],[],cM⟩ (λst=>yv ops rest st K))->
     fR cR dM c4 (G (b.at a (.inRegion ops (i::ts (i+1) rest.length)::k)) cs) w:=by
     intro c m cU cV h;have cL:=NX H cU
     have hw:jf o (yielded ops a.tmps)=(c==n):=by simp[jf,p,cL]
     by_cases e:c=n
     .grind
     .grind
    have v:∀c:dh,db t=.d (.bool c)->mO hl lo c4 dj ⟨eO db t (bif c then .e4 else .fd),O⟩ a w:=λc x=>by
     have⟨own,cO,dJ,z,A,B,f⟩:=f;exact⟨own,cO,dJ,z,A,B,f.refine x⟩
    split at h
    .rename_i x;apply u N db ((uP d).1 x) f;simp_all
    .rename_i x;apply u L db ((uP d).2 x) f;simp_all
    .rename_i c x;rcases v6 h with⟨rfl,Q⟩|⟨rfl,Q⟩
     .apply u N (eO db t .e4) (n1 (x▸d)) (v N x);simp_all
     .apply u L (eO db t .fd) (n1 (x▸d)) (v L x);simp_all
    .rename_i x;have cU:=NY (x▸d);exact skip (by simp[jf,p,NZ H cU]) db h f
    simp_all
end
structure atJ(hl:c')(lo:eE)(dM:dp->c'->Prop)(dj:V)(b:gS)(k:J Item)(cs:J gS)(da:m0->fs->Prop):Prop where
 n:∀c4 st a w,da .normal st->mO hl lo c4 dj st a w->fR cR dM c4 (G (b.at a k) cs) w
 e:∀i c4 st a w,da (.exit i) st->mO hl lo c4 dj st a w->∃fr,exitTo i k=U fr/\fR cR dM c4 (G (b.at a fr) cs) w
 r:∀c4 st a w,da .ret st->mO hl lo c4 dj st a w->∀todo,fR cR dM c4 (G {b.at a todo with mode:=.returning} cs) w
theorem acY{i x k}(h:x.plain=N):exitTo i (x::k)=exitTo i k:=by cases x<;>simp_all [exitTo,Item.plain]
section
variable {hl:c'} {lo:eE} {dM:dp->c'->Prop} {dj:V} {b:gS} {cs:J gS}
theorem atK(J:b.kind≠.early):∀c k da c4 st a w,ki dj c=N->ml c st da->mO hl lo c4 dj st a w->atJ hl lo dM dj b k cs da->fR cR dM c4 (G (b.at a (.code c::k)) cs) w:=by
 intro c
 induction c with
 |skip=>exact λk da c4 st a w _ h d p=>fR.ctl Z (λ_=>stepG_skip) λc0 r=>p.n c4 st a c0 h (d.rely r)
 |region id ops B=>
  intro k da c4 st a w cP h d p;have C:=λo ab=>IR cP o (by simpa using ab);rw[atz]at h;simp[RH]at h
  cases B with
  |true=>have⟨db,O⟩:=st;have⟨own,cO,dJ,K,I,T,d⟩:=d;have hw:jK cR N c4 b.fn (.region id ops N) (λe a w=>e=.normal/\ ∃st,da .normal st/\gw ⟨N,c4⟩ own cO dJ (λ_=>cM) dj st a w) a w:=Wl (cV:=⟨N,c4⟩) sn K I (λst a w k r=>⟨Z,st,k,r⟩) C nu id h d;refine fR.RI (dv:=λg w'=>∃s d9,g=G (b.at d9 k) cs/\da .normal s/\mO hl lo c4 dj s d9 w') (hw b k cs _ Z J λe d9 w' q=>?_) λg w' ⟨s,d9,e,E,F⟩=>e▸p.n c4 s d9 w' E F;obtain⟨rfl,s,E,F⟩:=q;exact .stop λc0 r=>⟨s,d9,Z,E,own,cO,dJ,K,I,T,gw.rely K F r⟩
  |false=>refine fR.ctl Z (λ_=>stepG_region) λc0 r=>?_;have:=RJ (k:=k) (cs:=cs) (dM:=dM) J C (λgk s d9 w' E F=>p.n gk s d9 w' E F) ops.toList 0 c4 st a c0 Z h (d.rely r);rw[List.range_eq_range'];omega
 |seq x y v z=>
  intro k da c4 st a w cP h d p;simp only[ki]at cP
  cases Q:ki dj x with
  |false=>simp_all
  |true=>simp[Q,fE]at cP;rw[atA]at h;refine fR.ctl Z (λ_=>stepG_seq) λc0 r=>v (.code y::k) _ c4 st a c0 Q h (d.rely r) ⟨λc4 st a w q l=>z k da c4 st a w cP q l p,λi c4 st a w q l=>?_,λc4 st a w q l=>p.r c4 st a w q l⟩;rw[acY Z];exact p.e i c4 st a w q l
 |cond o x y v z=>
  intro k da c4 st a w cP h d p;simp only[ki]at cP
  cases Q:ki dj x with
  |false=>simp_all
  |true=>
   simp[Q,fE]at cP;have⟨db,O⟩:=st;rw[atB]at h;simp[Bq]at h
   have m:∃M D,dV M D (iW db o) (a.eval o):=by have⟨own,cO,dJ,K,I,T,M,D,dG,ac,X,ag,ah,ai,ad,aj,ak⟩:=d;exact⟨M,D,zw ad o⟩
   have⟨M,D,m⟩:=m;have H:a.eval o=.bool N->ml x ⟨db,O⟩ da->fR cR dM c4 (G (b.at a (.code (.cond o x y)::k)) cs) w:=λe h=>fR.ctl Z (λ_=>Ty e) λc0 r=>v k da c4 _ a c0 Q h (d.rely r) p;have no:a.eval o=.bool L->ml y ⟨db,O⟩ da->fR cR dM c4 (G (b.at a (.code (.cond o x y)::k)) cs) w:=λe h=>fR.ctl Z (λ_=>Ty e) λc0 r=>z k da c4 _ a c0 cP h (d.rely r) p;split at h
   .rename_i A;exact H ((uP m).1 A) h
   .rename_i A;exact no ((uP m).2 A) h
   .rename_i c A;rcases v6 h with⟨rfl,q⟩|⟨rfl,q⟩
    .exact H (n1 (A▸m)) q
    .exact no (n1 (A▸m)) q
   simp_all
 |block id x dr=>
  intro k da c4 st a w cP h d p;rw[atC]at h;refine fR.ctl Z (λ_=>stepG_block) λc0 r=>dr (.inBlock id::k) _ c4 st a c0 cP h (d.rely r) ⟨λc4 st a w q l=>fR.ctl Z (λ_=>stepG_inBlock) λc0 r=>p.n c4 st a c0 q (l.rely r),λi c4 st a w q l=>?_,λc4 st a w q l=>p.r c4 st a w q l⟩;replace q:bif d2 i id then da .normal st else da (.exit i) st:=q
  cases hb:d2 i id with
  |true=>have:=gs hb;subst this;rw[hb]at q;exact⟨k,by simp[exitTo],p.n c4 st a w q l⟩
  |false=>
   rw[hb]at q;have⟨fr,t,Y⟩:=p.e i c4 st a w q l
   have:(id==i)=L:=by simp;exact λe=>G1
   exact⟨fr,by simp[exitTo,this,t],Y⟩
 |loop x dr=>
  intro k da c4 st a w cP h d p;rw[atD]at h;have h:=h.out;have⟨ae,S,cX,W,⟨j,cL,af⟩,u⟩:=h
  have dc:∀(n:V) (j:ae) (c4:V->Prop) (a:e7) (w:c'),W j=n->cX j->mO hl lo c4 dj (S j) a w->fR cR dM c4 (G (b.at a (.code x::.inLoop x::k)) cs) w:=by
   intro n
   induction n using s6 with
   |_ n P=>
    intro j c4 a w cY cL d;refine dr (.inLoop x::k) _ c4 (S j) a w cP (u j cL) d ⟨λc4 st a w q l=>?_,λi c4 st a w q l=>?_,λc4 st a w q l=>p.r c4 st a w q l⟩
    .have⟨aa,dG,ac,X⟩:=q;exact fR.ctl Z (λ_=>stepG_inLoop) λc0 r=>P (W aa) R aa c4 a c0 Z dG ((l.rely r).BV X)
    .rw[acY Z];exact p.e i c4 st a w q l
  exact fR.ctl Z (λ_=>stepG_loop) λc0 r=>dc (W j) j c4 a c0 Z cL ((d.rely r).BV af)
 |rangeFunc f al x y _ _=>exact λk da c4 st a w _ h=>h.elim
 |exit id=>
  exact λk da c4 st a w _ h d p=>by
   have⟨fr,t,_⟩:=p.e id c4 st a w h d;refine fR.ctl Z (λ_=>stepG_exit t) λc0 r=>?_;have⟨eF,am,Y⟩:=p.e id c4 st a c0 h (d.rely r);simp_all
 |scope x dr=>exact λk da c4 st a w _ h=>h.elim
 |label l=>exact λk da c4 st a w _ h d p=>fR.ctl Z (λ_=>stepG_label) λc0 r=>p.n c4 st a c0 h (d.rely r)
 |goto l=>exact λk da c4 st a w _ h=>h.elim
 |ret=>exact λk da c4 st a w _ h d p=>fR.ctl Z (λ_=>stepG_ret') λc0 r=>p.r c4 st a c0 h (d.rely r) _
 |refuse y=>exact λk da c4 st a w _ h=>h.elim
end
def kt(k:V):I:=1+3010*k
structure jH(k:V)(x:hX):Prop where
 e0:x.e0.length<=k/\ ∀o∈x.e0,rT o
 eD:x.eD.length<=k/\ ∀o∈x.eD,rT o
 eo:x.eo.length<=k/\ ∀o∈x.eo,rT o
 gg:x.gg.length<=k/\ ∀o∈x.gg,rT o
 wk:x.hQ<=4
 gX:x.gX=iw
 m:∀m,x.m=U m->g5 (kt k) m
def Dh{k}(h:k<=230):kt k<=700000:=DL
def R7(k):1<=kt k:=DL
def jH.ln:jH 0 ln:=⟨⟨fB 0,fun o h=>by cases h⟩,⟨fB 0,fun o h=>by cases h⟩,⟨fB 0,fun o h=>by cases h⟩,⟨fB 0,fun o h=>by cases h⟩,by decide,Z,fun m h=>by cases h⟩
def jH.lS{k x}(h:jH k x):o7 (kt k) (o6 x):=by
 have a:=R7 k;unfold o6
 cases e:x.m with|none=>simp only;rw[h.gX];exact o7.new R|some m=>exact(h.m m e).lS
def jH.ok{k x}(h:jH k x)(b:k<=230):Ry x:=by have t:=Dh b;have Q:=R7 k;have:=h.e0.1;have:=h.eD.1;have:=h.eo.1;have:=h.gg.1;have:=h.wk;exact⟨⟨R,R,R,R⟩,R,λm a=>⟨(h.m m a).adu t,(h.m m a).auv⟩,λn o=>h.lS.us R n o⟩
def La{k}{l:J gH}(h:l.length<=k/\ ∀o∈l,rT o):l.length<=k+1/\ ∀o∈l,rT o:=⟨R,h.2⟩
def R8{k m}(a:k+1<=230)(h:g5 (kt k) m):g5 (kt (k+1)) m:=h.up DL (by have:=Dh a;omega)
def jH.up{k x}(a:k+1<=230)(h:jH k x):jH (k+1) x:=⟨La h.e0,La h.eD,La h.eo,La h.gg,h.wk,h.gX,λm b=>R8 a (h.m m b)⟩
def auy(w:dS):pq w<=4:=by
 unfold pq;repeat' split
 all_goals decide
def Lb{k l o}(h:l.length<=k/\ ∀o∈l,rT o)(a:rT o):(l++[o]).length<=k+1/\ ∀kh∈l++[o],rT kh:=g3
def jH.add{k x}(b:k+1<=230)(h:jH k x)(w){o}(a:rT o):jH (k+1) (C7 x w o):=by
 have u:=h.up b;unfold C7;split
 .exact⟨Lb h.e0 a,u.eD,u.eo,u.gg,u.wk,u.gX,u.m⟩
 .exact⟨u.e0,Lb h.eD a,u.eo,u.gg,u.wk,u.gX,u.m⟩
 .exact⟨u.e0,u.eD,Lb h.eo a,u.gg,u.wk,u.gX,u.m⟩
 .exact⟨u.e0,u.eD,u.eo,Lb h.gg a,u.wk,u.gX,u.m⟩
def jH.note{k x}(a:k+1<=230)(h:jH k x)(ws):jH (k+1) (mL x ws).1:=by
 have u:=h.up a;unfold mL;split
 .exact u
 split
 .rename_i w id c e;split
  .exact u
  .apply h.add a w;have Q:=auy (ws.getD 1 .empty);have b:=acN e;exact⟨by omega,by grind⟩
 .exact u
def yz{k}:([]:J gH).length<=k/\ ∀o∈([]:J gH),rT o:=⟨e3 _,λo h=>g0⟩
def jH.start{k x}(g:k+1<=230)(h:jH k x)(ws):jH (k+1) (mM x ws).1:=by
 have u:=h.up g;have t:=Dh g;unfold mM;split
 .rename_i a b e;split
  .exact u
  split
  .rename_i fy f;refine⟨yz,yz,yz,yz,by simp_all,h.gX,λm i=>?_⟩
   cases i
   have:=g5.new (R7 (k+1)) R u.lS (n:=(b:I)) f.2 (todo:=t4 x a) f.1 λl c o d=>by
    have c:=QQ c;simp at c;rcases c with rfl|rfl|rfl|rfl
    .exact h.e0.2 o d
    .exact h.eD.2 o d
    .exact h.eo.2 o d
    .exact h.gg.2 o d
   assumption
  .exact⟨yz,yz,yz,yz,h.wk,h.gX,u.m⟩
 .exact u
def auz{k m}(a:k+1<=230)(h:g5 (kt k) m)(o w):g5 (kt (k+1)) (pH m o w).1:=by
 have t:=Dh a;have u:=R8 a h;have e:kt k+3010=kt (k+1):=DL;unfold pH
 repeat' split
 .exact(h.qY R).up R R
 .exact(h.round R o L).up R R
 all_goals exact u
def auA{k m}(a:k+1<=230)(h:g5 (kt k) m)(o w n):g5 (kt (k+1)) (countP m o w n).1:=by
 have t:=Dh a;have u:=R8 a h;have e:kt k+3010=kt (k+1):=DL;have r:=(Gv m o (min n 500)).le;unfold countP
 repeat' split
 .exact(h.step R n).up R R
 .exact(h.fin R n L).up R R
 .exact(h.fin R n N).up R R
 .exact(h.gD R n).up R R
 .exact(h.gF o [] (sP m o (min n 500)) R).up R R
 all_goals exact u
def jH.line{k x}(a:k+1<=230)(h:jH k x)(line):jH (k+1) (gA x line).1:=by
 have u:=h.up a;unfold gA;split
 .exact u
 .rename_i w ws _;unfold Gw;split
  .exact h.note a ws
  split
  .exact h.start a ws
  split
  .exact u
  .rename_i l _;unfold sQ;split
   .exact u
   split
   .exact u
   .rename_i m c;split
    .exact⟨u.e0,u.eD,u.eo,u.gg,u.wk,u.gX,λd b=>by cases b;exact auz a (h.m m c) _ _⟩
    .exact⟨u.e0,u.eD,u.eo,u.gg,u.wk,u.gX,λd b=>by cases b;exact auA a (h.m m c) _ _ _⟩
def jH.all:∀(ls) {k x},jH k x->k+ls.length<=230->(∀l∈ls,l.size<=1000000)->Gy x ls
 | [],_,_,_,_,_=>trivial|l::ls,k,x,h,c6,s=>⟨h.ok R,s l (.head _),jH.all ls (h.line AM l) AM λb a=>s b (.tail _ a)⟩
structure GI(b:dS):Prop where
 cQ:b.size<=1000000
 nl:∀c∈b.data.toList,c≠10
 pre:[111,107]<+:b.data.toList\/ [101,114,114,111,114,32]<+:b.data.toList
def R9:∀k n,∀c∈kW k n,c≠10
 |0,_,c,h=>g0
 |k+1,n,c,h=>by
  have eP:∀m:V,m<10->UInt8.ofNat (48+m)≠10:=c1;unfold kW at h;split at h
  .simp at h;subst h
   first|exact eP _ R|(have:=eP n R;simpa using this)
  .rcases h3.1 h with h|h
   .exact R9 k _ c h
   .simp at h;subst h
    first|exact eP _ (mu _ c1)|(have:=eP (n%10) (mu _ c1);simpa using this)
def auB(l):∀c∈jQ l,c≠10:=by
 induction l with
 |nil=>intro c h;cases h
 |cons n l i=>
  intro c h;simp[jQ,pr,m3,h3]at h;rcases h with rfl|h|h
  .decide
  .exact R9 20 n c h
  simp_all
def AC{l}(h:l.length<=40000):GI (gx l):=by
 have b:=Jx l;refine⟨?_,λc a=>?_,.inl ⟨jQ l,Z⟩⟩
 .show([111,107]++jQ l).toArray.size<=1000000;simp;omega
 .have a:c∈[111,107]++jQ l:=a;simp at a;rcases a with rfl|rfl|a
  .decide
  .decide
  .exact auB l c a
def adv(n):(jD n).data.toList=[101,114,114,111,114,32]++nv n:=by rfl
def Di(n):GI (jD n):=by
 refine⟨?_,λc h=>?_,.inr ⟨nv n,(adv n).symm⟩⟩
 .have:=rs n;show((⟨#[101,114,114,111,114,32]⟩:dS)++iE n).size<=1000000;rw[kK];show 6+(iE n).size<=1000000;omega
 .rw[adv]at h;rcases h3.1 h with h|h
  .grind
  .exact R9 20 n c h
def Lc(b):GI (wX b):=by
 cases b
 .exact⟨c1,c1,.inl ⟨[32,110,111],Z⟩⟩
 .exact⟨c1,c1,.inl ⟨[32,121,101,115],Z⟩⟩
def jH.out{k x}(a:k<=230)(h:jH k x)(line):GI (gA x line).2:=by
 have t:=Dh a;have z:GI (gx []):=AC c1;unfold gA;split
 .rename_i hw;exact dQ hw aeu
 .rename_i w ws _;unfold Gw;split
  .unfold mL
   repeat' split
   all_goals first|exact Di _|exact z
  split
  .unfold mM
   repeat' split
   all_goals first|exact Di _|exact z
  split
  .exact Di _
  .rename_i l _;unfold sQ;split
   .exact Di _
   split
   .exact Di _
   .rename_i m b;have K:=h.m m b;have F:=K.adu t;have e:=K.j7;split
    .unfold pH
     repeat' split
     .exact z
     .exact Lc _
     .exact AC (by rw[K0];omega)
     .exact AC (by rw[K1];have:=F.pl;omega)
     .exact AC eG
     .exact z
    .unfold countP
     repeat' split
     .exact Lc _
     .exact Lc _
     .exact Lc _
     .exact z
     .exact AC eG
     .exact AC eG
     .unfold sO;split
      .exact AC (by rw[wW];exact fJ (acH F.l1) c1)
      .exact Di _
     .exact z
def adw:∀(ls) {k x},jH k x->k+ls.length<=230->(mj x ls).length<=1000001*ls.length
 | [],_,_,_,_=>fB 0
 |l::ls,k,x,h,c6=>by
  have Q:=adw ls (h.line AM l) AM;have a:=(h.out R l).cQ;have e:(gA x l).2.data.toList.length=(gA x l).2.size:=m6;simp[mj,kG,pW];omega
structure GJ(s:dS):Prop where
 cQ:s.size<=1000000
 Ld:(io s).length<=230
theorem adx:∀l,∀x∈i9 l,x.length<=l.length
 | [],x,h=>g0
 |b::l,x,h=>by
  have i:=adx l;unfold i9 at h;grind
theorem GJ.small{s}(h:GJ s):∀l∈io s,l.size<=1000000:=by intro l a;obtain⟨x,b,rfl⟩:=h4.1 a;have:=adx _ x b;have e:s.data.toList.length=s.size:=m6;have Q:=h.cQ;show x.toArray.size<=1000000;simp;omega
theorem auC{s}(h:GJ s):RC 12 #[.string s] (.string (mN s)):=by
 intro hl c4 dM w M g dD ats a o cU cV c8 K k;have⟨c⟩:=dD
 have l:c.length=1:=by have:=eR Array.size cU;simpa using this
 obtain⟨x,rfl⟩:=List.length_eq_one_iff.1 l;have n:=h.Ld;refine atw nu a (x:=x) o cU cV c8 h.cQ (jH.all _ jH.ln R h.small) ?_ λgk w' q b d e=>k gk w' q b (K.next d e);have:=adw (io s) jH.ln R;omega
theorem ady{fn}{t:Tmp}(h:fn.results=#[.tmp t])(tmps w):(results fn tmps).run cR w=.ok (tmps.getD t undef) w/\ (results fn tmps).events cR w #[]=#[]:=by unfold results;simp_all
theorem auD{b:gS}{f a todo v w}(cY:b.kind=.normal)(cP:a.defers=[])(c:cR.funcs[b.fn]?=U f)(h:¬2=b.fn)(r:(results f a.tmps).run cR w=.ok v w):
  stepG cR N (G {b.at a todo with mode:=.returning} []) w=.ended (.done v) w (seen cR b.fn ((results f a.tmps).events cR w #[])):=by
 simp[G,stepG,unwind,doReturn,Frame.at,cY,cP,c,r,h,GStep.after]
def nS(t:Tmp):m0->fs->Prop
 | .exit _,_=>dA
 |_,st=>st.db t=.d (.bool N)
theorem gG.sub{cV own M a}(h:gG cV own a)(s:gJ M a)(g:Eh M):gG cV own M:=⟨h.own,λb o v cU=>h.mem b o v (s b o v cU),g⟩
section
variable {c4:V->Prop} {dM:dp->c'->Prop} {hl w:c'} {M:eE} {f:ig} {fn:Func} {t:Tmp} {dx:J c3} {vs:ea dp} {cs:J gS}
theorem adz{c}(z:cR.funcs[f]?=U fn)(y:fn.body=U c)(d:ki fn.ntmps c=N)(cY:dx.length<=fn.ntmps)(A:fn.results=#[.tmp t])(h:ml c ⟨pS dx,λ_=>cM⟩ (nS t))
  (cV:gG ⟨N,c4⟩ (λc=>w.heap.size<=c) M)(m:fq M w)(SR:ly M dx vs)(K:t5 hl c4 w)
  (k:∀gk a todo w',gG ⟨N,gk⟩ (λc=>w'.heap.size<=c) M->fq M w'->t5 hl gk w'->a.defers=[]->a.tmps.getD t undef=.bool N->fR cR dM gk (G {(base f).at a todo with mode:=.returning} cs) w'):
  fR cR dM c4 (G ((base f).at {tmps:=vs++kx (fn.ntmps-vs.size) undef,defers:=[]} [.code c]) cs) w:=by
 have s:vs.size<=fn.ntmps:=aez
 have fin:∀(st:fs) (gk:V->Prop) (a:e7) (w':c') (todo:J Item),st.db t=.d (.bool N)->mO hl M gk fn.ntmps st a w'->fR cR dM gk (G {(base f).at a todo with mode:=.returning} cs) w':=by intro st gk a w' todo B n;have⟨own,cO,dJ,u,x,j,e,D,Q,g,eS,fy,dz,dW,l5,C,p⟩:=n;refine k gk a todo w' (gG.sub ((u.new Q eS).low λc d=>x c (fJ fy.size d)) (j.2.2.trans Q) cV.xo) (λb o v cU=>g b o v (Q b o v (j.2.2 b o v cU))) (j.2.1.frame j.1 fy) p (n1 (M:=e) (D:=D) g3)
 refine atK (hl:=hl) (lo:=M) (by simp[base]) c [] _ c4 _ _ w d h ⟨λc=>w.heap.size<=c,w,M,cV,λ_ h=>h,⟨λc d=>fJ K.fc.size d,K,.refl M⟩,Fa m SR s⟩ ⟨λgk st a w' q l=>fR.ctl Z (λ_=>stepG_end) λc0 r=>fin st gk a c0 [] q (l.rely r),λi gk st a w' q l=>q.elim,λgk st a w' q l todo=>fin st gk a w' todo q l⟩
theorem auE{c}(x:cR.funcs[f]?=U fn)(n:(fn.name== "runtime.NumGoroutine")=L)(l:fn.body=U c)(m:ki fn.ntmps c=N)(cY:dx.length<=fn.ntmps)(F:fn.results=#[.tmp t])(h:ml c ⟨pS dx,λ_=>cM⟩ (nS t))(z:∀M,ly M dx vs):RC f vs (.bool N):=by
 intro hl c4 dM w M g dD ats D dj cU cV c8 cL k
 have u:∀c0,(execOp (eA g).eval (e5 g)).run cR c0=.ok (.enter f vs) c0/\ (execOp (eA g).eval (e5 g)).events cR c0 #[]=#[]:=λc0=>by
  have B:(eA g).eval (.func f)=.func (.func f) #[] #[]:=rfl
  have e:execOp (eA g).eval (e5 g)=callFunc f vs:=by rw[<-cU];simp[execOp,dj,resolve,B,sd,invoke]
  rw[e];exact acV x n l _ c0
 have o:∀v,(g.frame.at (eA g) (.inRegion (i6 g) (k8 g::k9 g)::g.frame.todo.tail)).finish v=g.frame.at ((eA g).put (e5 g).dst v) (.inRegion (i6 g) (k9 g)::g.frame.todo.tail):=λv=>by
  rw[Ho,D.op];rfl
 have R:=D.eq;refine fR.y3 (cX:=eX c4) (c3:=i3 c4) (dv:=λg' w'=>eX c4 w w'/\g'=G ((base f).at {tmps:=vs++kx (fn.ntmps-vs.size) undef,defers:=[]} [.code c]) (g.frame.at (eA g) (.inRegion (i6 g) (k8 g::k9 g)::g.frame.todo.tail)::g.callers)) A9 (λ_ _ _ h e A=>C_ (h.du e A)) ?_ λg' w1 C=>?_
 .refine dO.ng D.run λc0 p=>?_
  have E:stepG cR N g c0=.go (G (Bt cR f vs .normal) (g.frame.at (eA g) (.inRegion (i6 g) (k8 g::k9 g)::g.frame.todo.tail)::g.callers)) c0 (listed cR g.frame.fn (eA g) (e5 g) c0):=by
   conv=>lhs;rw[D.eq]
   exact Hp D.op D.wanted D.ne (u c0).1
  refine⟨_,c0,_,E,?_,?_⟩
  .unfold listed;rw[(u c0).2,Bu];exact oJ c0
  .rw[D4 _ x l];exact .stop λi j=>⟨p.trans j,Z⟩
 obtain⟨r,rfl⟩:=C;have K:=cL.next (λb l=>.inl l) ⟨r.os,r.tape,r.output,xy r.size.symm,λc _ y=>r.block c y⟩;refine adz x l m cY F h (cV.low λc m=>by rwa[r.size]at m) (tj cV r c8) (z M) K λgk a todo P H O I J Q=>?_;have s:=ady F a.tmps;rw[Q]at s;refine fR.y3 (cX:=eX gk) (c3:=i3 gk) (dv:=λg' w'=>eX gk P w'/\g'=put g (.bool N)) A9 (λ_ _ _ h e A=>C_ (h.du e A)) ?_ λg' da C=>?_
 .refine dO.ng Z λi j=>⟨_,_,_,D3 (b:=base f) Z J x (s i).1,?_,?_⟩
  .rw[(s i).2,Bu];exact oJ i
  .rw[o];exact .stop λdr q=>⟨j.trans q,Z⟩
 obtain⟨d,rfl⟩:=C;exact k gk da (H.low λc m=>by rwa[d.size]at m) (tj H d O) (I.next (λb l=>.inl l) ⟨d.os,d.tape,d.output,xy d.size.symm,λc _ y=>d.block c y⟩)
theorem auF{c}(k:cR.funcs[f]?=U fn)(l:fn.body=U c)(u:ki fn.ntmps c=N)(cY:dx.length<=fn.ntmps)(m:fn.results=#[.tmp t])(h:ml c ⟨pS dx,λ_=>cM⟩ (nS t))
  (o:¬2=f)(q:Eh M)(e:fq M w)(s:ly M dx vs)(P:∀w',Below w.heap.size w w'->dM (.bool N) w'):fa cR dM (solo (G (Bt cR f vs .normal) []) w) #[]:=by
 have y:fR cR dM (λ_=>dA) (G ((base f).at {tmps:=vs++kx (fn.ntmps-vs.size) undef,defers:=[]} [.code c]) []) w:=by refine adz (hl:=w) k l u cY m h ⟨λ_ _=>id,λ_ _ _ _=>id,q⟩ e s ⟨λb h=>h.elim,⟨Z,Z,Z,fB _,λ_ _ _=>Z⟩⟩ λgk a todo w' x z p A B=>fR.finish ⟨Z,λc0 hw=>?_⟩;have r:=ady m a.tmps;rw[B]at r;obtain⟨d,rfl⟩:=hw;refine⟨_,_,auD (b:=base f) Z A k o (r _).1,?_,P _ ⟨p.fc.os,p.fc.tape,p.fc.output,p.fc.size,λc Q=>p.fc.block c Q id⟩⟩;rw[(r _).2,Bu];simp
 rw[solo_eq_crowd,D4 _ k l];refine y #[_] cM #[] (λ_=>0) dt ⟨λi g cW _ v=>?_,λj _=>Z⟩ ⟨λn h=>by obtain⟨i,j,_,⟨a,b,e,_⟩,_⟩:=h;simp[adA]at e,λi a h=>by simp[touchAt,adA]at h,λi g h=>by simp[Trace.g?]at h,λi a h=>by simp[adA]at h,Z⟩;simp_all
end
theorem adB{dD:J dn}{db:V->dn}{t:Tmp}{K:fs->Prop}{s:dS}(l:J (V×dn))(h:GJ s)(k:K ⟨eO (fo.sa l) t (.d (.str (mN s))),λ_=>cM⟩)(x:dD=[.d (.str s)]:=by rfl)(a:C' l=N:=by rfl)(c:za db l:=by repeat' constructor):RE 12 dD db (U t) K:=
 ⟨[s],.string (mN s),.str (mN s),l,t,x,auC h,λM=>.str _,rfl,a,c,k⟩
section
set_option maxRecDepth 100000
def sS:dS:=⟨#[112,117,109,112,10,100,111,32,48,32,110,101,119,32,49,10,100,111,32,49,32,119,114,105,116,101,32,49,32,97,98,10,115,116,97,114,116,32,50,32,49,10,114,117,110,32,53,48,10,112,97,103,101,115,10,115,116,97,116,101,32,48,10,114,101,97,100,32,50,10,99,108,111,99,107,10,119,104,97,116]⟩
def R_:dS:=⟨#[101,114,114,111,114,32,49,51,10,111,107,10,111,107,10,111,107,10,111,107,32,57,10,111,107,32,49,32,50,10,111,107,32,48,32,48,10,101,114,114,111,114,32,51,10,111,107,32,49,56,32,48,10,101,114,114,111,114,32,50,10]⟩
def sT{a b:dS}(h:a.data.toList=b.data.toList):a=b:=ByteArray.ext (zu.1 h)
def auG:(io sS).length=10:=c2
def qj:V->hX
 |0=>ln
 |k+1=>(gA (qj k) ((io sS).getD k .empty)).1
end
section
set_option maxRecDepth 100000
def j':gH:=(1,1,fI)
def ox:gH:=(3,1,⟨#[97,98]⟩)
def r0:lQ:=(0,d')
def t8(p:fW):ey:=mg p 1 [[j'],[ox]]
def nx(p:fW)(cO w1:fH)(h:hH)(l:hz)(c:I)(du:J sH):ey:=⟨[cO,w1],p,h,(eL 17 yh).set 1 l,⟨0,L,[cM,cM],0,[]⟩,c,du⟩
def KI(m:ey):ey:=(kq m 2 L).1
def mQ(m k):gF m 2 [] (k+1)=KI (gF m 2 [] k):=rfl
def R'(st:V)(qB:dh):fH:=⟨[j'],0,st,N,qB,0,0,r0⟩
def yB(st:V)(qB:dh):fH:=⟨[ox],0,st,N,qB,1,0,r0⟩
def AD(o:gH):fH:=⟨[o],1,0,L,L,0,0,r0⟩
def Le(a b:dh):hH:=⟨1,[(0,a),(1,b)],[]⟩
def Sa(p:fW):ey:=nx p (R' 3 L) (yB 2 L) (Le L L) ⟨[0],N,[(1,N)]⟩ 6 []
def adC(p:fW):ey:=nx p (R' 5 N) (yB 2 L) (Le N L) ⟨[0],N,[(1,N)]⟩ 8 []
def adD(p:fW):ey:=nx (gI p j').1 ⟨[j'],0,6,N,N,0,8,(gI p j').2⟩ (yB 2 L) (Le N L) ⟨[0],N,[(1,N)]⟩ 10 []
def Dj(p:fW)(r:lQ):ey:=nx p (AD j') (yB 3 L) ⟨1,[(1,L)],[]⟩ ⟨[1],N,[]⟩ 12 [⟨0,j',r,0,8,10⟩]
def Sb(p:fW)(r:lQ):ey:=nx p (AD j') (yB 5 N) ⟨1,[(1,N)],[]⟩ ⟨[1],N,[]⟩ 14 [⟨0,j',r,0,8,10⟩]
def adE(p:fW)(r:lQ):ey:=nx (gI p ox).1 (AD j') ⟨[ox],0,6,N,N,1,15,(gI p ox).2⟩ ⟨1,[(1,N)],[]⟩ ⟨[1],N,[]⟩ 16 [⟨0,j',r,0,8,10⟩]
def AE(p:fW)(r q:lQ):ey:=nx p (AD j') (AD ox) ⟨1,[],[]⟩ yh 18 [⟨0,j',r,0,8,10⟩,⟨1,ox,q,1,15,17⟩]
def tV(p):gF (t8 p) 2 [] 3=Sa p:=c2
def auH(p):(gz (Sa p) 0).1=nx p (R' 5 N) (yB 2 L) (Le N L) ⟨[0],N,[(1,N)]⟩ 7 []:=by show(if rI p 1=L/\ ((1:I)=2\/ (1:I)=3) then(_:ey×dh) else _).1=_;rw[cT (λg=>dQ g.2 c1)];rfl
def adF(m):KI m=(hP (mf (gz (gz m 0).1 1).1) 0 L).1:=rfl
def Dl(p):KI (Sa p)=adC p:=by rw[adF,auH];kernel_rfl
def yn(p):KI (adC p)=adD p:=c2
def Lf(p):KI (adD p)=Dj (gI p j').1 (gI p j').2:=c2
def auI(p r):(gz (Dj p r) 0).1=nx p (AD j') (yB 3 L) ⟨1,[(1,L)],[]⟩ ⟨[1],N,[]⟩ 13 [⟨0,j',r,0,8,10⟩]:=c2
def auJ(p r)(h:rI p 1=N):(gz (nx p (AD j') (yB 3 L) ⟨1,[(1,L)],[]⟩ ⟨[1],N,[]⟩ 13 [⟨0,j',r,0,8,10⟩]) 1).1=Sb p r:=by show(if rI p 1=L/\ ((3:I)=2\/ (3:I)=3) then(_:ey×dh) else _).1=_;rw[cT (λg=>by simp_all)];rfl
def Sc(p r)(h:rI p 1=N):KI (Dj p r)=Sb p r:=by rw[adF,auI,auJ p r h];kernel_rfl
def adG(p r):KI (Sb p r)=adE p r:=c2
def auK(p r):KI (adE p r)=AE (gI p ox).1 r (gI p ox).2:=c2
end
end Dk
end Go.Lk
namespace Go.Lk.Dk
open Go Go.Proofs Go.RowKit
set_option maxRecDepth 100000
def auU{k:V}(Q:1<=k)(a:k<=8):iH iw k=(ja k,0):=by have:=RP (n:=k) Q8 Rh R R;assumption
def t9:fW:=(gI (ja 1) j').1
def AF:fW:=(gI t9 ox).1
def Lg:V->e_:=hI (λ_=>d') 1 (q3 1)
def Sd:V->e_:=hI Lg 1 (nD (Lg 1) ⟨#[97,98]⟩)
def adI:(gI (ja 1) j').2=(0,q3 1) /\lT t9 Lg 1:=by have h:=Db (RV (fB 1) c1) (fB 1) j' Z;assumption
def auV:kP t9.f=[1]:=by
 have cW:kP (ja 1).f=[0]:=c2;have⟨j,Q,a⟩:=auT (RV (fB 1) c1) (q:=1) (fB 1) c1 Z (i:=0) c1 c2 fI;rw[cW]at Q a
 match j,Q,a with
 |0,_,a=>exact a
def Se:rI t9 1=N:=(auS adI.2 (q:=1) (fB 1)).2 (by rw[auV];grind)
def auW:lT AF Sd 1:=by have h:=Db adI.2 (fB 1) ox Z;have e:(jc Lg ox).1=Sd:=c2;rw[e]at h;exact h.2
def adJ:∃r q,gF (t8 (ja 1)) 2 [] 9=AE AF r q:=by refine⟨(gI (ja 1) j').2,(gI t9 ox).2,?_⟩;rw[mQ,mQ,mQ,mQ,mQ,mQ,tV,Dl,yn,Lf];show KI (KI (KI (Dj t9 _)))=_;rw[Sc t9 _ Se,adG,auK];rfl
def auX : ∀i, i < 9 → o2 (gF (t8 (ja 1)) 2 [] i) 2 = N := by
  intro i cK;refine acw.2 ⟨1, c1, ?_⟩
  have e : ∀(m : ey) (cO w1 : fH) (p : fW) (h : hH) (l : hz) (c : I) (du : J sH), m = nx p cO w1 h l c du → w1.todo.length = 1 → w1.ended = 0 → 0 < hA m 1 := by intro m cO w1 p h l c du b d a;subst b;show(0 : I) < (w1.todo.length : I) - w1.ended;rw[d, a]; decide
  match i, cK with
  | 0, _ => have h : (1 : I) = hA (gF (t8 (ja 1)) 2 [] 0) 1 := by kernel_rfl
            omega
  | 1, _ => have h : (1 : I) = hA (gF (t8 (ja 1)) 2 [] 1) 1 := by kernel_rfl
            omega
  | 2, _ => have h : (1 : I) = hA (gF (t8 (ja 1)) 2 [] 2) 1 := by kernel_rfl
            omega
  | 3, _ => rw[tV]; exact e _ _ _ _ _ _ _ _ Z Z Z| 4, _ => rw[mQ, tV, Dl]; exact e _ _ _ _ _ _ _ _ Z Z Z| 5, _ => rw[mQ, mQ, tV, Dl, yn]; exact e _ _ _ _ _ _ _ _ Z Z Z| 6, _ => rw[mQ, mQ, mQ, tV, Dl, yn, Lf]; exact e _ _ _ _ _ _ _ _ Z Z Z| 7, _ => rw[mQ, mQ, mQ, mQ, tV, Dl, yn, Lf]; show 0 < hA (KI (Dj t9 _)) 1; rw[Sc t9 _ Se]; exact e _ _ _ _ _ _ _ _ Z Z Z| 8, _ => rw[mQ, mQ, mQ, mQ, mQ, tV, Dl, yn, Lf]; show 0 < hA (KI (KI (Dj t9 _))) 1; rw[Sc t9 _ Se, adG]; exact e _ _ _ _ _ _ _ _ Z Z Z
def adK:o2 (gF (t8 (ja 1)) 2 [] 9) 2=L:=by have⟨r,q,e⟩:=adJ;rw[e];rfl
def auY:sP (t8 (ja 1)) 2 50=9:=by
 have r:=Gv (t8 (ja 1)) 2 50;have l:=r.le;refine r.uniq ?_ auX adK;rcases r.stop with e|e
 .have:=r.all 9 R;rw[adK]at this;cases this
 .exact e
end Go.Lk.Dk
namespace Go.Lk.Dk
open Go Go.Proofs Go.RowKit
set_option maxRecDepth 100000
def auZ:qj 3=⟨[j'],[ox],[],[],iw,cM,0⟩:=c2
def adL:gA (qj 3) ((io sS).getD 3 .empty)=(⟨[],[],[],[],iw,U (t8 (ja 1)),2⟩,gx []):=by rw[auZ];have e:gA ⟨[j'],[ox],[],[],iw,cM,0⟩ ((io sS).getD 3 .empty)=mM ⟨[j'],[ox],[],[],iw,cM,0⟩ [⟨#[50]⟩,⟨#[49]⟩]:=c2;have o:=auU (k:=1) c1 c1;rw[e,Rv (x:=⟨[j'],[ox],[],[],iw,cM,0⟩) (a:=2) (b:=1) c2 c1 ⟨⟨c1,c1,c1⟩,eR adM o⟩];have c:(iH (o6 ⟨[j'],[ox],[],[],iw,cM,0⟩) ((1:V):I)).1=ja 1:=eR PT o;rw[c];rfl
def au0:qj 4=⟨[],[],[],[],iw,U (t8 (ja 1)),2⟩:=eR PT adL
def au1:∃r q,gA (qj 4) ((io sS).getD 4 .empty)=(⟨[],[],[],[],iw,U (AE AF r q),2⟩,gx [9]):=by rw[au0];have⟨r,q,h⟩:=adJ;refine⟨r,q,?_⟩;have e:∀m:ey,gA ⟨[],[],[],[],iw,U m,2⟩ ((io sS).getD 4 .empty)=(⟨[],[],[],[],iw,U (gF m 2 [] (sP m 2 50)),2⟩,gx [sP m 2 50]):=λm=>c2;rw[e,auY,h]
def adN(r q):ll (AE AF r q)=[Sd 1]:=by rw[RU (m:=AE AF r q) auW];kernel_rfl
def nb(k:V):dS:=(io sS).getD k .empty
def vw(m:ey):hX:=⟨[],[],[],[],iw,U m,2⟩
def au2(m):gA (vw m) (nb 5)=(vw m,gx (rQ (ll m))):=c2
def au3(m):gA (vw m) (nb 6)=(vw m,gx [ou m 0,(hA m 0).toNat]):=c2
def au4(m):gA (vw m) (nb 7)=(vw m,sO m 2):=c2
def au5(m):gA (vw m) (nb 8)=(vw m,gx [m.d5.toNat,m.s.out.length]):=c2
def au6(m):(gA (vw m) (nb 9)).2=jD 2:=c2
def au7:io sS=[nb 0,nb 1,nb 2,nb 3,nb 4,nb 5,nb 6,nb 7,nb 8,nb 9]:=c2
def sU(x l ls):mj x (l::ls)=(gA x l).2.data.toList++10::mj (gA x l).1 ls:=rfl
def au8:mN sS=R_:=by
 apply sT;show mj (qj 0) (io sS)=R_.data.toList;have⟨r,q,fy⟩:=au1;have e:gA (qj 0) (nb 0)=(qj 1,jD 13):=Prod.ext Z c2;have g:gA (qj 1) (nb 1)=(qj 2,gx []):=Prod.ext Z c2;have a:gA (qj 2) (nb 2)=(qj 3,gx []):=Prod.ext Z c2;have b:gA (qj 3) (nb 3)=(qj 4,gx []):=Prod.ext Z (by have:=eR adM adL;exact this);have c:gA (qj 4) (nb 4)=(vw (AE AF r q),gx [9]):=fy
 have d:sO (AE AF r q) 2=jD 3:=by rw[sO,adN,ac7 (λx f=>by rw[lE.1 f];exact λh=>dQ (show(1:I)=2 from h) c1),cT (λh=>by cases h)]
 rw[au7,sU,e,sU,g,sU,a,sU,b,sU,c,sU,au2,adN,sU,au3,sU,au4,d,sU,au5,sU,au6];show _=R_.data.toList
 kernel_rfl
end Go.Lk.Dk
namespace Go.Lk
namespace Dk
open Go.Proofs Go.RowKit
def cW:hH:=⟨1,[],[]⟩
def au9(s:dS)(i:V):hj:=s.data.getD i 0
def ava:GJ sS:=⟨c1,by rw[auG];decide⟩
def avb:ml (adO.body.getD .skip) ⟨pS [],λ_=>cM⟩ (nS 0):=by
 conv=>whnf
 refine adB (s:=sS) [] ava (cO ?_);rw[au8];exact de Z
def adP{dD:J dn}{db:V->dn}{t:Tmp}{K:fs->Prop}(l:J (V×dn))(k:K ⟨eO (fo.sa l) t (.d (.bool N)),λ_=>cM⟩)(x:dD=[]:=by rfl)(h:C' l=N:=by rfl)(c:za db l:=by repeat' constructor):RE 11 dD db (U t) K:=
 ⟨[],.bool N,.bool N,l,t,x,auE (f:=11) (fn:=adO) (dx:=[]) (t:=0) Tryz.func11 c2 (c:=adO.body.getD .skip) c2 c2 (e3 _) c2 avb λM=>⟨Z,λi d v h=>ql⟩,λM=>.bool _,rfl,h,c,k⟩
def avc:∀ {l},i9 l=[]->l=[]
 | [],_=>rfl
 |b::l,h=>by
  unfold i9 at h;grind
def GK(b:hj)(l:J hj):i9 (b::l)=if b=10 then []::i9 l else match i9 l with
  | []=>[[b]]|x::dD=>(b::x)::dD:=rfl
def adQ:∀a b,i9 (a++10::b)=i9 (a++[10])++i9 b
 | [],b=>by rfl
 |c::a,b=>by
  have i:=adQ a b;rw[pr,pr,GK c,GK c]
  by_cases h:c=10
  .simp_all
  .rw[cT h,cT h,i]
   cases e:i9 (a++[10]) with|nil=>have:=avc e;simp at this|cons x dD=>rfl
def nK:hX->J dS->hX
 |x,[]=>x
 |x,l::ls=>nK (gA x l).1 ls
def adR:∀A B x,mj x (A++B)=mj x A++mj (nK x A) B
 | [],B,x=>rfl
 |a::A,B,x=>by
  have i:=adR A B (gA x a).1;simp[pr,mj,nK,i,jC,pr]
def nP(a b:dS):(a++b).data.toList=a.data.toList++b.data.toList:=by rfl
def avd(s m):io (s++⟨#[10]⟩++m)=io (s++⟨#[10]⟩)++io m:=by unfold io;rw[nP,nP];rw[jC];show Js _ (i9 (s.data.toList++10::m.data.toList))=_;rw[adQ,jt]
def ave(a r:dS):(a++r).extract 0 a.size=a:=by apply sT;have h:a.data.toList.length=a.size:=m6;rw[OZ,YS,nP];simp_all
def Dm(k n:V):dS:=⟨(kW k n).toArray⟩
def Lh(n:V):qx [48+(n)%10]=⟨#[eP n]⟩:=by rfl
def adS{k n}(h:n<10):Dm (k+1) n=⟨#[eP n]⟩:=by unfold Dm kW;grind
def avf{k n}(h:¬n<10):Dm (k+1) n=Dm k (n/10)++⟨#[eP n]⟩:=by apply sT;rw[nP];show kW (k+1) n=_;rw[kW,cT h];rfl
def avg:∀(k n:V),n<10^(k+1)->n<1000000000000->k<20->dX cR 13 [n] (.str (Dm (k+1) n)):=by
 intro k
 induction k with
 |zero=>intro n h b c;refine d6 avh 1 Z c2 (de ?_);refine e' ?_;exact dd Z (eR c3.str (by rw[Lh,adS R]))
 |succ k i=>
  intro n h b c;refine d6 avh 1 Z c2 (de ?_);refine e' ?_
  refine d3 (λa=>?_) λa=>?_
  .refine de ?_;refine OR R R (by rw[rp];omega) (cO ?_);rw[show(n:I)/10=((n/10:V):I) by omega];refine dH ?_;refine df (i (n/10) R R R) (c9 ?_);have l:(Dm (k+1) (n/10)).size<=k+1:=Jt (k+1) (n/10)
   have Q:(qx [48+(n:I)%10]).size=1:=by rw[Lh];rfl
   refine e' ?_;exact dd Z (eR c3.str (by rw[Lh,avf (k:=k+1) R]))
  .refine de ?_;exact dd Z (eR c3.str (by rw[Lh,adS R]))
def GL(n:V)(h:n<1000000):dX cR 13 [n] (.str (iE n)):=
 avg 19 n (ro h c1) R c1
def adT:∀ {x},(∀c∈x,c≠10)->i9 (x++[10])=[x]
 | [],_=>by rfl
 |c::x,h=>by
  rw[pr,GK,cT (h c (.head _)),adT λd cP=>h d (.tail _ cP)]
def avi{x}(h:∀c∈x.data.toList,c≠10):io (x++⟨#[10]⟩)=[x]:=by unfold io;rw[nP,adT h];rfl
def adU:∀ {x},(∀c∈x,c≠32)->mE x=[x]
 | [],_=>rfl
 |c::x,h=>by
  unfold mE;rw[cT (h c (.head _)),adU λd cP=>h d (.tail _ cP)]
def adV:∀ {x:J hj} (y:J hj),(∀c∈x,c≠32)->mE (x++32::y)=x::mE y
 | [],y,_=>by rfl
 |c::x,y,h=>by
  rw[pr]
  conv=>lhs;unfold mE
  rw[cT (h c (.head _)),adV y λd cP=>h d (.tail _ cP)]
def Dn{w d}(Q:∀c∈w.data.toList,c≠32):jI (w++⟨#[32]⟩++d)=w::jI d:=by unfold jI;rw[nP,nP,jC];show Js _ (mE (w.data.toList++32::d.data.toList))=_;rw[adV _ Q,kD,X2]
def Li{w}(Q:∀c∈w.data.toList,c≠32):jI w=[w]:=by unfold jI;rw[adU Q,kD,X2];rfl
def adW:∀a b n,iZ n (a++b)=(iZ n a).bind λm=>iZ m b
 | [],b,n=>rfl
 |c::a,b,n=>by
  rw[pr,iZ,iZ];split
  .rfl
  .exact adW a b _
def Lj(n):(eP n).toNat=48+n%10:=by show(48+n%10)%256=_;omega
def adX:∀k n,n<10^k->iZ 0 (kW k n)=U n
 |0,n,h=>by rw[show n=0 by omega];rfl
 |k+1,n,h=>by
  have cP:∀m,iZ m [eP n]=U (10*m+n%10):=λm=>by
   have e:=Lj n;rw[iZ,e,cT R,iZ];grind
  unfold kW;split
  .simp_all
  .rw[adW,adX k (n/10) R];grind
def adY:∀k j n,n<10^(j+1)->(kW k n).length<=j+1
 |0,j,n,h=>e3 _
 |k+1,j,n,h=>by
  unfold kW;split
  .simp
  .cases j with|zero=>omega|succ j=>have:=adY k j (n/10) aeA;simp;omega
def adZ:∀k n,0<(kW (k+1) n).length:=by intro k n;unfold kW;grind
def ad0:∀k n,0<n->n<10^k->(kW k n).head?≠U 48
 |0,n,h,c=>by simp[kW]
 |k+1,n,h,c=>by
  unfold kW;split
  .intro e;simp at e;have:=eR UInt8.toNat e;rw[Lj]at this;grind
  .have i:=ad0 k (n/10) R R
   cases e:kW k (n/10) with
   |nil=>
    cases k with|zero=>omega|succ k=>have:=adZ k (n/10);simp_all
   |cons a b=>simp_all
def Sf{n}(h:n<1000000000):lI (iE n)=U n:=by
 have l:(iE n).size=(nv n).length:=by rw[iE];rfl
 have Q:(nv n).length<=9:=adY 20 8 n h;have cW:0<(nv n).length:=adZ 19 n;unfold lI;rw[cT]
 .exact adX 20 n (Ti h c1)
 .rintro (g|g|⟨dG,a⟩)
  .omega
  .omega
  .have O:0<n:=AY λe=>by
    subst e;rw[l]at dG;exact dQ dG c1
   have:=ad0 20 n O (Ti h c1);apply this;have e:(iE n).data.toList=nv n:=Z;rw[um,<-ER,e]at a;show(nv n).head? =U 48
   rw[List.head?_eq_getElem?,fe cW]at*
   simp_all
def ad1:∀ {x},x≠[]->(∀c∈x,c≠10)->i9 x=[x]
 | [c],_,h=>by rw[GK,cT (h c (.head _))];rfl|c::d::x,_,h=>by rw[GK,cT (h c (.head _)),ad1 dt λe a=>h e (.tail _ a)]
def avj{x}(a:x.data.toList≠[])(h:∀c∈x.data.toList,c≠10):io x=[x]:=by unfold io;rw[ad1 a h];rfl
def ad2:∀k n,∀c∈kW k n,48<=c.toNat
 |0,_,c,h=>g0
 |k+1,n,c,h=>by
  unfold kW at h;split at h
  .rw[lE.1 h,Lj];omega
  .rcases h3.1 h with h|h
   .exact ad2 k _ c h
   .rw[lE.1 h,Lj];omega
def Do{n x}(a:x.toNat<48):∀c∈(iE n).data.toList,c≠x:=λc h e=>by
 have:=ad2 20 n c h;grind
def Gn:∀A B x,nK x (A++B)=nK (nK x A) B
 | [],B,x=>rfl|a::A,B,x=>Gn A B (gA x a).1
theorem ad3(a):(JB a).size=a.size:=rfl
theorem avk{c K:Prop}(k:K)(h:c:=by first|decide|omega|(simp only [ByteArray.size_append,ad3,List.size_toArray,List.length_cons,List.length_nil];omega)):jL c K:=⟨⟨h,k⟩⟩
theorem lU{K G:Prop}(k:K)(h:jP K->G:=by intro k;(conv=>whnf);(repeat ((first|with_reducible refine pa ?_|with_reducible refine yR ?_|refine AT ?_|refine AU ?_|refine avk ?_|refine yS ?_|refine G8 ?_|refine G9 ?_|with_reducible refine LQ ?_);conv=>whnf));exact k.k):G:=h ⟨k⟩
structure oy(s:dS)(n:V)(x:hX)(e:dS):Prop where
 nl:s=⟨#[]⟩ \/ ∃t,s=t++⟨#[10]⟩
 Ld:(io s).length=n
 run:nK ln (io s)=x
 rep:mN s=e
theorem oy.nil:oy ⟨#[]⟩ 0 ln ⟨#[]⟩:=⟨.inl Z,Z,Z,Z⟩
section
variable {s cL line out E e:dS} {n:V} {x iz:hX}
theorem oy.lines(h:oy s n x e)(m):io (s++m)=io s++io m:=by
 rcases h.nl with rfl|⟨t,rfl⟩
 .rfl
 .exact avd t m
theorem oy.app(h:oy s n x e)(m):mN (s++m)=e++⟨(mj x (io m)).toArray⟩:=by apply sT;rw[nP,<-h.rep,<-h.run];show mj ln _=mj ln _++mj _ _;rw[h.lines,adR]
theorem oy.add(h:oy s n x e)(l:gA x line=(iz,out))(d:∀c∈line.data.toList,c≠10)(f:cL=line++⟨#[10]⟩)(a:E=out++⟨#[10]⟩):oy (s++cL) (n+1) iz (e++E):=by
 subst f a;have b:=avi d;refine⟨.inr ⟨s++line,by rw[avl]⟩,by rw[h.lines,b,kG,h.Ld];rfl,?_,?_⟩
 .rw[h.lines,b,Gn,h.run];show(gA x line).1=_;rw[l]
 .rw[h.app,b];congr 1;apply sT;rw[nP];rw[sU,l];rfl
theorem oy.last(h:oy s n x e)(l:(gA x line).2=out)(b:∀c∈line.data.toList,c≠10)(cY:line.data.toList≠[]):mN (s++line)=e++(out++⟨#[10]⟩) /\ (io (s++line)).length=n+1:=by have a:=avj cY b;refine⟨?_,by rw[h.lines,a,kG,h.Ld];rfl⟩;rw[h.app,a];congr 1;apply sT;rw[nP];rw[sU,l];rfl
end
theorem avm{w k d}(hw:∀c∈w.data.toList,c≠32)(a:∀c∈k.data.toList,c≠32):jI (⟨#[100,111,32]⟩++w++(⟨#[32]⟩++k++⟨#[32]⟩++d))=⟨#[100,111]⟩::w::k::jI d:=by have e:(⟨#[100,111,32]⟩:dS)++w++(⟨#[32]⟩++k++⟨#[32]⟩++d)=⟨#[100,111]⟩++⟨#[32]⟩++(w++⟨#[32]⟩++(k++⟨#[32]⟩++d)):=sT Lr;rw[e,Dn c1,Dn hw,Dn a]
theorem Sg(x){w k d}{W:V}(hw:∀c∈w.data.toList,c≠32)(h:∀c∈k.data.toList,c≠32):gA x (⟨#[100,111,32]⟩++w++(⟨#[32]⟩++k++⟨#[32]⟩++d))=mL x (w::k::jI d):=by unfold gA;rw[avm hw h];rfl
theorem ad4(x){w k d W dr}(hw:lI w=U W)(cP:lI d=U dr)(fy:W<4)(h:pq k≠0):mL x [w,k,d]=(C7 x W (pq k,dr,.empty),gx []):=by unfold mL;grind
theorem avn(x){w k d b W dr}(hw:lI w=U W)(cP:lI d=U dr)(fy:W<4)(h:pq k≠0):mL x [w,k,d,b]=(C7 x W (pq k,dr,b),gx []):=by unfold mL;grind
theorem avo(x){a b}(d:∀c∈a.data.toList,c≠32)(f:∀c∈b.data.toList,c≠32):gA x (⟨#[115,116,97,114,116,32]⟩++a++⟨#[32]⟩++b)=mM x [a,b]:=by have e:(⟨#[115,116,97,114,116,32]⟩:dS)++a++⟨#[32]⟩++b=⟨#[115,116,97,114,116]⟩++⟨#[32]⟩++(a++⟨#[32]⟩++b):=sT Lr;unfold gA;rw[e,Dn c1,Dn d,Li f];rfl
theorem avp{a b}(h:a<1000000000)(c:b<1000000000):kY [iE a,iE b]=U [a,b]:=by rw[kY,Sf h,kY,Sf c];rfl
def avq(P){id:V}{b}(cW:(P id).1≠0)(h:b.size<=16)(cU:(P id).2.1≠2147483647):(jc P (3,(id),b)).1=hI P id (nD (P id) b):=by simp[jc,cW,cU,Nat.not_lt.2 h]
def avr{α}(P q)(x y:α):hI (hI P q x) q y=hI P q y:=by funext k;simp[hI];split<;>rfl
def avs{P x q}(Q:1<=q)(h:q<=16)(b:P q=x)(a:x.1≠0)(z:∀k,k≠q->(P k).1=0):yw P 16=[x]:=by
 have y:∀n,yw P n=if q<=n then [x] else []:=by
  intro n
  induction n with
  |zero=>rw[cT R];rfl
  |succ n i=>
   have e:yw P (n+1)=yw P n++(GC P n).toList:=Gs ..
   rw[e,i,GC];grind
 simp_all
def o7.avt{T d}(h:o7 T d){k:V}(k1:1<=k)(a:k<=8):iH d k=(⟨m_ k,d,0⟩,0):=by have cP:d=⟨d.sec,[]⟩:=Lw;have e:=RP (n:=k) h.rest h.sM R R;grind
def yC(l:J gH):V->e_:=l.foldl (λP o=>(jc P o).1) λ_=>d'
theorem ad5(l o):yC (l++[o])=(jc (yC l) o).1:=by rw[yC,FR];rfl
def AG(w:fH):V:=if w.st=6 then w.ended+1 else w.ended
theorem avu(P){o}(h:o.1=2):(jc P o).1=P:=by rw[jc,cT R];grind
structure vx(ops:J gH)(n:V)(m:ey):Prop where
 cO:∃w,m.ws[0]?=U w/\w.todo=ops/\lT m.p (yC (ops.take (AG w))) n
 GM:∀(k:V) (w:fH),m.ws[k]?=U w->k≠0->∀o∈w.todo,o.1=2
 GN:∀(k:V) (w:fH),m.ws[k]?=U w->∀o∈w.todo,lR o=L
theorem fH.ad6{w:fH}(h:w.ended<w.todo.length):w.todo[w.ended]?=U w.op/\w.op∈w.todo:=by
 have e:=fe h
 have a:w.op=w.todo[w.ended]:=by rw[fH.op,e];rfl
 simp_all
theorem vx.upd{ops n m}(h:vx ops n m){k w w' p' d l s' c e}(b:m.ws[k]?=U w)(o:w'.todo=w.todo)
  (O:∀P,lT m.p P n->k=0->P=yC (ops.take (AG w))->w.todo=ops->lT p' (yC (ops.take (AG w'))) n)(q:∀P,lT m.p P n->k≠0->lT p' P n):vx ops n ⟨m.ws.set k w',p',d,l,s',c,e⟩:=by
 have⟨cO,f,t,eW⟩:=h.cO;have i:=(fM.1 b).1;refine⟨?_,λj v a z=>?_,λj v a=>?_⟩
 .grind
 .rcases rR a with⟨rfl,rfl⟩|⟨_,g⟩
  .rw[o];exact h.GM _ w b z
  .exact h.GM j v g z
 .rcases rR a with⟨rfl,rfl⟩|⟨_,g⟩
  .rw[o];exact h.GN _ w b
  .exact h.GN j v g
theorem vx.h2{ops n m}(h:vx ops n m){k w w' a l s' c v}(b:m.ws[k]?=U w)(g:w'.todo=w.todo)(f:AG w'=AG w):vx ops n ⟨m.ws.set k w',m.p,a,l,s',c,v⟩:=
 h.upd b g (λP d _ e _=>by simp_all) λP d _=>d
theorem w3{w}(h:w.st≠6):AG w=w.ended:=cT h
theorem vx.hc{ops n m kV}(h:vx ops n m)(fh:1<=n)(dE:w0 m)(F1:pJ kV)(t:ov m kV):vx ops n kV:=by
 cases t with
 |same hi ko s' mX dg=>exact⟨h.cO,h.GM,h.GN⟩
 |gD a=>have⟨w,e,t,d⟩:=h.cO;exact⟨⟨w,e,t,d.gD a _⟩,h.GM,h.GN⟩
 |Dc k w hi c6 c7 he=>exact h.h2 c6 Z ((w3 dt).trans (w3 (w:=w) R).symm)
 |wZ k w a p s hi ko s' c6 Q dz c5 dW=>exact h.h2 c6 Z ((w3 g3).trans (w3 (w:=w) R).symm)
 |Dd k w s' c6 c7=>exact h.h2 c6 Z ((w3 dt).trans (w3 (w:=w) R).symm)
 |fail k w s' c6 c7=>have dw:=(fM.1 c6).1;exact dQ Z (F1.w k (me w (8,d') (m.d5-1)) eG Z)
 |refuse k w c6 c7 dI=>have:=h.GN k w c6 _ (fH.ad6 (dE.ju k w c6 R)).2;simp_all
 |work k w c6 c7 dI=>
  have⟨b,g⟩:=fH.ad6 (dE.ju k w c6 R);refine h.upd c6 Z (λP d c i j=>?_) λP d c=>?_
  .have f:=(Db d fh w.op dI).2;have l:AG (me w (gI m.p w.op).2 m.d5)=w.ended+1:=if_pos Z;rw[j]at b;have o:=(fM.1 b).1;rw[l,avv o,(fM.1 b).2,ad5];rw[w3 R]at i;simp_all
  .have f:=(Db d fh w.op dI).2;rwa[avu P (h.GM k w c6 c _ g)]at f
 |leave k w hi ko c6 c7=>exact h.h2 c6 Z ((w3 (by show 0≠6;decide)).trans (if_pos c7).symm)
structure mR(ops:J gH)(n:V)(work:J (J gH))(m:ey):Prop where
 cK:q5 (λ_=>d') n work m
 F1:pJ m
 Ll:vx ops n m
section
variable {ops:J gH} {n:V} {work:J (J gH)} {m:ey}
theorem mR.step(h:mR ops n work m)(k):mR ops n work (gz m k).1:=by have f:=h.F1.step h.cK.g.ok h.cK.tr k;exact⟨h.cK.step k,f,h.Ll.hc h.cK.tr.fh h.cK.dE f (RX h.cK.g.ok k)⟩
theorem mR.gd (h:mR ops n work m):∀ k,mR ops n work (gd m k).1
 |0=>h
 |k+1=>(mR.gd h k).step k
theorem mR.round(h:mR ops n work m)(q):mR ops n work (kq m q L).1:=by have Q:=h.gd (min q 4);have f:pJ (mf (Go.Lk.gd m (min q 4)).1):=Q.F1.h2 Z Z;have a:mR ops n work (mf (Go.Lk.gd m (min q 4)).1):=⟨Q.cK.qY,f,Q.Ll.hc Q.cK.tr.fh Q.cK.dE f (.same _ _ _ _ (.inl Z))⟩;have b:=f.fin 0;exact⟨a.cK.fin 0 L,b,a.Ll.hc a.cK.tr.fh a.cK.dE b (RY a.cK.g.ok 0 L)⟩
theorem mR.gF (h:mR ops n work m) (q:V):∀ i,mR ops n work (gF m q [] i)
 |0=>h
 |i+1=>(mR.gF h q i).round q
theorem mR.done(h:mR ops n work m)(l:o2 m work.length=L):lT m.p (yC ops) n/\ou m 0=0/\ (hA m 0).toNat=0:=by have z:=aur h.cK.g l;have⟨w,e,t,d⟩:=h.Ll.cO;have⟨s1,s2⟩:=aus h.cK.g z 0 w e;refine⟨?_,by rwa[ou,e],by grind⟩;rwa[w3 R,s2,t,p9]at d
end
theorem mR.new{ops b}(c:1<=b)(d:b<=8){r}(fy:(ops::r).length<=4)(i:∀l∈r,∀o∈l,o.1=2)(cU:∀l∈ops::r,∀o∈l,lR o=L):mR ops b (ops::r) (mg (ja b) b (ops::r)):=by
 have cP:=RV c d;have cK:=q5.Ew cP Z c d (work:=ops::r) dt fy
 have s:∀(k:V) (w:fH),(mg (ja b) b (ops::r)).ws[k]?=U w->∃l,(ops::r)[k]?=U l/\w=pB l:=λk w h=>by
  replace h:((ops::r).map pB)[k]?=U w:=h;grind
 refine⟨cK,⟨λk w h=>?_,λe f=>(by cases f)⟩,⟨⟨pB ops,Z,Z,cP⟩,λk w h z o a=>?_,λk w h o a=>?_⟩⟩
 .obtain⟨l,_,rfl⟩:=s k w h;exact λg=>dQ (show 0=6 from g) c1
 .obtain⟨l,e,rfl⟩:=s k w h
  match k,z,e with
  |k+1,_,e=>exact i l (jg e) o a
 .obtain⟨l,e,rfl⟩:=s k w h;exact cU l (jg e) o a
def nc{v}{a b:dS}(d:∀c∈a.data.toList,c≠v)(e:∀c∈b.data.toList,c≠v):∀c∈(a++b).data.toList,c≠v:=λc h=>by
 rw[nP]at h;grind
def oy.cast{s s' e a n b x}(h:oy s n x e)(Q:s=s')(c:n=b)(eS:e=a):oy s' b x a:=Q▸c▸eS▸h
def Lm(a b c:dS):a++b++c=a++(b++c):=avl
def sV:dS:=⟨#[111,107,10]⟩
def Ln:sV=gx []++⟨#[10]⟩:=sT Z
def Lo(dr:V):V->dS
 |0=>⟨#[100,111,32,48,32,110,101,119,32]⟩++iE dr++⟨#[10]⟩
 |i+1=>Lo dr i++(⟨#[100,111,32,48,32,119,114,105,116,101,32]⟩++iE dr++⟨#[32,120,10]⟩)
def o8:V->dS
 |0=>sV
 |i+1=>o8 i++sV
def e8:dS:=⟨#[48]⟩
def avw:dS:=⟨#[110,101,119]⟩
def avx:dS:=⟨#[119,114,105,116,101]⟩
def Sh:dS:=⟨#[114,117,110,32,53,48,48]⟩
def ad7:dS:=⟨#[112,97,103,101,115]⟩
def sW(m:ey)(n:V):hX:=⟨[],[],[],[],iw,U m,n⟩
def avy(m n):gA (sW m n) Sh=(sW (gF m n [] (sP m n 500)) n,gx [sP m n 500]):=c2
def avz(m n):gA (sW m n) ad7=(sW m n,gx (rQ (ll m))):=c2
def avA{x a b ws}(cY:kY ws=U [a,b])(h:¬4<a)(t:vt (t4 x a))(e:x.gX=iw)(cP:o7 2147483647 (o6 x))(c:1<=b)(d:b<=8):
  mM x ws=(sW (mg ⟨m_ b,o6 x,0⟩ b (t4 x a)) a,gx []):=by
 have o:=cP.avt c d;rw[Rv cY h ⟨t,eR adM o⟩,eR PT o,e];rfl
def avB:o7 2147483647 iw:=o7.new c1
def t_(b:V):V->dS
 |0=>⟨#[]⟩
 |i+1=>t_ b i++qx [97+((b:I)+i)%26]
def Si(b):∀i,(t_ b i).size=i
 |0=>rfl|i+1=>by rw[t_,kK,Si b i];rfl
def ad8(b):∀i,∀c∈(t_ b i).data.toList,97<=c.toNat
 |0,c,h=>g0
 |i+1,c,h=>by
  rw[t_,nP]at h;rcases h3.1 h with h|h
  .exact ad8 b i c h
  .have h:=h;rw[lE.1 h,UInt8.toNat_ofNat'];omega
def ad9{b i v}(cU:v.toNat<97):∀c∈(t_ b i).data.toList,c≠v:=λc h e=>by
 have:=ad8 b i c h;grind
def wd(b:V):dS:=t_ b (1+b%16)
def Lp(b):(wd b).size=1+b%16:=Si b _
def Sj:dS:=⟨#[55]⟩
def avC:dS:=⟨#[114,101,97,100]⟩
def vy(l:J V):V->dS
 |0=>⟨#[100,111,32,48,32,110,101,119,32,55,10]⟩
 |i+1=>vy l i++(⟨#[100,111,32,48,32,119,114,105,116,101,32,55,32]⟩++wd (l.getD i 0)++⟨#[10]⟩)
def jw(l:J V):V->dS
 |0=>⟨#[]⟩
 |i+1=>wd (l.getD i 0)
def nO(l:J V):V->J gH
 |0=>[(1,7,fI)]
 |i+1=>nO l i++[(3,7,wd (l.getD i 0))]
def Sk(l):∀i,(nO l i).length=1+i
 |0=>rfl|i+1=>by rw[nO,kG,Sk l i];rfl
def aea(l):∀i,∀o∈nO l i,lR o=L
 |0,o,h=>by rw[lE.1 h];rfl
 |i+1,o,h=>by
  rcases h3.1 h with h|h
  .exact aea l i o h
  .rw[lE.1 h];rfl
def sX(l:J V):V->e_
 |0=>q3 7
 |i+1=>nD (sX l i) (wd (l.getD i 0))
def GO(l):∀i,(sX l i).1=7/\ (sX l i).2.1=1+i/\ (sX l i).2.2=jw l i
 |0=>S'
 |i+1=>by
  have⟨Q,a,_⟩:=GO l i;exact⟨Q,by show(sX l i).2.1+1=_;omega,Z⟩
def aeb(l):∀i,i<=9->yC (nO l i)=hI (λ_=>d') 7 (sX l i)
 |0,_=>rfl
 |i+1,h=>by
  have⟨Q,a,_⟩:=GO l i;have s:=Lp (l.getD i 0);rw[nO,ad5,aeb l i R];have e:=avq (hI (λ_=>d') 7 (sX l i)) (id:=7) (b:=wd (l.getD i 0)) (by rw[jZ,Q];decide) R (by rw[jZ,a];omega);apply e.trans;rw[jZ,avr];rfl
def aec(l):∀i,oy (vy l i) (1+i) ⟨nO l i,[],[],[],iw,cM,0⟩ (o8 i)
 |0=>by
  have a:gA ln (⟨#[100,111,32]⟩++e8++(⟨#[32]⟩++avw++⟨#[32]⟩++Sj))=(⟨nO l 0,[],[],[],iw,cM,0⟩,gx []):=by rw[Sg ln (W:=0) c1 c1,Li c1,ad4 ln (W:=0) (dr:=7) c1 c1 c1 c1];rfl
  have h:=oy.nil.add a (nc (nc c1 c1) (nc (nc (nc c1 c1) c1) c1)) Z Ln;assumption
 |i+1=>by
  have a:gA ⟨nO l i,[],[],[],iw,cM,0⟩ (⟨#[100,111,32]⟩++e8++(⟨#[32]⟩++avx++⟨#[32]⟩++(Sj++⟨#[32]⟩++wd (l.getD i 0))))=(⟨nO l (i+1),[],[],[],iw,cM,0⟩,gx []):=by rw[Sg _ (W:=0) c1 c1,Dn c1,Li (w:=wd (l.getD i 0)) (ad9 c1),avn _ (W:=0) (dr:=7) c1 c1 c1 c1];rfl
  have h:=(aec l i).add a (nc (nc c1 c1) (nc (nc (nc c1 c1) c1) (nc (nc c1 c1) (ad9 c1)))) Z Ln;assumption
def Sl:gH:=(2,7,fI)
def oz(v k:V):J gH:=if k<=v then [Sl] else []
def AH(l:J V):V->dS
 |0=>vy l l.length
 |v+1=>AH l v++(⟨#[100,111,32]⟩++iE (v+1)++⟨#[32,114,101,97,100,32,55,10]⟩)
def aed(l):∀v,v<=3->oy (AH l v) (1+l.length+v) ⟨nO l l.length,oz v 1,oz v 2,oz v 3,iw,cM,0⟩ (o8 (l.length+v))
 |0,_=>aec l l.length
 |v+1,cU=>by
  have a:gA ⟨nO l l.length,oz v 1,oz v 2,oz v 3,iw,cM,0⟩ (⟨#[100,111,32]⟩++iE (v+1)++(⟨#[32]⟩++avC++⟨#[32]⟩++Sj))=(⟨nO l l.length,oz (v+1) 1,oz (v+1) 2,oz (v+1) 3,iw,cM,0⟩,gx []):=by
   rw[Sg _ (W:=0) (Do c1) c1,Li c1,ad4 _ (W:=v+1) (dr:=7) (Sf R) c1 R c1]
   match v,cU with
   |0,_|1,_|2,_=>rfl
  have h:=(aed l v R).add a (nc (nc c1 (Do c1)) (nc (nc (nc c1 c1) c1) c1)) Z Ln;refine h.cast ?_ R Z;rw[AH]
  congr 1
  exact sT Lr
def Lq(l:J V)(n b:V):dS:=AH l (n-1)++(⟨#[115,116,97,114,116,32]⟩++iE n++⟨#[32]⟩++iE b++⟨#[10]⟩)
def q6(l:J V)(n:V):J (J gH):=nO l l.length::eL (n-1) [Sl]
def sY(l:J V)(n b:V):ey:=mg (ja b) b (q6 l n)
def avD{l n}(a:1<=n)(b:n<=4):t4 ⟨nO l l.length,oz (n-1) 1,oz (n-1) 2,oz (n-1) 3,iw,cM,0⟩ n=q6 l n:=by
 match n,a,b with
 |1,_,_|2,_,_|3,_,_|4,_,_=>rfl
def avE{l n b}(j:l.length<=9)(g:1<=n)(i:n<=4)(d:1<=b)(e:b<=8):oy (Lq l n b) (1+l.length+n) (sW (sY l n b) n) (o8 (l.length+(n-1))++sV):=by
 have t:=avD (l:=l) g i
 have f:vt (q6 l n):=by
  refine⟨by simp[q6],by simp[q6];omega,λx c=>?_⟩;rcases m3.1 c with rfl|c
  .rw[Sk];omega
  .simp_all
 have h:gA ⟨nO l l.length,oz (n-1) 1,oz (n-1) 2,oz (n-1) 3,iw,cM,0⟩ (⟨#[115,116,97,114,116,32]⟩++iE n++⟨#[32]⟩++iE b)=(sW (sY l n b) n,gx []):=by rw[avo _ (Do c1) (Do c1),avA (x:=⟨nO l l.length,oz (n-1) 1,oz (n-1) 2,oz (n-1) 3,iw,cM,0⟩) (a:=n) (b:=b) (avp R R) R eG Z avB d e,t];rfl
 exact((aed l (n-1) R).add h (nc (nc (nc c1 (Do c1)) c1) (Do c1)) Z Ln).cast Z R Z
def avF{l n b}(j:l.length<=9)(v:1<=n)(w:n<=4)(f:1<=b)(g:b<=8):∃dj m,gA (sW (sY l n b) n) Sh=(sW m n,gx [dj]) /\ll m=[sX l l.length] /\ou m 0=0/\ (hA m 0).toNat=0:=by
 have e:(q6 l n).length=n:=by simp[q6];omega
 have cY:=mR.new (ops:=nO l l.length) (r:=eL (n-1) [Sl]) f g hd (λx c o a=>by
  rw[(avG.1 c).2]at a
  rw[lE.1 a];rfl) λx c o a=>by
  rcases m3.1 c with rfl|c
  .exact aea l _ o a
  .rw[(avG.1 c).2]at a;rw[lE.1 a];rfl
 replace cY:mR (nO l l.length) b (q6 l n) (sY l n b):=cY;have r:=Gv (sY l n b) n 500
 have y:GG (q6 l n) <=13:=by
  have h:=Sk l l.length
  match n,v,w with
  |1,_,_|2,_,_|3,_,_|4,_,_=>simp[GG,q6,eL,h];omega
 have O:j_ (sY l n b) <=117:=by have:j_ (sY l n b)=9*GG (q6 l n):=auq (ja b) b (q6 l n) R;omega
 have t:(sY l n b).s.next=0:=Z;have hZ:vr (sY l n b) (q6 l n).length [] 500 (sP (sY l n b) n 500):=e.symm▸r;have s:=hZ.stops cY.cK.g R R;have u:=cY.gF (q6 l n).length (sP (sY l n b) n 500);have⟨d,gh,e0⟩:=u.done s;rw[e]at d gh e0;refine⟨_,_,avy (sY l n b) n,?_,gh,e0⟩;rw[aeb l _ j]at d;have⟨Q,_⟩:=GO l l.length;rw[RU d]
 exact avs (q:=7) c1 c1 (jZ _ _ _) R λk i=>by rw[mK _ _ i];rfl
def aee:dS:=⟨#[114,101,97,100,32,55]⟩
def aef:dS:=⟨#[115,116,97,116,101,32,48]⟩
def avH(m n):gA (sW m n) aee=(sW m n,sO m 7):=c2
def avI(m n):(gA (sW m n) aef).2=gx [ou m 0,(hA m 0).toNat]:=c2
def avJ{l m}(h:ll m=[sX l l.length])(b:l.length<=9):sO m 7=gx (lm (jw l l.length)):=by
 have⟨Q,a,eS⟩:=GO l l.length
 have s:(jw l l.length).size<=16:=by
  cases e:l.length with|zero=>exact e3 _|succ i=>rw[jw,Lp];omega
 have r:=kJ.2 ⟨by rw[Q];decide,by omega,by omega,by omega,by simp_all⟩
 have e:o5 (ll m) 7=(sX l l.length,N):=by rw[h,<-Q];exact ac6 (λx c=>by simp_all) (List.pairwise_singleton ..) (.head _)
 rw[sO,e,if_pos Z,eS]
def o9(l:J V):V->dS
 |0=>⟨#[10,111,107,32,55,32]⟩++iE (1+l.length)++⟨#[10,111,107]⟩
 |i+1=>o9 l i++(⟨#[32]⟩++iE ((lm (jw l l.length)).getD i 0))
def aeg(l):∀i,i<= (lm (jw l l.length)).length->(o9 l i).data.toList=[10,111,107]++(32::nv 7++(32::nv (1+l.length)))++[10,111,107]++jQ ((lm (jw l l.length)).take i)
 |0,_=>by
  rw[o9];simp only[nP];show [10,111,107,32,55,32]++nv (1+l.length)++[10,111,107]=_;rw[show nv 7=[55] by decide];simp[jQ]
 |i+1,h=>by
  have cK:i<(lm (jw l l.length)).length:=R
  rw[o9,nP,aeg l i R,avv cK,Yd,nP,E7,fe cK];show _++([32]++nv _)=_;simp[jQ]
def Dp(l:J V):dS:=o9 l (lm (jw l l.length)).length++⟨#[10,111,107,32,48,32,48,10]⟩
def Dq(l:J V)(n b:V):dS:=Lq l n b++⟨#[114,117,110,32,53,48,48,10,112,97,103,101,115,10,114,101,97,100,32,55,10,115,116,97,116,101,32,48]⟩
def avK{l n b}(h:l.length<=9)(g:1<=n)(i:n<=4)(a:1<=b)(c:b<=8):(∃dj,mN (Dq l n b)=o8 (l.length+(n-1))++sV++gx [dj]++Dp l) /\ (io (Dq l n b)).length<=230:=by
 have⟨dj,m,k,O,gh,e0⟩:=avF h g i a c;have e:=avz m n;have d:=avH m n;have f:=avI m n;have⟨Q,j,_⟩:=GO l l.length;rw[avJ O h]at d;rw[gh,e0]at f
 have p:rQ (ll m)=[7,1+l.length]:=by rw[O];show [(sX l l.length).1.toNat,(sX l l.length).2.1.toNat]++[]=_;rw[Q,j,p0,show((1:I)+(l.length:I)).toNat=1+l.length by omega];rfl
 rw[p]at e;have r:=(((avE h g i a c).add k c1 Z Z).add e c1 Z Z).add d c1 Z Z;have q:=r.last f c1 c1
 have es:Dq l n b=Lq l n b++(Sh++⟨#[10]⟩)++(ad7++⟨#[10]⟩)++(aee++⟨#[10]⟩)++aef:=by rw[Dq,Lm,Lm,Lm];rfl
 rw[es];refine⟨⟨dj,q.1.trans ?_⟩,by rw[q.2];omega⟩;apply sT;rw[Dp];simp only[nP,jC];rw[aeg l _ (fB _),p9]
 congr 1
 congr 1
 show([111,107]++jQ [dj])++([10]++(([111,107]++(32::nv 7++(32::nv (1+l.length)++[])))++([10]++(([111,107]++jQ (lm (jw l l.length)))++([10]++(([111,107]++jQ [0,0])++[10]))))))=([111,107]++jQ [dj])++_;rw[show jQ [0,0]=[32,48,32,48] by decide];simp
def avL(dr):∀i,(Lo dr i).size<=40+40*i
 |0=>by
  have:=rs dr;rw[Lo,kK,kK];show 9+_+1<=40;omega
 |i+1=>by
  have:=rs dr;have:=avL dr i;rw[Lo,kK,kK,kK];show _+(11+_+3) <=_;omega
def Sm:∀i,(o8 i).size=3+3*i
 |0=>rfl
 |i+1=>by
  rw[o8,kK,Sm i];rfl
def vz(x:V):J c3:=[.int .u8 x]
def Sn(l):∀i,(vy l i).size<=11+40*i
 |0=>by show(11:V) <=11;decide
 |i+1=>by
  have:=Sn l i;have:=Lp (l.getD i 0);rw[vy,kK,kK,kK];show _+(13+_+1) <=_;omega
def avM(l):∀i,(jw l i).size<=16
 |0=>e3 _|i+1=>by rw[jw,Lp];omega
def aeh(l):∀v,(AH l v).size<=11+40*l.length+40*v
 |0=>Sn l l.length
 |v+1=>by
  have:=aeh l v;have:=rs (v+1);rw[AH,kK,kK,kK];show _+(3+_+8) <=_;omega
def avN(a r:dS):(a++r).extract a.size (a++r).size=r:=by apply sT;have h:a.data.toList.length=a.size:=m6;have b:(a++r).data.toList.length=(a++r).size:=m6;rw[OZ,YS];simp only[List.extract];rw[u1 eG,nP,<-h,List.drop_left]
def aei(l):∀i,(o9 l i).size<=40+40*i
 |0=>by
  have:=rs (1+l.length);rw[o9,kK,kK];show 6+_+3<=_;omega
 |i+1=>by
  have:=aei l i;have:=rs ((lm (jw l l.length)).getD i 0);rw[o9,kK,kK];show _+(1+_) <=_;omega
def avO{b i}(h:i<b.size):(lm b).getD i 0=(au9 b i).toNat:=by rw[E7,fe (by rwa[wW]),v9,acG h];rfl
def avP(l:J V)(cN w:V)(ee:cN<=255)(hw:w<=255)(dw:l.length<=9223372036854775807)(cY:∀x∈l,x<=255):ml (Tryz.f5.body.getD .skip) ⟨pS [.dk (l.map vz),.int .u8 cN,.int .u8 w],λ_=>cM⟩ (nS 6):=by
 have r:(l.map vz).length=l.length:=ef ..
 conv=>whnf
 refine de ?_
 refine d3 (λQ=>?_) λQ=>?_
 .refine de ?_;refine adP [] (de ?_);exact Z
 .rw[r]at Q
  have ab:l.length<=9:=R
  refine lU ?_;refine eZ (D:=V) (λi=>[(0,.d (.dk (l.map vz))),(1,.d (.int .u8 cN)),(2,.d (.int .u8 w)),(7,.d (.str (vy l i))),(8,.d (.str (o8 i))),(9,.d (.str (jw l i))),(22,.d (.dk (l.map vz))),(23,.d l.length),(24,.d i)])
   (λi=>[])
   (λi=>i<=l.length) (λi=>l.length-i) 0 (e3 _) (dZ (dT ⟨Z,Z,Z,Z,Z,Z,Z,by show dn.d (.int .i64 _)=dn.d (.int .i64 _);rw[r],Z,dU⟩ dU d0)) ?_
  intro i cK;have c7:=Sn l i;have ah:=Sm i
  conv=>whnf
  refine d3 (λdz=>?_) λdz=>?_
  .have dW:i<l.length:=R
   refine lU ?_
   have ac:(l.map vz)[i]?=U (vz (l.getD i 0)):=by rw[iO,fe dW,E7,fe dW];rfl
   have dc:l.getD i 0<=255:=by rw[E7,fe dW];exact cY _ (hS dW)
   have⟨x,d⟩:∃x,l.getD i 0=x:=⟨_,Z⟩;rw[d]at ac dc;refine e' ?_;rw[show(x:I)%16=((x%16:V):I) by omega];have⟨q,g⟩:∃q,x%16=q:=⟨_,Z⟩
   have ai:q<=15:=R
   rw[g];refine lU ?_;rw[show(1:I)+(q:I)=((1+q:V):I) by omega];refine lU ?_;refine eZ (D:=V) (λj=>[(0,.d (.dk (l.map vz))),(1,.d (.int .u8 cN)),(2,.d (.int .u8 w)),(7,.d (.str (vy l i))),(8,.d (.str (o8 i))),(9,.d (.str (t_ x j))),(11,.d (.int .u8 x)),(22,.d (.dk (l.map vz))),(23,.d l.length),(24,.d i),(31,.d (1+q:V)),(32,.d j)])
    (λi=>[])
    (λj=>j<=1+q) (λj=>1+q-j) 0 (e3 _) (dZ (dT Ta dU d0)) ?_
   intro j dL;have u:=Si x j
   conv=>whnf
   refine d3 (λl5=>?_) λl5=>?_
   .refine e' ?_;have fY:(qx [97+((x:I)+j)%26]).size=1:=Z;refine lU ?_;exact⟨j+1,by omega,by omega,(dZ (dT Ta dU d0))⟩
   .have e:j=1+q:=R
    subst e;refine lU ?_;refine⟨i+1,by omega,by omega,?_⟩
    have p:t_ x (1+q)=wd x:=by rw[wd,g]
    have S:vy l (i+1)=vy l i++(⟨#[100,111,32,48,32,119,114,105,116,101,32,55,32]⟩++t_ x (1+q)++⟨#[10]⟩):=by rw[vy,d,p]
    have cL:jw l (i+1)=t_ x (1+q):=by rw[jw,d,p]
    rw[S,cL];exact(dZ (dT yQ dU d0))
  .have e:i=l.length:=R
   subst e;refine e' ?_;rw[show(w:I)%4=((w%4:V):I) by omega];have⟨cV,M⟩:∃cV,w%4=cV:=⟨_,Z⟩
   have O:cV<=3:=R
   rw[M];refine lU ?_;rw[show(1:I)+(cV:I)=((1+cV:V):I) by omega];have⟨n,t⟩:∃n,1+cV=n:=⟨_,Z⟩
   have fh:1<=n:=R
   have iJ:n<=4:=R
   rw[t];refine lU ?_;refine eZ (D:=V) (λv=>[(0,.d (.dk (l.map vz))),(1,.d (.int .u8 cN)),(7,.d (.str (AH l v))),(8,.d (.str (o8 (l.length+v)))),(9,.d (.str (jw l l.length))),(13,.d n),(14,.d ((v+1:V):I))])
    (λi=>[])
    (λv=>v<=n-1) (λv=>n-1-v) 0 (e3 _) (dZ (dT vG dU d0)) ?_
   intro v cU;have u:=aeh l v;have aj:=Sm (l.length+v);have ak:=rs (v+1)
   conv=>whnf
   refine d3 (λl5=>?_) λl5=>?_
   .refine lU ?_;refine df (GL (v+1) R) (cO ?_);refine lU ?_;refine⟨v+1,by omega,by omega,?_⟩;rw[show((v+1+1:V):I)=((v+1:V):I)+1 by omega];exact(dZ (dT vG dU d0))
   .have e:v=n-1:=R
    subst e;have al:=rs n;refine lU ?_;refine df (GL n R) (cO ?_);refine lU ?_;refine AV R R (cO ?_);rw[show(cN:I)%8=((cN%8:V):I) by omega];have⟨k,f⟩:∃cV,cN%8=cV:=⟨_,Z⟩
    have P:k<=7:=R
    rw[f];refine lU ?_;rw[show(1:I)+(k:I)=((1+k:V):I) by omega];have⟨b,m⟩:∃b,1+k=b:=⟨_,Z⟩
    have F:1<=b:=R
    have G:b<=8:=R
    rw[m];have am:=rs b;refine df (GL b R) (cO ?_);refine lU ?_;have⟨⟨dj,da⟩,o⟩:=avK ab fh iJ F G;refine adB (s:=Dq l n b) [(0,.d (.dk (l.map vz))),(8,.d (.str (o8 (l.length+(n-1))++sV))),(9,.d (.str (jw l l.length)))] ⟨by simp[Dq,Lq,kK,ad3,List.size_toArray,pW,EU];omega,o⟩ (cO ?_);rw[da];refine lU ?_;rw[r,show(1:I)+(l.length:I)=((1+l.length:V):I) by omega];have an:=rs (1+l.length);have ao:=avM l l.length;refine df (GL (1+l.length) R) (cO ?_);refine lU ?_;have⟨cX,a⟩:∃cX,o8 (l.length+(n-1))++sV++gx [dj]++Dp l=cX:=⟨_,Z⟩;rw[a];refine eZ (D:=V) (λi=>[(8,.d (.str (o8 (l.length+(n-1))++sV))),(9,.d (.str (jw l l.length))),(15,.d (.str cX)),(16,.d (.str (o9 l i))),(97,.d (jw l l.length).size),(98,.d i)])
     (λi=>[])
     (λi=>i<=(jw l l.length).size) (λi=>(jw l l.length).size-i) 0 (e3 _) (dZ (dT mS dU d0)) ?_
    intro i cK;have he:=aei l i
    conv=>whnf
    refine d3 (λad=>?_) λad=>?_
    .have dW:i<(jw l l.length).size:=R
     refine e' ?_;have⟨c,A⟩:∃c,(jw l l.length).data.getD i 0=c:=⟨_,Z⟩;have ap:=c.toNat_lt;have B:=rs c.toNat;rw[A];refine lU ?_;refine df (GL c.toNat R) (cO ?_);refine lU ?_;refine⟨i+1,by omega,by omega,?_⟩
     have dr:o9 l (i+1)=o9 l i++(⟨#[32]⟩++iE c.toNat):=by rw[o9,avO dW,<-A];rfl
     rw[dr];exact(dZ (dT mS dU d0))
    .have e:i=(lm (jw l l.length)).length:=by rw[wW];omega
     have Y:=wW (jw l l.length);subst e;have cS:Dp l=o9 l (lm (jw l l.length)).length++⟨#[10,111,107,32,48,32,48,10]⟩:=rfl
     have C:cX.size=(o8 (l.length+(n-1))++sV).size+(gx [dj]).size+(Dp l).size:=by rw[<-a,kK,kK]
     have X:sV.size=3:=rfl
     have aq:(gx [dj]).size=2+(jQ [dj]).length:=by show([111,107]++jQ [dj]).toArray.size=_;simp;omega
     have ar:=Jx [dj];have z:(o8 (l.length+(n-1))++sV).size=(o8 (l.length+(n-1))).size+3:=kK;have au:(Dp l).size=(o9 l (lm (jw l l.length)).length).size+8:=kK;have y:(o9 l (lm (jw l l.length)).length++⟨#[10,111,107,32,48,32,48,10]⟩).size=(o9 l (lm (jw l l.length)).length).size+8:=kK;have⟨W,ae⟩:∃W,o8 (l.length+(n-1))++sV=W:=⟨_,Z⟩;rw[ae]at a C z⊢;refine lU ?_;have⟨E,K⟩:∃E,o9 l (lm (jw l l.length)).length++⟨#[10,111,107,32,48,32,48,10]⟩=E:=⟨_,Z⟩;rw[K]at y cS⊢;rw[cS]at a C;have av:[dj].length=1:=rfl
     have af:cX.extract 0 W.size=W:=by rw[<-a,Lm];exact ave _ _
     have ag:cX.extract (cX.size-E.size) cX.size=E:=by
      have H:cX.size-E.size=(W++gx [dj]).size:=by rw[kK];omega
      rw[H,<-a];exact avN _ _
     refine oE (h:=W.size) R (cO ?_);rw[af];refine lU ?_
     refine d3 (λT=>?_) λT=>?_
     .refine lU ?_;rw[show(cX.size:I)-(E.size:I)=((cX.size-E.size:V):I) by omega];refine pd (l:=cX.size-E.size) R (cO ?_);rw[ag];refine lU ?_
      refine d3 (λaa=>?_) λaa=>?_
      .refine lU ?_;refine adP [(139,.e4)] (de ?_);exact Z
      .exact dQ Z aa
     .exact dQ Z T
section
set_option maxRecDepth 100000
open Go Go.Conc Go.Proofs Go.RowKit Go.ChangeShapes Go.WideShapes Go.ChangeAt
theorem aej:Kids cR (·<cR.types.size):=kids_rows c2 c2
theorem avQ:∀t e,t<cR.types.size->cR.underlying t=U (.slice e)->0<cR.cellsOf e:=ajP c2
theorem own:ownKnob cR.godebug=cM:=c2
theorem wp.len{T}:∀ {s dx},wp T s dx->dx.length=s.length
 | [],dx,h=>by have e:=h;rw[e];rfl
 |t::s,dx,h=>by
  obtain⟨n,d,r,rfl,_,h⟩:=h;simp[wp.len h]
section
variable {H:Type} {enc:eH×dp->H} {P:Program} {w:c'} {Cb:V->dh} {held:dh}
theorem avR{w w'}(h:Below w.heap.size w w'){p}(O:p.block<w.heap.size):w.sameAt w' p:=by
 have:=h.block p.block O
 cases p with|cell b off=>simp[World.sameAt,j3];simp[MemPlace.block]at this;rw[this]|map b=>exact this
theorem aek{w'}:∀ {c vs dx s},Jh enc P w 0 Cb held c vs dx s->(∀p∈s,w.sameAt w' p)->Jh enc P w' 0 Cb held c vs dx s
 | [],vs,dx,s,h,_=>by
  obtain⟨rfl,rfl,rfl⟩:=trodAll_nil h;rfl
 |t::c,vs,dx,s,h,e=>by
  obtain⟨v,i,d,f,a,b,rfl,rfl,rfl,⟨n,cY⟩,g⟩:=trodAll_cons h;exact⟨a,b,⟨n,DataW.trod_carry n t _ _ cY λp O=>e p (n8 _ O)⟩,aek g λp O=>e p (po _ O),Z⟩
theorem avS{f}{s:ael}{a gb AI again W i args v dx cZ e qL qM}
  (k:avT enc P f.params.toList s.vars a W args.toList dx cZ e)
  (d:∀b g cP,Jh enc P i b g cP f.resultTypes.toList (v.resultList f.resultTypes.size) (s.fn H (dx++cZ)).results [])
  (h:∀g,(∀p∈e,g p.block=N)->Jh enc P i 0 g N f.params.toList args.toList (s.fn H (dx++cZ)).args qL)
  (c:∀g,(∀p∈e,g p.block=N)->DataW.TrodVars enc P i g s.vars (s.fn H (dx++cZ)).vars qM)
  (q:e=qL++qM)(u:Below W.heap.size W i)
  (m:∀(j:V) (t r),f.resultTypes[j]?=U t->(v.resultList f.resultTypes.size)[j]?=U r->Jf P i .any 0 t r):
  s.post enc P f a gb AI again W args v i:=by
 have l:=λp O=>k.lt p O
 have o:∀p∈e,(λb=>gV (b<W.heap.size)) p.block=N:=λp O=>by simp_all
 refine⟨dx,cZ,e,[],qL,qM,k,d _ _ _,h _ o,c _ o,World.keptBut_mono (λp O=>⟨O,?_⟩) (u.frame (·∈e)),λ_=>?_⟩
 .simp_all
 .have⟨_,_,_,_,_,z,cY⟩:=k;refine⟨m,_,_,([]++qL)++qM,⟨[]++qL,qM,trodAll_append (h _ (λ_ _=>Z)) (d _ _ _),c _ (λ_ _=>Z),Z,?_,?_⟩,?_⟩
  .intro b off O
   have n:MemPlace.cell b off∈e:=by rw[q];simpa using O
   rw[u.frozen (l _ n)];exact z b off n
  .simp_all
  simp_all
end
section
variable {H:Type} {enc:eH×dp->H}
theorem avU{f}{fn:Func}{c t}{s:ael}{gb AI again eh}(D:cR.funcs[f]?=U fn)(B:fn.body=U c)(M:ki fn.ntmps c=N)(cY:fn.params.toList.length<=fn.ntmps)(cX:fn.results=#[.tmp t])(y:¬2=f)
  (u:∀t∈fn.params.toList,t<cR.types.size/\ ∃m,oP T m t=N)(r:fn.resultTypes=#[eh])(cV:cR.underlying eh=U .bool)(h:s.vars=[])
  (S:∀dx,dx.length=fn.params.toList.length->s.fn H dx={results:=[.lit (.bool N)],args:=dx})
  (F:∀a,wp T fn.params.toList a->ml c ⟨pS a,λ_=>cM⟩ (nS t))
  (W base args dx cZ e)
  (w:∀(j:V) t v,fn.params[j]?=U t->args[j]?=U v->Jf cR W .any base t v)
  (z:avT enc cR fn.params.toList s.vars L W args.toList dx cZ e)(cL:Eh (ty W)):
  fa cR (λv dr=>s.post enc cR fn L gb AI again W args v dr) (solo (G (Bt cR f args .normal) []) W) #[]:=by
 have C:=λp O=>z.lt p O;have A:=z;obtain⟨p,q,c8,dc,rfl,P,da⟩:=z;rw[h]at dc;obtain⟨rfl,rfl⟩:=trodVars_none dc;have⟨a,g,dj,o,n⟩:=Xy sn aej u (λj t v Q y=>w j t v eG eG) c8;refine auF (dx:=a) D B M (by rwa[wp.len g]) cX (F a g) y cL (λ_ _ _ h=>h) ⟨by simp_all,λi d v Q y=>n i d v Q eG⟩ λdr l=>?_
 have k:s.fn H (dx++[])={results:=[.lit (.bool N)],args:=dx}:=by rw[p0];exact S _ o
 refine avS (qL:=p) (qM:=[]) A ?_ ?_ ?_ Z l ?_
 .intro b K cP;rw[k,r];exact trodAll_mk1 ⟨1,by simp[DataW.trod,cV,Value.cells]⟩
 .intro K E;rw[k];exact awn aej avQ (λt I=>(u t I).1) (aek c8 λx X=>avR l (C x eG)) λx X=>E x eG
 .intro K _;rw[k,h];rfl
 .exact ok_one r Z (okWide_bool_mk cV _)
end
open YtfnijfdfhgpimaaGreatDoor YtfnijfdfhgpimaaGreatDoor.Rows
abbrev w4:J (String×DataW Unit):=deskIdleRow.laid
theorem avV{W}(h:Dr cR w4 W):Eh (ty W):=by
 rw[avW _ _ _ c2]at h;have⟨M,⟨K,da,y,H,ja,dj,f,j,v,d,⟨dG,cX,z,dr,fA,O,i,m,q,a,⟨cL,t2,A,cV,ug,P,g,t,r,b,_,_⟩,_⟩,_⟩,_,_⟩:=h;obtain rfl:=pM ((show cR.globalNamed _=U 3 by kernel_rfl).symm.trans g);obtain rfl:=pM ((show(cR.globals[3]?).map (·.type)=U 355 by kernel_rfl).symm.trans t);clear f j v d i m q a t;obtain⟨dD,rv,rfl,s,w,F,l⟩:=DataW.trod_array (n:=20) (e:=59) c2 b
 have c:cR.cellsOf 59=1:=by kernel_rfl
 intro o n cY;have G:o<20:=(fM.1 cY).1;have cW:=l o G
 have x:dD[o]?=U (dD[o]' R):=dt
 rw[x]at cW;have⟨k,p,B,_⟩:=DataW.trod_int (k:=.u64) c2 cW
 have u:MC.map (λn=>(DataW.lit (.int .u64 n):DataW Unit))=dD.map (·.1):=by have:=(Prod.mk.inj s).1;exact(DataW.agg.inj this)
 have E:k=n:=by
  have:=eR (·[o]?) u;simp only[iO,cY,x,B,jp,fx]at this
  injection this with this
  injection this with _ this
  exact this.symm
 subst E;rw[c]at p;have C:=World.var?_cell g r o;show W.cell? ⟨3,o,cM⟩=_;rw[C];have:=eR (·[0]?) p;simpa[wa,Hv]using this
theorem avX(os args):Dr cR w4 ((World.laidAll cR os w4).forCall (λ_ _=>0) ⟨#[],args,[]⟩).memory:=by rw[avW _ _ _ c2];exact laidMet_laidAll _ c2 c2
theorem avZ{os}(r:os.Started){H}{enc:eH×dp->H}{f}{fn:Func}{c t s gb AI again eh}(F:cR.funcs[f]?=U fn)(y:fn.body=U c)(K:ki fn.ntmps c=N)(cY:fn.params.toList.length<=fn.ntmps)(cL:fn.results=#[.tmp t])(dr:¬2=f)
  (A:∀t∈fn.params.toList,t<cR.types.size/\ ∃m,oP T m t=N)(l:fn.resultTypes=#[eh])(cV:cR.underlying eh=U .bool)(d:s.vars=[])
  (dj:∀dx,dx.length=fn.params.toList.length->s.fn H dx={results:=[.lit (.bool N)],args:=dx})
  (E:∀g,wp T fn.params.toList g->ml c ⟨pS g,λ_=>cM⟩ (nS t))
  (n:∃(w:c') (a:Tape) (i:Input),w.os=os/\ (w.forCall a i).Shaped yD.prog/\i.vars=[] /\Input.okWide yD.prog (w.forCall a i) .any w.heap.size f i/\
   ((s.pre enc yD.prog fn [] L (w.forCall a i).memory i.args/\Dr cR w4 (w.forCall a i).memory) /\sizedMet enc yD.prog fn (GP s) L (w.forCall a i).memory i.args) /\ ({}:Assume).holds yD.prog (lone (Bt yD.prog f i.args .normal) [] (w.forCall a i))):
  ReturnsInLeavingWide {} yD os f .any (λw args=>(s.pre enc cR fn [] L w args/\Dr cR w4 w) /\sizedMet enc cR fn (GP s) L w args) (s.post enc cR fn L gb AI again):=by
 apply returnsInLeavingWide_of_good own r n;intro w a i _ _ _ z k x;have⟨_,_,_,G,j,_,_,_,_,q⟩:=z;have e:=pM (j.symm.trans F);subst e;have⟨⟨⟨dx,cZ,b,hw,_⟩,h⟩,S⟩:=k;have B:=awo (w':=w.forCall a i) f0 hw;have C:Dr cR w4 (w.forCall a i):=h.of_heap f0;have⟨M,u,o,w',cX,P,da,p,D⟩:=avU (gb:=gb) (AI:=AI) (again:=again) F y K cY cL dr A l cV d dj E (w.forCall a i) w.heap.size i.args dx cZ b q B (avV C);exact⟨M,u,o,w',cX,P,da,p,D.mono λv O=>ChangeSpec.post_blind O⟩
end
end Dk
open Go.RowKit
def aen{k n t dx}(e:(T t).k=.int k)(h:iQ T n t dx):∃x,dx=[.int k x] /\ (Xv k x).wf=N:=by cases n with|zero=>exact h.elim|succ n=>simpa[iQ,e]using h
def aeo{k x m}(h:(Xv k x).wf=N)(a:k.min=0)(b:k.max=m):∃n:V,x=n/\ (n:I)<=m:=⟨x.toNat,by simp[Lit.wf,a,b]at h;omega⟩
def aep{n d}(h:uY T n 5 d):∃a:V,d=.int .u8 a/\a<=255:=by
 have⟨x,e,w⟩:=aen Z (Xz (t:=5) Z h);have⟨n,i,j⟩:=aeo w Z Z;cases e;exact⟨n,i▸Z,by have:(n:I)<=255:=j;omega⟩
def aeq{f:V->J c3}{m:V}:∀{l:J (J c3)},(∀x∈l,∃a,x=f a/\a<=m)->∃r:J V,l=r.map f/\ ∀a∈r,a<=m
 | [],_=>⟨[],Z,λa h=>by cases h⟩
 |x::l,h=>by
  obtain⟨a,rfl,dq⟩:=h x (.head _);obtain⟨r,rfl,dI⟩:=aeq (l:=l) λy b=>h y (.tail _ b);exact⟨a::r,Z,by simpa using⟨dq,dI⟩⟩
def av1{n d t e k m}(h:uY T n t d)(a:(T t).k=.slice e)(g:(T t).k.agg=L)(b:(T e).k=.int k)(c:k.min=0)(f:k.max=(m:V)):∃l:J V,d=.dk (l.map λx:V=>[.int k x]) /\ (∀x∈l,x<=m) /\l.length<=9223372036854775807:=by
 have h:=Xz g h
 cases n with|zero=>exact h.elim|succ n=>
  simp[iQ,a]at h;have⟨l,p,o,q⟩:=h;subst p
  obtain⟨r,rfl,dI⟩:=aeq (f:=λx:V=>[.int k x]) (m:=m) (l:=l) λx i=>by
   have⟨z,e,w⟩:=aen b (q x i);have⟨n,i,j⟩:=aeo w c f;subst i;exact⟨n,e,by omega⟩
  rw[ef]at o;exact⟨r,Z,dI,o⟩
namespace Dk
open Go.Proofs Go.RowKit YtfnijfdfhgpimaaGreatDoor
def av2{a b:dh}(h:a=N)(k:b=N):(a&&b)=N:=by rw[h,k];rfl
def av3(f:ig)(fn:Func){s:ael}{c:OpenClaim}(dg:c.holds aer (GP s))(hw:c.wfByText (GP s)=N)(d:c.laidByTextAt .later aer [.data,.data,.data,.data,.pinned] N)
  (Q:c.start=.entering)(c5:c.noBlocks=L/\c.again=L)(eS:cR.funcNamed c.func=U f)(fy:cR.funcs[f]?=U fn)(dz:(fn.params.toList.all λu=> !cR.wantsStandIn u)=N)(dW:N=c.goesBy cR):
  Claim7.holds aer (.plain (GP s)) {stood:={row:=c,standIns:=[],harness:=(N, "43a77d81664a00aed95f56a3acf144a7d237df1bd2783f42c5568906e9d873eb"),looks:=L},kinds:=[],alts:=[],goes:=N,laidByText:=N,laidKinds:=[.data,.data,.data,.data,.pinned],laidTests:=N,laidLooks:=.later}:=
 ⟨Claim7.tied_new_at .later [.data,.data,.data,.data,.pinned] N (Claim7.new_of_sixth dg (N, "43a77d81664a00aed95f56a3acf144a7d237df1bd2783f42c5568906e9d873eb") L Q c5 c2 (by simp[Claim7.isSixth]) λe g a b=>by
   obtain rfl:=pM (a.symm.trans eS);obtain rfl:=pM (b.symm.trans fy)
   exact⟨c2,λj t d=>by
    have:=n0.1 dz t (by simpa using DU d)
    exact(show cR.wantsStandIn t=L by simpa using this)⟩) hw,λc3 h=>(Gt h).elim,d,(λh=>by cases h),dW⟩
