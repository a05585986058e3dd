/- What is proved here: what functions of the program compute, and what follows; no condition beyond each theorem's own. -/
import Derived.Conc.LeavingOf
import Derived.LaidMore
import Derived.Lay
import Derived.ProofKit
import Derived.SevenTiedAt
import Derived.Stop.Joined
import Derived.Test.YtfnijfdfhgpimaaGreatDoorCards
import Derived.Test.YtfnijfdfhgpimaaGreatDoorTie
import Derived.Test.YtfnijfdfhgpimaaGreatDoorGf
set_option linter.all false
noncomputable section
set_option maxHeartbeats 0
open Array renaming replicate->kM
open Bool renaming false->L,true->N
open ByteArray renaming append_assoc->axd,data_extract->Y5,empty->fB,mk->L5
open Classical renaming choose->JM,choose_spec->XA
open Decidable renaming decide->gy
open Go renaming Act->e8,ChangeSpec->aeK,Frame->g6,FuncId->im,Goroutine->dP,Oper->gL,Operand->fw,TypeId->eF,Value->dr,World->da,laidMetH->pS
open Go.Conc renaming stepG_cond->UA
open Go.DataW renaming TrodAll->J6,Whole->awq
open Go.DataW.TrodAll renaming respare->ayh
open Go.DataW.Whole renaming of_heap->ayi
open Go.Deferred renaming ofValue->sH
open Go.Frame renaming enter->B9,finish_at->Ia
open Go.Lib renaming indexByte->kU
open Go.Lit renaming int->Yw
open Go.MakeChecks renaming laidMetH_plain->awt
open Go.MemAct renaming ofEvent->mD,touch?->lo
open Go.OpenSpec renaming ofChange->vT
open Go.Proofs.Tryz renaming checked->oO,f11->aeD,f12->A5,func13->awB,prog->cQ
open Go.Proofs.YtfnijfdfhgpimaaGreatDoor.Tryz renaming pinned->aeP
open Go.Region renaming wanted->js
open Go.Trace renaming act?->aep
open Go.Value renaming okWide->J4,string->avz
open Go.World renaming cell?->ke
open List renaming drop->z7,filterMap_eq_nil_iff->auM,getElem?_eq_none->PD,length->pt,length_drop->KO,map->Kg,map_eq_nil_iff->aug,map_map->K5,mem_of_find?_eq_some->auH,range->iz,range'->tN,replicate->eQ,replicate_succ'->RO,take_succ_eq_append_getElem->awj
open List.cons renaming inj->Fs
open Nat renaming beq->d3,lt_trans->Ul,strongRecOn->to
open Option renaming none->cL,some->U
open Prod renaming fst->QM,snd->Tc
open Prod.mk renaming injEq->Jn
open _root_ renaming Array->d',Bool->di,ByteArray->dG,False->dA,Int->J,List->I,Nat->V,Option->dB,UInt8->gM,absurd->dN,rfl->Z,trivial->dM
namespace Go.Lk
def Bf:=@List.count_append
def Hz:=@Nat.le_add_right
namespace Dk
open Go.Proofs Go.RowKit
def at3{O p}(e:q0 3000000 p=N)(h:od O (ku ga p)):∀n B,fk.fH p n=U B->O n=U (nJ ga B):=λn B a=>by
 apply Ae h n B n a;rw[JV]
 cases f:jh n with|true=>rfl|false=>rw[(Gc e n).2 f]at a;cases a
def Hg{P f args dD r p d O K}(H:rL P f args r p d)
  (e:q0 3000000 r=N)(h:od O (ku ga r))(x:ow ga args=dD)(k:K ⟨lR d,p,U 3000000⟩):zK P f dD O K:=
 NF (x▸H.2 O (at3 e h)) k
def pj(m:eu)(k:V):V:=match m.ws[k]? with|some w=>w.st|none=>0
def at4(m)(k:V):fI cQ 83 [.ptr 1000000 0 0,.d k] (e9 m) (e9 m) (pj m k):=by
 have h:=as3 m k;rw[if_pos R,gz]at h
 have e:((pj m k:V):J)=(match m.ws[k]? with|some w=>(w.st:J)|none=>0):=by rw[pj];cases m.ws[k]?<;>rfl
 grind
def at5{m work}(h:iU work m)(a:∀l∈work,l.length<=1000)(k):0<=jQ m k/\jQ m k<=1000:=by
 rw[jQ]
 cases e:m.ws[k]? with
 |none=>simp_all
 |some w=>
  have⟨t,_,_,g⟩:=h.ex;have Q:=(g.ok.w k w e).k7
  have b:w.todo∈work:=by rw[<-g.o4];exact r8 (jY e)
  grind
def at6{m}(h:hY m)(k):pj m k<=6:=by
 rw[pj]
 cases e:m.ws[k]? with|none=>decide|some w=>exact(h.w k w e).Du
def pR(m:eu)(hQ g1:V):V:=JM (Sm m hQ [] g1)
def DS(m w g1):Hd m w [] g1 (pR m w g1):=XA (Sm m w [] g1)
def countP(m:eu)(hQ:V)(w:dG)(n:V):eu×dG:=
 if w=⟨#[115,116,101,112]⟩ then((gR m n).1,vN (gR m n).2) else
 if w=⟨#[102,105,110,105,115,104]⟩ then((jn m n L).1,vN (jn m n L).2) else
 if w=⟨#[102,97,117,108,116]⟩ then((jn m n N).1,vN (jn m n N).2) else
 if w=⟨#[97,103,101]⟩ then(vF m n,gv []) else
 if w=⟨#[114,117,110]⟩ then(gN m hQ [] (pR m hQ (min n 500)),gv [pR m hQ (min n 500)]) else
 if w=⟨#[115,116,97,116,101]⟩ then(m,gv [pj m n,(jQ m n).toNat]) else
 if w=⟨#[114,101,97,100]⟩ then(m,xn m n) else(m,gv [])
set_option maxRecDepth 20000 in
def at7(e_ eB el fY d m o w)(n:V)(h:iF m)(hw:o<=1000000)(c0:n<1000000000):
  rL cQ 53 [.ptr 1000000 0 0,.d (.str w),.d n] (jR ⟨e_,eB,el,fY,d,U m,o⟩) (jR ⟨e_,eB,el,fY,d,U (countP m o w n).1,o⟩) (.str (countP m o w n).2):=by
 have⟨work,E,a⟩:=h.ex;have⟨t,H,z,g⟩:=E.ex;have F:=h.hi;have u:=adb g z a R n;have j:=Si (Sh g R n L);have l:=atn (Sh g R n N);have i:=as2 m n t g.n2 z H;have r:=ato (atq E a o hw [] cZ (min n 500) R _ (DS m o (min n 500)));have v:=at4 m n;have q:=adi E a n;have s:=atI e_ eB el fY d m o n h.fm h.pl h.mf;have⟨y,b⟩:∃y,countP m o w n=y:=⟨_,Z⟩;rw[b];refine A1 Tryz.func53 3 Z cV f0 (c6 ?_)
 refine dT (λQ=>?_) λQ=>?_
 .refine c6 ?_
  have e:y=((gR m n).1,vN (gR m n).2):=by rw[<-b,countP,if_pos Q]
  subst e;refine gk u qu Z eJ Z (c6 ?_);refine df (J' _) (c6 ?_);exact jG ga Z Z Z lP
 refine c6 ?_
 refine dT (λc=>?_) λc=>?_
 .refine c6 ?_
  have e:y=((jn m n L).1,vN (jn m n L).2):=by rw[<-b,countP,cS Q,if_pos c]
  subst e;refine gk j qu Z eJ Z (c6 ?_);refine df (J' _) (c6 ?_);exact jG ga Z Z Z lP
 refine c6 ?_
 refine dT (λeG=>?_) λeG=>?_
 .refine c6 ?_
  have e:y=((jn m n N).1,vN (jn m n N).2):=by rw[<-b,countP,cS Q,cS c,if_pos eG]
  subst e;refine gk l qu Z eJ Z (c6 ?_);refine df (J' _) (c6 ?_);exact jG ga Z Z Z lP
 refine c6 ?_
 refine dT (λfb=>?_) λfb=>?_
 .refine c6 ?_
  have e:y=(vF m n,gv []):=by rw[<-b,countP,cS Q,cS c,cS eG,if_pos fb]
  subst e;refine gk i qu Z eJ Z (c6 ?_);refine df DP (c6 ?_);exact jG ga Z Z Z lP
 refine c6 ?_
 refine dT (λdu=>?_) λdu=>?_
 .refine c6 ?_;have⟨dc,hB⟩:∃dc,pR m o (min n 500)=dc:=⟨_,Z⟩;have f:=(DS m o (min n 500)).le
  have e:y=(gN m o [] dc,gv [dc]):=by rw[<-b,countP,cS Q,cS c,cS eG,cS fb,if_pos du,hB]
  subst e;rw[hB]at r f;have A:((min n 500:V):J)=min (n:J) 500:=R;rw[A]at r;refine gk r qu Z eJ Z (c6 ?_);have x:=Ap nL [dc] (λk c_=>xD) (by show 1<=1000000;decide);refine eH ?_;exact jG ga Z Z Z lP
 refine c6 ?_
 refine dT (λdY=>?_) λdY=>?_
 .refine c6 ?_
  have e:y=(m,gv [pj m n,(jQ m n).toNat]):=by rw[<-b,countP,cS Q,cS c,cS eG,cS fb,cS du,if_pos dY]
  subst e;refine gk v qu Z eJ Z (c6 ?_);refine gk q qu Z eJ Z (c6 ?_);have B:=at5 E a n;have C:=at6 h.ok n;have x:=Ap nL [pj m n,(jQ m n).toNat] (λk c_=>xD) (by show 2<=1000000;decide)
  have G:d0 cQ 68 [.dm [[(pj m n)],[(jQ m n)]]] (.str (gv [pj m n,(jQ m n).toNat])):=by
   have e:[pj m n,(jQ m n).toNat].map f1=[[c3.int .i64 (pj m n)],[.int .i64 (jQ m n)]]:=by show [[c3.int .i64 (pj m n)],[c3.int .i64 (((jQ m n).toNat:V):J)]]=_;rw[Int.toNat_of_nonneg B.1]
   rwa[<-e]
  refine eH ?_;exact jG ga Z Z Z lP
 refine c6 ?_
 refine dT (λhL=>?_) λhL=>?_
 .refine c6 ?_
  have e:y=(m,xn m n):=by rw[<-b,countP,cS Q,cS c,cS eG,cS fb,cS du,cS dY,if_pos hL]
  subst e;refine Hg s Z lP Z (c6 ?_);exact jG ga Z Z Z lP
 .refine c6 ?_
  have e:y=(m,gv []):=by rw[<-b,countP,cS Q,cS c,cS eG,cS fb,cS du,cS dY,cS hL]
  subst e;refine df DP (c6 ?_);exact jG ga Z Z Z lP
def sf (x:h4) (w:dG) (l:I V):h4×dG:=
 if (l.length:J)≠o7 w then (x,ji 2) else match x.m with
  |none=>(x,ji 13)
  |some m=>match l with
   | []=>(⟨x.e_,x.eB,x.el,x.fY,x.gV,U (pQ m x.hQ w).1,x.hQ⟩,(pQ m x.hQ w).2)
   |n::_=>(⟨x.e_,x.eB,x.el,x.fY,x.gV,U (countP m x.hQ w n).1,x.hQ⟩,(countP m x.hQ w n).2)
def un (x:h4) (w:dG) (ws:I dG):h4×dG:=
 if w=⟨#[100,111]⟩ then m1 x ws else
 if w=⟨#[115,116,97,114,116]⟩ then mz x ws else
 match jM ws with
 |none=>(x,ji 2)
 |some l=>sf x w l
def adu {x:h4} {w:dG} {l:I V} (h:(l.length:J)≠o7 w):sf x w l=(x,ji 2):=by rw [sf,if_pos h]
def adv {e_ eB el fY:I gU} {gV:gA} {hQ:V} {w:dG} {l:I V} (h:¬(l.length:J)≠o7 w):sf ⟨e_,eB,el,fY,gV,cL,hQ⟩ w l=(⟨e_,eB,el,fY,gV,cL,hQ⟩,ji 13):=by rw [sf,cS h]
def aua {e_ eB el fY:I gU} {gV:gA} {m:eu} {hQ:V} {w:dG} (h:¬(([]:I V).length:J)≠o7 w):sf ⟨e_,eB,el,fY,gV,U m,hQ⟩ w []=(⟨e_,eB,el,fY,gV,U (pQ m hQ w).1,hQ⟩,(pQ m hQ w).2):=by rw [sf,cS h]
def aub {e_ eB el fY:I gU} {gV:gA} {m:eu} {hQ:V} {w:dG} {n:V} {l:I V} (h:¬((n::l).length:J)≠o7 w):sf ⟨e_,eB,el,fY,gV,U m,hQ⟩ w (n::l)=(⟨e_,eB,el,fY,gV,U (countP m hQ w n).1,hQ⟩,(countP m hQ w n).2):=by rw [sf,cS h]
def fZ (x:h4) (line:dG):h4×dG:=match jU line with
 | []=>(x,.empty)
 |w::ws=>un x w ws
def auc:∀ (l:I gM) (w:I gM),w∈mQ l->w.length<=l.length:=by
 intro l
 induction h:l.length using to generalizing l with
 |_ n a=>
  intro w hw
  rcases Int.lt_or_le (kU l 32) 0 with cK|cK
  .have e:kU l 32=-1:=by have:=Kf l 32;omega
   rw [PU e] at hw
   simp at hw;subst hw;omega
  .have⟨k,c_⟩:=Int.eq_ofNat_of_zero_le cK;have⟨Q,c5⟩:=PV c_;rw [c5] at hw
   rcases nG.1 hw with rfl|hw
   .rw [o5];omega
   .have:=a (l.drop (k+1)).length (by rw [KO];omega) _ Z w hw
    rw [KO] at this;omega
def aud {s w:dG} (h:w∈jU s):w.size<=s.size:=by
 rw [jU] at h;obtain ⟨l,dv,rfl⟩:=is.1 h;have:=auc _ l dv;rw [lz] at this;show l.toArray.size<=s.data.size
 simpa using this
def adw:∀ (l:I gM) (n k:V),i_ n l=U k->k<(n+1)*10^l.length
 | [],n,k,h=>by simp [i_] at h;subst h;simp
 |c::l,n,k,h=>by
  rw [i_] at h
  split at h
  .cases h
  .have:=adw l _ k h
   have c5:10*n+(c.toNat-48)+1<= (n+1)*10:=R
   have eG:=mh (10^l.length) c5;rw [nF,Nat.pow_succ,Nat.mul_comm (10^l.length) 10,<-Nat.mul_assoc];omega
def adx {w:dG} {n:V} (h:l0 w=U n):n<1000000000:=by
 rw [l0] at h
 split at h
 .cases h
 .rename_i dj;have Q:=adw _ _ _ h
  have c5:w.data.toList.length<=9:=by rw [lz];show w.size<=9;omega
  have eG:10^w.data.toList.length<=10^9:=Gn cZ c5;omega
def ady:∀ {ws:I dG} {l:I V},jM ws=U l->∀ n∈l,n<1000000000
 | [],l,h,n,c0=>by simp [jM] at h;subst h;cases c0
 |w::ws,l,h,n,c0=>by
  rw [jM] at h
  cases e:l0 w with
  |none=>rw [e] at h;cases h
  |some k=>
   rw [e] at h
   cases a:jM ws with
   |none=>rw [a] at h;cases h
   |some r=>
    rw [a] at h;simp at h;subst h
    rcases nG.1 c0 with rfl|c0
    .exact adx e
    .exact ady a n c0
def aue:d0 cQ 51 [.int .i64 13] (.str (ji 13)):=Ki 13 cZ
set_option maxRecDepth 20000 in
def auf (x : h4) (p : ∀ m, x.m = U m → iF m) (q : x.hQ ≤ 1000000) (line : dG) (dv : line.size ≤ 1000000)
    (r : ∀ ws, (∀ w ∈ ws, w.size ≤ 1000000) → rL cQ 47 [.ptr 1000000 0 0, .d (.dm (ws.map fs))] (jR x) (jR (m1 x ws).1) (.str (m1 x ws).2))
    (s : ∀ ws, ws.length ≤ 1000000 → (∀ w ∈ ws, w.size ≤ 1000000) → rL cQ 48 [.ptr 1000000 0 0, .d (.dm (ws.map fs))] (jR x) (jR (mz x ws).1) (.str (mz x ws).2)) :
    rL cQ 22 [.ptr 1000000 0 0, .d (.str line)] (jR x) (jR (fZ x line).1) (.str (fZ x line).2) := by
  have c' := amB line dv
  have t : (jU line).length ≤ 1000001 := by rw [Gu]; have := Y8 line.data.toList; rw [lz] at this; have : line.data.size = line.size := Z; omega
  have u : ∀ w ∈ jU line, w.size ≤ 1000000 := fun w h => by have := aud h; omega
  obtain ⟨y, a⟩ : ∃ y, fZ x line = y := ⟨_, Z⟩
  rw [a]
  rw [fZ] at a
  cases A : jU line with
  | nil => exact dN A (by rw [jU]; intro h; exact TC _ (aug.1 h))
  | cons w ws =>
  rw [A] at c' a t u
  have B : ws.length ≤ 1000000 := by simpa using t
  have f : ∀ w ∈ ws, w.size ≤ 1000000 := fun v h => u v (.tail _ h)
  have K : (ws.map fs).length = ws.length := ec ..
  have c0 := Y0 ws B (fun v h => by have := f v h; omega)
  have C := alp w
  have g : z7 1 (List.take (Kg fs (w :: ws)).length (Kg fs (w :: ws))) = ws.map fs := by rw [rW]; rfl
  obtain ⟨X, b⟩ : ∃ X, X = x := ⟨_, Z⟩
  rw [← b] at a r s
  replace a : un X w ws = y := a
  rw [un] at a
  obtain ⟨e_, eB, el, fY, gV, m, hQ⟩ := x
  cases m <;> (
    refine A1 Tryz.func22 2 Z cV f0 (c6 ?_)
    refine df c' (c6 ?_)
    refine kn cZ (by show (0 : J) < ((ws.map fs).length : J) + 1; omega) (cO ?_)
    refine d2 (x := [.str w]) Z (c6 ?_)
    refine pq (fun Q => ?_) (fun Q => ?_) <;> conv => whnf
    · rw [if_pos Q] at a
      refine c6 ?_
      refine fz (fun e h => by obtain ⟨v, _, rfl⟩ := is.1 h; rfl) (cO ?_)
      refine pW (by show 1 ≤ (ws.map fs).length + 1; omega) (cO ?_)
      rw [g]
      refine c6 ?_
      subst a
      have H := r ws f
      obtain ⟨⟨⟨D, k1, eK, vp, E, i, kw⟩, F⟩, j⟩ : ∃ z, m1 X ws = z := ⟨_, Z⟩
      subst b
      rw [j] at H ⊢
      cases i <;> (
        refine Hg H Z ⟨Z, Z, Z, Z, Z, Z, Z, Z, dM⟩ Z (c6 ?_)
        exact jG ga Z Z Z ⟨Z, Z, Z, Z, Z, Z, Z, Z, dM⟩)
    refine c6 ?_
    refine pq (fun c5 => ?_) (fun c5 => ?_) <;> conv => whnf
    · rw [cS Q, if_pos c5] at a
      refine c6 ?_
      refine fz (fun e h => by obtain ⟨v, _, rfl⟩ := is.1 h; rfl) (cO ?_)
      refine pW (by show 1 ≤ (ws.map fs).length + 1; omega) (cO ?_)
      rw [g]
      refine c6 ?_
      subst a
      have H := s ws B f
      obtain ⟨⟨⟨D, k1, eK, vp, E, i, kw⟩, F⟩, j⟩ : ∃ z, mz X ws = z := ⟨_, Z⟩
      subst b
      rw [j] at H ⊢
      cases i <;> (
        refine Hg H Z ⟨Z, Z, Z, Z, Z, Z, Z, Z, dM⟩ Z (c6 ?_)
        exact jG ga Z Z Z ⟨Z, Z, Z, Z, Z, Z, Z, Z, dM⟩)
    rw [cS Q, cS c5] at a
    refine c6 ?_
    refine fz (fun e h => by obtain ⟨v, _, rfl⟩ := is.1 h; rfl) (cO ?_)
    refine pW (by show 1 ≤ (ws.map fs).length + 1; omega) (cO ?_)
    rw [g]
    refine c6 ?_
    cases e : jM ws with
    | none =>
      rw [e] at c0 a
      refine df c0 (c6 ?_)
      refine df A2 (c6 ?_)
      subst a b
      exact jG ga Z Z Z ⟨Z, Z, Z, Z, Z, Z, Z, Z, dM⟩
    | some l =>
    rw [e] at c0 a
    replace a : sf X w l = y := a
    have o : (l.map f1).length = l.length := ec ..
    refine df c0 (c6 ?_)
    refine kn cZ (by show (0 : J) < ((ws.map fs).length : J) + 1; omega) (cO ?_)
    refine d2 (x := [.str w]) Z (c6 ?_)
    refine df C (c6 ?_)
    refine pq (fun eG => ?_) (fun eG => ?_) <;> conv => whnf
    rotate_left
    · have c : (l.length : J) ≠ o7 w := by rw [← o]; exact eG
      rw [adu c] at a
      refine c6 ?_
      refine df A2 (c6 ?_)
      subst a b
      exact jG ga Z Z Z ⟨Z, Z, Z, Z, Z, Z, Z, Z, dM⟩
    have c : ¬ (l.length : J) ≠ o7 w := by rw [← o]; exact fun h => h eG
    subst b
    refine c6 ?_
    first
    | (rw [adv c] at a
       subst a
       refine df aue (c6 ?_)
       exact jG ga Z Z Z ⟨Z, Z, Z, Z, Z, Z, Z, Z, dM⟩)
    | (refine pq (fun fb => ?_) (fun fb => ?_) <;> conv => whnf
       · have G : l = [] := List.length_eq_zero_iff.1 R
         subst G
         rw [aua c] at a
         subst a
         refine c6 ?_
         refine kn cZ (by show (0 : J) < ((ws.map fs).length : J) + 1; omega) (cO ?_)
         refine d2 (x := [.str w]) Z (c6 ?_)
         refine Hg (at0 e_ eB el fY gV _ hQ w (p _ Z) q) Z ⟨Z, Z, Z, Z, Z, Z, Z, Z, dM⟩ Z (c6 ?_)
         exact jG ga Z Z Z ⟨Z, Z, Z, Z, Z, Z, Z, Z, dM⟩
       cases l with
       | nil => exact dN Z fb
       | cons n l =>
       rw [aub c] at a
       subst a
       have I : n < 1000000000 := ady e n (.head _)
       refine c6 ?_
       refine kn cZ (by show (0 : J) < ((ws.map fs).length : J) + 1; omega) (cO ?_)
       refine d2 (x := [.str w]) Z (c6 ?_)
       refine kn cZ (by show (0 : J) < (((n :: l).map f1).length : J); rw [o]; show (0 : J) < ((l.length + 1 : V) : J); omega) (cO ?_)
       refine d2 (x := [n]) Z (c6 ?_)
       refine Hg (at7 e_ eB el fY gV _ hQ w n (p _ Z) q I) Z ⟨Z, Z, Z, Z, Z, Z, Z, Z, dM⟩ Z (c6 ?_)
       exact jG ga Z Z Z ⟨Z, Z, Z, Z, Z, Z, Z, Z, dM⟩))
def auh(x:h4)(f:Sp x)(ws:I dG)(i:∀w∈ws,w.size<=1000000):rL cQ 47 [.ptr 1000000 0 0,.d (.dm (ws.map fs))] (jR x) (jR (m1 x ws).1) (.str (m1 x ws).2):=by
 have g:=(⟨f.cW,f.Q,f.c5,f.eG⟩:x.e_.length<=1000/\x.eB.length<=1000/\x.el.length<=1000/\x.fY.length<=1000)
 have z:∀w∈ws,w.size<=9223372036854775807:=λw h=>by have:=i w h;omega
 match ws,z with
 | [],_=>exact LQ x [] (.inl (by show 0<3;decide))| [a],_=>exact LQ x [a] (.inl (by show 1<3;decide))| [a,b],_=>exact LQ x [a,b] (.inl (by show 2<3;decide))| [a,b,c],z=>exact adt x a b c [] (eY _) (z a dw) (z c dw) g| [a,b,c,d],z=>exact adt x a b c [d] (fi 1) (z a dw) (z c dw) g|a::b::c::d::e::r,_=>exact LQ x _ (.inr (by show 4<r.length+5;omega))
structure Sq (x:h4):Prop where
 ls:Sp x
 wk:x.hQ<=1000000
 fit:∀ m,x.m=U m->iF m/\So m
 us:∀ n,(iQ (pi x) n).2=0->iI (iQ (pi x) n).1.d
end Dk
open Go.Proofs Go.RowKit
def fu.aui{p P W de u}(h:fu p P W de u)(E:de<=2147483647){q i:V}(c8:hP p.f (q) i){b}(r:b.size<=16)(cY:(P q).2.1<de){l}(z:Dt.hm l=N)(m:∀y∈l,(y∈p.f.dK\/y.1=(q)) /\y.2<=p.now)(d:∀y∈p.f.dK,y∈l)(cP:∃y∈l,y.1=(q)):
  fu ⟨⟨p.f.cN,p.f.hand,p.f.eg,p.f.dJ.set i (nU (p.f.dJ[i]'c8.O) b),l⟩,p.d,p.now⟩ (hZ P q (nU (P q) b)) W de u:=by
 have cK:=c8.cK;have s:=c8.O;have f:=lf.1 c8.w_;have g:=h.at_ q i c8;rw[<-g]at cY;have c:gB (nU (p.f.dJ[i]'c8.O) b)=N:=lf.2 ⟨f.1,f.2.1,by show 1<= (p.f.dJ[i]'c8.O).2.1+1;omega,by show(p.f.dJ[i]'c8.O).2.1+1<=_;omega,r⟩;have w:=ey.aaR c8 c c8.dJ z λy A=>(m y A).1;refine⟨⟨w,h.ef.rest,h.ef.fy,h.ef.rm,h.ef.j3,h.ef.fA,λx c=>(m x c).2⟩,h.pins,λk j B=>?_,⟨λk k1 a v=>?_,λk k1 a=>?_,λk=>?_,h.on.gV⟩,h.td⟩
 .have C:=qi h.ef.fm (by have:=B.fD;omega) B.cK B.cN;have t:=B.O
  by_cases e:k=q
  .subst e;have:=c8.w9 C.cK C.cN;subst this;rw[t',j',g]
  .have n:i≠j:=λo=>by
    subst o;have:=c8.cN.symm.trans C.cN;omega
   rw[xa n,mZ _ _ e];exact h.at_ k j C
 .have n:k≠q:=λe=>by grind
  rw[mZ _ _ n];exact h.on.kE k k1 a λx c=>v x (d x c)
 .by_cases e:k=q
  .subst e;rw[j',<-g];exact .inr ⟨c,c8.dJ⟩
  .rw[mZ _ _ e];exact h.on.tc k k1 a
 .by_cases e:k=q
  .subst e;rw[j',<-g];assumption
  .rw[mZ _ _ e];exact h.on.sd k
def Sr{p P W de u}(h:fu p P W de u){q i:V}(c8:hP p.f (q) i):hO p.f q=((i:J),0):=by rw[hO,if_pos (s6.2 c8.right),(pJ c8.right.eg).2 ⟨c8.fD,c8.mem⟩];rfl
def auj{p P W de u}(h:fu p P W de u)(n:de<=2147483647){q i}(cY:(P q).2.1<de)(c8:hP p.f (q) i)(O:(p.f.cN[i]'c8.cK).2.1≠0){b}(o:b.size<=16):
  ∃f,i0 p.f q b p.now=(f,0) /\fu ⟨f,p.d,p.now⟩ (hZ P q (nU (P q) b)) W de u/\nS f.dJ i=nU (P q) b/\f.cN=p.f.cN:=by
 have c:=c8.O;have cK:=c8.cK;have e:=Sr h c8;have a:=h.at_ q i c8;have v:=cY;rw[<-a]at v;have m:=asH h.ef.fm c8.fD c8.AG h.ef.j3 h.ef.fA h.ef.dK;have⟨hi,r,j,k⟩:=QX (l:=p.f.dK) (p:=(q:J)) (t:=p.now) (by rw[m]);rw[m]at hi r j k;refine⟨⟨p.f.cN,p.f.hand,p.f.eg,p.f.dJ.set i (nU (p.f.dJ[i]'c8.O) b),(if 0<=Dt.gI p.f.dK q 0 then p.f.dK else p.f.dK++[((q:J),p.now)])⟩,?_,?_,?_,Z⟩
 .rw[i0,e,cS (λq=>q Z),gz,j7 cK,cS O,cS R,nT c,cS R,m,cS (λq=>q Z)]
 .refine h.aui n c8 o cY hi (λy d=>⟨r y d,?_⟩) j k;split at d
  .exact h.ef.dK y d
  .rcases iY.1 d with g|g
   .exact h.ef.dK y g
   .rw[p6]at g;subst g;exact kX _
 .rw[nT (by rwa[iu]),t',a]
def auk{p P W de u}(h:fu p P W de u){q i}(cY:(P q).2.1=2147483647)(c8:hP p.f (q) i)(O:(p.f.cN[i]'c8.cK).2.1≠0){b}(c:b.size<=16):(i0 p.f q b p.now).2=7:=by have e:=Sr h c8;have a:=c8.O;have g:=h.at_ q i c8;rw[i0,e,cS (λq=>q Z),gz,j7 c8.cK,cS O,cS R,nT a,if_pos eM]
def adz{p P W de u}(h:fu p P W de u)(j:0<=u)(o:u<2147483647){q}(Q:1<=q)(a:q<=16){n}(l:p.f.cN.length=n):qt p de (u+1) (yX P W n 1 q) (r1 p q):=by
 rw[yX,cS (show ¬((1:J)=2/\ (P q).1≠0) from λg=>dN g.1 cZ),cS (show ¬((1:J)=2) by decide)];rw[r1];rcases h.where Q with c0|⟨i,c8⟩
 .rw[qk h.ef.fm c0 R,cS (show ¬L=N by decide),h.ef.get Q a,h.on.kE q Q a (h.out Q c0)]
  by_cases z:(P q).1=0
  .rw[if_pos z,if_pos ⟨Z,z⟩,if_pos (show(3:J)≠0 by decide)];exact qt.same (h.mono (kX _) R) d_ 3
  .rw[cS z,cS (λg=>z g.2),cS (show ¬((0:J)≠0) from λg=>g Z)];have⟨x,m⟩:=h.on.uh Q a z;exact acN (h.mono (kX _) (show u<=u+1 by omega)) R Q a c0 x m L (λ_=>Z) (h.on.sd q) l
 .have cK:=c8.cK;have e:=c8.O;have k:=oC.1 (h.ef.fm.ij.all i cK);have f:=h.td q;have hw:=h.AX c8;rw[hw]at f;have b:=asB c8 R
  have c:¬(W q=0/\ui W 16=n):=λg=>by
   rw[<-l]at g;exact h.busy.1 g.2 i cK R
  rw[cS (λg=>h.uh c8 g.2),cS c,qj c8,if_pos Z,b,cS (λg=>g Z),gz]
  have r:nS (vz p.f i (AH p.f.cN[i])).dJ i=P q:=by rw[<-h.at_ q i c8];exact nT e
  have d:=h.AI c8 (y:=AH p.f.cN[i]) (oC.2 ⟨k.1,k.2.1,by show 0<= (p.f.cN[i]).2.1+1;omega,by show(p.f.cN[i]).2.1+1<=_;omega⟩) c8.cN (p5:=u+1) (by show(p.f.cN[i]).2.1+1<=_;omega) R;rw[acM,r];refine⟨Z,Z,?_,Z,by show(p.f.cN.set i _).length=_;simp_all,Z,by simp,λg=>dN Z g⟩;rwa[hw]
def adA{p P W de u}(h:fu p P W de u)(b:1<=de)(c:0<=u)(d:u<2147483647){q}(Q:1<=q)(a:q<=16){n}(l:p.f.cN.length=n):qt p de (u+1) (yX P W n 2 q) (r2 p q):=by
 rw[yX,cS (show ¬((2:J)=1/\ (P q).1=0) from λg=>dN g.1 cZ),if_pos (show((2:J)=2) from Z)];rw[r2];rcases h.where Q with c0|⟨i,c8⟩
 .rw[qk h.ef.fm c0 R,cS (show ¬L=N by decide),h.ef.get Q a,h.on.kE q Q a (h.out Q c0)]
  by_cases z:(P q).1=0
  .rw[if_pos z,cS (λg=>g.2 z),if_pos Z];exact acN (h.mono (kX _) (show u<=u+1 by omega)) R Q a c0 (x:=pN q) (R2 R R) Z N (λg=>by cases g) b l
  .rw[cS z,if_pos ⟨Z,z⟩,cS (show ¬(0:J)=3 by decide),if_pos Z];exact qt.same (h.mono (kX _) R) d_ 4
 .rw[if_pos ⟨Z,h.uh c8⟩,qj c8,if_pos Z];exact qt.same (h.mono (kX _) R) d_ 4
def adB{p P W de u}(h:fu p P W de u){q:V}(Q:1<=q)(a:q<=16):vE p q=gy (0<W q):=by
 rw[vE];rcases h.where Q with c0|⟨i,c8⟩
 .rw[qk h.ef.fm c0 R,h.LL Q a c0];rfl
 .rw[qj c8,h.AX c8,gz,j7 c8.cK];rfl
def Ss{p P W de u}(h:fu p P W de u)(l:de<=2147483647){q i:V}(c8:hP p.f (q) i)(z:(p.f.cN[i]'c8.cK).2.1≠0)(b)(Q:1<=q)(j:q<=16):
  hp p (3,(q),b)=(p,P q,[],0) /\
  ((P q).2.1<de\/de=2147483647->∃p' r,hp p (4,(q),b)=(p',r.2,[],r.1) /\p'.now=p.now/\p'.f.cN.length=p.f.cN.length/\
   if 16<b.size then r=(5,d_) /\p'=p else if(P q).2.1=2147483647 then r=(7,d_) /\p'=p else r=(0,nU (P q) b) /\fu p' (hZ P q (nU (P q) b)) W de u) /\
  ∃p',hp p (5,(q),b)=(p',d_,[],0) /\fu p' P (hZ W q (W q-1)) de u/\p'.now=p.now/\p'.f.cN.length=p.f.cN.length:=by
 have cK:=c8.cK;have o:=c8.O;have hw:=h.AX c8;have k:=oC.1 (h.ef.fm.ij.all i cK);refine⟨?_,λv=>?_,?_⟩
 .rw[R3 (show 1<= (q:J) by omega) (show(q:J) <=16 by omega) (.inl Z),R5 (a:=(3,(q:J),b)) c8 z,cS (show ¬(3:J)=4 by decide),cS (show ¬(3:J)=5 by decide),h.at_ q i c8]
 .rw[R3 (show 1<= (q:J) by omega) (show(q:J) <=16 by omega) (.inr (.inl Z)),R5 (a:=(4,(q:J),b)) c8 z,if_pos Z]
  by_cases m:16<b.size
  .have e:i0 p.f q b p.now=(p.f,5):=by
    rw[i0,Sr h c8,cS (λq=>q Z),gz,j7 cK,cS z,if_pos m]
   refine⟨p,(5,d_),?_,Z,Z,?_⟩
   .simp only[e];rfl
   simp_all
  .by_cases cY:(P q).2.1=2147483647
   .have e:=auk h cY c8 z (b:=b) R;refine⟨p,(7,d_),?_,Z,Z,?_⟩
    .simp only[e];rfl
    simp_all
   .have s:=h.on.sd q;have⟨f,x,t,w,d⟩:=auj h l R c8 z (b:=b) R;refine⟨⟨f,p.d,p.now⟩,(0,nU (P q) b),?_,Z,by rw[d],?_⟩
    .simp;simp_all
    simp_all
 .rw[R3 (show 1<= (q:J) by omega) (show(q:J) <=16 by omega) (.inr (.inr Z)),R5 (a:=(5,(q:J),b)) c8 z,cS (show ¬(5:J)=4 by decide),if_pos Z,asA c8 z,cS (λg=>g Z)];have c:=h.td q;rw[hw]at c;have n:=h.AI c8 (y:=Di p.f.cN[i]) (oC.2 ⟨k.1,k.2.1,by show 0<= (p.f.cN[i]).2.1-1;omega,by show(p.f.cN[i]).2.1-1<=_;omega⟩) c8.cN (p5:=u) (by show(p.f.cN[i]).2.1-1<=_;omega) (kX _);refine⟨_,Z,?_,Z,by show(p.f.cN.set i _).length=_;simp_all⟩;rwa[hw]
def ka(P:V->e')(o:gU):(V->e')×lH:=
 if o.1=1 then(if(P o.2.1.toNat).1≠0 then(P,(4,d_)) else(hZ P o.2.1.toNat (pN o.2.1.toNat),(0,pN o.2.1.toNat)))
 else if(P o.2.1.toNat).1=0 then(P,(3,d_))
 else if o.1=2 then(P,(0,P o.2.1.toNat))
 else if o.1=3 then(if 16<o.2.2.size then(P,(5,d_)) else if(P o.2.1.toNat).2.1=2147483647 then(P,(7,d_)) else(hZ P o.2.1.toNat (nU (P o.2.1.toNat) o.2.2),(0,nU (P o.2.1.toNat) o.2.2)))
 else(hZ P o.2.1.toNat d_,(0,d_))
structure m3(de:J)(p:fJ)(P:V->e')(n:V):Prop where
 inv:fu p P (λ_=>0) de 0
 len:p.f.cN.length=n
abbrev n4(p:fJ)(P:V->e')(n:V):Prop:=m3 2147483647 p P n
def fu.Hh{p P de u}(h:fu p P (λ_=>0) de u):fu p P (λ_=>0) de 0:=⟨h.ef,h.pins,h.at_,h.on,λ_=>kX _⟩
def aul(q):hZ (hZ (λ_=>(0:J)) q 1) q ((hZ (λ_=>(0:J)) q 1) q-1)=λ_=>0:=by
 funext k
 by_cases e:k=q
 .subst e;rw[j',j'];rfl
 .rw[mZ _ _ e,mZ _ _ e]
def LY{p P de u}(h:fu p P (λ_=>0) de u)(o:gU){q:V}(b:o.2.1=(q))(Q:1<=q)(a:q<=16)(r):rh o (p,r)=(p,r):=by rw[rh,cS];rw[b,adB h Q a];decide
def Su{p P de u q}(h:fu p P (hZ (λ_=>0) q 1) de u)(Q:1<=q)(a:q<=16):∃i,∃c8:hP p.f (q) i,(p.f.cN[i]'c8.cK).2.1≠0:=by
 rcases h.where Q with c0|⟨i,c8⟩
 .have:=h.LL Q a c0;rw[j']at this;cases this
 .refine⟨i,c8,?_⟩;rw[<-h.AX c8,j'];decide
def Sv{p P de u}(c:de<=2147483647){q}(h:fu p P (hZ (λ_=>0) q 1) de u)(o:gU)(d:o.2.1=(q))(Q:1<=q)(a:q<=16)(r):
  ∃p',rh o (p,r)=(p',r) /\fu p' P (λ_=>0) de 0/\p'.now=p.now/\p'.f.cN.length=p.f.cN.length:=by
 have⟨i,c8,z⟩:=Su h Q a;have⟨_,_,p',e,b,n,l⟩:=Ss h c c8 z fB Q a;rw[aul]at b;refine⟨p',?_,b.Hh,n,l⟩
 have O:vE p o.2.1=N:=by rw[d,adB h Q a,j'];rfl
 rw[rh,if_pos O];simp_all
def adC(p){q:V}(Q:1<=q)(h:q<=16)(b):hp p (1,(q),b)=r1 p q:=by rw[hp,cS (show ¬((1:J)<1\/ (8:J)<1) by decide),cS (show ¬((1:J)≠8/\ ((q:J)<1\/16<(q:J))) by omega),if_pos Z]
def LZ(p){q:V}(Q:1<=q)(h:q<=16)(b):hp p (2,(q),b)=r2 p q:=by rw[hp,cS (show ¬((2:J)<1\/ (8:J)<2) by decide),cS (show ¬((2:J)≠8/\ ((q:J)<1\/16<(q:J))) by omega),cS (show ¬(2:J)=1 by decide),if_pos Z]
def adD(p){q:V}(Q:1<=q)(h:q<=16)(b):hp p (6,(q),b)=xc p q:=by rw[hp,cS (show ¬((6:J)<1\/ (8:J)<6) by decide),cS (show ¬((6:J)≠8/\ ((q:J)<1\/16<(q:J))) by omega),cS (show ¬(6:J)=1 by decide),cS (show ¬(6:J)=2 by decide),if_pos Z]
def L0{p p' x l e k s o r}(h:hp p (k,o.2.1,o.2.2)=(p',x,l,e))(a:e≠0):kA o (k::s) p r=(p',(e,d_)):=by rw[kA];simp_all
def DT{p p' x l k s o r}(h:hp p (k,o.2.1,o.2.2)=(p',x,l,0)):kA o (k::s) p r=kA o s p' (r.1,x):=by rw[kA];simp_all
def adE{n}(c0:1<=n)(q:V):¬((λ_=>(0:J)) q=0/\ui (λ_=>(0:J)) 16=n):=λg=>by
 have:ui (λ_=>(0:J)) 16=0:=Z;omega
def adF{de p P n}(w:de<=2147483647)(x:1<=de)(H:∀q,(P q).2.1<de\/de=2147483647)(h:m3 de p P n)(c0:1<=n)(o)(M:i1 o=L):
  (gg p o).2=(ka P o).2/\m3 de (gg p o).1 (ka P o).1 n:=by
 have⟨h,A⟩:=h;have⟨⟨k1,W⟩,cU,cX⟩:=yO M;have⟨k,id,b⟩:=o;simp only[]at k1 W cU cX;obtain⟨q,rfl⟩:∃q:V,id=q:=⟨id.toNat,by omega⟩
 have Q:1<=q:=R
 have a:q<=16:=R
 have y:∀ {p':fJ} {P':V->e'} {r:lH},gg p (k,(q:J),b)=(p',r)->fu p' P' (λ_=>0) de 0->p'.f.cN.length=p.f.cN.length->ka P (k,(q:J),b)=(P',r)->
   (gg p (k,(q:J),b)).2=(ka P (k,(q:J),b)).2/\m3 de (gg p (k,(q:J),b)).1 (ka P (k,(q:J),b)).1 n:=by
  intro p' P' r e i m d;rw[e,d];exact⟨Z,i,m.trans A⟩
 have E:k=1\/k=2\/k=3\/k=4:=R
 by_cases z:(P q).1=0
 .rcases E with rfl|E
  .have d:=adA h x (kX _) cZ Q a A;rw[yX,cS (λg=>dN g.1 cZ),cS (λg=>g.2 z),cS (adE c0 q),if_pos Z]at d;have⟨fD,l,e,f,B,D,_⟩:=d.eq;rw[<-LZ p Q a b]at e;have⟨I,t,u,cM,T⟩:=Sv w f (1,(q:J),b) Z Q a (0,pN q);refine y (p':=I) (P':=hZ P q (pN q)) (r:=(0,pN q)) ?_ u (T.trans D) ?_
   .rwa[gg,show k2 1=[2] from Z,DT (o:=(1,(q:J),b)) e]
   .rw[ka,if_pos Z,cS (λg=>g (by simpa using z))];simp
  .have j:ka P (k,(q:J),b)=(P,(3,d_)):=by
    rw[ka,cS R,if_pos eM]
   by_cases X:k=4
   .subst X;have d:=acO h R Q a;rw[cS (show ¬(0:J)<0 by decide),if_pos z]at d;have⟨fD,l,e,f,B,D,_⟩:=d.eq;rw[<-adD p Q a b]at e;refine y (p':=fD) (P':=P) (r:=(3,d_)) ?_ f.Hh D j;rw[gg,show k2 4=[6] from Z,L0 (o:=(4,(q:J),b)) e cZ];exact LY f _ Z Q a _
   .have d:=adz h (kX _) cZ Q a A;rw[yX,if_pos ⟨Z,z⟩]at d;have⟨fD,l,e,f,B,D,_⟩:=d.eq;rw[<-adC p Q a b]at e;refine y (p':=fD) (P':=P) (r:=(3,d_)) ?_ f.Hh D j
    have⟨dh,F⟩:∃dh,k2 k=1::dh:=by
     rcases E with rfl|rfl|rfl
     .exact⟨_,Z⟩
     .exact⟨_,Z⟩
     omega
    rw[gg,show k2 (k,(q:J),b).1=1::dh from F,L0 (o:=(k,(q:J),b)) e cZ];exact LY f _ Z Q a _
 .have v:∃fD l,hp p (1,(q:J),b)=(fD,P q,l,0) /\fu fD P (hZ (λ_=>0) q 1) de 1/\fD.f.cN.length=p.f.cN.length:=by
   have d:=adz h (kX _) cZ Q a A;rw[yX,cS (λg=>z g.2),cS (λg=>dN g.1 cZ),cS (adE c0 q),cS cZ,acM]at d;have⟨fD,l,e,f,B,D,_⟩:=d.eq;rw[<-adC p Q a b]at e;exact⟨fD,l,e,f,D⟩
  rcases E with rfl|rfl|rfl|rfl
  .have d:=adA h x (kX _) cZ Q a A;rw[yX,cS (λg=>dN g.1 cZ),if_pos ⟨Z,z⟩]at d;have⟨fD,l,e,f,B,D,_⟩:=d.eq;rw[<-LZ p Q a b]at e;refine y (p':=fD) (P':=P) (r:=(4,d_)) ?_ f.Hh D ?_
   .rw[gg,show k2 1=[2] from Z,L0 (o:=(1,(q:J),b)) e cZ];exact LY f _ Z Q a _
   .rw[ka,if_pos Z,if_pos eM]
  .have⟨fD,l,e,f,D⟩:=v;have⟨i,c8,O⟩:=Su f Q a;have t:=(Ss f w c8 O b Q a).1;have⟨I,C,u,cM,T⟩:=Sv w f (2,(q:J),b) Z Q a (0,P q);refine y (p':=I) (P':=P) (r:=(0,P q)) ?_ u (T.trans D) ?_
   .rwa[gg,show k2 2=[1,3] from Z,DT (o:=(2,(q:J),b)) e,DT (o:=(2,(q:J),b)) t]
   .rw[ka,cS (show ¬(2:J)=1 by decide),cS eM,if_pos Z];simp
  .have⟨fD,l,e,f,D⟩:=v;have⟨i,c8,O⟩:=Su f Q a;have⟨I,r,t,cM,T,c⟩:=(Ss f w c8 O b Q a).2.1 (H q)
   have fin:∀ {P':V->e'},fu I P' (hZ (λ_=>0) q 1) de 1->(r.1≠0->r.2=d_)->ka P (3,(q:J),b)=(P',r)->
     (gg p (3,(q:J),b)).2=(ka P (3,(q:J),b)).2/\m3 de (gg p (3,(q:J),b)).1 (ka P (3,(q:J),b)).1 n:=by
    intro P' u G d;have⟨Y,C,dc,S,db⟩:=Sv w u (3,(q:J),b) Z Q a r;refine y (p':=Y) (P':=P') (r:=r) ?_ dc (db.trans (T.trans D)) d;rw[gg,show k2 3=[1,4] from Z,DT (o:=(3,(q:J),b)) e]
    by_cases s:r.1=0
    .rw[s]at t;rw[DT (o:=(3,(q:J),b)) t];rwa[show((0,r.2):lH)=r by rw[<-s]]
    .rwa[L0 (o:=(3,(q:J),b)) t s,show((r.1,d_):lH)=r by rw[<-G s]]
   have j:ka P (3,(q:J),b)=(if 16<b.size then(P,(5,d_)) else if(P q).2.1=2147483647 then(P,(7,d_)) else(hZ P q (nU (P q) b),(0,nU (P q) b))):=by rw[ka,cS (show ¬(3:J)=1 by decide),cS (by simpa using z),cS (show ¬(3:J)=2 by decide),if_pos Z];simp
   by_cases K:16<b.size
   .rw[if_pos K]at c j;obtain⟨rfl,rfl⟩:=c;exact fin f (λ_=>Z) j
   .rw[cS K]at c j
    by_cases cY:(P q).2.1=2147483647
    .rw[if_pos cY]at c j;obtain⟨rfl,rfl⟩:=c;exact fin f (λ_=>Z) j
    .rw[cS cY]at c j;obtain⟨rfl,u⟩:=c;exact fin u (λg=>dN Z g) j
  .have d:=acO h R Q a;rw[cS (show ¬(0:J)<0 by decide),cS z]at d;have⟨fD,l,e,f,B,D,_⟩:=d.eq;rw[<-adD p Q a b]at e;refine y (p':=fD) (P':=hZ P q d_) (r:=(0,d_)) ?_ f.Hh D ?_
   .rw[gg,show k2 4=[6] from Z,DT (o:=(4,(q:J),b)) e];exact LY f _ Z Q a _
   .rw[ka,cS (show ¬(4:J)=1 by decide),cS eM,cS (show ¬(4:J)=2 by decide),cS (show ¬(4:J)=3 by decide)];simp
def L1{p P n}(h:n4 p P n)(c0:1<=n)(o)(r:i1 o=L):(gg p o).2=(ka P o).2/\n4 (gg p o).1 (ka P o).1 n:=
 adF (kX _) cZ (λ_=>.inr Z) h c0 o r
def DU(P:V->e')(k:V):dB e':=if(P (k+1)).1≠0 then U (P (k+1)) else cL
def ro(P:V->e')(k:V):I e':=(iz k).filterMap (DU P)
def aum{s}(h:(l3 s).2=0):gB (l3 s).1=N:=by rw[l3]at h⊢;grind
def Sx{s q}(h:(il s q).2=0):gB (il s q).1=N/\ (il s q).1.1=(q):=by
 rw[il]at h⊢;split at h
 .omega
 rename_i g;rw[cS g];split at h
 .cases h
 rename_i a;rw[cS a];exact⟨aum afV,by simp_all⟩
def aun{f:V->dB e'}(c:∀k x,f k=U x->x.1=(k)+1)(n):((iz n).filterMap f).Pairwise λa b=>a.1<b.1:=by rw[List.pairwise_filterMap];refine List.pairwise_lt_range.imp fun {a b} h x d y e=>?_;grind
def auo{l:I e'}(Q:∀x∈l,gB x=N)(c:l.Pairwise λa b=>a.1<b.1):Hy.LC l:=
 ⟨Q,λi cK=>(yh.1 c) i (i+1) R cK R⟩
def aup{l}(Q:∀x∈l,gB x=N)(c5:l.Pairwise λa b=>a.1<b.1){x}(c:x∈l):pP l x.1=(x,N):=by obtain⟨i,cK,rfl⟩:=kr.1 c;have e:=Hy.acf cK (kX _) λj dU d=>(yh.1 c5) j i d cK dU;rw[pP,if_pos ⟨Hy.LF.2 (auo Q c5),by rw[Hy.rl,e,fq cK];simp⟩,e,fq cK];rfl
def adG{l id}(h:∀x∈l,x.1≠id):pP l id=(d_,L):=by rw[pP,cS];rintro⟨_,g⟩;rw[Hy.rl]at g;grind
def Sy{d k x}(cP:∀q:V,1<=q->q<=16->lh d q=il d.sec q)(a:k<16)(h:uk d k=U x):gB x=N/\x.1=(k)+1:=by
 have e:=cP (k+1) R R;rw[show(((k+1:V):J))=(k:J)+1 by omega]at e;rw[uk,e]at h;split at h
 .rename_i g
  cases h
  have:=Sx g;assumption
 .cases h
def Sz{d x}:x∈pg d 16↔∃k,k<16/\uk d k=U x:=by rw[pg,K0];simp_all
def adH{f g:V->dB e'}{n}(h:∀k,k<n->f k=g k):(iz n).filterMap f=(iz n).filterMap g:=by
 induction n with
 |zero=>rfl|succ n i=>rw[He,He,i λk a=>h k R,h n R]
def SA{m P n}(h:n4 m.p P n):m2 m=ro P 16:=by
 have cK:=h.inv;have cP:∀q:V,1<=q->q<=16->lh m.p.d q=il m.p.d.sec q:=λq Q l=>cK.ef.get Q l
 have r:∀x∈pg m.p.d 16,gB x=N:=λx c=>by
  have⟨k,d,e⟩:=Sz.1 c;exact(Sy cP d e).1
 have s:(pg m.p.d 16).Pairwise λa b=>a.1<b.1:=by
  have e:pg m.p.d 16=(iz 16).filterMap λk=>if k<16 then uk m.p.d k else cL:=adH λk d=>by simp_all
  rw[e];refine aun (λk x c=>?_) 16;split at c
  .rename_i d;exact(Sy cP d c).2
  .cases c
 refine adH λk d=>?_;rw[DQ,DU,show((k:J)+1)=((k+1:V):J) by omega];rcases cK.where (q:=k+1) R with c0|⟨i,c8⟩
 .rw[qk cK.ef.fm c0 R,cS cZ];have e:=cK.on.kE (k+1) R R (cK.out R c0)
  by_cases z:(P (k+1)).1=0
  .rw[if_pos z]at e;rw[adG,cS cZ,cS (show ¬(P (k+1)).1≠0 from λg=>g z)];intro x c t;have⟨j,o,f⟩:=Sz.1 c;have u:=(Sy cP o f).2
   have:j=k:=R
   subst this;rw[uk,show((j:J)+1)=((j+1:V):J) by omega,cP (j+1) R R,e,cS cZ]at f
   cases f
  .rw[cS z]at e;rw[if_pos z]
   have p:=Sz.2 ⟨k,d,by rw[uk,show((k:J)+1)=((k+1:V):J) by omega,cP (k+1) R R,e,if_pos Z]⟩
   have:=aup r s p;rw[(cK.on.uh (q:=k+1) R R z).2]at this;simp_all
 .rw[qj c8,if_pos Z,if_pos (cK.uh c8)];simp;rw[nT c8.O,cK.at_ (k+1) i c8]
def my.new{p n work}(a:1<=n)(b:n<=8)(O:p.f.cN.length=n)(h:gm 0 p)(t:1<=work.length)(c:work.length<=4):my work 0 (mw p n work):=
 ⟨aqp a b O t c,h,by
  show(work.map rg).map (·.todo)=work;rw[K5]
  exact List.map_id'' (λ_=>Z) _,kX _⟩
def n4.n2{p P n}(h:n4 p P n):gm p.now p:=⟨h.inv.ef.fm,by
 have:=h.inv.ef.rest.us
 rwa[<-h.inv.ef.d]at this,Z⟩
def L2{n}(Q:1<=n)(a:n<=8):n4 (ja n) (λ_=>d_) n:=⟨(asK Q a).mono cZ cZ,p8 ..⟩
inductive rp(m:eu):eu->Prop
 |same (iN:hI) (oJ:I hx) (s':gw) (oU:J) (dj:oU=m.eh\/oU=m.eh+1):rp m ⟨m.ws,m.p,iN,oJ,s',oU,m.dq⟩
 |g2 (a:J):rp m (vF m a)
 |SB (k:V) (w:gd) (iN:hI) (c_:m.ws[k]?=U w) (c':w.st=0) (he:w.ended<w.todo.length):rp m ⟨m.ws.set k {w with nX:=m.eh,st:=1},m.p,iN,m.ej,m.s,m.eh+1,m.dq⟩
 |DV (k:V) (w:gd) (a p:di) (s:V) (iN:hI) (oJ:I hx) (s':gw) (c_:m.ws[k]?=U w) (Q:1<=w.st) (du:w.st<6) (c5:2<=s) (dY:s<=5):rp m ⟨m.ws.set k {w with asked:=a,pinned:=p,st:=s},m.p,iN,oJ,s',m.eh+1,m.dq⟩
 |SC (k:V) (w:gd) (s':gw) (c_:m.ws[k]?=U w) (c':w.st=4):rp m ⟨m.ws.set k {w with st:=5},m.p,m.h,m.ej,s',m.eh,m.dq⟩
 |fail (k:V) (w:gd) (s':gw) (c_:m.ws[k]?=U w) (c':w.st=4):rp m ⟨m.ws.set k (qp w (8,d_) (m.eh-1)),m.p,m.h,m.ej,s',m.eh,m.dq⟩
 |refuse (k:V) (w:gd) (c_:m.ws[k]?=U w) (c':w.st=1) (dQ:i1 w.op=N):rp m ⟨m.ws.set k (qp w (1,d_) m.eh),m.p,m.h,m.ej,m.s,m.eh+1,m.dq⟩
 |work (k:V) (w:gd) (c_:m.ws[k]?=U w) (c':w.st=5) (dQ:i1 w.op=L):rp m ⟨m.ws.set k (qp w (gg m.p w.op).2 m.eh),(gg m.p w.op).1,m.h,m.ej,m.s,m.eh+1,m.dq⟩
 |leave (k:V) (w:gd) (iN:hI) (oJ:I hx) (c_:m.ws[k]?=U w) (c':w.st=6):rp m ⟨m.ws.set k (K' w),m.p,iN,oJ,m.s,m.eh+1,m.dq++[⟨k,w.op,w.res,w.nX,w.done,m.eh⟩]⟩
def auq{m}(o:hY m)(k):rp m (gR m k).1:=by
 rw[gR];split
 .exact .same m.h m.ej m.s m.eh (.inl Z)
 split
 .exact .same m.h m.ej m.s m.eh (.inl Z)
 .rename_i w a;have v:=o.w _ w a;have n:rp m {m with eh:=m.eh+1}:=.same m.h m.ej m.s (m.eh+1) (.inr Z);unfold stepW;split
  .rename_i s;split
   .exact n
   .exact .SB _ w _ a s R
  .rename_i s;split
   .exact n
   split
   .rename_i r;exact .refuse _ w a s r
   .exact .DV _ w N w.pinned 2 _ _ _ a R R R R
  .rename_i s;split
   .exact n
   .exact .DV _ w w.asked w.pinned 3 _ _ _ a R R R R
  .rename_i s;split
   .exact n
   split
   .exact .DV _ w w.asked N 4 _ _ _ a R R R R
   .exact .DV _ w w.asked N 5 _ _ _ a R R R R
  .rename_i s;exact .work _ w a s (v.val (v.ask R R))
  .rename_i s;exact .leave _ w _ _ a s
  .exact n
def aur{m}(o:hY m)(i b):rp m (jn m i b).1:=by
 rw[jn];split
 .exact .same m.h m.ej m.s m.eh (.inl Z)
 split
 .exact .same m.h m.ej _ m.eh (.inl Z)
 .split
  .exact .same m.h m.ej _ m.eh (.inl Z)
  .rename_i w k;split
   .exact .same m.h m.ej _ m.eh (.inl Z)
   .rename_i s;unfold Do;split
    .exact .fail _ w _ k R
    .exact .SC _ w _ k R
structure SD(P:V->e'):Prop where
 ok:∀q:V,1<=q->q<=16->P q=d_\/ (gB (P q)=N/\ (P q).1=(q:J))
def n4.tc{p P n}(h:n4 p P n):SD P:=⟨h.inv.on.tc⟩
def SD.uh{P}(h:SD P){q}(Q:1<=q)(a:q<=16)(z:(P q).1≠0):gB (P q)=N/\ (P q).1=(q):=by
 rcases h.ok q Q a with e|e
 .rw[e]at z;exact dN Z z
 .exact e
def adI(P:V->e')(o:gU):(V->e')×lH:=if i1 o=N then(P,(1,d_)) else ka P o
def aus{P x}:x∈ro P 16↔∃q,1<=q/\q<=16/\ (P q).1≠0/\x=P q:=by
 rw[ro,K0];simp[F2,DU];constructor
 .grind
 .rintro⟨q,Q,h,z,rfl⟩;exact⟨q-1,by omega,by simp_all⟩
def aut(P):(ro P 16).length<=16:=LP _ _
def L3{ws:I gd}{k j w v}(h:(ws.set k w)[j]?=U v):(j=k/\v=w) \/ (j≠k/\ws[j]?=U v):=hN
def m4(l:I qo)(k:V):I gU:=(l.filter λe=>e.gs==k).map (·.op)
def auu(l e k):m4 (l++[e]) k=m4 l k++(if e.gs=k then [e.op] else []):=by rw[m4,z',jl,<-m4];grind
structure yZ(m:eu):Prop where
 gs:∀e∈m.dq,e.gs<m.ws.length
 ops:∀(k:V) (w:gd),m.ws[k]?=U w->m4 m.dq k=w.todo.take w.ended
 kC:∀(k:V) (w:gd),m.ws[k]?=U w->w.st≠0->w.ended<w.todo.length
def yZ.upd{m}(g:yZ m){k w w' p' d l s' c}(i:m.ws[k]?=U w)(o:w'.todo=w.todo)(b:w'.ended=w.ended)(n:w.ended<w.todo.length):yZ ⟨m.ws.set k w',p',d,l,s',c,m.dq⟩:=by
 refine⟨λe f=>by rw[iu];exact g.gs e f,λj v a=>?_,λj v a s=>?_⟩
 .rcases L3 a with⟨rfl,rfl⟩|⟨_,h⟩
  .rw[o,b];exact g.ops _ w i
  .exact g.ops j v h
 .rcases L3 a with⟨rfl,rfl⟩|⟨_,h⟩
  .simp_all
  .exact g.kC j v h s
def yZ.k0{m tU}(g:yZ m)(t:rp m tU):yZ tU:=by
 cases t with
 |same iN oJ s' oU dj=>exact⟨g.gs,g.ops,g.kC⟩
 |g2 a=>exact⟨g.gs,g.ops,g.kC⟩
 |SB k w iN c_ c' he=>exact g.upd c_ Z Z he
 |DV k w a p s iN oJ s' c_ Q du c5 dY=>exact g.upd c_ Z Z (g.kC k w c_ R)
 |SC k w s' c_ c'=>exact g.upd c_ Z Z (g.kC k w c_ R)
 |fail k w s' c_ c'=>exact g.upd c_ Z Z (g.kC k w c_ R)
 |refuse k w c_ c' dQ=>exact g.upd c_ Z Z (g.kC k w c_ R)
 |work k w c_ c' dQ=>exact g.upd c_ Z Z (g.kC k w c_ R)
 |leave k w iN oJ c_ c'=>
  have d:=(f_.1 c_).1;have hb:=g.kC k w c_ R;refine⟨λe he=>?_,λj v dU=>?_,λj v dU b=>?_⟩
  .rw[iu];rcases iY.1 he with he|he
   .exact g.gs e he
   simp_all
  .rw[auu];rcases L3 dU with⟨rfl,rfl⟩|⟨c,h⟩
   .rw[if_pos Z,g.ops _ w c_];show _++[w.op]=w.todo.take (w.ended+1);rw[mb hb,gd.op,fq hb];rfl
   .rw[cS (λe=>c e.symm),qW];exact g.ops j v h
  .rcases L3 dU with⟨rfl,rfl⟩|⟨_,h⟩
   .exact dN Z b
   .exact g.kC j v h b
structure auv(m:eu):Prop where
 e3:0<=m.eh
 mv:m.ws.length<=4
 dq:∀e∈m.dq,e.gs<4/\0<=e.nX/\e.nX<e.done/\e.done<e.ended/\e.ended<m.eh
 up:m.dq.Pairwise λa b=>a.ended<b.ended
 seq:m.dq.Pairwise λa b=>a.gs=b.gs->a.ended<b.nX
 fv:∀(k:V) (w:gd),m.ws[k]?=U w->w.st≠0->0<=w.nX/\w.nX<m.eh/\ ∀e∈m.dq,e.gs=k->e.ended<w.nX
 p9:∀(k:V) (w:gd),m.ws[k]?=U w->2<=w.st->w.nX+1<m.eh
 Gj:∀(k:V) (w:gd),m.ws[k]?=U w->w.st=6->w.nX<w.done/\w.done<m.eh
structure jW where
 op:gU
 res:lH
 done:J
def SE(e:qo):jW:=⟨e.op,e.res,e.done⟩
def auw(w:gd):dB jW:=if w.st=6 then U ⟨w.op,w.res,w.done⟩ else cL
def Hi(ws:I gd):I jW:=ws.filterMap auw
def adJ(m:eu):I jW:=m.dq.map SE++Hi m.ws
def adK(r:jW):di:=gy (r.res.1≠8)
def adL:(V->e')->I jW->(V->e')->Prop
 |P,[],P'=>P'=P
 |P,r::G,P'=>(adI P r.op).2=r.res/\adL (adI P r.op).1 G P'
structure auy(SF:V->e')(n:V)(m:eu):Prop where
 fA:1<=n
 ex:∃(G:I jW) (P:V->e'),adL SF G P/\n4 m.p P n/\G.Pairwise (λa b=>a.done<b.done) /\ (∀r∈G,r.done<m.eh) /\ ((adJ m).filter adK).Perm G
 vB:∀r∈adJ m,r.res.1=8->r.res=(8,d_)
def m3.g2{de p P n}(h:m3 de p P n)(a b):m3 de (hp (lk p 1) (8,a,b)).1 P n:=by
 have c:m3 de (lk p 1) P n:=by
  refine⟨?_,?_⟩
  .have cK:=h.inv;have o:=cK.ef.j3;have k:=cK.ef.fA
   have mk:∀t:J,p.now<=t->t<=2147483647->fu ⟨p.f,p.d,t⟩ P (λ_=>0) de 0:=λt r m=>⟨⟨cK.ef.fm,cK.ef.rest,cK.ef.fy,cK.ef.rm,by grind,m,λx i=>by have:=cK.ef.dK x i;grind⟩,cK.pins,cK.at_,cK.on,cK.td⟩
   rw[lk];grind
  .rw[lk];repeat' split
   all_goals exact h.len
 have d:=(acR c.inv a).1;have⟨q,l,e,j,k,s,_⟩:=d.eq
 have f:hp (lk p 1) (8,a,b)=ua (lk p 1) a:=by rw[hp,cS (show ¬((8:J)<1\/ (8:J)<8) by decide),cS (show ¬((8:J)≠8/\_) from λg=>g.1 Z)];rfl
 rw[f,e];exact⟨j,s.trans c.len⟩
structure SG(SF:V->e')(n:V)(work:I (I gU))(m:eu):Prop where
 g:iU work m
 dJ:yZ m
 ayf:auv m
 Jo:auy SF n m
def auz(a b k):m4 (a++b) k=m4 a k++m4 b k:=by rw[m4,z',jl];rfl
def L4(m:eu)(k:V):J:=match m.ws[k]? with|some w=>(w.st:J)|none=>0
def auA(m c k w now n):(stepW {m with eh:=c} k w n).2=(stepW m k w now).2:=by
 unfold stepW;repeat' split
 all_goals first|rfl|(exfalso;simp[iS]at*;simp_all;done)
def auB(m k w now):(stepW m k w now).2=L->(stepW m k w now).1=m:=by
 unfold stepW;repeat' split
 all_goals simp_all
def auC{m k}(h:(gR m k).2=L):∃c,(gR m k).1={m with eh:=c} /\m.eh<=c/\c<=m.eh+1:=by
 rw[gR]at h⊢;split
 .grind
 .rename_i a;rw[cS a]at h
  cases e:m.ws[k.toNat]? with|none=>grind|some w=>rw[e]at h;exact⟨m.eh+1,auB _ _ _ _ h,R,R⟩
def sg(m:eu)(k:V):Prop:=(gR m k).2=N\/L4 m k=4
def DW{m}{k:V}{w}(a:m.ws[k]?=U w):(gR m k).2=(stepW m k w 0).2:=by rw[gR,cS R,gz,a];exact auA m _ _ w 0 _
def SH{m k w}(h:m.ws[k]?=U w):L4 m k=w.st:=by rw[L4,h]
def adM{m}(o:hY m)(z:∀k,¬sg m k){k:V}{w}(j:m.ws[k]?=U w):w.st<3:=by
 have v:=o.w k w j;have dY:=v.Du;have q:=z k;rw[sg,DW j,SH j]at q;refine nA λc0=>q ?_;have t:w.st=3\/w.st=4\/w.st=5\/w.st=6:=R;rcases t with d|d|d|d
 .left;simp[stepW,d];split
  .rename_i A
   have i:0<h2 m.h.ds:=by have:=o.kD.fA;omega
   have⟨c,u,y⟩:=CK.1 i;have x:c.1∈m.h.all:=iY.2 (.inl (r8 (f:=(·.1)) u));have l:=o.hw _ x;have⟨a,b⟩:∃a,m.ws[c.1]?=U a:=⟨_,fq l⟩;have n:=o.w _ a b
   have O:a.pinned=N:=by rw[<-n.held];exact GX.2 hN
   have p:¬a.st<4:=λg=>by rw[n.zj g]at O;cases O
   have r:=n.Du;have e:=z c.1;rw[sg,DW b,SH b]at e;refine dN ?_ e;have t:a.st=4\/a.st=5\/a.st=6:=R;rcases t with s|s|s
   .right;omega
   .left;simp[stepW,s]
   .left;simp[stepW,s]
  grind
 .right;omega
 .left;simp[stepW,d]
 .left;simp[stepW,d]
def adN{m}(o:hY m)(z:∀k,¬sg m k){k:V}{w}(n:m.ws[k]?=U w):w.st<2:=by
 have C:=adM o z n;refine nA λc0=>?_;have x:=R;have v:=o.w k w n;have i:=v.ask R R;have⟨_,A,B⟩:=yO (v.val i)
 have cK:w.op.2.1.toNat<m.ej.length:=by rw[o.s_];omega
 have⟨l,f⟩:∃l,m.ej[w.op.2.1.toNat]?=U l:=⟨_,fq cK⟩;have s:=(v.lt _ l f).2 ⟨i,R⟩;have cM:=o.li _ l f
 have y:∀j,j∈l.c'->dA:=λj d=>by
  have t:=cM.lt j (iY.2 (.inl d));have⟨b,a⟩:∃b,m.ws[j]?=U b:=⟨_,fq t⟩;have r:=o.w _ b a;have⟨q,u⟩:=(r.lt _ l f).1 (iY.2 (.inl d));have D:=adM o z a
  have E:¬b.st<2:=λg=>by rw[r.Dv g]at q;cases q
  have p:b.st=2:=R;have c:=z j;rw[sg,DW a]at c;refine c (.inl ?_)
  have e:iS m b.op.2.1=l:=by rw[iS,u,gz,f];rfl
  simp[stepW,p];rw[e,s9,List.contains_iff_mem.2 d];rfl
 rcases iY.1 s with h|h
 .grind
 .rcases cM.shut with e|⟨e,_⟩
  .simp_all
  .have⟨j,d⟩:=List.exists_mem_of_ne_nil _ e;simp_all
def auD{m}(o:hY m)(z:∀k,¬sg m k){k:V}{w}(i:m.ws[k]?=U w):w.st=0:=by
 have t:=adN o z i;refine nA λc0=>?_;have u:=R;have v:=o.w k w i;have r:=v.mS.2 c0
 have y:∀j,j9 m.h j=N->dA:=λj q=>by
  have b:j∈m.h.all:=iY.2 (.inl (AN.1 q));have l:=o.hw j b;have⟨d,a⟩:∃d,m.ws[j]?=U d:=⟨_,fq l⟩;have s:=o.w _ d a;have A:=s.mS.1 b;have B:=adN o z a;have p:d.st=1:=R;have g:=z j;rw[sg,DW a]at g;refine g (.inl ?_);simp[stepW,p];grind
 rcases iY.1 r with h|h
 .exact y k (AN.2 h)
 .rcases o.kD.shut with e|e
  .simp_all
  .have x:=o.kD.fA;have:0<m.h.ds.length:=R;have⟨c,n⟩:=List.exists_mem_of_length_pos this;exact y c.1 (AN.2 (r8 (f:=(·.1)) n))
def auE{m}(o:hY m)(z:∀k,¬sg m k){k:V}{w}(h:m.ws[k]?=U w):w.ended=w.todo.length:=by have Q:=auD o z h;have v:=o.w k w h;refine nA λc0=>?_;have g:=z k;rw[sg,DW h]at g;refine g (.inl ?_);simp[stepW,Q];rw[cS (by have:=v.k7;omega)]
def auF{m}(o:hY m){k w}(a:m.ws[k]?=U w)(h:sg m k):w.ended<w.todo.length:=by
 have v:=o.w k w a;rw[sg,DW a,SH a]at h
 by_cases s:w.st=0
 .rcases h with h|h
  .simp[stepW,s]at h;grind
  .omega
 .exact v.kC s
def goes{m}(o:hY m):(∃k,k<m.ws.length/\sg m k)↔∃k,k<m.ws.length/\0<jQ m k:=by
 constructor
 .rintro⟨k,b,h⟩;refine⟨k,b,?_⟩;have:=auF o (fq b) h;rw[jQ,fq b];simp_all
 .rintro⟨k,b,h⟩;refine nA λc0=>?_
  have z:=λj a=>by
   by_cases e:j<m.ws.length
   .exact c0 ⟨j,e,a⟩
   .rw[sg,gR,cS R,gz,PD R,L4,PD R]at a;rcases a with a|a
    .cases a
    .exact dN a cZ
  have:=auE o z (fq b);rw[jQ,fq b]at h;simp_all
def xo(s:gw)(k:V):V:=match s.out.find? (λf=>f.gs==k) with|some f=>f.k0|none=>1
def ph(s:gw)(k:V)(w:gd):V:=if w.st=4 then 3+xo s k else if w.st=5 then 7 else if w.st=6 then 8 else w.st
def te(m:eu)(k:V):V:=match m.ws[k]? with|none=>0|some w=>9*(w.todo.length-w.ended)-ph m.s k w
def adO{m k w}(h:m.ws[k]?=U w):te m k=9*(w.todo.length-w.ended)-ph m.s k w:=by rw[te,h]
structure A3(m tU:eu)(d:di):Prop where
 le:∀k,te tU k<=te m k
 lt:d=N->∃k,k<4/\te tU k<te m k
def A3.same{m a}(h:∀k,te a k=te m k):A3 m a L:=⟨λk=>by simp_all,λq=>zo⟩
def A3.trans{a b c d e}(Q:A3 a b d)(f:A3 b c e):A3 a c (d||e):=by
 refine⟨λk=>fG (f.le k) (Q.le k),λh=>?_⟩;rcases Bool.or_eq_true_iff.1 h with h|h
 .have⟨k,g,l⟩:=Q.lt h;exact⟨k,g,Nat.lt_of_le_of_lt (f.le k) l⟩
 .have⟨k,g,l⟩:=f.lt h;exact⟨k,g,sR l (Q.le k)⟩
def auG{h ej s k w}(v:Ds h ej s k w)(a:mX s):ph s k w<=8/\ (w.st=4->4<=ph s k w/\ph s k w<=6):=by
 have dY:=v.Du
 have t:1<=xo s k/\xo s k<=3:=by
  rw[xo]
  cases e:s.out.find? (λf=>f.gs==k) with|none=>simp_all|some f=>have:=a.lt f (auH e);simp_all
 rw[ph];grind
def y0{m a k w w'}(c:m.ws[k]?=U w)(g:a.ws=m.ws.set k w')(f:∀j,j≠k->xo a.s j=xo m.s j)(n:k<4)(l:9*(w'.todo.length-w'.ended)-ph a.s k w'<9*(w.todo.length-w.ended)-ph m.s k w):A3 m a N:=by
 have i:=(f_.1 c).1
 have b:a.ws[k]?=U w':=eM
 have s:te a k<te m k:=by rwa[adO b,adO c]
 refine⟨λj=>?_,λ_=>⟨k,n,s⟩⟩
 by_cases e:j=k
 .grind
 .have d:a.ws[j]?=m.ws[j]?:=hN
  rw[te,te,d]
  cases h:m.ws[j]? with|none=>simp_all|some v=>simp only[ph,f j e];omega
def auI{s k}(h:∀p,¬kB s k p):xo s k=1:=by
 rw[xo]
 cases e:s.out.find? (λf=>f.gs==k) with
 |none=>rfl
 |some f=>
  have Q:f.gs=k:=by have:=List.find?_some e;simpa using this
  exact dN (.inr ⟨f,auH e,Q,Z⟩) (h f.dJ)
def auJ{m}(o:hY m)(k):A3 m (gR m k).1 (gR m k).2:=by
 cases cP:(gR m k).2 with
 |false=>have⟨c,e,_⟩:=auC cP;rw[e];exact A3.same λj=>Z
 |true=>
  rw[gR]at cP⊢;split at cP
  .cases cP
  rename_i g;rw[cS g]
  cases d:m.ws[k.toNat]? with
  |none=>simp_all
  |some w=>
   rw[d]at cP;have l:=(f_.1 d).1
   have h:k.toNat<4:=by have:=o.mv;omega
   have v:=o.w _ w d;have O:=auG v o.jH;have b:=v.kC;simp only[]at cP⊢;unfold stepW at cP⊢;split
   .rename_i a;split
    .rename_i c0;rw[a]at cP;simp only[if_pos c0]at cP
     cases cP
    .rename_i c0;refine y0 d Z (λ_ _=>Z) h ?_;simp only[ph,a];simp;omega
   .rename_i a;have f:=b R;split
    .rename_i c0;rw[a]at cP;simp only[if_pos c0]at cP
     cases cP
    split
    .refine y0 d Z (λ_ _=>Z) h ?_;simp only[ph,a,qp];simp;omega
    .refine y0 d Z (λ_ _=>Z) h ?_;simp only[ph,a];simp;omega
   .rename_i a;have f:=b R;split
    .rename_i c0;rw[a]at cP;simp only[if_pos c0]at cP
     cases cP
    .refine y0 d Z (λ_ _=>Z) h ?_;simp only[ph,a];simp;omega
   .rename_i a;have f:=b R;split
    .rename_i c0;rw[a]at cP;simp only[if_pos c0]at cP
     cases cP
    split
    .refine y0 d Z (λ_ _=>Z) h ?_
     have t:xo (ud m.s k.toNat w.op.2.1) k.toNat=1:=auI (s:=m.s) (k:=k.toNat) λp i=>by have:=(v.r9 p).1 i;omega
     simp[ph,a];simp only[t];simp;omega
    .refine y0 d Z (λ_ _=>Z) h ?_;simp only[ph,a];simp;omega
   .rename_i a;have f:=b R;refine y0 d Z (λ_ _=>Z) h ?_;simp only[ph,a,qp];simp;omega
   .rename_i a;have f:=b R;refine y0 d Z (λ_ _=>Z) h ?_;simp only[ph,a];simp;omega
   .rename_i n q r u x y;exfalso;revert cP;split
    all_goals simp_all
def auK{work m}(h:iU work m):∀k,A3 m (h' m k).1 (h' m k).2
 |0=>A3.same λ_=>Z|k+1=>(auK h k).trans (auJ (h.h' k).ok k)
def auL{work m}(h:iU work m):m.ws.length=work.length:=by have⟨t,_,_,g⟩:=h.ex;rw[<-g.o4,ec]
def SI(m n a):∀b,gN (gN m n [] a) n [] b=gN m n [] (a+b)
 |0=>rfl
 |b+1=>by
  show(kF (gN (gN m n [] a) n [] b) n L).1=(kF (gN m n [] (a+b)) n L).1;rw[SI m n a b]
def Hd.uniq{m n f g1 dc a}(r:Hd m n f g1 dc)(e:oM (gN m n f dc) n=L)(Q:∀i,i<a->oM (gN m n f i) n=N)(b:oM (gN m n f a) n=L):dc=a:=by
 rcases Nat.lt_trichotomy dc a with h|h|h
 .simp_all
 .exact h
 .have:=r.all a h;simp_all
def SG.IL{P n p}(h:n4 p P n)(z:p.now=0)(f:1<=n)(i:n<=8){work}(Q:1<=work.length)(j:work.length<=4):SG P n work (mw p n work):=by
 have s:∀(k:V) (w:gd),(work.map rg)[k]?=U w->w.st=0/\w.ended=0:=λk w h=>by
  rw[ir]at h;obtain⟨l,_,rfl⟩:=v_.1 h;exact g_
 have ho:Hi (work.map rg)=[]:=by rw[Hi,auM];intro w hw;obtain⟨l,_,rfl⟩:=is.1 hw;rfl
 have g:iU work (mw p n work):=⟨0,kX 0,cZ,my.new (n:=n) f i h.len (z▸h.n2) Q j⟩;refine⟨g,⟨λe d=>(by cases d),λk w a=>?_,λk w a b=>dN (s k w a).1 b⟩,⟨kX 0,by show(work.map rg).length<=4;simp_all,λe d=>(by cases d),.nil,.nil,λk w a b=>dN (s k w a).1 b,λk w a b=>?_,λk w a b=>?_⟩,⟨f,⟨[],_,Z,h,.nil,λr c=>(by cases c),?_⟩,λr c=>?_⟩⟩
 .rw[(s k w a).2];rfl
 .have:=(s k w a).1;omega
 .have:=(s k w a).1;omega
 .show((([]:I qo).map SE++Hi (work.map rg)).filter adK).Perm [];simp_all
 .have c:r∈([]:I qo).map SE++Hi (work.map rg):=c;simp_all
def adP:∀ {l},(∀e∈l,e.gs<4)->l.length=(m4 l 0).length+(m4 l 1).length+(m4 l 2).length+(m4 l 3).length
 | [],_=>rfl
 |e::l,h=>by
  have i:=adP (l:=l) λe a=>h e (.tail _ a);have a:=h e (.head _)
  have y:∀k,(m4 (e::l) k).length=(if e.gs=k then 1 else 0)+(m4 l k).length:=λk=>by
   have:=auz [e] l k;rw[List.singleton_append]at this;rw[this,kv]
   congr 1
   rw[m4,CG];grind
  grind
namespace Dk
open Go.Proofs Go.RowKit
def si(o:gU):Prop:=(0<=o.1/\o.1<1000000000) /\ (0<=o.2.1/\o.2.1<1000000000)
def sj(T:J)(r:lH):Prop:=(0<=r.1/\r.1<=100) /\0<=r.2.2.1/\r.2.2.1<=T
def sj.up{T a r}(h:sj T r)(t:T<=a):sj a r:=⟨h.1,h.2.1,Int.le_trans h.2.2 t⟩
def Hj{de a p P n}(h:m3 de p P n)(cY:de<=a):m3 a p P n:=⟨h.inv.mono cY (kX _),h.len⟩
structure hf(T:J)(m:eu):Prop where
 t1:1<=T
 t2:T<=1000000
 g:∃work,iU work m/\ ∀l∈work,l.length<=60/\ ∀o∈l,si o
 dJ:yZ m
 doc:∃P n,1<=n/\m3 T m.p P n
 e3:0<=m.eh
 hi:m.eh<=T
 dq:∀e∈m.dq,sj T e.res
 ws:∀(k:V) (w:gd),m.ws[k]?=U w->w.st=6->sj T w.res
def auN{T}(t:1<=T){P}(h:∀q,0<= (P q).2.1/\ (P q).2.1<=T)(o):sj (T+1) (ka P o).2:=by
 have b:=h o.2.1.toNat;have z:∀c:J,0<=c/\c<=100->sj (T+1) (c,d_):=λc a=>⟨a,T3,afX⟩;have y:∀p:e',0<=p.2.1/\p.2.1<=T+1->sj (T+1) (0,p):=λp O=>⟨⟨kX 0,by omega⟩,O.1,O.2⟩;rw[ka];repeat' split
 .grind
 .exact y _ ⟨by show(0:J) <=1;decide,by show(1:J) <=T+1;omega⟩
 .grind
 .grind
 .grind
 .grind
 .exact y _ ⟨by show(0:J) <= (P o.2.1.toNat).2.1+1;omega,by show(P o.2.1.toNat).2.1+1<=T+1;omega⟩
 simp_all
def auO{T}(t:1<=T)(t2:T<=1000000){p P n}(c0:1<=n)(h:m3 T p P n)(o)(r:i1 o=L):
  sj (T+1) (gg p o).2/\ ∃P',m3 (T+1) (gg p o).1 P' n:=by
 have⟨⟨k1,k⟩,c,b⟩:=yO r;have w:=adF (de:=T+1) R R (λq=>.inl (by have:=h.inv.on.sd q;omega)) (Hj h R) c0 o r;refine⟨?_,_,w.2⟩;rw[w.1];have⟨db,d⟩:∃db:V->e',db=λq=>if q=o.2.1.toNat then P q else d_:=⟨_,Z⟩
 have e:(ka P o).2=(ka db o).2:=by
  have:P o.2.1.toNat=db o.2.1.toNat:=by rw[d];simp
  simp[ka,this]
  repeat' split
  all_goals rfl
 rw[e];refine auN t (λq=>?_) o;rw[d];simp only
 split
 .rename_i a;subst a;refine⟨?_,h.inv.on.sd _⟩;rcases h.inv.on.tc o.2.1.toNat R R with e|⟨e,_⟩
  .rw[e];decide
  .have:=(lf.1 e).2.2.1;omega
 .exact⟨cZ,by show(0:J) <=T;omega⟩
def hf.k0{T m tU}(h:hf T m)(cT:T+1<=1000000)(t:rp m tU)(l:∀work,iU work m->iU work tU):hf (T+1) tU:=by
 have t1:=h.t1;have e3:=h.e3;have hi:=h.hi;have⟨work,hw,hb⟩:=h.g;have b:=l _ hw;have c:=h.dJ.k0 t;have⟨P,n,fA,cP⟩:=h.doc;have d:m3 (T+1) m.p P n:=Hj cP R;have f:∀e∈m.dq,sj (T+1) e.res:=λe he=>(h.dq e he).up R;have i:∀(k:V) (w:gd),m.ws[k]?=U w->w.st=6->sj (T+1) w.res:=λk w c_ c'=>(h.ws k w c_ c').up R
 have set:∀ {k:V} {w':gd},(w'.st=6->sj (T+1) w'.res)->∀(j:V) (v:gd),(m.ws.set k w')[j]?=U v->v.st=6->sj (T+1) v.res:=λdQ j v dU c'=>by
  grind
 cases t with|same iN oJ s' oU dj=>exact⟨R,cT,⟨work,b,hb⟩,c,⟨P,n,fA,d⟩,by grind,by grind,f,i⟩|g2 a=>exact⟨R,cT,⟨work,b,hb⟩,c,⟨P,n,fA,d.g2 a _⟩,e3,by show m.eh<=T+1;omega,f,i⟩|SB k w iN c_ c' he=>exact⟨R,cT,⟨work,b,hb⟩,c,⟨P,n,fA,d⟩,by grind,by simp_all,f,set λq=>dN (show 1=6 from q) cZ⟩|DV k w a p s iN oJ s' c_ Q du c5 dY=>exact⟨R,cT,⟨work,b,hb⟩,c,⟨P,n,fA,d⟩,by grind,by simp_all,f,set λq=>dN (show s=6 from q) R⟩|SC k w s' c_ c'=>exact⟨R,cT,⟨work,b,hb⟩,c,⟨P,n,fA,d⟩,e3,by grind,f,set λq=>dN (show 5=6 from q) cZ⟩|fail k w s' c_ c'=>exact⟨R,cT,⟨work,b,hb⟩,c,⟨P,n,fA,d⟩,e3,by grind,f,set λ_=>⟨by show(0:J) <=8/\ (8:J) <=100;decide,by show(0:J) <=0;decide,by show(0:J) <=T+1;omega⟩⟩|refuse k w c_ c' dQ=>exact⟨R,cT,⟨work,b,hb⟩,c,⟨P,n,fA,d⟩,by grind,by simp_all,f,set λ_=>⟨by show(0:J) <=1/\ (1:J) <=100;decide,by show(0:J) <=0;decide,by show(0:J) <=T+1;omega⟩⟩|work k w c_ c' dQ=>have⟨o,P',r⟩:=auO t1 h.t2 fA cP w.op dQ;exact⟨R,cT,⟨work,b,hb⟩,c,⟨P',n,fA,r⟩,by grind,by simp_all,f,set λ_=>o⟩|leave k w iN oJ c_ c'=>refine⟨R,cT,⟨work,b,hb⟩,c,⟨P,n,fA,d⟩,by grind,by simp_all,λe he=>?_,set λq=>dN (show 0=6 from q) cZ⟩;grind
def hf.up{T a m}(h:hf T m)(Q:T<=a)(b:a<=1000000):hf a m:=by have⟨P,n,f,cP⟩:=h.doc;exact⟨by have:=h.t1;omega,b,h.g,h.dJ,⟨P,n,f,Hj cP Q⟩,h.e3,HS,λe c=>(h.dq e c).up Q,λk w d s=>(h.ws k w d s).up Q⟩
def hf.ok{T m}(h:hf T m):hY m:=by have⟨_,g,_⟩:=h.g;exact g.ok
def hf.step{T m}(h:hf T m)(cT:T+1<=1000000)(k):hf (T+1) (gR m k).1:=h.k0 cT (auq h.ok k) λ_ g=>g.step k
def hf.fin{T m}(h:hf T m)(cT:T+1<=1000000)(i b):hf (T+1) (jn m i b).1:=h.k0 cT (aur h.ok i b) λ_ g=>g.fin i b
def hf.vI{T m}(h:hf T m)(cT:T+1<=1000000):hf (T+1) (qq m):=h.k0 cT (.same m.h m.ej (Dn m.s) m.eh (.inl Z)) λ_ g=>g.vI
def hf.g2{T m}(h:hf T m)(cT:T+1<=1000000)(a):hf (T+1) (vF m a):=h.k0 cT (.g2 a) λ_ g=>by
 have⟨t,cW,Q,g⟩:=g.ex;exact⟨A0 t,(ade cW Q).1,(ade cW Q).2,g.g2 _⟩
def hf.h' {T:J} {m:eu} (h:hf T m):∀ (k:V),T+k<=1000000->hf (T+k) (h' m k).1
 |0,cW=>h.up (by omega) cW
 |k+1,c_=>by
  have:=(hf.h' h k (by omega)).step (by omega) k;rw [show T+((k+1:V):J)=T+(k:J)+1 by omega];exact this
def hf.round{T m}(h:hf T m)(cT:T+6<=1000000)(n b):hf (T+6) (kF m n b).1:=
 (((h.h' (min n 4) R).vI R).fin R 0 b).up R cT
def hf.gN {T:J} {m:eu} (h:hf T m) (n:V) (iA:I di):∀ (i:V),T+6*i<=1000000->hf (T+6*i) (gN m n iA i)
 |0,cW=>h.up (by omega) cW
 |i+1,cK=>by
  have:=(hf.gN h n iA i (by omega)).round (by omega) n (vM iA i);rw [show T+6*((i+1:V):J)=T+6*(i:J)+6 by omega];exact this
def hf.ki{T m}(h:hf T m):m.dq.length<=240:=by
 have⟨work,g,f⟩:=h.g;have n:=g.ok.mv;have hw:=auL g;rw[adP λe a=>by have:=h.dJ.gs e a;omega]
 have y:∀k,(m4 m.dq k).length<=60:=λk=>by
  cases e:m.ws[k]? with
  |none=>
   have:m4 m.dq k=[]:=by rw[m4,aug,List.filter_eq_nil_iff];intro b a;have Q:=h.dJ.gs b a;have d:=List.getElem?_eq_none_iff.1 e;simp;omega
   simp_all
  |some w=>
   rw[h.dJ.ops k w e,o5];have⟨t,_,_,c⟩:=g.ex
   have d:w.todo∈work:=by rw[<-c.o4];exact r8 (jY e)
   grind
 grind
def hf.adQ{T m}(h:hf T m)(cT:T<=700000):iF m:=by
 have⟨work,g,s⟩:=h.g;have⟨P,n,C,cP⟩:=h.doc;have d:n4 m.p P n:=Hj cP R;have a:=SA d;have o:=d.tc
 have x:∀p∈m2 m,(1<=p.1/\p.1<=16) /\ (0<=p.2.1/\p.2.1<=T) /\p.2.2.size<=16:=λp O=>by
  rw[a]at O;obtain⟨q,y,f,z,rfl⟩:=aus.1 O;have:=lf.1 (o.uh y f z).1;have:=cP.inv.on.sd q;omega
 have v:=g.ok.mv;refine⟨⟨work,g,λl A=>by grind⟩,h.e3,HS,?_,λp O=>by grind,λp O=>by grind,by have:=h.ki;omega,λe b=>?_,by have:=g.ok.jH.jC;omega⟩
 .rw[a];have:=aut P;omega
 .have hw:=h.dJ.gs e b;have r:=h.dq e b;have u:=fq hw;have w:=h.dJ.ops e.gs _ u
  have i:e.op∈m4 m.dq e.gs:=by rw[m4];exact is.2 ⟨e,ou.2 ⟨b,dw⟩,Z⟩
  rw[w]at i;have c:=Lp i;have⟨t,_,_,j⟩:=g.ex
  have k:m.ws[e.gs].todo∈work:=by rw[<-j.o4];exact r8 (hF hw)
  have B:=(s _ k).2 _ c;exact⟨R,B.1,B.2,by have:=r.1;omega,by have:=r.2;omega⟩
def hf.auP{T m}(h:hf T m):So m:=by have⟨P,n,a,cP⟩:=h.doc;have f:=cP.inv.ef.fm;have r:=cP.inv.ef.rest;have:=f.jC;have:=f.eg.len;have:=f.pl;have:=f.dl;have:=r.m;have c:=cP.inv.ef.fy;exact⟨R,R,R,R,R,by simp_all⟩
def auQ{d n}(h:n<1\/8<n):(iQ d n).2=1:=by rw[iQ];simp_all
structure np(T:J)(d:gA):Prop where
 rest:iT d.sec
 fy:d.fy=[]
 rm:d.sec[0]?.getD fB=jN
 gV:∀q:V,1<=q->q<=16->il d.sec q=(d_,3) \/ ((il d.sec q).2=0/\ (il d.sec q).1.2.1<=T)
def np.new{T}(h:0<=T):np T iH:=⟨RZ,Z,R_,λq _ a=>.inl (LK a)⟩
def hf.kE{T m}(h:hf T m):np T m.p.d:=by have⟨P,n,a,cP⟩:=h.doc;exact⟨cP.inv.ef.rest,cP.inv.ef.fy,cP.inv.ef.rm,cP.inv.on.gV⟩
open Classical in
def qv(d:gA)(q:V):e':=if 1<=q/\q<=16/\ (il d.sec q).2=0 then(il d.sec q).1 else d_
def np.on{T d}(h:np T d)(cT:0<=T):yW d.sec [] (qv d) T:=by
 have z:d_.1=0:=Z;refine⟨λq Q a _=>?_,λq Q a=>?_,λq=>?_,h.gV⟩
 .rcases h.gV q Q a with e|⟨e,_⟩
  .have:qv d q=d_:=by rw[qv,cS];rintro⟨_,_,g⟩;rw[e]at g;cases g
   simp_all
  .have b:=Sx e
   have:qv d q=(il d.sec q).1:=by rw[qv,if_pos ⟨Q,a,e⟩]
   grind
 .rw[qv];split
  .rename_i g;exact .inr (Sx g.2.2)
  simp_all
 .rw[qv];split
  .rename_i g;rcases h.gV q g.1 g.2.1 with e|⟨_,e⟩
   .simp_all
   .exact e
  .exact cT
def np.open_{T d}(h:np T d)(cT:0<=T){n}(o:(iQ d n).2=0):∃k:V,n=k/\1<=k/\k<=8/\iQ d n=(⟨kZ k,d,0⟩,0) /\m3 T ⟨kZ k,d,0⟩ (qv d) k:=by
 have cP:d=⟨d.sec,[]⟩:=Mv
 have b:1<=n/\n<=8:=nA λg=>by
  rw[auQ R]at o;cases o
 obtain⟨k,rfl⟩:∃k:V,n=k:=⟨n.toNat,R⟩;have e:=Sw h.rest h.rm b.1 b.2;rw[<-cP,gz]at e;refine⟨k,Z,R,R,e,⟨?_,p8 ..⟩⟩;have:=fu.new (n:=k) R R h.rest h.rm (h.on cT) (kX 0);grind
def np.us{T d}(h:np T d)(cT:0<=T)(n)(o:(iQ d n).2=0):iI (iQ d n).1.d:=by have⟨k,_,_,_,e,_⟩:=h.open_ cT o;rw[e];have cP:d=⟨d.sec,[]⟩:=Mv;rw[cP];exact h.rest.us
def hf.new{T}(t:1<=T)(t2:T<=1000000){d}(h:np T d){n}(f:(iQ d n).2=0){todo}(cT:ul todo)(B:∀l∈todo,∀o∈l,si o):hf T (mw (iQ d n).1 n.toNat todo):=by
 obtain⟨k,rfl,k1,g,e,cP⟩:=h.open_ R f;rw[e];have dh:=SG.IL (Hj cP (show T<=2147483647 by omega)) Z k1 g (work:=todo) cT.fA cT.mv;rw[gz]
 have s:∀(k:V) (w:gd),(todo.map rg)[k]?=U w->w.st=0:=λk w h=>by
  rw[ir]at h;obtain⟨l,_,rfl⟩:=v_.1 h;rfl
 exact⟨t,t2,⟨todo,dh.g,λl a=>⟨cT.adr l a,B l a⟩⟩,dh.dJ,⟨_,k,k1,cP⟩,kX 0,by show(0:J) <=T;omega,λe b=>(by cases b),λj w c i=>by have:=s j w c;omega⟩
section
open Go.Conc Go.Lib
set_option maxRecDepth 100000
theorem ad9{x n K}(h:fk.fH (jR x) n=U K):nJ ga K=K:=by
 have⟨e_,eB,el,fY,d,m,w⟩:=x
 have k:∀(l:I (V×d4)),(∀p∈l,nJ ga p.2=p.2)->fk.fH l n=U K->nJ ga K=K:=by
  intro l
  induction l with
  |nil=>intro _ h;cases h
  |cons p r i=>
   have⟨a,C⟩:=p;intro O h;simp[fk.fH]at h
   cases b:d3 n a with
   |true=>simp_all
   |false=>simp_all
 refine k _ (λp O=>?_) h
 cases m with
 |none=>simp[jR,nG,Hf,LX]at O;rcases O with rfl|rfl|rfl|rfl|rfl|rfl|rfl|rfl<;>rfl
 |some m=>simp[jR,nG,Hf,LX]at O;rcases O with rfl|rfl|rfl|rfl|rfl|rfl|rfl|rfl<;>rfl
theorem avf(x):tQ (jR x)=N:=cV
structure SO(cX:jy)(cO:da)(dL:eI)(nq B:V)(x:h4)(l:I gM)(w:da)(own:V->Prop)(M:eI)(D:gD)(O:V->dB d4)(p:dr)(r:dB V):Prop where
 hK:gQ cX own M
 cK:∀c,w.heap.size<=c->own c
 dz:∀c,own c->cO.heap.size<=c
 sub:gS dL M
 mP:fp M w
 rel:er own M D O w
 kE:∀n K,fk.fH (jR x) n=U K->O n=U (nJ ga K)
 at_:∃cM,D 1000000=U (U cM) /\cM.blk=nq
 fc:ob cX cO.heap.size cO w
 q4:p=.pointer cL\/p=eZ B
 Hl:ig L B p r l w
 e1:cO.heap.size<=B
 hD:¬own B
 po:¬cX.F B
 L7:∀o,M B o=cL
 r0:∀k,r=U k->cO.heap.size<=k/\ ¬own k/\ ¬cX.F k/\ ∀o,M k o=cL
 wZ:r≠cL->l≠[]
def n5(cX:jy)(cO:da)(dL:eI)(nq B:V)(x:h4)(l:I gM)(w:da):Prop:=∃own M D O p r,SO cX cO dL nq B x l w own M D O p r
section
variable {cX:jy} {cO w w':da} {dL:eI} {nq B:V} {x:h4} {l:I gM}
theorem avg{own o M D O}(h:er own M D O w)(c:∀b cM,D b=U (U cM)->o cM.blk)(d:∀b cM,D b=U (U cM)->w'.heap[cM.blk]?=w.heap[cM.blk]?):er o M D O w':=
 ⟨h.fE,h.iX,λb K cM a f=>by
  have⟨q,cs,T,e,g⟩:=h.at_ b K cM a f
  exact⟨c b cM f,cs,T,by grind,g⟩,h.inj⟩
theorem SP{own M D O}(h:er own M D O w){b cM}(c:D b=U (U cM)):own cM.blk:=by
 cases a:O b with|none=>rw[(h.fE b).1 a]at c;cases c|some K=>exact(h.at_ b K cM a c).1
theorem n5.rel(h:n5 cX cO dL nq B x l w)(r:e0 cX.F w w'):n5 cX cO dL nq B x l w':=by have⟨own,M,D,O,p,e,h⟩:=h;refine⟨own,M,D,O,p,e,h.hK,λc a=>h.cK c (by rwa[r.size]at a),h.dz,h.sub,tE h.hK r h.mP,Ce h.hK r h.rel,h.kE,h.at_,⟨r.os.trans h.fc.os,r.tape.trans h.fc.tape,r.output.trans h.fc.output,by rw[r.size];exact h.fc.size,λk d q=>(r.block k q).trans (h.fc.block k d q)⟩,h.q4,h.Hl.k' (r.block _ h.po) λk b=>r.block _ (h.r0 k b).2.2.1,h.e1,h.hD,h.po,h.L7,h.r0,h.wZ⟩
theorem SO.build{own M D O p p' r io n}(h:SO cX cO dL nq B x l w own M D O p r)
  (m:p'=.pointer cL\/p'=eZ B)(s:ig L B p' io n w')(E:io=r\/ ∃k,io=U k/\w.heap.size<=k)(f:h9 cX.F (λk=>k=B\/r=U k) w w')(C:io≠cL->n≠[]):n5 cX cO dL nq B x n w':=by
 have d:=λk Q A eG fb=>f.block k Q A λq=>q.elim eG fb
 have t:=λb o v cY=>by
  have a:=h.mP b o v cY;unfold ke at a
  cases u:w.heap[b]? with|none=>simp[u]at a|some _=>exact(kL.1 u).1
 have x6:∀k,io=U k->cO.heap.size<=k/\ ¬cX.F k/\ (∀o,M k o=cL) /\ (¬own k\/w.heap.size<=k):=λk g=>by
  rcases E with e|⟨fo,H,i⟩
  .have⟨P7,fh,I,J⟩:=h.r0 k (e▸g);simp_all
  .rw[H]at g;cases g
   refine⟨fG h.fc.size i,h.hK.own _ (h.cK _ i),λo=>?_,.inr i⟩
   cases cY:M k o with|none=>rfl|some v=>grind
 refine⟨λc=>own c/\io≠U c,M,D,O,p',io,h.hK.low λc a=>a.1,λc a=>⟨h.cK c (fG f.size a),λe=>by have:=s.lt.2 c e;omega⟩,λc a=>h.dz c a.1,h.sub,λb o v cY=>?_,?_,h.kE,h.at_,
  ⟨f.os.trans h.fc.os,f.tape.trans h.fc.tape,f.output.trans h.fc.output,fG h.fc.size f.size,λk y z=>?_⟩,m,s,h.e1,λq=>h.hD q.1,h.po,h.L7,λk g=>?_,C⟩
 .have a:=h.mP b o v cY;have e:=d b (t b o v cY) (h.hK.mem b o v cY) (λe=>by subst e;rw[h.L7 o]at cY;cases cY) (λe=>by rw[(h.r0 b e).2.2.2 o]at cY;cases cY);unfold ke at a⊢;simp_all
 .refine avg h.rel (λb cM G=>⟨SP h.rel G,λe=>?_⟩) λb cM G=>?_
  .rcases (x6 _ e).2.2.2 with q|q
   .exact q (SP h.rel G)
   .have:=h.rel.lt G;omega
  .have j:=SP h.rel G;exact d _ (h.rel.lt G) (h.hK.own _ j) (λe=>h.hD (e▸j)) λe=>(h.r0 _ e).2.1 j
 .have cW:=h.e1;exact(d k (sR y h.fc.size) z R λe=>by have:=(h.r0 k e).1;omega).trans (h.fc.block k y z)
 simp_all
theorem n5.Gw(h:n5 cX cO dL nq B x l w){s}(b:l.length+s.size<=1000000000000):g7 cQ cX.main cX.F 21 #[eZ B,.string s] w λq w'=>q=.tuple #[s.size,.nilIface] /\n5 cX cO dL nq B x (l++s.data.toList) w':=by have⟨own,M,D,O,p,r,h⟩:=h;exact g7.mono (Pw h.po (λk d=>(h.r0 k d).2.2.1) (λk d=>h.hK.own k (h.cK k d)) h.q4 h.Hl b) λq w' j=>have⟨e,io,c,g,z,i⟩:=j;⟨e,h.build (.inr Z) c g i λc0 a=>have f:=(zT.1 a).1;have TE:=(zT.1 a).2;have n:=nA λe=>h.wZ e f;c0 (z n TD)⟩
theorem n5.PX(h:n5 cX cO dL nq B x l w){c}(a:l.length+1<=1000000000000):g7 cQ cX.main cX.F 23 #[eZ B,.int .u8 c.toNat] w λq w'=>q=.nilIface/\n5 cX cO dL nq B x (l++[c]) w':=by have⟨own,M,D,O,p,r,h⟩:=h;exact g7.mono (Yn h.po (λk d=>(h.r0 k d).2.2.1) (λk d=>h.hK.own k (h.cK k d)) h.q4 h.Hl a) λq w' i=>have⟨e,io,b,f,g⟩:=i;⟨e,h.build (.inr Z) b f g λ_=>dw⟩
theorem n5.str(s:cQ.follows .mixedOrders=N)(h:n5 cX cO dL nq B x l w)(d:l.length<=1000000000000):g7 cQ cX.main cX.F 24 #[eZ B] w λq w'=>q=.string ⟨l.toArray⟩ /\ob cX cO.heap.size cO w'/\fp dL w':=by
 have⟨own,M,D,O,p,r,h⟩:=h;refine g7.mono (Yv s h.po (λk n=>(h.r0 k n).2.2.1) h.Hl.f h.wZ d) λq w' g=>have⟨e,m,f⟩:=g;⟨e,⟨f.os.trans h.fc.os,f.tape.trans h.fc.tape,f.output.trans h.fc.output,fG h.fc.size f.size,λk i j=>?_⟩,λb o v cY=>?_⟩
 .exact(f.block k (sR i h.fc.size) j λe=>by have:=(h.r0 k e).1;omega).trans (h.fc.block k i j)
 .have a:=h.sub b o v cY;have c:=h.mP b o v a
  have t:b<w.heap.size:=by
   have c:=c;unfold ke at c
   cases g:w.heap[b]? with|none=>simp_all|some _=>grind
  have e:=f.block b t (h.hK.mem b o v a) λe=>by rw[(h.r0 b e).2.2.2 o]at a;cases a
  unfold ke at c⊢;simp_all
theorem n5.line(h:n5 cX cO dL nq B x l w)(H:Sq x){line}(C:line.size<=1000000):g7 cQ cX.main cX.F 22 #[eZ nq,.string line] w λv w'=>v=.string (fZ x line).2/\n5 cX cO dL nq B (fZ x line).1 l w':=by
 have⟨own,M,D,O,p,r,h⟩:=h;obtain⟨cM,I,rfl⟩:=h.at_;have E:=(auf x (λm d6=>(H.fit m d6).1) H.wk line C (auh x H.ls) λws Q c5=>atQ x (λm d6=>(H.fit m d6).2) ws Q (λw hw=>by have:=c5 w hw;omega) H.ls H.us).2 O h.kE
 have cP:zJ M D (ow ga [.ptr 1000000 0 0,.d (.str line)]) #[eZ cM.blk,.string line]:=by
  refine⟨Z,λi d v Q j=>?_⟩
  match i with
  |0=>
   cases Q;cases j
   have:=dZ.ptr (M:=M) (D:=D) 1000000 0 0 cM I;show dZ M D (.ptr 1000000 0 0) (eZ cM.blk);simp_all
  |1=>cases Q;cases j;exact .d _ _ (.str _)
  |i+2=>cases Q
 refine g7.mono (E.2 cX own M D w _ h.hK h.cK h.mP h.rel cP) λv w' F=>?_;have⟨fN,g,ei,e,f,s,z,c0,G,a,cY⟩:=F
 cases e
 have cY:v=.string (fZ x line).2:=by
  have cY:=cY
  cases cY with
  |d _ _ h=>cases h;rfl
 have t:∀b,¬own b->(∀o,M b o=cL)->∀o,g b o=cL:=λb J dc o=>by
  cases cY:g b o with
  |none=>rfl
  |some u=>
   rcases c0 b o u cY with q|q
   .simp_all
   simp_all
 refine⟨cY,own,g,ei,_,p,r,h.hK.new s c0,λc A=>h.cK c (fG f.size A),h.dz,h.sub.trans s,z,G,λn K m=>?_,⟨cM,(a 1000000 Z).trans I,Z⟩,
  ⟨f.os.trans h.fc.os,f.tape.trans h.fc.tape,f.output.trans h.fc.output,fG h.fc.size f.size,λk dh y=>?_⟩,h.q4,
  h.Hl.k' (f.block _ λq=>q.elim h.hD h.po) (λk a=>f.block _ λq=>q.elim (h.r0 k a).2.1 (h.r0 k a).2.2.1),h.e1,h.hD,h.po,t B h.hD h.L7,λk a=>⟨(h.r0 k a).1,(h.r0 k a).2.1,(h.r0 k a).2.2.1,t k (h.r0 k a).2.1 (h.r0 k a).2.2.2⟩,h.wZ⟩
 .rw[ad9 m,vd];rw[Pq (JL (avf _)) m]
 .exact(f.block k λq=>q.elim (λq=>by have:=h.dz k q;omega) y).trans (h.fc.block k dh y)
end
end
end Dk
open Go.Proofs Go.RowKit
def iW(f:hv):I J:=f.cN.map (·.1)
def aev(f i x)(b:∀h,x.1=f.cN[i].1):iW (vz f i x)=iW f:=by
 show(f.cN.set i x).map (·.1)=f.cN.map (·.1);rw[rQ]
 by_cases h:i<f.cN.length
 .rw[b h]
  have a:i<(f.cN.map (·.1)).length:=by rwa[ec]
  have:f.cN[i].1=(f.cN.map (·.1))[i]:=dw;rw[this];exact List.set_getElem_self a
 .rw[List.set_eq_of_length_le ML]
def avV(f p):iW (l5 f p).1=iW f:=by
 rw[l5];repeat' split
 all_goals first|rfl|(refine aev _ _ _ λh=>?_;show(rZ f.cN _).1=_;rw[j7 h])
def avW(f p):iW (mr f p).1=iW f:=by
 rw[mr];repeat' split
 all_goals first|rfl|(refine aev _ _ _ λh=>?_;show(rZ f.cN _).1=_;rw[j7 h])
def avX(f p b n):iW (i0 f p b n).1=iW f:=by
 rw[i0];repeat' split
 all_goals rfl
def avY(p a):iW (nV p a).1.f=iW p.f:=by
 rw[nV];repeat' split
 all_goals first|rfl|exact avX _ _ _ _|exact avW _ _
def avZ{p id}(h:l7 p id=N):iW (r1 p id).1.f=iW p.f:=by
 rw[r1,if_pos (show(jO p.f id).2=N from h)];split
 .rfl
 .exact avV _ _
def S9{p a}(h:(a.1=1/\l7 p a.2.1=N) \/a.1=3\/a.1=4\/a.1=5):iW (hp p a).1.f=iW p.f:=by
 rw[hp];split
 .rfl
 split
 .rfl
 split
 .rename_i Q;rcases h with h|h|h|h
  .exact avZ h.2
  all_goals omega
 rw[cS R,cS R,cS R,cS R];exact avY _ _
def aew(o q):iW (rh o q).1.f=iW q.1.f:=by
 rw[rh];split
 .exact S9 (.inr (.inr (.inr Z)))
 .rfl
def av0{p id b}(h:l7 p id=N):iW (gg p (3,id,b)).1.f=iW p.f:=by
 rw[gg,aew];have a:iW (hp p (1,id,b)).1.f=iW p.f:=S9 (.inl ⟨Z,h⟩);show iW (kA (3,id,b) [1,4] p (0,d_)).1.f=_;rw[kA];simp only[];split
 .exact a
 rw[kA];simp only[];have e:iW (hp (hp p (1,id,b)).1 (4,id,b)).1.f=iW (hp p (1,id,b)).1.f:=S9 (.inr (.inr (.inl Z)));split
 .simp_all
 .rw[kA];simp_all
def S_{p P n}(h:n4 p P n){q:V}(Q:1<=q):l7 p q=N↔(q:J)∈iW p.f:=by
 have m:(q:J)∈iW p.f↔∃i,∃cK:i<p.f.cN.length,p.f.cN[i].1=(q:J):=by
  rw[iW,is];constructor
  .rintro⟨x,a,e⟩;obtain⟨i,cK,rfl⟩:=kr.1 a;grind
  .grind
 rw[m,l7];rcases h.inv.where Q with c0|⟨i,c8⟩
 .rw[qk h.inv.ef.fm c0 R];simp_all
 .rw[qj c8];exact⟨λ_=>⟨i,c8.cK,c8.cN⟩,λ_=>Z⟩
def aex{p P n}(h:n4 p P n){q}(Q:1<=q)(a:q<=16)(z:(P q).1=0){i}(cK:i<p.f.cN.length)(f:p.f.cN[i].1=0)(b):
  ∃j,(iW p.f)[j]?=U 0/\iW (gg p (1,(q),b)).1.f=(iW p.f).set j q:=by
 have dh:=h.inv
 have c0:∀i (cK:i<p.f.cN.length),p.f.cN[i].1≠(q:J):=by
  rcases dh.where Q with c0|⟨k,c8⟩
  .exact c0
  .exact dN z (dh.uh c8)
 have⟨j,d,l,e,_,_⟩:=R4 (acF dh.ef.fm ⟨i,cK,f⟩) dh.ef.fm (x:=pN q) (R2 R R) dh.ef.j3 dh.ef.fA N c0 ⟨i,cK,f⟩ dh.ef.dK
 have c:r2 p q=re p (pN q) N:=by
  rw[r2,qk dh.ef.fm c0 R,cS (show ¬L=N by decide),dh.ef.get Q a,dh.on.kE q Q a (dh.out Q c0),if_pos z,cS (show ¬(3:J)=0 by decide)]
  first|rfl|(rw[if_pos Z];rfl)
 refine⟨j,?_,?_⟩
 .rw[iW,ir,fq d];simp_all
 .rw[gg,aew];show iW (kA (1,(q:J),b) [2] p (0,d_)).1.f=_;rw[kA];simp only[];rw[LZ p Q a,c,e];simp only[];rw[cS (λg=>g Z),kA];show(p.f.cN.set j ((pN q).1,1,N)).map (·.1)=_;rw[rQ];rfl
namespace Dk
section
open Go.Conc Go.Lib Go.Proofs
open Go.ConcR (KK WgAt stA mk)
set_option maxRecDepth 100000
section
variable {F fg:V->Prop} {dy:dP->da->Prop} {g:dP} {w:da}
theorem avh(w):mG F fg w w #[]:=(oZ w).x
theorem dR.L8 {f} {vs} {dO} (c:g7 cQ N F f vs w dO) (s:∀ v w' b,dO v w'->e0 F w' b->dO v b) (k:∀ v w',dO v w'->dR cQ N (k5 F fg) (mG F fg) dy (put g v) w')
  (o:(e6 g).op=.call {callee:=.value (.func f),args:=u' g,argTypes:=FO g}:=by kernel_rfl) (cY:(u' g).map (eA g).eval=vs:=by kernel_rfl) (h:iD g:=by exact kP):dR cQ N (k5 F fg) (mG F fg) dy g w:=
 ((dR.IN h o cY c (dy:=fun g' w'=>∃ v,g'=put g v/\dO v w') fun v w' O=>.stop fun c2 a=>⟨v,Z,s v w' c2 O a⟩).mono (fun _ _ h=>h.f) (fun _ _ _ h=>h.x) (fun _ _ h=>h)).bind i3.refl fun g' w' ⟨v,e,O⟩=>e▸k v w' O
theorem A8(n:V)(k:dR cQ N (k5 F fg) (mG F fg) dy (e7 n g) w)(h:j1 cQ N g (e7 n g):=by exact o3):dR cQ N (k5 F fg) (mG F fg) dy g w:=dR.pure i3.trans avh h k
end
noncomputable def jS:h4->I dG->I gM
 |_,[]=>[]
 |x,l::ls=>(fZ x l).2.data.toList++10::jS (fZ x l).1 ls
def Hm:h4->I dG->Prop
 |_,[]=>True
 |x,l::ls=>Sq x/\l.size<=1000000/\Hm (fZ x l).1 ls
section
variable {F fg c4 Rd:V->Prop} {q:A4} {cO:da} {dL:eI} {uO:dP->da->Prop}
theorem avi (T) (cT:T.length<=1000000000000) (S:∀ x f w,n5 ⟨N,F⟩ cO dL q.ig q.B x T w->dR cQ N (k5 F fg) (mG F fg) uO (F_ q f) w):
  ∀ (ls) (x) (l) (f) (w),n5 ⟨N,F⟩ cO dL q.ig q.B x l w->Hm x ls->l++jS x ls=T->
   dR cQ N (k5 F fg) (mG F fg) (Nj cQ c4 q.Wg Rd fg F q.d9 (.string ⟨#[]⟩) uO (ls.map .string)) (D2 q f) w:=by
 intro ls
 induction ls with
 |nil=>
  intro x l f w dh _ a
  have e:l=T:=by simpa [jS] using a
  subst e
  exact .stop fun fv m=>⟨cV,#[],ad8 fv,dw,A8 7 (S x f fv (dh.rel m.f))⟩
 |cons v vs u=>
  intro x l f w dh c8 a;have⟨Q,t,eG⟩:=c8
  refine .stop fun fv m=>⟨cV,#[],ad8 fv,dw,fun A y=>A8 15 (dR.L8 (((dh.rel m.f).rel y.f).line Q t) (fun _ w' d O r=>⟨O.1,O.2.rel r⟩) fun p C b=>?_)⟩
  obtain ⟨rfl,i⟩:=b
  have n:l.length+((fZ x v).2.size+1) <=1000000000000:=by have e:=eL pt a;simp [jS,kv,nF,lz] at e;have o:(fZ x v).2.data.size=(fZ x v).2.size:=Z;omega
  refine dR.L8 (i.Gw (s:=(fZ x v).2) R) (fun _ w' d O r=>⟨O.1,O.2.rel r⟩) fun p E b=>?_
  obtain ⟨rfl,j⟩:=b;refine A8 2 (dR.L8 (j.PX (c:=10) (by have o:(fZ x v).2.data.toList.length=(fZ x v).2.size:=lz;grind)) (fun _ w' d O r=>⟨O.1,O.2.rel r⟩) fun p z b=>?_)
  obtain ⟨rfl,k⟩:=b;refine A8 5 (dE.h (D2 q) fun f=>?_);apply u _ _ _ z k eG;rw [<-a,jS];simp
end
end
section
open Go.Conc Go.Lib Go.Proofs
open Go.ConcR (KK WgAt stA mk)
set_option maxRecDepth 100000
section
variable {P:Program} {dn:eF} {Wg:V} {cU:da->da->Prop} {Fin L9 gC aea:dP->da->Prop} {g:dP} {w:da}
theorem aeb(F:∀g w,Fin g w->L9 g w)(h:BF P Wg cU Fin g w):BF P Wg cU L9 g w:=let ⟨a,g',b,c⟩:=h;⟨a,g',b,c.mono (λ_ _ h=>h) (λ_ _ _ h=>h) λ_ _=>λh=>let ⟨a,g',b,c⟩:=h;⟨a,g',b,F _ _ c⟩⟩
theorem avj(F:∀g w,Fin g w->L9 g w)(c8:∀g w,gC g w->aea g w)(h:sx P dn Wg cU Fin gC g w):sx P dn Wg cU L9 aea g w:=
 ⟨h.1,λx=>let ⟨g',b,c⟩:=h.2.1 x;⟨g',b,c.mono (λ_ _ h=>h) (λ_ _ _ h=>h) λ_ _=>λh=>⟨h.1,λx=>let ⟨g',b,c⟩:=h.2.1 x;⟨g',b,c.mono (λ_ _ h=>h) (λ_ _ _ h=>h) λ_ _=>λh=>⟨h.1,h.2.1,h.2.2.1,λx=>let ⟨g',b,c⟩:=h.2.2.2 x;⟨g',b,c.mono (λ_ _ h=>h) (λ_ _ _ h=>h) λ_ _=>λh=>⟨h.1,λx=>let ⟨g',b,c⟩:=h.2 x;⟨g',b,c.mono (λ_ _ h=>h) (λ_ _ _ h=>h) λ_ _=>aeb F⟩⟩⟩⟩⟩,λx=>let ⟨g',b,c⟩:=h.2.2 x;⟨g',b,c.mono (λ_ _ h=>h) (λ_ _ _ h=>h) c8⟩⟩⟩,λx=>let ⟨g',b,c⟩:=h.2.2 x;⟨g',b,c.mono (λ_ _ h=>h) (λ_ _ _ h=>h) λ_ _=>aeb F⟩⟩
end
def Hn(F:V->Prop)(cO:da)(dL:eI)(w:da):Prop:=ob ⟨N,F⟩ cO.heap.size cO w/\fp dL w
section
variable (F:V->Prop) (q:A4) (o:dG) (cO:da) (dL:eI)
def L_(g:dP)(w:da):Prop:=∃f fv,Hn F cO dL fv/\Jk F q.Wg (xp q f o) q.cs fv g w
def aec(g:dP)(w:da):Prop:=∃f fv,Hn F cO dL fv/\g=G {xp q f o with mode:=.returning} q.cs/\py F e2.tWg q.Wg fv w
def aed:dP->da->Prop:=dR cQ N (lr F e2.tWg q.Wg) (hS q.Wg) (aec F q o cO dL)
end
section
variable {F fg c4 Rd:V->Prop} {q:A4} {o:dG} {cO:da} {dL:eI}
theorem avk(W:F q.Wg)(g w)(h:L_ F q o cO dL g w):
  dR cQ N (lr F e2.tWg q.Wg) (hS q.Wg) (sx cQ e2.tWg q.Wg (lr F e2.tWg q.Wg) (aed F q o cO dL) (L_ F q o cO dL)) g w:=by
 have⟨f,fv,e,h⟩:=h;exact(aix W (λw k=>@id (aec F q o cO dL _ w) ⟨f,fv,e,Z,k⟩) g w h).mono (λ_ _ h=>h) (λ_ _ _ h=>h) λg w h=>avj (λg w h=>h) (λg w h=>⟨f,fv,e,h⟩) h
theorem Ho(M:∀b o v,dL b o=U v->¬F b){w w'}(h:Hn F cO dL w)(r:e0 F w w'):Hn F cO dL w':=
 ⟨⟨r.os.trans h.1.os,r.tape.trans h.1.tape,r.output.trans h.1.output,by rw[r.size];exact h.1.size,λk a q=>(r.block k q).trans (h.1.block k a q)⟩,λb o v cY=>by rw[N' r (M b o v cY)];exact h.2 b o v cY⟩
theorem avl(y:cQ.follows .mixedOrders=N)(M:∀b o v,dL b o=U v->¬F b)(j:F q.eo)(S:q.eo≠q.Wg)(C:q.lC≠q.eo){T}(cT:T.length<=1000000000000)(z:o=⟨T.toArray⟩)(x f w)(h:n5 ⟨N,F⟩ cO dL q.ig q.B x T w):
  dR cQ N (k5 F fg) (mG F fg) (uO cQ e2.tWg q.Wg q.lC q.eo c4 Rd F (L_ F q o cO dL)) (F_ q f) w:=by
 subst z;refine dR.L8 (h.str y cT) (λ_ w' dh O r=>⟨O.1,(Ho M O.2 r).1,(Ho M O.2 r).2⟩) λ_ fv A=>?_;obtain⟨rfl,E⟩:=A;replace E:Hn F cO dL fv:=E;refine A8 3 (.stop λi G=>have E:=Ho M E G.f;⟨cV,λt k=>have⟨es,Q,m⟩:=adR (P:=cQ) (cN:=SN q f ⟨T.toArray⟩) (cs:=(A7 q f ⟨T.toArray⟩).callers) (ats:=#[54]) (dn:=0) (DY:=#[L]) t;have l:e0 F i (i.setChan q.eo 0 #[] N 0 0 L):=⟨Z,Z,Z,by simp[World.setChan],λb n=>ry λe=>n (e▸j)⟩;have⟨st,H,k⟩:=k;⟨avd q f ⟨T.toArray⟩,_,es,(show stepG cQ N (A7 q f ⟨T.toArray⟩) i=callDeferred cQ (SN q f ⟨T.toArray⟩) (A7 q f ⟨T.toArray⟩).callers cL {target:=.builtin .close #[54] 0 #[L],args:=#[.chan (U q.eo)]} i from cV).trans Q,λe u=>?_,ry (Ne.symm S),ry C,?_⟩⟩)
 .rcases m e u with rfl|rfl
  .refine⟨λx d=>?_,dw,dw,dw⟩;simp[mD,lo]at d;subst d;exact⟨λ_=>dw,λ_=>dw,λ_ ⟨_,e,_⟩=>ss⟩
  .exact⟨λx d=>by simp[mD,lo]at d,dw,dw,dw⟩
 .apply dR.pure BN.trans Cy (g':=Cx q.Wg (xp q f ⟨T.toArray⟩) q.cs) (oe 1);exact(aiy (F:=F) (OA:=i.setChan q.eo 0 #[] N 0 0 L) ⟨.refl _ _,st,H,k.of_block (ry (Ne.symm S))⟩).mono (λ_ _ h=>h) (λ_ _ _ h=>h) λg w h=>have⟨a,g',b,c⟩:=h;⟨a,g',b,c.mono (λ_ _ h=>h) (λ_ _ _ h=>h) λg w h=>⟨f,_,Ho M E l,h⟩⟩
end
end
section
open Go.Conc Go.Lib Go.Proofs
set_option maxRecDepth 100000
def SQ(a b:dr):d' dr:=#[.slice cL 0 0,.slice cL 0 0,.slice cL 0 0,.slice cL 0 0,a,b,.pointer cL,.int .i64 0]
def A9(q:A4):I (V×Obj):=
 [(q.Wg,.cells #[.int .u64 0,.int .u32 0] 64 (0,0)),(q.l2,.cells #[.chan (U q.eo)] 54 (0,0)),(q.eo,.chan 0 #[] L 0 0 L),(q.l1,.cells #[.chan (U q.d9)] 53 (0,0)),(q.d9,.chan 0 #[] L 0 0 L),(q.B,.cells #[.pointer cL,.slice cL 0 0] 52 (0,0)),(q.ig,.cells (SQ q.DZ q.D1) 46 (0,0)),(q.lC,.cells #[.string q.s] 9 (0,0))]
theorem avm{M d v}(h:e4 M (.dS [iO d,.int .i64 0]) v):∃a b,v=.tuple #[.agg #[a,b],.int .i64 0] /\e4 M (.dm (d.sec.map hW)) a/\e4 M (.dm (d.fy.map Go.Lk.fs)) b:=by
 cases h with
 |dS _ vs dv cP=>
  have⟨l⟩:=vs
  match l,dv,cP with
  | [u,v],_,cP=>
   have Q:=cP 0 _ _ Z Z;have c5:=cP 1 _ _ Z Z;clear cP
   cases c5
   cases Q with
   |agg _ e f c=>
    have⟨el⟩:=e
    match el,f,c with
    | [a,b],_,c=>exact⟨a,b,Z,c 0 _ _ Z Z,c 1 _ _ Z Z⟩
theorem aee{M l v}(h:e4 M (.dm l) v):v.oneCell'=N/\v.cells=#[v]:=by cases h<;>exact g_
section
variable {c4:V->Prop} {s:dG} {cs:I g6} {w:da} {dL:eI} {dy:dP->da->Prop}
theorem avn(gj:gQ ⟨N,c4⟩ (λc=>w.heap.size<=c) dL)(dt:fp dL w)
  (k:∀q f w',q.s=s->q.cs=cs->hH ⟨N,c4⟩ w dL w' f (A9 q)->e4 f (.dm (iH.sec.map hW)) q.DZ->e4 f (.dm (iH.fy.map Go.Lk.fs)) q.D1->dy (SL q) w'):
  dE N c4 dy (L6 s cs) w:=by
 refine dE.p 2 ?_;have A:=hH.init gj dt;have⟨lC,b⟩:=c' w;refine A.nj 5 b (.cells #[.string s] 9) eZ λw A b=>?_;have⟨nq,b⟩:=c' w;refine A.nj 5 b (.cells (SQ (.slice cL 0 0) (.slice cL 0 0)) 46) eZ λw A _=>?_
 refine A.call anV (An (.int _ _)) λM w v A d=>?_;obtain⟨a,c,rfl,g,h⟩:=avm d;refine dE.p 5 ?_;refine A.ZJ 3 0 4 (aee g) (aee h) λw A=>?_;have⟨B,b⟩:=c' w;refine A.nj 3 b (.cells #[.pointer cL,.slice cL 0 0] 52) eZ λw A _=>?_
 have⟨cM,b⟩:=c' w;refine A.nj 0 b (.chan 0 #[] L 0 0 L) (λb=>.chan (U b)) λw A _=>?_;have⟨l1,b⟩:=c' w;refine A.nj 0 b (.cells #[.chan cL] 53) eZ λw A _=>?_;refine A.st 3 0 0 (.chan (U cM)) λw A=>?_
 have⟨S,b⟩:=c' w;refine A.nj 0 b (.chan 0 #[] L 0 0 L) (λb=>.chan (U b)) λw A _=>?_;have⟨l2,b⟩:=c' w;refine A.nj 0 b (.cells #[.chan cL] 54) eZ λw A _=>?_;refine A.st 3 0 0 (.chan (U S)) λw A=>?_
 have⟨W,b⟩:=c' w;refine A.nj 7 b (.cells #[.int .u64 0,.int .u32 0] 64) eZ λw A _=>?_;refine A.nK 5 1 0 λw A=>?_
 exact dE.e (g':=SL ⟨s,cs,lC,nq,a,c,B,cM,l1,S,l2,W⟩) (.stop λw r=>k _ M w Z Z (A.rel r) g h)
end
end
section
open Go.Conc Go.Lib Go.Proofs
open Go.ConcR (KK WgAt stA mk)
set_option maxRecDepth 100000
def hg:h4:=⟨[],[],[],[],iH,cL,0⟩
def fK(nq:V):gD:=λn=>bif d3 n 1000000 then U (U ⟨nq,8,8,0⟩) else bif jh n then U cL else cL
def gc(c4:V->Prop)(q:A4)(b:V):Prop:=c4 b\/ (b=q.lC\/ (b=q.d9\/ (b=q.l1\/ (b=q.eo\/ (b=q.l2\/b=q.Wg)))))
section
variable {c4:V->Prop} {q:A4} {cO w:da} {dL M:eI}
theorem avo(S:hH ⟨N,c4⟩ cO dL w M (A9 q))(H:e4 M (.dm (iH.sec.map hW)) q.DZ)(dh:e4 M (.dm (iH.fy.map Go.Lk.fs)) q.D1):n5 ⟨N,gc c4 q⟩ cO dL q.ig q.B hg [] w:=by
 have l:=S.P;simp[A9]at l
 have e:=S.H;simp[A9,nG,Hf,LX,forall_eq_or_imp,forall_eq]at e;have⟨W,u,z,t,y,i,c3,P⟩:=e;have s:=λp O=>S.lt (p:=p) O;have cX:=s _ (.head _)
 have m:∀b o v,M b o=U v->¬gc c4 q b:=λb o v cY=>by
  rintro (h|h|h|h|h|h|h)
  .exact S.K.hK.mem b o v cY h
  all_goals(subst h;simp_all)
 have A:¬gc c4 q q.ig:=by
  rintro (h|h|h|h|h|h|h)
  .exact S.jF _ c3.1 h
  all_goals omega
 have F:¬gc c4 q q.B:=by
  rintro (h|h|h|h|h|h|h)
  .exact S.jF _ i.1 h
  all_goals omega
 have E:∀ {b cM},fK q.ig b=U (U cM)->b=1000000/\cM=⟨q.ig,8,8,0⟩:=fun {b cM} h=>by
  unfold fK at h
  cases Q:d3 b 1000000 with
  |true=>rw[Q]at h;exact⟨gE Q,(pV (pV h)).symm⟩
  |false=>
   rw[Q]at h
   cases f:jh b with
   |true=>rw[f]at h;cases h
   |false=>rw[f]at h;cases h
 refine⟨λc=>c=q.ig\/w.heap.size<=c,M,fK q.ig,fk.fH (jR hg),.pointer cL,cL,⟨⟨λc a=>?_,m,S.K.hK.xT⟩,λc a=>.inr a,λc a=>?_,S.K.sub,S.K.mP,?_,λn K r=>by rwa[ad9 r],⟨_,Z,Z⟩,?_,.inl Z,?_,i.1,λh=>?_,F,i.2.2,λk dc=>(by cases dc),λh=>dN Z h⟩⟩
 .rcases a with rfl|a
  .exact A
  .rintro (h|h|h|h|h|h|h)
   .exact S.jF c (fG S.K.fc.size a) h
   all_goals omega
 .rcases a with rfl|a
  .exact c3.1
  .exact fG S.K.fc.size a
 .refine⟨λb=>?_,λb g=>?_,λb K cM r D=>?_,λb I cM ek Q f _=>(E Q).1.trans (E f).1.symm⟩
  .rw[Gc (l:=jR hg) Z b];unfold fK
   cases Q:d3 b 1000000 with
   |true=>rw[gE Q];simp[jh]
   |false=>cases f:jh b<;>simp
  .have G:b≠1000000/\jh b=N:=by
    unfold fK at g
    cases Q:d3 b 1000000 with
    |true=>rw[Q]at g;cases g
    |false=>
     rw[Q]at g
     cases f:jh b with
     |true=>exact⟨λe=>(by subst e;cases Q),Z⟩
     |false=>rw[f]at g;cases g
   have eG:=(CO.1 G.2).resolve_left G.1;have:b=3000001\/b=3000002\/b=3000003\/b=3000004\/b=3000005\/b=3000006\/b=3000007:=R;rcases this with rfl|rfl|rfl|rfl|rfl|rfl|rfl<;>exact⟨_,_,Z⟩
  .obtain⟨rfl,rfl⟩:=E D;have C:=pV r;subst C;refine⟨.inl Z,SQ q.DZ q.D1,46,c3.2.1,Z,Z,Z,⟨Z,λj x d=>?_⟩,λh=>(by cases h),λ_=>c3.2.2⟩
   match j with
   |0=>cases d;exact⟨_,Z,.ib _ _ Z⟩
   |1=>cases d;exact⟨_,Z,.ib _ _ Z⟩
   |2=>cases d;exact⟨_,Z,.ib _ _ Z⟩
   |3=>cases d;exact⟨_,Z,.ib _ _ Z⟩
   |4=>cases d;exact⟨_,Z,.d _ _ H⟩
   |5=>cases d;exact⟨_,Z,.d _ _ dh⟩
   |6=>cases d;exact⟨_,Z,.d _ _ .km⟩
   |7=>cases d;exact⟨_,Z,.d _ _ (.int _ _)⟩
   |j+8=>cases d
 .exact⟨S.K.fc.os,S.K.fc.tape,S.K.fc.output,S.K.fc.size,λk db cU=>S.K.fc.block k db λh=>cU (.inl h)⟩
 .exact⟨.slice cL 0 0,i.2.1,World.ownsRow_nil _ _ _ _,Z⟩
 .rcases h with h|h<;>omega
end
end
open Go.Proofs Go.RowKit
def kJ(k:V):J:=1+3010*k
structure i2(k:V)(x:h4):Prop where
 e_:x.e_.length<=k/\ ∀o∈x.e_,si o
 eB:x.eB.length<=k/\ ∀o∈x.eB,si o
 el:x.el.length<=k/\ ∀o∈x.el,si o
 fY:x.fY.length<=k/\ ∀o∈x.fY,si o
 wk:x.hQ<=4
 gV:x.gV=iH
 m:∀m,x.m=U m->hf (kJ k) m
def D3{k}(h:k<=230):kJ k<=700000:=EE
def SR(k):1<=kJ k:=EE
def i2.hg:i2 0 hg:=⟨⟨fi 0,fun o h=>by cases h⟩,⟨fi 0,fun o h=>by cases h⟩,⟨fi 0,fun o h=>by cases h⟩,⟨fi 0,fun o h=>by cases h⟩,by decide,Z,fun m h=>by cases h⟩
def i2.kE{k x}(h:i2 k x):np (kJ k) (pi x):=by
 have a:=SR k;unfold pi
 cases e:x.m with|none=>simp only;rw[h.gV];exact np.new R|some m=>exact(h.m m e).kE
def i2.ok{k x}(h:i2 k x)(b:k<=230):Sq x:=by have t:=D3 b;have Q:=SR k;have:=h.e_.1;have:=h.eB.1;have:=h.el.1;have:=h.fY.1;have:=h.wk;exact⟨⟨R,R,R,R⟩,R,λm a=>⟨(h.m m a).adQ t,(h.m m a).auP⟩,λn o=>h.kE.us R n o⟩
def L'{k}{l:I gU}(h:l.length<=k/\ ∀o∈l,si o):l.length<=k+1/\ ∀o∈l,si o:=⟨R,h.2⟩
def SS{k m}(a:k+1<=230)(h:hf (kJ k) m):hf (kJ (k+1)) m:=h.up EE (by have:=D3 a;omega)
def i2.up{k x}(a:k+1<=230)(h:i2 k x):i2 (k+1) x:=⟨L' h.e_,L' h.eB,L' h.el,L' h.fY,h.wk,h.gV,λm b=>SS a (h.m m b)⟩
def avp(w:dG):pB w<=4:=by
 unfold pB;repeat' split
 all_goals decide
def Ma{k l o}(h:l.length<=k/\ ∀o∈l,si o)(a:si o):(l++[o]).length<=k+1/\ ∀ks∈l++[o],si ks:=hN
def i2.add{k x}(b:k+1<=230)(h:i2 k x)(w){o}(a:si o):i2 (k+1) (yY x w o):=by
 have u:=h.up b;unfold yY;split
 .exact⟨Ma h.e_ a,u.eB,u.el,u.fY,u.wk,u.gV,u.m⟩
 .exact⟨u.e_,Ma h.eB a,u.el,u.fY,u.wk,u.gV,u.m⟩
 .exact⟨u.e_,u.eB,Ma h.el a,u.fY,u.wk,u.gV,u.m⟩
 .exact⟨u.e_,u.eB,u.el,Ma h.fY a,u.wk,u.gV,u.m⟩
def i2.note{k x}(a:k+1<=230)(h:i2 k x)(ws):i2 (k+1) (m1 x ws).1:=by
 have u:=h.up a;unfold m1;split
 .exact u
 split
 .rename_i w id c e;split
  .exact u
  .apply h.add a w;have Q:=avp (ws.getD 1 .empty);have b:=adx e;exact⟨by omega,by grind⟩
 .exact u
def y2{k}:([]:I gU).length<=k/\ ∀o∈([]:I gU),si o:=⟨eY _,λo h=>hh⟩
def i2.start{k x}(g:k+1<=230)(h:i2 k x)(ws):i2 (k+1) (mz x ws).1:=by
 have u:=h.up g;have t:=D3 g;unfold mz;split
 .rename_i a b e;split
  .exact u
  split
  .rename_i fb f;refine⟨y2,y2,y2,y2,by simp_all,h.gV,λm i=>?_⟩
   cases i
   have:=hf.new (SR (k+1)) R u.kE (n:=(b:J)) f.2 (todo:=se x a) f.1 λl c o d=>by
    have c:=Lp c;simp at c;rcases c with rfl|rfl|rfl|rfl
    .exact h.e_.2 o d
    .exact h.eB.2 o d
    .exact h.el.2 o d
    .exact h.fY.2 o d
   assumption
  .exact⟨y2,y2,y2,y2,h.wk,h.gV,u.m⟩
 .exact u
def avq{k m}(a:k+1<=230)(h:hf (kJ k) m)(o w):hf (kJ (k+1)) (pQ m o w).1:=by
 have t:=D3 a;have u:=SS a h;have e:kJ k+3010=kJ (k+1):=EE;unfold pQ
 repeat' split
 .exact(h.vI R).up R R
 .exact(h.round R o L).up R R
 all_goals exact u
def avr{k m}(a:k+1<=230)(h:hf (kJ k) m)(o w n):hf (kJ (k+1)) (countP m o w n).1:=by
 have t:=D3 a;have u:=SS a h;have e:kJ k+3010=kJ (k+1):=EE;have r:=(DS m o (min n 500)).le;unfold countP
 repeat' split
 .exact(h.step R n).up R R
 .exact(h.fin R n L).up R R
 .exact(h.fin R n N).up R R
 .exact(h.g2 R n).up R R
 .exact(h.gN o [] (pR m o (min n 500)) R).up R R
 all_goals exact u
def i2.line{k x}(a:k+1<=230)(h:i2 k x)(line):i2 (k+1) (fZ x line).1:=by
 have u:=h.up a;unfold fZ;split
 .exact u
 .rename_i w ws _;unfold un;split
  .exact h.note a ws
  split
  .exact h.start a ws
  split
  .exact u
  .rename_i l _;unfold sf;split
   .exact u
   split
   .exact u
   .rename_i m c;split
    .exact⟨u.e_,u.eB,u.el,u.fY,u.wk,u.gV,λd b=>by cases b;exact avq a (h.m m c) _ _⟩
    .exact⟨u.e_,u.eB,u.el,u.fY,u.wk,u.gV,λd b=>by cases b;exact avr a (h.m m c) _ _ _⟩
def i2.all:∀(ls) {k x},i2 k x->k+ls.length<=230->(∀l∈ls,l.size<=1000000)->Hm x ls
 | [],_,_,_,_,_=>trivial|l::ls,k,x,h,c_,s=>⟨h.ok R,s l (.head _),i2.all ls (h.line xD l) xD λb a=>s b (.tail _ a)⟩
structure Hp(b:dG):Prop where
 cR:b.size<=1000000
 nl:∀c∈b.data.toList,c≠10
 pre:[111,107]<+:b.data.toList\/ [101,114,114,111,114,32]<+:b.data.toList
def SU:∀k n,∀c∈lb k n,c≠10
 |0,_,c,h=>hh
 |k+1,n,c,h=>by
  have eT:∀m:V,m<10->UInt8.ofNat (48+m)≠10:=cZ;unfold lb at h;split at h
  .simp at h;subst h
   first|exact eT _ R|(have:=eT n R;simpa using this)
  .rcases iY.1 h with h|h
   .exact SU k _ c h
   .simp at h;subst h
    first|exact eT _ (lp _ cZ)|(have:=eT (n%10) (lp _ cZ);simpa using this)
def avs(l):∀c∈nO l,c≠10:=by
 induction l with
 |nil=>intro c h;cases h
 |cons n l i=>
  intro c h;simp[nO,o8,nG,iY]at h;rcases h with rfl|h|h
  .decide
  .exact SU 20 n c h
  simp_all
def A_{l}(h:l.length<=40000):Hp (gv l):=by
 have b:=PZ l;refine⟨?_,λc a=>?_,.inl ⟨nO l,Z⟩⟩
 .show([111,107]++nO l).toArray.size<=1000000;simp;omega
 .have a:c∈[111,107]++nO l:=a;simp at a;rcases a with rfl|rfl|a
  .decide
  .decide
  .exact avs l c a
def aef(n):(ji n).data.toList=[101,114,114,111,114,32]++oB n:=by rfl
def D4(n):Hp (ji n):=by
 refine⟨?_,λc h=>?_,.inr ⟨oB n,(aef n).symm⟩⟩
 .have:=mR n;show((⟨#[101,114,114,111,114,32]⟩:dG)++f2 n).size<=1000000;rw[hu];show 6+(f2 n).size<=1000000;omega
 .rw[aef]at h;rcases iY.1 h with h|h
  .grind
  .exact SU 20 n c h
def Mb(b):Hp (vN b):=by
 cases b
 .exact⟨cZ,cZ,.inl ⟨[32,110,111],Z⟩⟩
 .exact⟨cZ,cZ,.inl ⟨[32,121,101,115],Z⟩⟩
def i2.out{k x}(a:k<=230)(h:i2 k x)(line):Hp (fZ x line).2:=by
 have t:=D3 a;have z:Hp (gv []):=A_ cZ;unfold fZ;split
 .rename_i hw;exact dN hw afM
 .rename_i w ws _;unfold un;split
  .unfold m1
   repeat' split
   all_goals first|exact D4 _|exact z
  split
  .unfold mz
   repeat' split
   all_goals first|exact D4 _|exact z
  split
  .exact D4 _
  .rename_i l _;unfold sf;split
   .exact D4 _
   split
   .exact D4 _
   .rename_i m b;have K:=h.m m b;have F:=K.adQ t;have e:=K.ki;split
    .unfold pQ
     repeat' split
     .exact z
     .exact Mb _
     .exact A_ (by rw[LV];omega)
     .exact A_ (by rw[LW];have:=F.pl;omega)
     .exact A_ eM
     .exact z
    .unfold countP
     repeat' split
     .exact Mb _
     .exact Mb _
     .exact Mb _
     .exact z
     .exact A_ eM
     .exact A_ eM
     .unfold xn;split
      .exact A_ (by rw[DR];exact fG (adp F.mf) cZ)
      .exact D4 _
     .exact z
def SV:∀(ls) {k x},i2 k x->k+ls.length<=230->(jS x ls).length<=1000001*ls.length
 | [],_,_,_,_=>fi 0
 |l::ls,k,x,h,c_=>by
  have Q:=SV ls (h.line xD l) xD;have a:=(h.out R l).cR;have e:(fZ x l).2.data.toList.length=(fZ x l).2.size:=lz;simp[jS,kv,nF];omega
def qw(s:dG)(i:V):gM:=s.data.getD i 0
def pk(s:dG):V->I dG×V
 |0=>([],0)
 |i+1=>if i=s.size\/qw s i=10 then((pk s i).1++[s.extract (pk s i).2 i],i+1) else pk s i
def aeg(s):∀i,(pk s i).2<=i/\ (pk s i).1.length<=i
 |0=>⟨fi 0,fi 0⟩
 |i+1=>by
  have:=aeg s i;rw[pk];grind
def D5(s:dG):I dG:=(pk s (s.size+1)).1
def Mc{s i}(h:i=s.size\/qw s i=10):pk s (i+1)=((pk s i).1++[s.extract (pk s i).2 i],i+1):=by rw[pk,if_pos h]
def aeh{s i}(h:¬(i=s.size\/qw s i=10)):pk s (i+1)=pk s i:=by rw[pk,cS h]
def HK{a b:gM}(h:(a.toNat:J)=(b.toNat:J)):a=b:=UInt8.toNat_inj.1 (Int.ofNat.inj h)
def avt(s)(b:s.size<=1000000):d0 cQ 14 [.str s,.int .u8 10] (.dm ((D5 s).map fs)):=by
 refine d5 Tryz.func14 2 Z cV (c6 ?_);refine eW (D:=V) (λi=>[(0,.d (.str s)),(1,.d (.int .u8 10)),(5,.own 31),(6,.d (pk s i).2),(7,.d i)])
  (λi=>[(31,.row ((pk s i).1.map fs) 1 L)])
  (λi=>i<=s.size+1) (λi=>s.size+1-i) 0 (eY _) (nd (.row 5 31 1) g_ (dH gO ez dV)) ?_
 intro i cK;have⟨f,l⟩:=aeg s i
 conv=>whnf
 refine dT (λdu=>?_) λdu=>?_
 .have a:i<=s.size:=R
  refine c6 ?_
  refine dT (λdY=>?_) λdY=>?_
  .refine tv f a (c7 ?_);refine fO 1000100 100 (by rw[ec];show _+1<=_;omega) cZ cZ cZ (c7 ?_);refine⟨i+1,R,MC,?_⟩;rw[(Mc (.inl R)),jl];exact(dX (dH gO ez dV))
  .have hL:i<s.size:=R
   refine eH ?_
   refine dT (λc=>?_) λc=>?_
   .refine tv f a (c7 ?_);refine fO 1000100 100 (by rw[ec];show _+1<=_;omega) cZ cZ cZ (c7 ?_);refine⟨i+1,R,MC,?_⟩;rw[(Mc (.inr (HK c))),jl];exact(dX (dH gO ez dV))
   .refine eH ?_;refine⟨i+1,R,MC,?_⟩;rw[aeh (λh=>h.elim (λh=>R) (λh=>c (eL (λx:gM=>(x.toNat:J)) h)))];exact(dX (dH gO ez dV))
 .have a:i=s.size+1:=R
  subst a;refine c6 ?_;exact dg Z Z
section
open Go.Conc Go.Lib
open Go.ConcR (KK WgAt stA mk)
set_option maxRecDepth 100000
theorem D6{c4 e}(h:jc c4 e):wn c4 e:=by
 have⟨d,wr,Ms⟩:=e
 cases d with
 |cell a=>
  have⟨Q,c5⟩:=h;simp only at Q;subst Q;refine⟨λx eE c'=>?_,dw,dw,dw⟩
  have e:x.loc=.cell a:=by cases wr<;>simp[mD,lo]at eE<;>subst eE<;>rfl
  rcases c' with⟨b,hb,c⟩|⟨r,dQ,_⟩
  .simp_all
  simp_all
 |mark m=>
  cases m with|extern g=>exact⟨λx eE=>HF,dw,dw,dw⟩|noRoom=>exact⟨λx eE=>HF,dw,dw,dw⟩|_=>exact h.elim
 |obj r=>
  have⟨Q,c5⟩:=h;simp only at Q;subst Q;refine⟨λx eE c'=>?_,dw,dw,dw⟩
  have e:x.loc=.obj r:=by cases wr<;>simp[mD,lo]at eE<;>subst eE<;>rfl
  rcases c' with⟨b,hb,c⟩|⟨r,dQ,c⟩
  .simp_all
  simp_all
 |_=>exact h.elim
def A'(c4:V->Prop)(d9 eo b:V):Prop:=c4 b\/ (b=d9\/b=eo)
theorem kK.mono{c4 gx d t}(s:∀b,c4 b->gx b)(h:kK c4 d t):kK gx d t:=
 ⟨h.clean,λi a c m=>(h.known i a c m).imp id λ⟨q,k⟩=>⟨q.imp (λ⟨x,e,y⟩=>⟨x,e,s _ y⟩) (λ⟨r,e,y⟩=>⟨r,e,s _ y⟩),k⟩,h.over,h.norel,h.hears⟩
theorem fS.mono{P dO c4 gx g w}(s:∀b,c4 b->gx b)(h:fS P dO gx g w):fS P dO c4 g w:=
 λc1 sl T q cW O cT=>h c1 sl T q cW O (kK.mono s cT)
theorem avu{c4:V->Prop}{Wg w w' es}(h:hS Wg w w' es):∀e∈es,wn (λb=>c4 b\/b=Wg) e:=λe c=>by
 have⟨Q,a,eG,fb⟩:=h.2 e c;exact⟨λx d _=>(Q x d).2,a,eG,fb⟩
def gn(s:dG):I dG:=(iV s.data.toList).map λl=>⟨l.toArray⟩
theorem avv(s):tf (iV s.data.toList)=(gn s).map .string:=by rw[tf,gn,K5];rfl
noncomputable def ia(s:dG):dG:=⟨(jS hg (gn s)).toArray⟩
section
variable {c4:V->Prop} {dO:dr->da->Prop} {s:dG} {cs:I g6} {w:da} {dL:eI}
theorem avw(d6:cQ.follows .mixedOrders=N)(gj:gQ ⟨N,c4⟩ (λc=>w.heap.size<=c) dL)(dt:fp dL w)(ao:s.size<=1000000)(c8:Hm hg (gn s))(cT:(jS hg (gn s)).length<=1000000000000)
  (k:∀gx a todo w',(∀b,gx b->c4 b\/ (w.heap.size<=b/\b<w'.heap.size))->fp dL w'->ob ⟨N,c4⟩ w.heap.size w w'->a.defers=[]->
   (∀w,(results A5 a.tmps).run cQ w=.ok (.string (ia s)) w/\ (results A5 a.tmps).events cQ w #[]=#[])->
   fS cQ dO gx (G {(base 12).at a todo with mode:=.returning} cs) w'):fS cQ dO c4 (L6 s cs) w:=by
 refine fS.zC BO (λ_ _ _ h e he=>D6 (h.dq e he)) (avn (cs:=cs) (s:=s) (dy:=λg w'=>∃q i,q.s=s/\q.cs=cs/\hH ⟨N,c4⟩ w dL w' i (A9 q) /\e4 i (.dm (iH.sec.map hW)) q.DZ/\e4 i (.dm (iH.fy.map Go.Lk.fs)) q.D1/\g=SL q) gj dt
  λq i w' a b Q A B=>⟨q,i,a,b,Q,A,B,Z⟩) λg fv h=>?_
 obtain⟨q,i,rfl,rfl,gJ,A,B,rfl⟩:=h;have l:=gJ.P;have e:=gJ.H;simp[A9]at l;simp[A9]at e;have⟨D,I,J,E,M,ap,aq,r⟩:=e;have ar:=gJ.lt (p:=(q.Wg,_)) (.head _)
 have O:∀b o v,dL b o=U v->¬gc c4 q b:=λb o v cY=>by
  have aa:=gJ.K.sub b o v cY;rintro (h|h|h|h|h|h|h)
  .exact gJ.K.hK.mem b o v aa h
  all_goals(subst h;simp_all)
 have S:=gJ.jF
 have de:∀c,c≠0->qH cQ e2.tWg q.Wg c q.lC q.d9 q.eo (A' c4 q.d9 q.eo) (Zj q.l1 q.lC q.l2) (λb=>b=q.l1) (gc c4 q) (aed (gc c4 q) q (ia q.s) w dL) (L_ (gc c4 q) q (ia q.s) w dL) dO:=λc dj=>by
  refine {e3:=dj,xN:=?_,If:=?_,EZ:=?_,Ig:=?_,E0:=?_,Nk:=?_,E1:=?_,zy:=?_,E2:=?_,UL:=?_,UM:=?_,wj:=?_,ds:=?_,cs:=?_,lw:=?_,ls:=?_,anch:=?_,fin:=?_}
  .simp[gc]
  .simp[gc]
  .simp[gc]
  .simp[gc]
  .rintro b (rfl|rfl|rfl)<;>simp[gc]
  .rintro b (h|rfl|rfl)<;>simp_all[gc]
  .rintro (h|h|h)<;>omega
  .rintro (h|h|h)<;>omega
  .exact λb h=>.inl h
  .omega
  .rintro b rfl (h|h|h)
   .exact S _ E.1 h
   all_goals omega
  all_goals first|omega|skip
  .exact λg w h=>avk (by simp[gc]) g w h
  .intro c1 sl ab ac g w' cW ad ae ee;refine fS.zC (c4:=λb=>A' c4 q.d9 q.eo b\/b=q.Wg) BN (λ_ _ _ h=>avu h) ee (λg w' h=>?_) c1 sl ab ac cW ad ae;have⟨f,p9,af,u,T⟩:=h;rw[u];have j:=Ho O af T.1;have V:G {xp q f (ia q.s) with mode:=.returning} q.cs=G {(base 12).at ⟨(xp q f (ia q.s)).tmps,[]⟩ (xp q f (ia q.s)).todo with mode:=.returning} q.cs:=cV;rw[V];have W:∀w,(results A5 (xp q f (ia q.s)).tmps).run cQ w=.ok (.string (ia q.s)) w/\ (results A5 (xp q f (ia q.s)).tmps).events cQ w #[]=#[]:=λw=>(⟨cV,cV⟩);clear u V;generalize xp q f (ia q.s)=cN at W⊢
   have ag:q.Wg<w'.heap.size:=by have⟨st,kd,u⟩:=T.2;exact(kL.1 u).1
   refine k (λb=>A' c4 q.d9 q.eo b\/b=q.Wg) ⟨cN.tmps,[]⟩ cN.todo w' ?_ j.2 ⟨j.1.os,j.1.tape,j.1.output,j.1.size,λc ah ai=>j.1.block c ah ?_⟩ Z W
   .rintro b ((h|rfl|rfl)|rfl)
    .exact .inl h
    .exact .inr ⟨M.1,R⟩
    .exact .inr ⟨J.1,R⟩
    .exact .inr ⟨D.1,ag⟩
   .rintro (h|h|h|h|h|h|h)
    .exact ai h
    all_goals (have:=r.1;omega)
 apply fS.mono (gx:=A' c4 q.d9 q.eo) (λb h=>.inl h);have y:∀b,w.heap.size<=b->b≠q.d9->b≠q.eo->¬A' c4 q.d9 q.eo b:=λb Q c5 eG h=>h.elim (S b Q) λh=>h.elim c5 eG
 refine fS.run (cU:=AtRel) (c3:=DX (A' c4 q.d9 q.eo)) BQ (λ_ _ _ h=>h) de R (λb hb=>by
  rcases hb with rfl|rfl|rfl
  .exact y _ E.1 R R
  .exact y _ r.1 R R
  .exact y _ I.1 R R) (tf (iV q.s.data.toList)) (ts:=.string q.s) (z:=.string ⟨#[]⟩) (fV:=.string ⟨#[]⟩) (gY:=.agg #[]) ?_
 haveI:Go.ConcX.Payload:=⟨9⟩;refine auU kq (C:=q.lC) (y _ r.1 R R) (show WgAt e2.tWg q.Wg fv 0 0 from D.2.1) λd=>dR.pure BQ.trans (λw e he=>by simp at he) (g':=SM q) (oe 4) (.stop λp9 c5=>?_)
 have dQ:e0 (gc c4 q) fv p9:=by obtain⟨X,rfl⟩:=c5;exact(E3 (w:=fv) (F:=gc c4 q) (a:=stA q.Wg) (by simp[gc,stA]) Z (.int .u64 KK)).trans ⟨Z,Z,Z,Z,λ_ _=>Z⟩
 have n:∀b,b≠q.Wg->p9.heap[b]?=fv.heap[b]?:=λb hb=>by
  obtain⟨X,rfl⟩:=c5;exact tR hb _
 have aj:WgAt e2.tWg q.Wg p9 KK 0:=by obtain⟨X,rfl⟩:=c5;exact vk (b:=q.Wg) (o:=0) D.2.1 (.int .u64 KK)
 have EZ:=(n q.d9 R).trans M.2.1;have Ig:=(n q.eo R).trans J.2.1;have Y:=(n q.l1 R).trans E.2.1;have ak:=(n q.l2 R).trans I.2.1;have al:=(n q.lC R).trans r.2.1;have am:=(avo gJ A B).rel dQ;refine⟨cV,_,_,#[],ave,dw,⟨aj,⟨0,0,EZ⟩,Ig⟩,?_,?_⟩
 .refine A8 4 (dR.load (t:=53) (x:=.tmp 5) (eb:=⟨q.l1,0,cL⟩) (v:=.chan (U q.d9)) kP cV cV anq (λc2 h₁=>by
   have:=(h₁.m q.l1 Z).trans Y
   simp[ke,this]) (λc2 es h₁ he=>⟨.refl _ _,λe h=>.inr ⟨⟨q.l1,0,cL⟩,by rw[he e h],Z,by rw[he e h],by rw[he e h]⟩⟩) λan eG=>A8 5 (dE.h (D2 q) λf=>?_))
  rw[avv];exact avi (jS hg (gn q.s)) cT (λx f w h=>avl d6 O (by simp[gc]) R R cT Z x f w h) (gn q.s) hg [] _ an (am.rel eG.f) c8 Z
 .exact avb (c4:=A' c4 q.d9 q.eo) (q:=⟨q.Wg,q.l1,q.lC,q.l2,q.d9,q.eo,q.s⟩) (.inr (.inl Z)) (show q.Wg≠q.d9 from R) (show q.lC≠q.d9 from R) (show q.s.size<=_ from R) ⟨by simp[ke,Y],by simp[ke,al],by simp[ke,ak]⟩
end
end
section
open Go.Conc Go.Lib
open Go.ConcR (KK WgAt stA mk)
set_option maxRecDepth 100000
theorem avx{w:da}{b o v}(h:w.cell? ⟨b,o,cL⟩=U v):b<w.heap.size:=by refine Nat.lt_of_not_le λc0=>?_;unfold ke at h;simp_all
theorem aei{P f fn c}(a:P.funcs[f]?=U fn)(n:(fn.name== "runtime.NumGoroutine")=L)(hb:fn.body=U c)(vs w):(callFunc f vs).run P w=.ok (.enter f vs) w/\ (callFunc f vs).events P w #[]=#[]:=by
 have o:fn.body.isSome=N:=Ey
 have e:fn.name≠ "runtime.NumGoroutine":=by simpa using n
 simp[callFunc,a,e,hb]
section
variable {c4:V->Prop} {dO:dr->da->Prop} {s:dG} {w:da} {dL:eI} {g:dP}
theorem avy(P:cQ.follows .mixedOrders=N)(h:iD g){x ats}(db:(e6 g).op=.call {callee:=.value (.func 12),args:=#[x],argTypes:=ats})(cY:#[x].map (eA g).eval=#[.string s])
  (z:gQ ⟨N,c4⟩ (λc=>w.heap.size<=c) dL)(cM:fp dL w)(B:s.size<=1000000)(c8:Hm hg (gn s))(cT:(jS hg (gn s)).length<=1000000000000)
  (k:∀gx w',gQ ⟨N,gx⟩ (λc=>w'.heap.size<=c) dL->fp dL w'->(∀b,gx b->c4 b\/w.heap.size<=b)->ob ⟨N,c4⟩ w.heap.size w w'->fS cQ dO gx (put g (.string (ia s))) w'):fS cQ dO c4 g w:=by
 have E:=Tryz.func12;have y:A5.body=U (A5.body.getD .skip):=cV
 have M:∀c2,(execOp (eA g).eval (e6 g)).run cQ c2=.ok (.enter 12 #[.string s]) c2/\ (execOp (eA g).eval (e6 g)).events cQ c2 #[]=#[]:=λc2=>by
  have F:(eA g).eval (.func 12)=.func (.func 12) #[] #[]:=rfl
  have e:execOp (eA g).eval (e6 g)=callFunc 12 #[.string s]:=by rw[<-cY];simp[execOp,db,resolve,F,sH,invoke]
  rw[e];exact aei E cV y _ c2
 have n:∀v,(g.frame.at (eA g) (.inRegion (jg g) (lu g::lv g)::g.frame.todo.tail)).finish v=g.frame.at ((eA g).put (e6 g).dst v) (.inRegion (jg g) (lv g)::g.frame.todo.tail):=λv=>by
  rw[Ia,h.op];rfl
 refine fS.zC (cU:=e0 c4) (c3:=jd c4) (dy:=λg' w'=>e0 c4 w w'/\g'=L6 s (g.frame.at (eA g) (.inRegion (jg g) (lu g::lv g)::g.frame.todo.tail)::g.callers)) BO (λ_ _ _ h e C=>D6 (h.dq e C)) ?_ λg' fv H=>?_
 .refine dR.nx h.run λc2 m=>?_
  have K:stepG cQ N g c2=.go (G (B9 cQ 12 #[.string s] .normal) (g.frame.at (eA g) (.inRegion (jg g) (lu g::lv g)::g.frame.todo.tail)::g.callers)) c2 (listed cQ g.frame.fn (eA g) (e6 g) c2):=by
   conv=>lhs;rw[h.eq]
   exact Ib h.op h.wanted h.ne (M c2).1
  refine⟨_,c2,_,K,?_,?_⟩
  .unfold listed;rw[(M c2).2,B_];exact oZ c2
  .rw[EW _ E y];exact .stop λf i=>⟨m.trans i,Z⟩
 obtain⟨r,rfl⟩:=H
 have cX:gQ ⟨N,c4⟩ (λc=>fv.heap.size<=c) dL:=z.low λc j=>by rwa[r.size]at j
 refine avw P cX (tE z r cM) B c8 cT λgx a todo dc D J p T I=>?_
 have l:gQ ⟨N,gx⟩ (λc=>dc.heap.size<=c) dL:=⟨λc j dh=>by
   rcases D c dh with h|h
   .exact cX.own c (fG p.size j) h
   omega,λb o v cY dh=>by
   rcases D b dh with h|h
   .exact cX.mem b o v cY h
   .have j:=tE z r cM b o v cY;have:=avx j
    omega,z.xT⟩
 refine fS.zC (cU:=e0 gx) (c3:=jd gx) (dy:=λg' w'=>e0 gx dc w'/\g'=put g (.string (ia s))) BO (λ_ _ _ h e C=>D6 (h.dq e C)) ?_ λg' S H=>?_
 .refine dR.nx Z λf i=>⟨_,_,_,EV (b:=base 12) Z T E (I f).1,?_,?_⟩
  .rw[(I f).2,B_];exact oZ f
  .rw[n];exact .stop λO t=>⟨i.trans t,Z⟩
 obtain⟨d,rfl⟩:=H
 have u:∀c,gx c->c4 c\/w.heap.size<=c:=λc h=>(D c h).imp id λq=>by rw[<-r.size];exact q.1
 refine k gx S (l.low λc j=>by rwa[d.size]at j) (tE l d J) u ⟨d.os.trans (p.os.trans r.os),d.tape.trans (p.tape.trans r.tape),d.output.trans (p.output.trans r.output),by rw[d.size,<-r.size];exact p.size,λc Q A=>?_⟩;rw[d.block c λh=>(u c h).elim A λh=>R,p.block c (by rwa[r.size]) A,r.block c A]
end
end
open Go.Conc
theorem gH.rely{cX own cO dL fK dc st a w c2}(b:gQ cX own dL)(h:gH cX own cO dL fK dc st a w)(r:e0 cX.F w c2):gH cX own cO dL fK dc st a c2:=by have⟨M,D,Q,f,eG,fb,du,dY,hL,g,i⟩:=h;exact⟨M,D,Q,tE (b.new Q eG) r f,eG,⟨r.os.trans fb.os,r.tape.trans fb.tape,r.output.trans fb.output,by rw[r.size];exact fb.size,λc d=>(r.block c λe=>d (.inr e)).trans (fb.block c d)⟩,Ce (b.new Q eG) r du,dY,hL,g,i⟩
structure uo(hq:da)(c4:V->Prop)(w:da):Prop where
 sh:∀b,c4 b->hq.heap.size<=b
 fc:ob ⟨N,λ_=>dA⟩ hq.heap.size hq w
theorem uo.next{hq w w' c4 gx}(h:uo hq c4 w)(Q:∀b,gx b->c4 b\/w.heap.size<=b)(a:ob ⟨N,c4⟩ w.heap.size w w'):uo hq gx w':=
 ⟨λb f=>(Q b f).elim (h.sh b) λq=>fG h.fc.size q,⟨a.os.trans h.fc.os,a.tape.trans h.fc.tape,a.output.trans h.fc.output,fG h.fc.size a.size,λc d g=>(a.block c (sR d h.fc.size) λe=>by have:=h.sh c e;omega).trans (h.fc.block c d g)⟩⟩
theorem uo.frame{hq cO w c4 own}(h:uo hq c4 cO)(o:∀c,own c->hq.heap.size<=c)(f:j0 (pr ⟨N,c4⟩ own) cO w):uo hq c4 w:=
 ⟨h.sh,⟨f.os.trans h.fc.os,f.tape.trans h.fc.tape,f.output.trans h.fc.output,fG h.fc.size f.size,λc q a=>(f.block c λe=>e.elim (λe=>by grind) λe=>by have:=h.sh c e;omega).trans (h.fc.block c q a)⟩⟩
def SW(f:im)(vs:d' dr)(v:dr):Prop:=
 ∀ {hq:da} {c4:V->Prop} {dO:dr->da->Prop} {w:da} {M:eI} {g:dP} {dD:d' fw} {ats:d' eF},iD g->(e6 g).op=.call {callee:=.value (.func f),args:=dD,argTypes:=ats}->dD.map (eA g).eval=vs->
  gQ ⟨N,c4⟩ (λc=>w.heap.size<=c) M->fp M w->uo hq c4 w->(∀(gx:V->Prop) (w':da),gQ ⟨N,gx⟩ (λc=>w'.heap.size<=c) M->fp M w'->uo hq gx w'->fS cQ dO gx (put g v) w')->fS cQ dO c4 g w
def aej(o:gL):dB (im×I fw):=
 match o.op with
 | .call c=>match c.callee with
  | .value (.func f)=>bif d3 f 12 then U (f,c.args.toList) else bif d3 f 11 then U (f,c.args.toList) else cL
  |_=>cL
 |_=>cL
def SX:dp->di
 | .d _=>N
 | .eN=>N
 | .fd=>N
 |_=>L
def D7:I (V×dp)->di
 | []=>N
 |(_,x)::r=>bif SX x then D7 r else L
structure SY(f:im)(dD:I dp)(dd:V->dp)(dst:dB Tmp)(K:ft->Prop):Prop where
 out:∃(SZ:I dG) (v:dr) (d:c3) (l:I (V×dp)) (t:Tmp),dD=SZ.map (λs=>.d (.str s)) /\SW f (SZ.map avz).toArray v/\ (∀M,e4 M d v) /\dst=U t/\D7 l=N/\zL dd l/\K ⟨eS (fk.sE l) t (.d d),λ_=>cL⟩
def xq(o:gL)(dd:V->dp)(O:V->dB d4)(a:ft->Prop):Prop:=
 match aej o with
 |some (f,dD)=>SY f (ki (i7 dd) dD) dd o.dst a
 |none=>uW T cQ o (i7 dd) O λe=>h0 dd O o.dst e a
def S0(all:d' gL)(o:gL)(a:ft->(ft->Prop)->Prop)(st:ft)(K:ft->Prop):Prop:=
 match st with
  |⟨dd,O⟩=>match o.guard with
   |none=>xq o dd O λst=>a st K
   |some (g,h8)=>match (all[g]?).bind (·.dst) with
    |none=>dA
    |some t=>match dd t with
     | .eN=>bif h8 then xq o dd O λst=>a st K else h0 dd O o.dst ⟨.dS [],[],cL⟩ λst=>a st K
     | .fd=>bif h8 then h0 dd O o.dst ⟨.dS [],[],cL⟩ λst=>a st K else xq o dd O λst=>a st K
     | .d (.bool b)=>jI b
      (bif h8 then xq o (eS dd t .eN) O λst=>a st K else h0 (eS dd t .eN) O o.dst ⟨.dS [],[],cL⟩ λst=>a st K)
      (bif h8 then h0 (eS dd t .fd) O o.dst ⟨.dS [],[],cL⟩ λst=>a st K else xq o (eS dd t .fd) O λst=>a st K)
     | .dS []=>h0 dd O o.dst ⟨.dS [],[],cL⟩ λst=>a st K
     |_=>dA
def y3(all:d' gL)(l:I gL):ft->(ft->Prop)->Prop:=
 List.rec (motive:=λ_=>ft->(ft->Prop)->Prop) (λst K=>K st) (λo _ a=>S0 all o a) l
theorem avA{a o r st K}:y3 a (o::r) st K=S0 a o (y3 a r) st K:=rfl
def S1(ops:d' gL)(draw:di)(st:ft)(db:nc->ft->Prop):Prop:=
 bif draw then(match st with
  |⟨dd,O⟩=>tA T cQ ops ops.toList dd O [] (db .normal)) else y3 ops ops.toList st (db .normal)
def jo(c:Code):ft->(nc->ft->Prop)->Prop:=
 Code.rec (motive:=λ_=>ft->(nc->ft->Prop)->Prop)
  (skip:=λst db=>db .normal st)
  (region:=λ_ ops draw st db=>S1 ops draw st db)
  (seq:=λ_ _ A B st db=>A st (IC B db))
  (cond:=λc _ _ A B st db=>B6 c A B st db)
  (block:=λid _ A st db=>A st (ID id db))
  (loop:=λ_ A st db=>Fo A st db)
  (rangeFunc:=λ_ _ _ _ _ _ _ _=>dA)
  (exit:=λid st db=>db (.exit id) st)
  (scope:=λ_ _ _ _=>dA)
  (label:=λ_ st db=>db .normal st)
  (goto:=λ_ _ _=>dA)
  (ret:=λst db=>db .ret st)
  (refuse:=λ_ _ _=>dA) c
theorem avB{id ops d st db}:jo (.region id ops d) st db=S1 ops d st db:=rfl
theorem avC{a b st db}:jo (.seq a b) st db=jo a st (IC (jo b) db):=rfl
theorem avD{c a b st db}:jo (.cond c a b) st db=B6 c (jo a) (jo b) st db:=rfl
theorem avE{id a st db}:jo (.block id a) st db=jo a st (ID id db):=rfl
theorem avF{a st db}:jo (.loop a) st db=Fo (jo a) st db:=rfl
def m5(hq:da)(lJ:eI)(c4:V->Prop)(dc:V)(st:ft)(a:e8)(w:da):Prop:=
 ∃(own:V->Prop) (cO:da) (dL:eI),gQ ⟨N,c4⟩ own dL/\ (∀c,cO.heap.size<=c->own c) /\ ((∀c,own c->hq.heap.size<=c) /\uo hq c4 cO/\gS lJ dL) /\gH ⟨N,c4⟩ own cO dL (λ_=>cL) dc st a w
section
variable {hq:da} {lJ:eI} {c4:V->Prop} {dO:dr->da->Prop} {dc:V} {b:g6} {cs:I g6} {k:I Item} {w:da} {a:e8} {st:ft}
theorem avG{P main F dy ops i rest o}(B:b.kind≠.early)(z:ops[i]?=U o)(hw:js o (yielded ops a.tmps)=N)
  (h:n9 P main F o a w λd8 w'=>iL P main F dy (G (b.at d8 (.inRegion ops rest::k)) cs) w'):iL P main F dy (G (b.at a (.inRegion ops (i::rest)::k)) cs) w:=by
 have u:∀v,(b.at a (.inRegion ops (i::rest)::k)).finish v=b.at (a.put o.dst v) (.inRegion ops rest::k):=λv=>by rw[Ia,z];rfl
 refine iL.nx Z λc2 x=>?_;have:=h c2 x;have C:∀e∈listed P b.fn a o c2,e∈(execOp a.eval o).events P c2 #[]:=λe p=>mem_seen p;generalize H:(execOp a.eval o).run P c2=r at this
 match r,this with
 | .ok (.value v) w',⟨d,n⟩=>rw[stepG_value z hw B H];exact⟨⟨d.m_,λe p=>d.dq e (C e p)⟩,n⟩| .ok .skip w',⟨d,n⟩=>rw[stepG_none z hw B H];exact⟨⟨d.m_,λe p=>d.dq e (C e p)⟩,n⟩
 | .ok (.enter f vs) w',⟨d,A,c,cX,E,y,dh⟩=>
  rw[Ib z hw B H,EW _ cX y]
  have j:∀(d8:e8) (g:da) (todo:I Item),(d8.defers=[] /\ ∃v,uL P F A d8.tmps v g/\iL P main F dy (G (b.at (a.put o.dst v) (.inRegion ops rest::k)) cs) g)->
    iL P main F dy (G {(base f).at d8 todo with mode:=.returning} (b.at a (.inRegion ops (i::rest)::k)::cs)) g:=by
   rintro d8 g todo ⟨cP,v,s,n⟩;refine iL.nx Z λt m=>?_;rw[EV (b:=base f) Z cP cX (s t m).1,u];exact⟨⟨.refl _ _,λe p=>(s t m).2 e (mem_seen p)⟩,n.rely m⟩
  refine⟨⟨d.m_,λe p=>d.dq e (C e p)⟩,dh _ dy λe d8 g q=>?_⟩
  cases e with|normal=>exact ny Z (λ_=>stepG_end) (j d8 g [] q)|ret=>exact λtodo=>j d8 g todo q|exit id=>exact q.elim|goto l=>exact q.elim|panic K=>exact q.elim|outgrown=>exact q.elim
theorem fS.S2{g dy}(h:iL cQ N c4 dy g w)(k:∀g w,dy g w->fS cQ dO c4 g w):fS cQ dO c4 g w:=
 fS.zC (cU:=e0 c4) (c3:=jd c4) BO (λ_ _ _ h e a=>D6 (h.dq e a)) (dR.N6 h) k
theorem fS.ctl{g g'}(b:g.status=.running)(s:∀w,stepG cQ N g w=.go g' w)(h:∀c2,e0 c4 w c2->fS cQ dO c4 g' c2):fS cQ dO c4 g w:=
 fS.S2 (dy:=λx y=>x=g'/\e0 c4 w y) (ny b s (.stop λc2 a=>⟨Z,a⟩)) λ_ _ ⟨e,r⟩=>e▸h _ r
theorem m5.rely(h:m5 hq lJ c4 dc st a w){c2}(r:e0 c4 w c2):m5 hq lJ c4 dc st a c2:=by have⟨own,cO,dL,Q,b,fb,eG⟩:=h;exact⟨own,cO,dL,Q,b,fb,gH.rely Q eG r⟩
theorem m5.CD{s}(h:m5 hq lJ c4 dc st a w)(l:wB s st):m5 hq lJ c4 dc s a w:=by have⟨own,cO,dL,Q,b,fb,eG⟩:=h;exact⟨own,cO,dL,Q,b,fb,eG.CD l⟩
theorem fS.op{ops i rest o}(d:b.kind≠.early)(f:ops[i]?=U o)(hw:js o (yielded ops a.tmps)=N){dc}(hB:∀d8 w' c2,dc d8 w'->e0 c4 w' c2->dc d8 c2)
  (h:n9 cQ N c4 o a w dc)(kk:∀d8 w',dc d8 w'->fS cQ dO c4 (G (b.at d8 (.inRegion ops rest::k)) cs) w'):fS cQ dO c4 (G (b.at a (.inRegion ops (i::rest)::k)) cs) w:=
 fS.S2 (dy:=λg w'=>∃d8,g=G (b.at d8 (.inRegion ops rest::k)) cs/\dc d8 w') (avG d f hw (wl (λd8 w' c0=>.stop λc2 c=>⟨d8,Z,hB _ _ _ c0 c⟩) h)) λg w' ⟨d8,e,c0⟩=>e▸kk d8 w' c0
theorem avH{M D ei x v}(a:SX x=N)(h:dZ M D x v):dZ M ei x v:=by cases x<;>first|(cases h;first|exact .eN|exact .fd|exact .d _ _ (by assumption))|cases a
theorem aek{M D ei}:∀ {l dd} {f:V->dr},D7 l=N->zL dd l->(∀t,dZ M D (dd t) (f t))->∀t,dZ M ei (fk.sE l t) (f t)
 | [],_,_,_,_,_,t=>.dead _
 |(s,x)::r,dd,f,h,c,cP,t=>by
  simp only[D7]at h
  cases a:SX x with
  |false=>simp_all
  |true=>
   simp[a,fF]at h;simp[fk.sE]
   cases b:d3 t s with
   |true=>have:=gE b;subst this;exact avH a (by have:=cP t;rwa[c.1]at this)
   |false=>exact aek h c.2 cP t
theorem avI{M D}:∀ {a:I dG} {vs},zJ M D (a.map (λs=>.d (.str s))) vs->vs=(a.map avz).toArray:=by
 intro a vs h;refine Array.ext' (Cq λi=>?_);rw[ir,FK];have z:=h.1;rw[ec]at z
 cases b:a[i]? with|none=>simp_all|some s=>have cK:=(f_.1 b).1;have cY:vs[i]?=U vs[i]:=zt R;have:=h.2 i (.d (.str s)) vs[i] eM cY;rw[cY,sI this];rfl
theorem avJ{ops i rest o}(e:b.kind≠.early)(g:ops[i]?=U o)(hw:js o (yielded ops a.tmps)=N)(cP:ya dc o)
 {dd O K}(h:xq o dd O K)(c:m5 hq lJ c4 dc ⟨dd,O⟩ a w)(kk:∀gx s d8 w',K s->m5 hq lJ gx dc s d8 w'->fS cQ dO gx (G (b.at d8 (.inRegion ops rest::k)) cs) w'):
 fS cQ dO c4 (G (b.at a (.inRegion ops (i::rest)::k)) cs) w:=by
 unfold xq at h;split at h
 .rename_i f dD m;have H:=g;have I:=c;have⟨SZ,v,d,l,t,J,S,q,j,db,n,cU⟩:=h.out;have⟨own,cO,dL,W,X,E,M,D,Q,P,eG,fb,du,dY,hL,R,aa⟩:=I
  have p:∃(z:d' fw) (ats:d' eF),o.op=.call {callee:=.value (.func f),args:=z,argTypes:=ats}/\z.toList=dD:=by
   unfold aej at m;split at m
   .rename_i c n;split at m
    .rename_i F ee
     cases y:d3 F 12 with
     |true=>simp[y,fF,fC,Jn]at m;obtain⟨rfl,rfl⟩:=m;have⟨dh,cX,T⟩:=c;simp_all
     |false=>
      simp[y,jw]at m
      cases A:d3 F 11 with
      |true=>simp[A,fF,fC,Jn]at m;obtain⟨rfl,rfl⟩:=m;have⟨dh,cX,T⟩:=c;simp_all
      |false=>simp_all
    .cases m
   .cases m
  obtain⟨z,ats,ab,rfl⟩:=p;have C:=avI (M:=M) (D:=D) (by rw[<-J];exact Jr (z6 hL) z)
  have r:e6 (G (b.at a (.inRegion ops (i::rest)::k)) cs)=o:=by show(ops[i]?).getD default=o;rw[H];rfl
  refine S (g:=G (b.at a (.inRegion ops (i::rest)::k)) cs) (M:=M) ⟨Z,by rwa[r],by rwa[r],by show(b.kind==.early)=L;simp_all⟩ (by rwa[r]) C ((W.new Q eG).low λc n=>X c (fG fb.size n)) P (E.2.1.frame E.1 fb) λgx w' Y V x=>?_
  have u:put (G (b.at a (.inRegion ops (i::rest)::k)) cs) v=G (b.at (a.put o.dst v) (.inRegion ops rest::k)) cs:=by show G (b.at (a.put (e6 (G (b.at a (.inRegion ops (i::rest)::k)) cs)).dst v) (.inRegion ops rest::k)) cs=_;rw[r]
  rw[u];have de:=cP t j;refine kk gx _ _ w' cU ⟨λc=>w'.heap.size<=c,w',M,Y,λc n=>n,⟨λc n=>fG x.fc.size n,x,E.2.2.trans Q⟩,M,λ_=>cL,λ_ _ _ h=>h,V,λb o v cY=>.inl cY,⟨Z,Z,Z,fi _,λ_ _=>Z⟩,⟨λb=>⟨λ_=>Z,λ_=>Z⟩,λb h=>(by cases h),λb B cM h=>(by cases h),λb d7 cM ek h=>(by cases h)⟩,λ_ _ _=>Z,λs=>?_,?_,by rwa[j]⟩
  .rw[j,WS eM];show dZ M _ (eS _ t _ s) _;unfold eS
   cases y:d3 s t with
   |true=>have:=gE y;subst this;rw[if_pos Z];exact .d _ _ (q M)
   |false=>rw[cS (λe=>by simp_all)];exact aek db n hL s
  .rw[j];simpa[Go.Act.put]using R
 .have⟨own,cO,dL,j,l,n,c⟩:=c;exact fS.op e g hw (dc:=λd8 w'=>∃st,K st/\gH ⟨N,c4⟩ own cO dL (λ_=>cL) dc st d8 w') (λd8 w' c2 ⟨st,q,d⟩ r=>⟨st,q,gH.rely j d r⟩) (WX (cX:=⟨N,c4⟩) sQ j l h c cP) λd8 w' ⟨st,q,d⟩=>kk c4 st d8 w' q ⟨own,cO,dL,j,l,n,d⟩
theorem S3{ops K}(C:b.kind≠.early)(cP:∀o∈ops,ya dc o)(kk:∀gx s d8 w',K s->m5 hq lJ gx dc s d8 w'->fS cQ dO gx (G (b.at d8 k) cs) w'):
 ∀l i c4 st a w,ops.toList.drop i=l->y3 ops l st K->m5 hq lJ c4 dc st a w->fS cQ dO c4 (G (b.at a (.inRegion ops (tN i l.length)::k)) cs) w
 | [],i,c4,st,a,w,E,h,f=>fS.ctl Z (λ_=>stepG_region_end) λc2 r=>kk c4 st a c2 h (f.rely r)
 |o::rest,i,c4,st,a,w,E,h,f=>by
  have F:ops[i]?=U o:=by have:=eL (·[0]?) E;simpa using this
  have q:ops.toList.drop (i+1)=rest:=by have:=eL (z7 1) E;simpa[Nat.add_comm]using this
  have j:=cP o (EN F);have⟨dd,O⟩:=st;simp
  have y:js o (yielded ops a.tmps)=N->∀m,xq o m O (λst=>y3 ops rest st K)->m5 hq lJ c4 dc ⟨m,O⟩ a w->fS cQ dO c4 (G (b.at a (.inRegion ops (i::tN (i+1) rest.length)::k)) cs) w:=
   λhw m h f=>avJ C F hw j h f λgx s d8 w' I P=>S3 C cP kk rest (i+1) gx s d8 w' q I P
  have skip:js o (yielded ops a.tmps)=L->∀m,h0 m O o.dst ⟨.dS [],[],cL⟩ (λst=>y3 ops rest st K)->m5 hq lJ c4 dc ⟨m,O⟩ a w->fS cQ dO c4 (G (b.at a (.inRegion ops (i::tN (i+1) rest.length)::k)) cs) w:=
   λhw m h f=>fS.ctl Z (λ_=>stepG_unwanted F hw) λc2 r=>by
    have⟨own,cO,dL,z,A,B,f⟩:=f.rely r;exact S3 C cP kk rest (i+1) c4 _ _ c2 q (B0 h).2 ⟨own,cO,dL,z,A,B,OV f j⟩
  rw[avA]at h;simp[S0]at h
  cases p:o.guard with
  |none=>simp[p]at h;exact y (by simp[js,p]) dd h f
  |some dh=>
   have⟨g,n⟩:=dh;simp[p]at h
   cases H:(ops[g]?).bind (·.dst) with
   |none=>simp_all
   |some t=>
    simp[H]at h
    have d:∃M D,dZ M D (dd t) (a.tmps.getD t undef):=by have⟨own,cO,dL,z,A,B,M,D,Q,db,eG,fb,du,dY,hL,J,R⟩:=f;exact⟨M,D,hL t⟩
    have⟨M,D,d⟩:=d
    have u:∀(c:di) m,a.tmps.getD t undef=.bool c->m5 hq lJ c4 dc ⟨m,O⟩ a w->
     (if c=n then xq o m O (λst=>y3 ops rest st K) else h0 m O o.dst ⟨.dS [],[],cL⟩ (λst=>y3 ops rest st K))->
     fS cQ dO c4 (G (b.at a (.inRegion ops (i::tN (i+1) rest.length)::k)) cs) w:=by
     intro c m cY cX h;have cM:=OW H cY
     have hw:js o (yielded ops a.tmps)=(c==n):=by simp[js,p,cM]
     by_cases e:c=n
     .grind
     .grind
    have v:∀c:di,dd t=.d (.bool c)->m5 hq lJ c4 dc ⟨eS dd t (bif c then .eN else .fd),O⟩ a w:=λc x=>by
     have⟨own,cO,dL,z,A,B,f⟩:=f;exact⟨own,cO,dL,z,A,B,f.refine x⟩
    split at h
    .rename_i x;apply u N dd ((vc d).1 x) f;simp_all
    .rename_i x;apply u L dd ((vc d).2 x) f;simp_all
    .rename_i c x;rcases wD h with⟨rfl,Q⟩|⟨rfl,Q⟩
     .apply u N (eS dd t .eN) (og (x▸d)) (v N x);simp_all
     .apply u L (eS dd t .fd) (og (x▸d)) (v L x);simp_all
    .rename_i x;have cY:=OX (x▸d);exact skip (by simp[js,p,OY H cY]) dd h f
    simp_all
end
structure avK(hq:da)(lJ:eI)(dO:dr->da->Prop)(dc:V)(b:g6)(k:I Item)(cs:I g6)(db:nc->ft->Prop):Prop where
 n:∀c4 st a w,db .normal st->m5 hq lJ c4 dc st a w->fS cQ dO c4 (G (b.at a k) cs) w
 e:∀i c4 st a w,db (.exit i) st->m5 hq lJ c4 dc st a w->∃fo,exitTo i k=U fo/\fS cQ dO c4 (G (b.at a fo) cs) w
 r:∀c4 st a w,db .ret st->m5 hq lJ c4 dc st a w->∀todo,fS cQ dO c4 (G {b.at a todo with mode:=.returning} cs) w
theorem ael{i x k}(h:x.plain=N):exitTo i (x::k)=exitTo i k:=by cases x<;>simp_all [exitTo,Item.plain]
section
variable {hq:da} {lJ:eI} {dO:dr->da->Prop} {dc:V} {b:g6} {cs:I g6}
theorem avL(J:b.kind≠.early):∀c k db c4 st a w,kt dc c=N->jo c st db->m5 hq lJ c4 dc st a w->avK hq lJ dO dc b k cs db->fS cQ dO c4 (G (b.at a (.code c::k)) cs) w:=by
 intro c
 induction c with
 |skip=>exact λk db c4 st a w _ h d p=>fS.ctl Z (λ_=>stepG_skip) λc2 r=>p.n c4 st a c2 h (d.rely r)
 |region id ops B=>
  intro k db c4 st a w cP h d p;have C:=λo ab=>JE cP o (by simpa using ab);rw[avB]at h;simp[S1]at h
  cases B with
  |true=>have⟨dd,O⟩:=st;have⟨own,cO,dL,K,I,T,d⟩:=d;have hw:jX cQ N c4 b.fn (.region id ops N) (λe a w=>e=.normal/\ ∃st,db .normal st/\gH ⟨N,c4⟩ own cO dL (λ_=>cL) dc st a w) a w:=Xn (cX:=⟨N,c4⟩) sQ K I (λst a w k r=>⟨Z,st,k,r⟩) C nL id h d;refine fS.S2 (dy:=λg w'=>∃s d8,g=G (b.at d8 k) cs/\db .normal s/\m5 hq lJ c4 dc s d8 w') (hw b k cs _ Z J λe d8 w' q=>?_) λg w' ⟨s,d8,e,E,F⟩=>e▸p.n c4 s d8 w' E F;obtain⟨rfl,s,E,F⟩:=q;exact .stop λc2 r=>⟨s,d8,Z,E,own,cO,dL,K,I,T,gH.rely K F r⟩
  |false=>refine fS.ctl Z (λ_=>stepG_region) λc2 r=>?_;have:=S3 (k:=k) (cs:=cs) (dO:=dO) J C (λgx s d8 w' E F=>p.n gx s d8 w' E F) ops.toList 0 c4 st a c2 Z h (d.rely r);rw[List.range_eq_range'];omega
 |seq x y v z=>
  intro k db c4 st a w cP h d p;simp only[kt]at cP
  cases Q:kt dc x with
  |false=>simp_all
  |true=>simp[Q,fF]at cP;rw[avC]at h;refine fS.ctl Z (λ_=>stepG_seq) λc2 r=>v (.code y::k) _ c4 st a c2 Q h (d.rely r) ⟨λc4 st a w q l=>z k db c4 st a w cP q l p,λi c4 st a w q l=>?_,λc4 st a w q l=>p.r c4 st a w q l⟩;rw[ael Z];exact p.e i c4 st a w q l
 |cond o x y v z=>
  intro k db c4 st a w cP h d p;simp only[kt]at cP
  cases Q:kt dc x with
  |false=>simp_all
  |true=>
   simp[Q,fF]at cP;have⟨dd,O⟩:=st;rw[avD]at h;simp[B6]at h
   have m:∃M D,dZ M D (i7 dd o) (a.eval o):=by have⟨own,cO,dL,K,I,T,M,D,dI,ac,X,ag,ah,ai,ad,aj,ak⟩:=d;exact⟨M,D,z6 ad o⟩
   have⟨M,D,m⟩:=m;have H:a.eval o=.bool N->jo x ⟨dd,O⟩ db->fS cQ dO c4 (G (b.at a (.code (.cond o x y)::k)) cs) w:=λe h=>fS.ctl Z (λ_=>UA e) λc2 r=>v k db c4 _ a c2 Q h (d.rely r) p;have no:a.eval o=.bool L->jo y ⟨dd,O⟩ db->fS cQ dO c4 (G (b.at a (.code (.cond o x y)::k)) cs) w:=λe h=>fS.ctl Z (λ_=>UA e) λc2 r=>z k db c4 _ a c2 cP h (d.rely r) p;split at h
   .rename_i A;exact H ((vc m).1 A) h
   .rename_i A;exact no ((vc m).2 A) h
   .rename_i c A;rcases wD h with⟨rfl,q⟩|⟨rfl,q⟩
    .exact H (og (A▸m)) q
    .exact no (og (A▸m)) q
   simp_all
 |block id x dh=>
  intro k db c4 st a w cP h d p;rw[avE]at h;refine fS.ctl Z (λ_=>stepG_block) λc2 r=>dh (.inBlock id::k) _ c4 st a c2 cP h (d.rely r) ⟨λc4 st a w q l=>fS.ctl Z (λ_=>stepG_inBlock) λc2 r=>p.n c4 st a c2 q (l.rely r),λi c4 st a w q l=>?_,λc4 st a w q l=>p.r c4 st a w q l⟩;replace q:bif d3 i id then db .normal st else db (.exit i) st:=q
  cases hb:d3 i id with
  |true=>have:=gE hb;subst this;rw[hb]at q;exact⟨k,by simp[exitTo],p.n c4 st a w q l⟩
  |false=>
   rw[hb]at q;have⟨fo,t,Y⟩:=p.e i c4 st a w q l
   have:(id==i)=L:=by simp;exact λe=>HO
   exact⟨fo,by simp[exitTo,this,t],Y⟩
 |loop x dh=>
  intro k db c4 st a w cP h d p;rw[avF]at h;have h:=h.out;have⟨ae,S,cU,W,⟨j,cM,af⟩,u⟩:=h
  have de:∀(n:V) (j:ae) (c4:V->Prop) (a:e8) (w:da),W j=n->cU j->m5 hq lJ c4 dc (S j) a w->fS cQ dO c4 (G (b.at a (.code x::.inLoop x::k)) cs) w:=by
   intro n
   induction n using to with
   |_ n P=>
    intro j c4 a w c0 cM d;refine dh (.inLoop x::k) _ c4 (S j) a w cP (u j cM) d ⟨λc4 st a w q l=>?_,λi c4 st a w q l=>?_,λc4 st a w q l=>p.r c4 st a w q l⟩
    .have⟨aa,dI,ac,X⟩:=q;exact fS.ctl Z (λ_=>stepG_inLoop) λc2 r=>P (W aa) R aa c4 a c2 Z dI ((l.rely r).CD X)
    .rw[ael Z];exact p.e i c4 st a w q l
  exact fS.ctl Z (λ_=>stepG_loop) λc2 r=>de (W j) j c4 a c2 Z cM ((d.rely r).CD af)
 |rangeFunc f al x y _ _=>exact λk db c4 st a w _ h=>h.elim
 |exit id=>
  exact λk db c4 st a w _ h d p=>by
   have⟨fo,t,_⟩:=p.e id c4 st a w h d;refine fS.ctl Z (λ_=>stepG_exit t) λc2 r=>?_;have⟨eK,am,Y⟩:=p.e id c4 st a c2 h (d.rely r);simp_all
 |scope x dh=>exact λk db c4 st a w _ h=>h.elim
 |label l=>exact λk db c4 st a w _ h d p=>fS.ctl Z (λ_=>stepG_label) λc2 r=>p.n c4 st a c2 h (d.rely r)
 |goto l=>exact λk db c4 st a w _ h=>h.elim
 |ret=>exact λk db c4 st a w _ h d p=>fS.ctl Z (λ_=>stepG_ret') λc2 r=>p.r c4 st a c2 h (d.rely r) _
 |refuse y=>exact λk db c4 st a w _ h=>h.elim
end
structure uq(s:dG):Prop where
 cR:s.size<=1000000
 vP:(gn s).length<=230
theorem aem:∀l,∀x∈iV l,x.length<=l.length
 | [],x,h=>hh
 |b::l,x,h=>by
  have i:=aem l;unfold iV at h;grind
theorem uq.small{s}(h:uq s):∀l∈gn s,l.size<=1000000:=by intro l a;obtain⟨x,b,rfl⟩:=is.1 a;have:=aem _ x b;have e:s.data.toList.length=s.size:=lz;have Q:=h.cR;show x.toArray.size<=1000000;simp;omega
theorem avM{s}(h:uq s):SW 12 #[.string s] (.string (ia s)):=by
 intro hq c4 dO w M g dD ats a o cY cX c8 K k;have⟨c⟩:=dD
 have l:c.length=1:=by have:=eL Array.size cY;simpa using this
 obtain⟨x,rfl⟩:=List.length_eq_one_iff.1 l;have n:=h.vP;refine avy nL a (x:=x) o cY cX c8 h.cR (i2.all _ i2.hg R h.small) ?_ λgx w' q b d e=>k gx w' q b (K.next d e);have:=SV (gn s) i2.hg R;omega
theorem aen{fn}{t:Tmp}(h:fn.results=#[.tmp t])(tmps w):(results fn tmps).run cQ w=.ok (tmps.getD t undef) w/\ (results fn tmps).events cQ w #[]=#[]:=by unfold results;simp_all
theorem avN{b:g6}{f a todo v w}(c0:b.kind=.normal)(cP:a.defers=[])(c:cQ.funcs[b.fn]?=U f)(h:¬2=b.fn)(r:(results f a.tmps).run cQ w=.ok v w):
  stepG cQ N (G {b.at a todo with mode:=.returning} []) w=.ended (.done v) w (seen cQ b.fn ((results f a.tmps).events cQ w #[])):=by
 simp[G,stepG,unwind,doReturn,Frame.at,c0,cP,c,r,h,GStep.after]
def kc(t:Tmp):nc->ft->Prop
 | .exit _,_=>dA
 |_,st=>st.dd t=.d (.bool N)
theorem gQ.sub{cX own M a}(h:gQ cX own a)(s:gS M a)(g:E' M):gQ cX own M:=⟨h.own,λb o v cY=>h.mem b o v (s b o v cY),g⟩
section
variable {c4:V->Prop} {dO:dr->da->Prop} {hq w:da} {M:eI} {f:im} {fn:Func} {t:Tmp} {dx:I c3} {vs:d' dr} {cs:I g6}
theorem aeo{c}(z:cQ.funcs[f]?=U fn)(y:fn.body=U c)(d:kt fn.ntmps c=N)(c0:dx.length<=fn.ntmps)(A:fn.results=#[.tmp t])(h:jo c ⟨k9 dx,λ_=>cL⟩ (kc t))
  (cX:gQ ⟨N,c4⟩ (λc=>w.heap.size<=c) M)(m:fp M w)(TZ:lS M dx vs)(K:uo hq c4 w)
  (k:∀gx a todo w',gQ ⟨N,gx⟩ (λc=>w'.heap.size<=c) M->fp M w'->uo hq gx w'->a.defers=[]->a.tmps.getD t undef=.bool N->fS cQ dO gx (G {(base f).at a todo with mode:=.returning} cs) w'):
  fS cQ dO c4 (G ((base f).at {tmps:=vs++kM (fn.ntmps-vs.size) undef,defers:=[]} [.code c]) cs) w:=by
 have s:vs.size<=fn.ntmps:=afS
 have fin:∀(st:ft) (gx:V->Prop) (a:e8) (w':da) (todo:I Item),st.dd t=.d (.bool N)->m5 hq M gx fn.ntmps st a w'->fS cQ dO gx (G {(base f).at a todo with mode:=.returning} cs) w':=by intro st gx a w' todo B n;have⟨own,cO,dL,u,x,j,e,D,Q,g,eG,fb,du,dY,hL,C,p⟩:=n;refine k gx a todo w' (gQ.sub ((u.new Q eG).low λc d=>x c (fG fb.size d)) (j.2.2.trans Q) cX.xT) (λb o v cY=>g b o v (Q b o v (j.2.2 b o v cY))) (j.2.1.frame j.1 fb) p (og (M:=e) (D:=D) hN)
 refine avL (hq:=hq) (lJ:=M) (by simp[base]) c [] _ c4 _ _ w d h ⟨λc=>w.heap.size<=c,w,M,cX,λ_ h=>h,⟨λc d=>fG K.fc.size d,K,.refl M⟩,F4 m TZ s⟩ ⟨λgx st a w' q l=>fS.ctl Z (λ_=>stepG_end) λc2 r=>fin st gx a c2 [] q (l.rely r),λi gx st a w' q l=>q.elim,λgx st a w' q l todo=>fin st gx a w' todo q l⟩
theorem avO{c}(x:cQ.funcs[f]?=U fn)(n:(fn.name== "runtime.NumGoroutine")=L)(l:fn.body=U c)(m:kt fn.ntmps c=N)(c0:dx.length<=fn.ntmps)(F:fn.results=#[.tmp t])(h:jo c ⟨k9 dx,λ_=>cL⟩ (kc t))(z:∀M,lS M dx vs):SW f vs (.bool N):=by
 intro hq c4 dO w M g dD ats D dc cY cX c8 cM k
 have u:∀c2,(execOp (eA g).eval (e6 g)).run cQ c2=.ok (.enter f vs) c2/\ (execOp (eA g).eval (e6 g)).events cQ c2 #[]=#[]:=λc2=>by
  have B:(eA g).eval (.func f)=.func (.func f) #[] #[]:=rfl
  have e:execOp (eA g).eval (e6 g)=callFunc f vs:=by rw[<-cY];simp[execOp,dc,resolve,B,sH,invoke]
  rw[e];exact aei x n l _ c2
 have o:∀v,(g.frame.at (eA g) (.inRegion (jg g) (lu g::lv g)::g.frame.todo.tail)).finish v=g.frame.at ((eA g).put (e6 g).dst v) (.inRegion (jg g) (lv g)::g.frame.todo.tail):=λv=>by
  rw[Ia,D.op];rfl
 have R:=D.eq;refine fS.zC (cU:=e0 c4) (c3:=jd c4) (dy:=λg' w'=>e0 c4 w w'/\g'=G ((base f).at {tmps:=vs++kM (fn.ntmps-vs.size) undef,defers:=[]} [.code c]) (g.frame.at (eA g) (.inRegion (jg g) (lu g::lv g)::g.frame.todo.tail)::g.callers)) BO (λ_ _ _ h e A=>D6 (h.dq e A)) ?_ λg' fv C=>?_
 .refine dR.nx D.run λc2 p=>?_
  have E:stepG cQ N g c2=.go (G (B9 cQ f vs .normal) (g.frame.at (eA g) (.inRegion (jg g) (lu g::lv g)::g.frame.todo.tail)::g.callers)) c2 (listed cQ g.frame.fn (eA g) (e6 g) c2):=by
   conv=>lhs;rw[D.eq]
   exact Ib D.op D.wanted D.ne (u c2).1
  refine⟨_,c2,_,E,?_,?_⟩
  .unfold listed;rw[(u c2).2,B_];exact oZ c2
  .rw[EW _ x l];exact .stop λi j=>⟨p.trans j,Z⟩
 obtain⟨r,rfl⟩:=C;have K:=cM.next (λb l=>.inl l) ⟨r.os,r.tape,r.output,tD r.size.symm,λc _ y=>r.block c y⟩;refine aeo x l m c0 F h (cX.low λc m=>by rwa[r.size]at m) (tE cX r c8) (z M) K λgx a todo P H O I J Q=>?_;have s:=aen F a.tmps;rw[Q]at s;refine fS.zC (cU:=e0 gx) (c3:=jd gx) (dy:=λg' w'=>e0 gx P w'/\g'=put g (.bool N)) BO (λ_ _ _ h e A=>D6 (h.dq e A)) ?_ λg' db C=>?_
 .refine dR.nx Z λi j=>⟨_,_,_,EV (b:=base f) Z J x (s i).1,?_,?_⟩
  .rw[(s i).2,B_];exact oZ i
  .rw[o];exact .stop λdh q=>⟨j.trans q,Z⟩
 obtain⟨d,rfl⟩:=C;exact k gx db (H.low λc m=>by rwa[d.size]at m) (tE H d O) (I.next (λb l=>.inl l) ⟨d.os,d.tape,d.output,tD d.size.symm,λc _ y=>d.block c y⟩)
theorem avP{c}(k:cQ.funcs[f]?=U fn)(l:fn.body=U c)(u:kt fn.ntmps c=N)(c0:dx.length<=fn.ntmps)(m:fn.results=#[.tmp t])(h:jo c ⟨k9 dx,λ_=>cL⟩ (kc t))
  (o:¬2=f)(q:E' M)(e:fp M w)(s:lS M dx vs)(P:∀w',Below w.heap.size w w'->dO (.bool N) w'):fa cQ dO (solo (G (B9 cQ f vs .normal) []) w) #[]:=by
 have y:fS cQ dO (λ_=>dA) (G ((base f).at {tmps:=vs++kM (fn.ntmps-vs.size) undef,defers:=[]} [.code c]) []) w:=by refine aeo (hq:=w) k l u c0 m h ⟨λ_ _=>id,λ_ _ _ _=>id,q⟩ e s ⟨λb h=>h.elim,⟨Z,Z,Z,fi _,λ_ _ _=>Z⟩⟩ λgx a todo w' x z p A B=>fS.finish ⟨Z,λc2 hw=>?_⟩;have r:=aen m a.tmps;rw[B]at r;obtain⟨d,rfl⟩:=hw;refine⟨_,_,avN (b:=base f) Z A k o (r _).1,?_,P _ ⟨p.fc.os,p.fc.tape,p.fc.output,p.fc.size,λc Q=>p.fc.block c Q id⟩⟩;rw[(r _).2,B_];simp
 rw[solo_eq_crowd,EW _ k l];refine y #[_] cL #[] (λ_=>0) dw ⟨λi g cW _ v=>?_,λj _=>Z⟩ ⟨λn h=>by obtain⟨i,j,_,⟨a,b,e,_⟩,_⟩:=h;simp[aep]at e,λi a h=>by simp[touchAt,aep]at h,λi g h=>by simp[Trace.g?]at h,λi a h=>by simp[aep]at h,Z⟩;simp_all
end
theorem tg{dD:I dp}{dd:V->dp}{t:Tmp}{K:ft->Prop}{s:dG}(l:I (V×dp))(h:uq s)(k:K ⟨eS (fk.sE l) t (.d (.str (ia s))),λ_=>cL⟩)(x:dD=[.d (.str s)]:=by rfl)(a:D7 l=N:=by rfl)(c:zL dd l:=by repeat' constructor):SY 12 dD dd (U t) K:=
 ⟨[s],.string (ia s),.str (ia s),l,t,x,avM h,λM=>.str _,rfl,a,c,k⟩
section
set_option maxRecDepth 100000
def th:dG:=⟨#[112,117,109,112,10,100,111,32,48,32,110,101,119,32,49,10,100,111,32,49,32,119,114,105,116,101,32,49,32,97,98,10,115,116,97,114,116,32,50,32,49,10,114,117,110,32,53,48,10,112,97,103,101,115,10,115,116,97,116,101,32,48,10,114,101,97,100,32,50,10,99,108,111,99,107,10,119,104,97,116]⟩
def S4:dG:=⟨#[101,114,114,111,114,32,49,51,10,111,107,10,111,107,10,111,107,10,111,107,32,57,10,111,107,32,49,32,50,10,111,107,32,48,32,48,10,101,114,114,111,114,32,51,10,111,107,32,49,56,32,48,10,101,114,114,111,114,32,50,10]⟩
def l8{a b:dG}(h:a.data.toList=b.data.toList):a=b:=ByteArray.ext (z4.1 h)
def avQ:(gn th).length=10:=cV
def qx:V->h4
 |0=>hg
 |k+1=>(fZ (qx k) ((gn th).getD k .empty)).1
end
section
set_option maxRecDepth 100000
def jp:gU:=(1,1,fB)
def oN:gU:=(3,1,⟨#[97,98]⟩)
def r0:lH:=(0,d_)
def ur(p:fJ):eu:=mw p 1 [[jp],[oN]]
def nN(p:fJ)(cO fv:gd)(h:hI)(l:hx)(c:J)(dq:I qo):eu:=⟨[cO,fv],p,h,(eQ 17 qn).set 1 l,⟨0,L,[cL,cL],0,[]⟩,c,dq⟩
def LB(m:eu):eu:=(kF m 2 L).1
def m6(m k):gN m 2 [] (k+1)=LB (gN m 2 [] k):=rfl
def S5(st:V)(oe:di):gd:=⟨[jp],0,st,N,oe,0,0,r0⟩
def y5(st:V)(oe:di):gd:=⟨[oN],0,st,N,oe,1,0,r0⟩
def Ba(o:gU):gd:=⟨[o],1,0,L,L,0,0,r0⟩
def Md(a b:di):hI:=⟨1,[(0,a),(1,b)],[]⟩
def S6(p:fJ):eu:=nN p (S5 3 L) (y5 2 L) (Md L L) ⟨[0],N,[(1,N)]⟩ 6 []
def aeq(p:fJ):eu:=nN p (S5 5 N) (y5 2 L) (Md N L) ⟨[0],N,[(1,N)]⟩ 8 []
def aer(p:fJ):eu:=nN (gg p jp).1 ⟨[jp],0,6,N,N,0,8,(gg p jp).2⟩ (y5 2 L) (Md N L) ⟨[0],N,[(1,N)]⟩ 10 []
def D8(p:fJ)(r:lH):eu:=nN p (Ba jp) (y5 3 L) ⟨1,[(1,L)],[]⟩ ⟨[1],N,[]⟩ 12 [⟨0,jp,r,0,8,10⟩]
def S7(p:fJ)(r:lH):eu:=nN p (Ba jp) (y5 5 N) ⟨1,[(1,N)],[]⟩ ⟨[1],N,[]⟩ 14 [⟨0,jp,r,0,8,10⟩]
def aes(p:fJ)(r:lH):eu:=nN (gg p oN).1 (Ba jp) ⟨[oN],0,6,N,N,1,15,(gg p oN).2⟩ ⟨1,[(1,N)],[]⟩ ⟨[1],N,[]⟩ 16 [⟨0,jp,r,0,8,10⟩]
def Bb(p:fJ)(r q:lH):eu:=nN p (Ba jp) (Ba oN) ⟨1,[],[]⟩ qn 18 [⟨0,jp,r,0,8,10⟩,⟨1,oN,q,1,15,17⟩]
def qr(p):gN (ur p) 2 [] 3=S6 p:=cV
def avR(p):(gR (S6 p) 0).1=nN p (S5 5 N) (y5 2 L) (Md N L) ⟨[0],N,[(1,N)]⟩ 7 []:=by show(if l7 p 1=L/\ ((1:J)=2\/ (1:J)=3) then(_:eu×di) else _).1=_;rw[cS (λg=>dN g.2 cZ)];rfl
def aet(m):LB m=(jn (qq (gR (gR m 0).1 1).1) 0 L).1:=rfl
def vQ(p):LB (S6 p)=aeq p:=by rw[aet,avR];kernel_rfl
def yQ(p):LB (aeq p)=aer p:=cV
def Me(p):LB (aer p)=D8 (gg p jp).1 (gg p jp).2:=cV
def avS(p r):(gR (D8 p r) 0).1=nN p (Ba jp) (y5 3 L) ⟨1,[(1,L)],[]⟩ ⟨[1],N,[]⟩ 13 [⟨0,jp,r,0,8,10⟩]:=cV
def avT(p r)(h:l7 p 1=N):(gR (nN p (Ba jp) (y5 3 L) ⟨1,[(1,L)],[]⟩ ⟨[1],N,[]⟩ 13 [⟨0,jp,r,0,8,10⟩]) 1).1=S7 p r:=by show(if l7 p 1=L/\ ((3:J)=2\/ (3:J)=3) then(_:eu×di) else _).1=_;rw[cS (λg=>by simp_all)];rfl
def S8(p r)(h:l7 p 1=N):LB (D8 p r)=S7 p r:=by rw[aet,avS,avT p r h];kernel_rfl
def aeu(p r):LB (S7 p r)=aes p r:=cV
def avU(p r):LB (aes p r)=Bb (gg p oN).1 r (gg p oN).2:=cV
end
end Dk
end Go.Lk
namespace Go.Lk.Dk
open Go Go.Proofs Go.RowKit
set_option maxRecDepth 100000
def av1{k:V}(Q:1<=k)(a:k<=8):iQ iH k=(ja k,0):=by have:=Sw (n:=k) RZ R_ R R;assumption
def ut:fJ:=(gg (ja 1) jp).1
def Bc:fJ:=(gg ut oN).1
def Mf:V->e':=hZ (λ_=>d_) 1 (pN 1)
def S':V->e':=hZ Mf 1 (nU (Mf 1) ⟨#[97,98]⟩)
def aey:(gg (ja 1) jp).2=(0,pN 1) /\n4 ut Mf 1:=by have h:=L1 (L2 (fi 1) cZ) (fi 1) jp Z;assumption
def av2:iW ut.f=[1]:=by
 have cW:iW (ja 1).f=[0]:=cV;have⟨j,Q,a⟩:=aex (L2 (fi 1) cZ) (q:=1) (fi 1) cZ Z (i:=0) cZ cV fB;rw[cW]at Q a
 match j,Q,a with
 |0,_,a=>exact a
def Ta:l7 ut 1=N:=(S_ aey.2 (q:=1) (fi 1)).2 (by rw[av2];grind)
def av3:n4 Bc S' 1:=by have h:=L1 aey.2 (fi 1) oN Z;have e:(ka Mf oN).1=S':=cV;rw[e]at h;exact h.2
def aez:∃r q,gN (ur (ja 1)) 2 [] 9=Bb Bc r q:=by refine⟨(gg (ja 1) jp).2,(gg ut oN).2,?_⟩;rw[m6,m6,m6,m6,m6,m6,qr,vQ,yQ,Me];show LB (LB (LB (D8 ut _)))=_;rw[S8 ut _ Ta,aeu,avU];rfl
def av4 : ∀i, i < 9 → oM (gN (ur (ja 1)) 2 [] i) 2 = N := by
  intro i cK;refine Sj.2 ⟨1, cZ, ?_⟩
  have e : ∀(m : eu) (cO fv : gd) (p : fJ) (h : hI) (l : hx) (c : J) (dq : I qo), m = nN p cO fv h l c dq → fv.todo.length = 1 → fv.ended = 0 → 0 < jQ m 1 := by intro m cO fv p h l c dq b d a;subst b;show(0 : J) < (fv.todo.length : J) - fv.ended;rw[d, a]; decide
  match i, cK with
  | 0, _ => have h : (1 : J) = jQ (gN (ur (ja 1)) 2 [] 0) 1 := by kernel_rfl
            omega
  | 1, _ => have h : (1 : J) = jQ (gN (ur (ja 1)) 2 [] 1) 1 := by kernel_rfl
            omega
  | 2, _ => have h : (1 : J) = jQ (gN (ur (ja 1)) 2 [] 2) 1 := by kernel_rfl
            omega
  | 3, _ => rw[qr]; exact e _ _ _ _ _ _ _ _ Z Z Z| 4, _ => rw[m6, qr, vQ]; exact e _ _ _ _ _ _ _ _ Z Z Z| 5, _ => rw[m6, m6, qr, vQ, yQ]; exact e _ _ _ _ _ _ _ _ Z Z Z| 6, _ => rw[m6, m6, m6, qr, vQ, yQ, Me]; exact e _ _ _ _ _ _ _ _ Z Z Z| 7, _ => rw[m6, m6, m6, m6, qr, vQ, yQ, Me]; show 0 < jQ (LB (D8 ut _)) 1; rw[S8 ut _ Ta]; exact e _ _ _ _ _ _ _ _ Z Z Z| 8, _ => rw[m6, m6, m6, m6, m6, qr, vQ, yQ, Me]; show 0 < jQ (LB (LB (D8 ut _))) 1; rw[S8 ut _ Ta, aeu]; exact e _ _ _ _ _ _ _ _ Z Z Z
def aeA:oM (gN (ur (ja 1)) 2 [] 9) 2=L:=by have⟨r,q,e⟩:=aez;rw[e];rfl
def av5:pR (ur (ja 1)) 2 50=9:=by
 have r:=DS (ur (ja 1)) 2 50;have l:=r.le;refine r.uniq ?_ av4 aeA;rcases r.stop with e|e
 .have:=r.all 9 R;rw[aeA]at this;cases this
 .exact e
end Go.Lk.Dk
namespace Go.Lk.Dk
open Go Go.Proofs Go.RowKit
set_option maxRecDepth 100000
def av6:qx 3=⟨[jp],[oN],[],[],iH,cL,0⟩:=cV
def aeB:fZ (qx 3) ((gn th).getD 3 .empty)=(⟨[],[],[],[],iH,U (ur (ja 1)),2⟩,gv []):=by rw[av6];have e:fZ ⟨[jp],[oN],[],[],iH,cL,0⟩ ((gn th).getD 3 .empty)=mz ⟨[jp],[oN],[],[],iH,cL,0⟩ [⟨#[50]⟩,⟨#[49]⟩]:=cV;have o:=av1 (k:=1) cZ cZ;rw[e,Sn (x:=⟨[jp],[oN],[],[],iH,cL,0⟩) (a:=2) (b:=1) cV cZ ⟨⟨cZ,cZ,cZ⟩,eL Tc o⟩];have c:(iQ (pi ⟨[jp],[oN],[],[],iH,cL,0⟩) ((1:V):J)).1=ja 1:=eL QM o;rw[c];rfl
def av7:qx 4=⟨[],[],[],[],iH,U (ur (ja 1)),2⟩:=eL QM aeB
def av8:∃r q,fZ (qx 4) ((gn th).getD 4 .empty)=(⟨[],[],[],[],iH,U (Bb Bc r q),2⟩,gv [9]):=by rw[av7];have⟨r,q,h⟩:=aez;refine⟨r,q,?_⟩;have e:∀m:eu,fZ ⟨[],[],[],[],iH,U m,2⟩ ((gn th).getD 4 .empty)=(⟨[],[],[],[],iH,U (gN m 2 [] (pR m 2 50)),2⟩,gv [pR m 2 50]):=λm=>cV;rw[e,av5,h]
def aeC(r q):m2 (Bb Bc r q)=[S' 1]:=by rw[SA (m:=Bb Bc r q) av3];kernel_rfl
def nr(k:V):dG:=(gn th).getD k .empty
def vR(m:eu):h4:=⟨[],[],[],[],iH,U m,2⟩
def av9(m):fZ (vR m) (nr 5)=(vR m,gv (rn (m2 m))):=cV
def awa(m):fZ (vR m) (nr 6)=(vR m,gv [pj m 0,(jQ m 0).toNat]):=cV
def awb(m):fZ (vR m) (nr 7)=(vR m,xn m 2):=cV
def awc(m):fZ (vR m) (nr 8)=(vR m,gv [m.eh.toNat,m.s.out.length]):=cV
def awd(m):(fZ (vR m) (nr 9)).2=ji 2:=cV
def awe:gn th=[nr 0,nr 1,nr 2,nr 3,nr 4,nr 5,nr 6,nr 7,nr 8,nr 9]:=cV
def sk(x l ls):jS x (l::ls)=(fZ x l).2.data.toList++10::jS (fZ x l).1 ls:=rfl
def awf:ia th=S4:=by
 apply l8;show jS (qx 0) (gn th)=S4.data.toList;have⟨r,q,fb⟩:=av8;have e:fZ (qx 0) (nr 0)=(qx 1,ji 13):=Prod.ext Z cV;have g:fZ (qx 1) (nr 1)=(qx 2,gv []):=Prod.ext Z cV;have a:fZ (qx 2) (nr 2)=(qx 3,gv []):=Prod.ext Z cV;have b:fZ (qx 3) (nr 3)=(qx 4,gv []):=Prod.ext Z (by have:=eL Tc aeB;exact this);have c:fZ (qx 4) (nr 4)=(vR (Bb Bc r q),gv [9]):=fb
 have d:xn (Bb Bc r q) 2=ji 3:=by rw[xn,aeC,adG (λx f=>by rw[p6.1 f];exact λh=>dN (show(1:J)=2 from h) cZ),cS (λh=>by cases h)]
 rw[awe,sk,e,sk,g,sk,a,sk,b,sk,c,sk,av9,aeC,sk,awa,sk,awb,d,sk,awc,sk,awd];show _=S4.data.toList
 kernel_rfl
end Go.Lk.Dk
namespace Go.Lk
namespace Dk
open Go.Proofs Go.RowKit
def Bd(s:dG):di:=gy (s.size<=1500/\ (D5 s).length<=60)
def y6{s}(h:(!Bd s)=L):s.size<=1500/\ (D5 s).length<=60:=by have:=xz;exact of_decide_eq_true this
def Mg(s):d0 cQ 10 [.str s] (.bool (Bd s)):=by
 refine d5 Tryz.func10 1 Z cV (c6 ?_)
 refine dT (λQ=>?_) λQ=>?_
 .have a:s.size<=1500:=R
  refine c6 ?_;refine df (avt s R) (c7 ?_);exact dg Z (eL c3.bool (decide_eq_decide.2 ML))
 .refine c6 ?_;have e:Bd s=L:=decide_eq_false R;rw[e];rfl
def awg:uq th:=⟨cZ,by rw[avQ];decide⟩
def awh:jo (aeD.body.getD .skip) ⟨k9 [],λ_=>cL⟩ (kc 0):=by
 conv=>whnf
 refine tg (s:=th) [] awg (cO ?_);rw[awf];exact c6 Z
def rq{dD:I dp}{dd:V->dp}{t:Tmp}{K:ft->Prop}(l:I (V×dp))(k:K ⟨eS (fk.sE l) t (.d (.bool N)),λ_=>cL⟩)(x:dD=[]:=by rfl)(h:D7 l=N:=by rfl)(c:zL dd l:=by repeat' constructor):SY 11 dD dd (U t) K:=
 ⟨[],.bool N,.bool N,l,t,x,avO (f:=11) (fn:=aeD) (dx:=[]) (t:=0) Tryz.func11 cV (c:=aeD.body.getD .skip) cV cV (eY _) cV awh λM=>⟨Z,λi d v h=>qB⟩,λM=>.bool _,rfl,h,c,k⟩
def awi:∀ {l},iV l=[]->l=[]
 | [],_=>rfl
 |b::l,h=>by
  unfold iV at h;grind
def Be(b:gM)(l:I gM):iV (b::l)=if b=10 then []::iV l else match iV l with
  | []=>[[b]]|x::dD=>(b::x)::dD:=rfl
def aeE:∀a b,iV (a++10::b)=iV (a++[10])++iV b
 | [],b=>by rfl
 |c::a,b=>by
  have i:=aeE a b;rw[o8,o8,Be c,Be c]
  by_cases h:c=10
  .simp_all
  .rw[cS h,cS h,i]
   cases e:iV (a++[10]) with|nil=>have:=awi e;simp at this|cons x dD=>rfl
def aeF:∀l,(iV l).length<=l.count 10+1
 | []=>eY _
 |c::l=>by
  have i:=aeF l;unfold iV;grind
def xr{s i}(h:i<s.data.toList.length):qw s i=s.data.toList[i]:=by unfold qw;have a:=xz;simp_all
def aeG(s):∀i,i<=s.size->(pk s i).1.length=(s.data.toList.take i).count 10
 |0,_=>rfl
 |i+1,h=>by
  have a:=aeG s i R;have l:s.data.toList.length=s.size:=lz;have cK:i<s.data.toList.length:=R;rw[awj cK,Bf,<-a]
  by_cases b:qw s i=10
  .rw[Mc (.inr b),kv];rw[xr cK]at b;simp[b]
  .rw[aeh hN];rw[xr cK]at b;simp_all
def Hq(s):(D5 s).length=s.data.toList.count 10+1:=by have h:=aeG s s.size (fi _);have l:s.data.toList.length=s.size:=lz;rw[vm R]at h;rw[D5,Mc (.inl Z),kv,h];rfl
def Mh(s):(gn s).length<=s.data.toList.count 10+1:=by rw[gn,ec];exact aeF _
def m0:h4->I dG->h4
 |x,[]=>x
 |x,l::ls=>m0 (fZ x l).1 ls
def Td:∀A B x,jS x (A++B)=jS x A++jS (m0 x A) B
 | [],B,x=>rfl
 |a::A,B,x=>by
  have i:=Td A B (fZ x a).1;simp[o8,jS,m0,i,j4,o8]
def l'(a b:dG):(a++b).data.toList=a.data.toList++b.data.toList:=by rfl
def Te(s m):gn (s++⟨#[10]⟩++m)=gn (s++⟨#[10]⟩)++gn m:=by unfold gn;rw[l',l'];rw[j4];show Kg _ (iV (s.data.toList++10::m.data.toList))=_;rw[aeE,jl]
def Tf(s m):ia (s++⟨#[10]⟩++m)=ia (s++⟨#[10]⟩)++⟨(jS (m0 hg (gn (s++⟨#[10]⟩))) (gn m)).toArray⟩:=by apply l8;rw[l'];show jS hg _=jS hg _++jS _ _;rw[Te,Td]
def awk(s m):∃r,ia (s++⟨#[10]⟩++m)=ia (s++⟨#[10]⟩)++r:=⟨_,Tf s m⟩
def D9{s}(Q:s.size<=1500)(a:(D5 s).length<=60):uq s:=
 ⟨R,by have:=Mh s;have:=Hq s;omega⟩
def Tg{s}(Q:(!Bd s)=L):uq (s++⟨#[10]⟩):=by
 have⟨a,b⟩:=y6 Q;have e:=Hq s;refine⟨?_,?_⟩
 .rw[hu];show s.size+1<=_;omega
 .have:=Mh (s++⟨#[10]⟩);rw[l',Bf]at this;grind
def aeH{s m}(Q:(!Bd s)=L)(h:(!Bd m)=L):uq (s++⟨#[10]⟩++m):=by
 have⟨a,b⟩:=y6 Q;have⟨fh,c⟩:=y6 h;have e:=Hq s;have d:=Hq m;refine⟨?_,?_⟩
 .rw[hu,hu];show s.size+1+m.size<=_;omega
 .have:=Mh (s++⟨#[10]⟩++m);rw[l',l',Bf,Bf]at this;grind
def awl(a r:dG):(a++r).extract 0 a.size=a:=by apply l8;have h:a.data.toList.length=a.size:=lz;rw[Y5,Array.toList_extract,l'];simp_all
def awm(s m):jo (Tryz.f3.body.getD .skip) ⟨k9 [.str s,.str m],λ_=>cL⟩ (kc 4):=by
 conv=>whnf
 refine c6 ?_;refine df (Mg s) (c7 ?_)
 refine hV (λQ=>?_) λQ=>?_
 .refine c6 ?_;refine rq [] (c6 ?_);exact Z
 .refine c6 ?_;refine df (Mg m) (c7 ?_)
  refine hV (λa=>?_) λa=>?_
  .refine c6 ?_;refine rq [] (c6 ?_);exact Z
  .refine c6 ?_;have⟨s1,s2⟩:=y6 Q;have⟨q5,w0⟩:=y6 a;have b:s.size+(⟨#[10]⟩:dG).size<=1501:=Nat.succ_le_succ s1
   have e:(s++⟨#[10]⟩).size<=1501:=by rwa[hu]
   refine eH ?_;refine tg (s:=s++⟨#[10]⟩) [(0,.d (.str s)),(1,.d (.str m))] (Tg Q) (c6 ?_);refine tg (s:=s++⟨#[10]⟩++m) [(0,.d (.str s)),(1,.d (.str m)),(5,.d (.str (ia (s++⟨#[10]⟩))))] (aeH Q a) (cO ?_);have⟨r,c⟩:=awk s m;rw[c];refine c6 ?_;have d:(ia (s++⟨#[10]⟩)++r).size=(ia (s++⟨#[10]⟩)).size+r.size:=hu
   refine dT (λeG=>?_) λeG=>?_
   .refine c6 ?_;refine oV R (cO ?_);rw[awl];refine c6 ?_
    refine dT (λfb=>?_) λfb=>?_
    .refine c6 ?_;refine tg (s:=s++⟨#[10]⟩++m) [(37,.eN),(38,.d (.str (ia (s++⟨#[10]⟩)++r)))] (aeH Q a) (cO ?_);rw[c];refine c6 ?_
     refine dT (λdu=>?_) λdu=>?_
     .refine c6 ?_;refine rq [(46,.eN)] (c6 ?_);exact Z
     .exact dN Z du
    .exact dN Z fb
   .omega
def Ee(k n:V):dG:=⟨(lb k n).toArray⟩
def Mj(n:V):qN [48+(n)%10]=⟨#[eT n]⟩:=by rfl
def aeR{k n}(h:n<10):Ee (k+1) n=⟨#[eT n]⟩:=by unfold Ee lb;grind
def awz{k n}(h:¬n<10):Ee (k+1) n=Ee k (n/10)++⟨#[eT n]⟩:=by apply l8;rw[l'];show lb (k+1) n=_;rw[lb,cS h];rfl
def awA:∀(k n:V),n<10^(k+1)->n<1000000000000->k<20->d0 cQ 13 [n] (.str (Ee (k+1) n)):=by
 intro k
 induction k with
 |zero=>intro n h b c;refine d5 awB 1 Z cV (c6 ?_);refine eH ?_;exact dg Z (eL c3.str (by rw[Mj,aeR R]))
 |succ k i=>
  intro n h b c;refine d5 awB 1 Z cV (c6 ?_);refine eH ?_
  refine dT (λa=>?_) λa=>?_
  .refine c6 ?_;refine PO R R (by rw[rM];omega) (cO ?_);rw[show(n:J)/10=((n/10:V):J) by omega];refine dF ?_;refine df (i (n/10) R R R) (c7 ?_);have l:(Ee (k+1) (n/10)).size<=k+1:=Kh (k+1) (n/10)
   have Q:(qN [48+(n:J)%10]).size=1:=by rw[Mj];rfl
   refine eH ?_;exact dg Z (eL c3.str (by rw[Mj,awz (k:=k+1) R]))
  .refine c6 ?_;exact dg Z (eL c3.str (by rw[Mj,aeR R]))
def vU(n:V)(h:n<1000000):d0 cQ 13 [n] (.str (f2 n)):=
 awA 19 n (sR h cZ) R cZ
def aeS:∀ {x},(∀c∈x,c≠10)->iV (x++[10])=[x]
 | [],_=>by rfl
 |c::x,h=>by
  rw[o8,Be,cS (h c (.head _)),aeS λd cP=>h d (.tail _ cP)]
def aeT{x}(h:∀c∈x.data.toList,c≠10):gn (x++⟨#[10]⟩)=[x]:=by unfold gn;rw[l',aeS h];rfl
def aeU:∀ {x},(∀c∈x,c≠32)->mQ x=[x]
 | [],_=>rfl
 |c::x,h=>by
  unfold mQ;rw[cS (h c (.head _)),aeU λd cP=>h d (.tail _ cP)]
def aeV:∀ {x:I gM} (y:I gM),(∀c∈x,c≠32)->mQ (x++32::y)=x::mQ y
 | [],y,_=>by rfl
 |c::x,y,h=>by
  rw[o8]
  conv=>lhs;unfold mQ
  rw[cS (h c (.head _)),aeV y λd cP=>h d (.tail _ cP)]
def xs{w d}(Q:∀c∈w.data.toList,c≠32):jU (w++⟨#[32]⟩++d)=w::jU d:=by unfold jU;rw[l',l',j4];show Kg _ (mQ (w.data.toList++32::d.data.toList))=_;rw[aeV _ Q,kS,Y2]
def Bi{w}(Q:∀c∈w.data.toList,c≠32):jU w=[w]:=by unfold jU;rw[aeU Q,kS,Y2];rfl
def aeW:∀a b n,i_ n (a++b)=(i_ n a).bind λm=>i_ m b
 | [],b,n=>rfl
 |c::a,b,n=>by
  rw[o8,i_,i_];split
  .rfl
  .exact aeW a b _
def Mk(n):(eT n).toNat=48+n%10:=by show(48+n%10)%256=_;omega
def aeX:∀k n,n<10^k->i_ 0 (lb k n)=U n
 |0,n,h=>by rw[show n=0 by omega];rfl
 |k+1,n,h=>by
  have cP:∀m,i_ m [eT n]=U (10*m+n%10):=λm=>by
   have e:=Mk n;rw[i_,e,cS R,i_];grind
  unfold lb;split
  .simp_all
  .rw[aeW,aeX k (n/10) R];grind
def aeY:∀k j n,n<10^(j+1)->(lb k n).length<=j+1
 |0,j,n,h=>eY _
 |k+1,j,n,h=>by
  unfold lb;split
  .simp
  .cases j with|zero=>omega|succ j=>have:=aeY k j (n/10) afT;simp;omega
def aeZ:∀k n,0<(lb (k+1) n).length:=by intro k n;unfold lb;grind
def ae0:∀k n,0<n->n<10^k->(lb k n).head?≠U 48
 |0,n,h,c=>by simp[lb]
 |k+1,n,h,c=>by
  unfold lb;split
  .intro e;simp at e;have:=eL UInt8.toNat e;rw[Mk]at this;grind
  .have i:=ae0 k (n/10) R R
   cases e:lb k (n/10) with
   |nil=>
    cases k with|zero=>omega|succ k=>have:=aeZ k (n/10);simp_all
   |cons a b=>simp_all
def Bj{n}(h:n<1000000000):l0 (f2 n)=U n:=by
 have l:(f2 n).size=(oB n).length:=by rw[f2];rfl
 have Q:(oB n).length<=9:=aeY 20 8 n h;have cW:0<(oB n).length:=aeZ 19 n;unfold l0;rw[cS]
 .exact aeX 20 n (Ul h cZ)
 .rintro (g|g|⟨dI,a⟩)
  .omega
  .omega
  .have O:0<n:=BD λe=>by
    subst e;rw[l]at dI;exact dN dI cZ
   have:=ae0 20 n O (Ul h cZ);apply this;have e:(f2 n).data.toList=oB n:=Z;rw[uM,<-FK,e]at a;show(oB n).head? =U 48
   rw[List.head?_eq_getElem?,fq cW]at*
   simp_all
def uq.rep{s}(h:uq s):(ia s).size<=1000000000:=by
 have Q:=SV (gn s) i2.hg (by have:=h.vP;omega);have a:=h.vP
 have e:(ia s).size=(jS hg (gn s)).length:=by rw[ia];rfl
 omega
def ae1:∀ {x},x≠[]->(∀c∈x,c≠10)->iV x=[x]
 | [c],_,h=>by rw[Be,cS (h c (.head _))];rfl|c::d::x,_,h=>by rw[Be,cS (h c (.head _)),ae1 dw λe a=>h e (.tail _ a)]
def awC{x}(a:x.data.toList≠[])(h:∀c∈x.data.toList,c≠10):gn x=[x]:=by unfold gn;rw[ae1 a h];rfl
def Hx(x:V):I c3:=[.int .u16 x]
def qy:I dG:=[⟨#[115,116,101,112]⟩,⟨#[102,105,110,105,115,104]⟩,⟨#[102,97,117,108,116]⟩,⟨#[97,103,101]⟩,⟨#[114,117,110]⟩,⟨#[115,116,97,116,101]⟩,⟨#[114,101,97,100]⟩]
def ae2:dG:=⟨#[112,117,109,112,10,114,111,117,110,100,10,104,105,115,116,111,114,121,10,112,97,103,101,115,10,99,108,111,99,107,10]⟩
def awD:dG:=⟨#[101,114,114,111,114,32,49,51,10]⟩
def awE:dG:=⟨#[101,114,114,111,114,32,49,51,10,101,114,114,111,114,32,49,51,10,101,114,114,111,114,32,49,51,10,101,114,114,111,114,32,49,51,10,101,114,114,111,114,32,49,51,10]⟩
def y7(i n:V):dG:=qy.getD ((i+n)%7) .empty++⟨#[32]⟩++f2 n++⟨#[10]⟩
def ga(l:I V):V->dG
 |0=>ae2
 |i+1=>ga l i++y7 i (l.getD i 0)
def Bk:V->dG
 |0=>awE
 |i+1=>Bk i++awD
def ae3:∀k n,∀c∈lb k n,48<=c.toNat
 |0,_,c,h=>hh
 |k+1,n,c,h=>by
  unfold lb at h;split at h
  .rw[p6.1 h,Mk];omega
  .rcases iY.1 h with h|h
   .exact ae3 k _ c h
   .rw[p6.1 h,Mk];omega
def oP{n x}(a:x.toNat<48):∀c∈(f2 n).data.toList,c≠x:=λc h e=>by
 have:=ae3 20 n c h;grind
def ae4:∀k,k<7->(∀c∈(qy.getD k .empty).data.toList,c≠32/\c≠10) /\ (¬qy.getD k .empty=⟨#[100,111]⟩ /\ ¬qy.getD k .empty=⟨#[115,116,97,114,116]⟩) /\o7 (qy.getD k .empty)=1
 |0,_|1,_|2,_|3,_|4,_|5,_|6,_=>⟨cZ,⟨cZ,cZ⟩,cZ⟩|k+7,h=>dN h R
def awF{k n}(e:k<7)(c0:n<1000000000):fZ hg (qy.getD k .empty++⟨#[32]⟩++f2 n)=(hg,ji 13):=by
 have⟨Q,⟨a,eG⟩,fb⟩:=ae4 k e;have⟨W,b⟩:∃W,qy.getD k .empty=W:=⟨_,Z⟩;rw[b]at Q a eG fb⊢;unfold fZ;rw[xs λc d=>(Q c d).1,Bi (oP cZ)];show un hg W [f2 n]=_
 have q:jM [f2 n]=U [n]:=by rw[jM,Bj c0];rfl
 rw[un,cS a,cS eG,q];exact adv (l:=[n]) eM
def awG{i n}(c0:n<1000000000):gn (y7 i n)=[qy.getD ((i+n)%7) .empty++⟨#[32]⟩++f2 n]:=by
 have⟨Q,_⟩:=ae4 ((i+n)%7) (lp _ cZ);refine aeT λc a=>?_;rw[l',l']at a;rcases iY.1 a with a|a
 .grind
 .exact oP cZ c a
def awH(l):∀i,∃t,ga l i=t++⟨#[10]⟩
 |0=>⟨⟨#[112,117,109,112,10,114,111,117,110,100,10,104,105,115,116,111,114,121,10,112,97,103,101,115,10,99,108,111,99,107]⟩,Z⟩|i+1=>⟨ga l i++(qy.getD ((i+l.getD i 0)%7) .empty++⟨#[32]⟩++f2 (l.getD i 0)),by rw[ga,y7];exact l8 eM⟩
def DL:∀A B x,m0 x (A++B)=m0 (m0 x A) B
 | [],B,x=>rfl|a::A,B,x=>DL A B (fZ x a).1
def Th(l)(c0:∀x∈l,x<=65535):∀i,i<=l.length->m0 hg (gn (ga l i))=hg/\ (gn (ga l i)).length=5+i/\ia (ga l i)=Bk i
 |0,_=>⟨by kernel_rfl,by kernel_rfl,by rfl⟩
 |i+1,h=>by
  have⟨Q,b,eG⟩:=Th l c0 i R;have⟨t,a⟩:=awH l i
  have c:l.getD i 0<=65535:=by rw[wM,fq (show i<l.length by omega)];exact c0 _ (hF _)
  have d:=awG (i:=i) (n:=l.getD i 0) R;have dh:=awF (k:=(i+l.getD i 0)%7) (n:=l.getD i 0) (lp _ cZ) R
  have e:gn (ga l (i+1))=gn (ga l i)++gn (y7 i (l.getD i 0)):=by rw[ga,a,Te]
  refine⟨?_,?_,?_⟩
  .rw[e,DL,Q,d];show(fZ hg _).1=_;rw[dh]
  .grind
  .rw[ga,a,Tf,<-a,eG,Q,d,Bk]
   congr 1
   apply l8;rw[sk,dh]
   kernel_rfl
def ae5:∀k,(qy.getD k .empty).size<=6
 |0|1|2|3|4|5|6=>cZ|k+7=>by simp[qy]
def ae6(i n):(y7 i n).size<=40:=by have Q:=mR n;have:=ae5 ((i+n)%7);unfold y7;rw[hu,hu,hu];show _+1+_+1<=40;omega
def Ti(l):∀i,(ga l i).size<=31+40*i
 |0=>by show ae2.size<=_;decide
 |i+1=>by
  have:=Ti l i;have:=ae6 i (l.getD i 0);rw[ga,hu];omega
def ae7:∀i,(Bk i).size=45+9*i
 |0=>rfl
 |i+1=>by
  have:=ae7 i;rw[Bk,hu,this];rfl
def awI(l:I V)(g:l.length<=9223372036854775807)(c0:∀x∈l,x<=65535):jo (Tryz.f9.body.getD .skip) ⟨k9 [.dm (l.map Hx)],λ_=>cL⟩ (kc 2):=by
 have m:(l.map Hx).length=l.length:=ec ..
 conv=>whnf
 refine c6 ?_
 refine dT (λQ=>?_) λQ=>?_
 .refine c6 ?_;refine rq [] (c6 ?_);exact Z
 .rw[m]at Q;refine c6 ?_;refine eW (D:=V) (λi=>[(3,.own 12),(4,.d (.str (ga l i))),(5,.d (.str (Bk i))),(13,.d (.dm (l.map Hx))),(14,.d l.length),(15,.d i)])
   (λi=>[(12,.row (qy.map fs) 1 L)])
   (λi=>i<=l.length) (λi=>l.length-i) 0 (eY _) (dX (dH ⟨Z,Z,Z,Z,by show dp.d (.int .i64 _)=dp.d (.int .i64 _);rw[m],Z,dM⟩ ez dV)) ?_
  intro i cK
  conv=>whnf
  refine dT (λdu=>?_) λdu=>?_
  .have dY:i<l.length:=R
   refine c6 ?_
   have d:(l.map Hx)[i]?=U (Hx (l.getD i 0)):=by rw[ir,fq dY,wM,fq dY];rfl
   have c:l.getD i 0<=65535:=by rw[wM,fq dY];exact c0 _ (hF dY)
   have⟨n,a⟩:∃n,l.getD i 0=n:=⟨_,Z⟩;rw[a]at d c;refine eH ?_;rw[show((i:J)+(n:J))%7=(((i+n)%7:V):J) by omega];refine c6 ?_;have hL:(i+n)%7<7:=lp _ cZ;refine ea hL (cO ?_);refine d2 (x:=fs (qy.getD ((i+n)%7) .empty)) (by rw[ir,wM,fq (show(i+n)%7<qy.length from hL)];rfl) (c6 ?_);have w:=ae5 ((i+n)%7);have h:=ae6 i n;have f:=Ti l i;have cP:=mR n;have⟨W,b⟩:∃W,qy.getD ((i+n)%7) .empty=W:=⟨_,Z⟩;unfold y7 at h;rw[b]at w h⊢;have s1:(W++⟨#[32]⟩).size=W.size+1:=hu;have s2:(W++⟨#[32]⟩++f2 n).size=(W++⟨#[32]⟩).size+(f2 n).size:=hu;have fV:(⟨#[32]⟩:dG).size=1:=Z;have gY:(⟨#[10]⟩:dG).size=1:=Z;refine fz R (c6 ?_);refine df (vU n R) (c7 ?_);have n3:(⟨#[101,114,114,111,114,32,49,51,10]⟩:dG).size=9:=Z;have E:=ae7 i;refine eH ?_;refine⟨i+1,by omega,by omega,?_⟩
   have S:ga l (i+1)=ga l i++(W++⟨#[32]⟩++f2 n++⟨#[10]⟩):=by rw[ga,a,y7,b]
   rw[S];exact(dX (dH mc ez dV))
  .have e:i=l.length:=R
   subst e;refine tg (s:=ga l l.length) [(5,.d (.str (Bk l.length)))] ⟨by have:=Ti l l.length;omega,by rw[(Th l c0 l.length (fi _)).2.1];omega⟩ (cO ?_);rw[(Th l c0 l.length (fi _)).2.2];refine c6 ?_
   refine dT (λhL=>?_) λhL=>?_
   .refine c6 ?_;refine rq [(43,.eN)] (c6 ?_);exact Z
   simp_all
def l9:V->dG
 |0=>⟨#[120]⟩
 |i+1=>l9 i++qN [97+(i:J)%26]
def Tj:∀i,(l9 i).size=1+i
 |0=>rfl
 |i+1=>by
  have:=Tj i;rw[l9,hu,this];rfl
def Tl:∀k,k<30->(∀c∈(l9 k).data.toList,c≠32/\c≠10) /\ (¬l9 k=⟨#[100,111]⟩ /\ ¬l9 k=⟨#[115,116,97,114,116]⟩) /\ ¬(1:J)=o7 (l9 k):=by have h:((iz 30).all λk=>((l9 k).data.toList.all λc=>c !=32&&c !=10)&&(!decide (l9 k=⟨#[100,111]⟩)&&(!decide (l9 k=⟨#[115,116,97,114,116]⟩)&&!decide ((1:J)=o7 (l9 k)))))=N:=cV;grind
def awJ{k}(c_:k<30)(x):(fZ x (l9 k++⟨#[32,49]⟩)).2=ji 2:=by have⟨Q,⟨c5,eG⟩,fb⟩:=Tl k c_;have⟨W,a⟩:∃W,l9 k=W:=⟨_,Z⟩;rw[a]at Q c5 eG fb⊢;have e:W++⟨#[32,49]⟩=W++⟨#[32]⟩++⟨#[49]⟩:=l8 Bn;unfold fZ;rw[e,xs λc dj=>(Q c dj).1,Bi cZ];show(un x W [⟨#[49]⟩]).2=_;have b:jM [⟨#[49]⟩]=U [1]:=cV;rw[un,cS c5,cS eG,b];show(sf x W [1]).2=_;rw[adu (l:=[1]) fb]
def awK{s k}(c_:k<30):ia (s++⟨#[10]⟩++l9 k++⟨#[32,49]⟩)=ia (s++⟨#[10]⟩)++⟨#[101,114,114,111,114,32,50,10]⟩:=by
 have e:s++⟨#[10]⟩++l9 k++⟨#[32,49]⟩=s++⟨#[10]⟩++(l9 k++⟨#[32,49]⟩):=l8 eM;have⟨Q,_⟩:=Tl k c_
 have d6:gn (l9 k++⟨#[32,49]⟩)=[l9 k++⟨#[32,49]⟩]:=by
  refine awC eM λc dj=>?_;rw[l']at dj;rcases iY.1 dj with dj|dj
  .simp_all
  .grind
 rw[e,Tf,d6]
 congr 1
 apply l8;rw[sk,awJ c_]
 kernel_rfl
def awM{s k}(Q:(!Bd s)=L)(c_:k<30):uq (s++⟨#[10]⟩++l9 k++⟨#[32,49]⟩):=by
 have⟨a,b⟩:=y6 Q;have e:=Hq s;have w:=Tj k;have⟨q,_⟩:=Tl k c_;refine⟨?_,?_⟩
 .rw[hu,hu,hu,w];show s.size+1+(1+k)+2<=_;omega
 .have:=Mh (s++⟨#[10]⟩++l9 k++⟨#[32,49]⟩);rw[l',l',l',Bf,Bf,Bf]at this;grind
def awN(s)(n:V)(c0:n<=255):jo (Tryz.f6.body.getD .skip) ⟨k9 [.str s,.int .u8 n],λ_=>cL⟩ (kc 4):=by
 conv=>whnf
 refine c6 ?_;refine df (Mg s) (c7 ?_)
 refine hV (λQ=>?_) λQ=>?_
 .refine c6 ?_;refine rq [] (c6 ?_);exact Z
 .have⟨s1,s2⟩:=y6 Q;refine eH ?_;rw[show(n:J)%30=((n%30:V):J) by omega];refine c6 ?_;have⟨K,b⟩:∃K,n%30=K:=⟨_,Z⟩
  have a:K<30:=R
  rw[b];refine eW (D:=V) (λi=>[(0,.d (.str s)),(5,.d (.str (l9 i))),(13,.d K),(14,.d i)])
   (λi=>[]) (λi=>i<=K) (λi=>K-i) 0 (eY _) (dX (dH ff dM dV)) ?_
  intro i cK;have hw:=Tj i
  conv=>whnf
  refine dT (λdu=>?_) λdu=>?_
  .refine eH ?_;have fV:(qN [97+(i:J)%26]).size=1:=Z;refine eH ?_;exact⟨i+1,by omega,by omega,(dX (dH ff dM dV))⟩
  .have e:i=K:=R
   subst e;refine c6 ?_;have fV:(⟨#[10]⟩:dG).size=1:=Z;have gY:(⟨#[32,49]⟩:dG).size=2:=Z;have c:(s++⟨#[10]⟩).size=s.size+1:=hu
   have f:(s++⟨#[10]⟩++l9 i).size=s.size+1+(1+i):=eM
   refine fz R (c6 ?_);refine tg (s:=s++⟨#[10]⟩++l9 i++⟨#[32,49]⟩) [(0,.d (.str s))] (awM Q a) (cO ?_);rw[awK a];refine c6 ?_;refine tg (s:=s++⟨#[10]⟩) [(31,.d (.str (ia (s++⟨#[10]⟩)++⟨#[101,114,114,111,114,32,50,10]⟩)))] (Tg Q) (cO ?_);have dQ:=(Tg Q).rep;have n3:(⟨#[101,114,114,111,114,32,50,10]⟩:dG).size=8:=Z;refine c6 ?_
   refine dT (λhL=>?_) λhL=>?_
   .refine c6 ?_;refine rq [(37,.eN)] (c6 ?_);exact Z
   .exact dN Z hL
inductive y8:I gM->V->Prop
 |nil:y8 [] 0
 |cons (y r:I gM) (n:V) (Q:∀c∈y,c≠10) (c5:[111,107]<+:y\/ [101,114,114,111,114,32]<+:y) (h:y8 r n):y8 (y++10::r) (n+1)
def Tm:∀(ls) {k x},i2 k x->k+ls.length<=230->y8 (jS x ls) ls.length
 | [],_,_,_,_=>.nil
 |l::ls,k,x,h,c_=>by
  have c5:=h.out R l;exact .cons _ _ _ c5.nl c5.pre (Tm ls (h.line xD l) xD)
def ns(s:dG)(i:V):V:=(if s.size=0 then 0 else 1)+(s.data.toList.take i).count 10
def ae8:∀l,l≠[]->(iV l).length=1+(l.take (l.length-1)).count 10
 | [c],_=>by
  rw[Be];split<;>rfl
 |c::d::l,_=>by
  have i:=ae8 (d::l) dw;have e:(c::d::l).length-1=(d::l).length-1+1:=dw;rw[Be,e,List.take_succ_cons];grind
def awO{s}(h:¬s=⟨#[]⟩):ns s 0=1:=by have:¬s.size=0:=λe=>h (ByteArray.ext (Array.eq_empty_of_size_eq_zero e));rw[ns,cS this];rfl
def ae9{s i}(h:i<s.size):ns s (i+1)=ns s i+[qw s i].count 10:=by have dv:s.data.toList.length=s.size:=lz;have cK:i<s.data.toList.length:=R;rw[ns,ns,awj cK,Bf,xr cK];omega
def afa{s i}(h:i<s.size)(hb:qw s i=10):ns s (i+1)=ns s i+1:=by rw[ae9 h,hb];rfl
def afb{s i}(h:i<s.size)(hb:¬qw s i=10):ns s (i+1)=ns s i:=by rw[ae9 h,List.count_cons_of_ne hb];rfl
def afc(s i):ns s i<=1+s.size:=by
 have:=List.count_le_length (a:=(10:gM)) (l:=s.data.toList.take i)
 have c5:(s.data.toList.take i).length<=s.size:=by rw[o5];exact fG (Nat.min_le_right _ _) (tD lz)
 unfold ns;grind
def awP{s}(h:s=⟨#[]⟩):ns s 0=0:=ED
def afd(s):(gn s).length=ns s (s.size-1):=by
 have dv:s.data.toList.length=s.size:=lz;rw[gn,ec]
 by_cases h:s.data.toList=[]
 .rw[h]at dv⊢;have:s.size=0:=dv.symm;rw[ns,if_pos this,h,List.take_nil];rfl
 .rw[ae8 _ h,ns,cS (λe=>h (FT R)),dv]
def jP(T:I gM)(dc i a:V)(b:di):Prop:=(b=N/\ ∃n,y8 (T.drop i) n/\a+n=dc) \/ (b=L/\ ∃y r n,T.drop i=y++10::r/\ (∀c∈y,c≠10) /\y8 r n/\a+1+n=dc)
def jP.done{T dc i g b}(h:jP T dc i g b)(cP:T.drop i=[]):g=dc:=by
 rcases h with⟨_,n,Q,a⟩|⟨_,y,r,n,Q,_⟩
 .rw[cP]at Q;generalize e:([]:I gM)=l at Q
  cases Q with|nil=>exact a|cons y r n=>simp at e
 simp_all
def jP.open{T dc i d}(h:jP T dc i d N)(cK:i<T.length):∃y r n,T.drop i=y++10::r/\ (∀c∈y,c≠10) /\ ([111,107]<+:y\/ [101,114,114,111,114,32]<+:y) /\y8 r n/\d+1+n=dc:=by
 rcases h with⟨_,n,Q,c5⟩|⟨h,_⟩
 .generalize e:T.drop i=l at Q
  cases Q with|nil=>have:=eL pt e;grind|cons y r n a b c=>grind
 .cases h
def jP.sub{T dc i d b}(h:jP T dc i d b)(cK:i<T.length):∃y r n,T.drop i=y++10::r/\ (∀c∈y,c≠10) /\y8 r n/\d+1+n=dc:=by
 cases b with
 |true=>have⟨y,r,n,a,b,_,c⟩:=h.open cK;grind
 |false=>
  rcases h with⟨h,_⟩|⟨_,h⟩
  .cases h
  .exact h
def jP.step{T dc i o b}(h:jP T dc i o b)(cK:i<T.length)(k:b=N->T[i]≠10):(T[i]=10->jP T dc (i+1) (o+1) N) /\ (T[i]≠10->jP T dc (i+1) o L):=by
 have⟨y,r,n,Q,f,eG,fb⟩:=h.sub cK;have e:=qT cK;rw[e]at Q
 cases y with|nil=>have⟨l,a⟩:=Fs Q;exact⟨λ_=>.inl ⟨Z,n,by simp_all,R⟩,λg=>dN l g⟩|cons c y=>have⟨l,a⟩:=Fs Q;have j:=f c (.head _);rw[<-l]at j;exact⟨λg=>dN g j,λ_=>.inr ⟨Z,y,r,n,a,λd cP=>f d (.tail _ cP),eG,fb⟩⟩
def Ml{cU:dG}{i p r}(h:cU.data.toList.drop i=p++r):i+p.length<=cU.size\/p=[]:=by
 have l:cU.data.toList.length=cU.size:=lz;have:=eL pt h;rw[KO,kv,l]at this
 by_cases O:p=[]
 .grind
 .have:=Cz.2 O;omega
def Ef{cU:dG}{i n p r}(h:cU.data.toList.drop i=p++r)(c0:p.length=n):cU.extract i (i+n)=⟨p.toArray⟩:=by apply l8;simp_all
def Mm{cU:dG}{i c r}{h:i<cU.data.toList.length}(e:cU.data.toList.drop i=c::r)(a:c≠10):cU.data.toList[i]≠10:=by have:=qT h;simp_all
def awQ(s):jo (Tryz.f4.body.getD .skip) ⟨k9 [.str s],λ_=>cL⟩ (kc 2):=by
 conv=>whnf
 refine c6 ?_;refine df (Mg s) (c7 ?_)
 refine hV (λQ=>?_) λQ=>?_
 .refine c6 ?_;refine rq [] (c6 ?_);exact Z
 .have⟨s1,s2⟩:=y6 Q;refine c6 ?_
  refine dT (λc5=>?_) λc5=>?_
  .refine c6 ?_;apply eW (D:=V) (λi=>[(0,.d (.str s)),(3,.d (ns s i)),(4,.d i)]) (λi=>[]) (λi=>i<=s.size-1) (λi=>s.size-i) 0 (eY _) (by rw[show ns s 0=0 from awP c5];exact(dX (dH eJ dM dV)));intro i cK;have hw:=afc s i
   conv=>whnf
   refine eH ?_
   refine dT (λdu=>?_) λdu=>?_
   .have dY:i<s.size:=R
    refine eH ?_
    refine dT (λhL=>?_) λhL=>?_
    .have e:=afa dY (HK hL);refine c6 ?_;simp_all
    .have e:=afb dY λh=>hL (eL (λx:gM=>(x.toNat:J)) h);refine c6 ?_;refine⟨i+1,R,R,?_⟩;rw[e];exact(dX (dH eJ dM dV))
   .have H:i=s.size-1:=R
    rw[H,<-afd s];refine tg (s:=s) [(3,.d (gn s).length),(5,.d (.int .i64 0)),(6,.eN)] (D9 s1 s2) (cO ?_);have C:=(D9 s1 s2).rep;have hB:=(D9 s1 s2).vP;have E:=Tm (gn s) i2.hg R;have⟨cU,fL⟩:∃cU,ia s=cU:=⟨_,Z⟩;have I:jS hg (gn s)=cU.data.toList:=nu
    rw[I]at E;rw[fL]at C⊢;refine c6 ?_;refine eW (D:=V×V×di) (λx=>[(3,.d (gn s).length),(5,.d x.2.1),(6,.d (.bool x.2.2)),(7,.d (.str cU)),(8,.d x.1)]) (λ_=>[])
     (λx=>x.1<=cU.size/\jP cU.data.toList (gn s).length x.1 x.2.1 x.2.2) (λx=>cU.size-x.1) (0,0,N) ⟨eY _,.inl ⟨Z,_,E,mM _⟩⟩ (nd (.wk 6 (.d (.bool N))) Fl (dH gO dM dV)) ?_
    rintro⟨j,f,b⟩ ⟨dU,t⟩;simp only at dU t;have P:=fG dU C
    conv=>whnf
    refine dT (λK=>?_) λK=>?_
    .have oQ:j<cU.size:=R
     have S:(j,f,b).2.1<=230:=by have⟨_,_,n,_,_,_,e⟩:=t.sub ux;show f<=230;omega
     refine c6 ?_
     refine hV (λhb=>?_) λhb=>?_
     .have M:=hb;subst M;have⟨y,r,m,c,T,u,W,X⟩:=t.open ux;rcases u with⟨z,u⟩|⟨z,u⟩
      .rw[<-u,j4]at c;have A:=(Ml c).resolve_right dw;have B:=Ef c (n:=2) Z;refine c6 ?_
       refine dT (λF=>?_) λF=>?_
       .refine c6 ?_;refine tv (l:=j) (h:=j+2) (Hz _ _) A (cO ?_);rw[B];refine c6 ?_
        refine dT (λv=>?_) λv=>?_
        .refine eH ?_;have g:j<cU.data.toList.length:=ux;have zd:qw cU j=cU.data.toList[j]:=xr g;have o:=t.step g (λ_=>Mm c cZ);refine c6 ?_
         refine dT (λk4=>?_) λk4=>?_
         .have a:=o.1 Br;refine c6 ?_;refine⟨(j+1,f+1,N),⟨oQ,a⟩,so,?_⟩;rw[decide_eq_true k4];exact(dX (dH gO dM dV))
         .have a:=o.2 Bo;refine c6 ?_;refine⟨(j+1,f,L),⟨oQ,a⟩,so,?_⟩;rw[decide_eq_false k4];exact(dX (dH gO dM dV))
        .exact dN Z v
       .exact dN A (λq=>F TY)
      .rw[<-u,j4]at c;have A:=(Ml c).resolve_right dw;have B:=Ef c (n:=6) Z;have qr:=Ef (p:=[101,114]) (n:=2) (by rw[c];rfl) Z;have vQ:j+6<=cU.size:=A;refine c6 ?_;refine tv (l:=j) (h:=j+2) (Hz _ _) R (cO ?_);rw[qr];refine c6 ?_
       refine dT (λv=>?_) λv=>?_
       .exact dN v cZ
       .refine c6 ?_;refine tv (l:=j) (h:=j+6) (Hz _ _) vQ (cO ?_);rw[B];refine eH ?_;have g:j<cU.data.toList.length:=ux;have zd:qw cU j=cU.data.toList[j]:=xr g;have o:=t.step g (λ_=>Mm c cZ);refine c6 ?_
        refine dT (λk4=>?_) λk4=>?_
        .have a:=o.1 Br;refine c6 ?_;refine⟨(j+1,f+1,N),⟨oQ,a⟩,so,?_⟩;rw[decide_eq_true k4];exact(dX (dH gO dM dV))
        .have a:=o.2 Bo;refine c6 ?_;refine⟨(j+1,f,L),⟨oQ,a⟩,so,?_⟩;rw[decide_eq_false k4];exact(dX (dH gO dM dV))
     .refine eH ?_;have g:j<cU.data.toList.length:=ux;have zd:qw cU j=cU.data.toList[j]:=xr g;have o:=t.step g (λe=>by simp_all);refine c6 ?_
      refine dT (λk4=>?_) λk4=>?_
      .have a:=o.1 Br;refine c6 ?_;refine⟨(j+1,f+1,N),⟨oQ,a⟩,so,?_⟩;rw[decide_eq_true k4];exact(dX (dH gO dM dV))
      .have a:=o.2 Bo;refine c6 ?_;refine⟨(j+1,f,L),⟨oQ,a⟩,so,?_⟩;rw[decide_eq_false k4];exact(dX (dH gO dM dV))
    .have oQ:j=cU.size:=R
     have O:=t.done TH
     refine dT (λG=>?_) λG=>?_
     .refine c6 ?_;refine rq [(79,.eN)] (c6 ?_);exact Z
     .exact dN (eL Int.ofNat O) G
  .refine c6 ?_;apply eW (D:=V) (λi=>[(0,.d (.str s)),(3,.d (ns s i)),(4,.d i)]) (λi=>[]) (λi=>i<=s.size-1) (λi=>s.size-i) 0 (eY _) (by rw[show ns s 0=1 from awO c5];exact(dX (dH eJ dM dV)));intro i cK;have hw:=afc s i
   conv=>whnf
   refine eH ?_
   refine dT (λdu=>?_) λdu=>?_
   .have dY:i<s.size:=R
    refine eH ?_
    refine dT (λhL=>?_) λhL=>?_
    .have e:=afa dY (HK hL);refine c6 ?_;refine⟨i+1,R,R,?_⟩;rw[e];exact(dX (dH eJ dM dV))
    .have e:=afb dY λh=>hL (eL (λx:gM=>(x.toNat:J)) h);refine c6 ?_;refine⟨i+1,R,R,?_⟩;rw[e];exact(dX (dH eJ dM dV))
   .have H:i=s.size-1:=R
    rw[H,<-afd s];refine tg (s:=s) [(3,.d (gn s).length),(5,.d (.int .i64 0)),(6,.eN)] (D9 s1 s2) (cO ?_);have C:=(D9 s1 s2).rep;have hB:=(D9 s1 s2).vP;have E:=Tm (gn s) i2.hg R;have⟨cU,fL⟩:∃cU,ia s=cU:=⟨_,Z⟩;have I:jS hg (gn s)=cU.data.toList:=nu
    rw[I]at E;rw[fL]at C⊢;refine c6 ?_;refine eW (D:=V×V×di) (λx=>[(3,.d (gn s).length),(5,.d x.2.1),(6,.d (.bool x.2.2)),(7,.d (.str cU)),(8,.d x.1)]) (λ_=>[])
     (λx=>x.1<=cU.size/\jP cU.data.toList (gn s).length x.1 x.2.1 x.2.2) (λx=>cU.size-x.1) (0,0,N) ⟨eY _,.inl ⟨Z,_,E,mM _⟩⟩ (nd (.wk 6 (.d (.bool N))) Fl (dH gO dM dV)) ?_
    rintro⟨j,f,b⟩ ⟨dU,t⟩;simp only at dU t;have P:=fG dU C
    conv=>whnf
    refine dT (λK=>?_) λK=>?_
    .have oQ:j<cU.size:=R
     have S:(j,f,b).2.1<=230:=by have⟨_,_,n,_,_,_,e⟩:=t.sub ux;show f<=230;omega
     refine c6 ?_
     refine hV (λhb=>?_) λhb=>?_
     .have M:=hb;subst M;have⟨y,r,m,c,T,u,W,X⟩:=t.open ux;rcases u with⟨z,u⟩|⟨z,u⟩
      .rw[<-u,j4]at c;have A:=(Ml c).resolve_right dw;have B:=Ef c (n:=2) Z;refine c6 ?_
       refine dT (λF=>?_) λF=>?_
       .refine c6 ?_;refine tv (l:=j) (h:=j+2) (Hz _ _) A (cO ?_);rw[B];refine c6 ?_
        refine dT (λv=>?_) λv=>?_
        .refine eH ?_;have g:j<cU.data.toList.length:=ux;have zd:qw cU j=cU.data.toList[j]:=xr g;have o:=t.step g (λ_=>Mm c cZ);refine c6 ?_
         refine dT (λk4=>?_) λk4=>?_
         .have a:=o.1 Br;refine c6 ?_;refine⟨(j+1,f+1,N),⟨oQ,a⟩,so,?_⟩;rw[decide_eq_true k4];exact(dX (dH gO dM dV))
         .have a:=o.2 Bo;refine c6 ?_;refine⟨(j+1,f,L),⟨oQ,a⟩,so,?_⟩;rw[decide_eq_false k4];exact(dX (dH gO dM dV))
        .exact dN Z v
       .exact dN A (λq=>F TY)
      .rw[<-u,j4]at c;have A:=(Ml c).resolve_right dw;have B:=Ef c (n:=6) Z;have qr:=Ef (p:=[101,114]) (n:=2) (by rw[c];rfl) Z;have vQ:j+6<=cU.size:=A;refine c6 ?_;refine tv (l:=j) (h:=j+2) (Hz _ _) R (cO ?_);rw[qr];refine c6 ?_
       refine dT (λv=>?_) λv=>?_
       .exact dN v cZ
       .refine c6 ?_;refine tv (l:=j) (h:=j+6) (Hz _ _) vQ (cO ?_);rw[B];refine eH ?_;have g:j<cU.data.toList.length:=ux;have zd:qw cU j=cU.data.toList[j]:=xr g;have o:=t.step g (λ_=>Mm c cZ);refine c6 ?_
        refine dT (λk4=>?_) λk4=>?_
        .have a:=o.1 Br;refine c6 ?_;refine⟨(j+1,f+1,N),⟨oQ,a⟩,so,?_⟩;rw[decide_eq_true k4];exact(dX (dH gO dM dV))
        .have a:=o.2 Bo;refine c6 ?_;refine⟨(j+1,f,L),⟨oQ,a⟩,so,?_⟩;rw[decide_eq_false k4];exact(dX (dH gO dM dV))
     .refine eH ?_;have g:j<cU.data.toList.length:=ux;have zd:qw cU j=cU.data.toList[j]:=xr g;have o:=t.step g (λe=>by simp_all);refine c6 ?_
      refine dT (λk4=>?_) λk4=>?_
      .have a:=o.1 Br;refine c6 ?_;refine⟨(j+1,f+1,N),⟨oQ,a⟩,so,?_⟩;rw[decide_eq_true k4];exact(dX (dH gO dM dV))
      .have a:=o.2 Bo;refine c6 ?_;refine⟨(j+1,f,L),⟨oQ,a⟩,so,?_⟩;rw[decide_eq_false k4];exact(dX (dH gO dM dV))
    .have oQ:j=cU.size:=R
     have O:=t.done TH
     refine dT (λG=>?_) λG=>?_
     .refine c6 ?_;refine rq [(79,.eN)] (c6 ?_);exact Z
     .exact dN (eL Int.ofNat O) G
def Bl:Go.Lk.gw:=⟨0,L,[cL],0,[]⟩
def m7(w:gd)(p:fJ)(h:hI)(l:I hx)(c:J)(dq:I qo):eu:=⟨[w],p,h,l,Bl,c,dq⟩
def kG:I hx:=eQ 17 qn
def cW:hI:=⟨1,[],[]⟩
def Mn(ops:I gU)(j:V):gd:=⟨ops,j,0,L,L,0,0,r0⟩
def n6(ops:I gU)(j:V)(p:fJ)(c:J)(dq:I qo):eu:=m7 (Mn ops j) p cW kG c dq
theorem aw0:Dn Bl=Bl:=cV
theorem aw1{m}(a:(gR m 0).1.s=Bl):(kF m 1 L).1=(gR m 0).1:=by
 have e:(kF m 1 L).1=(jn (qq (gR m 0).1) 0 L).1:=Z;rw[e];have⟨x,c⟩:∃x,(gR m 0).1=x:=⟨_,Z⟩;rw[c]at a⊢
 have b:qq x=x:=by have⟨ws,p,h,ej,s,eh,dq⟩:=x;show(⟨ws,p,h,ej,Dn s,eh,dq⟩:eu)=_;rw[show s=Bl from a,aw0]
 rw[b,jn,if_pos];rw[a];exact .inr (kX 0)
theorem Eg{w p h l c dq}:gR (m7 w p h l c dq) 0=stepW (m7 w p h l (c+1) dq) 0 w c:=rfl
section
variable {ops:I gU} {j:V} {o:gU} {p:fJ} {c:J} {dq:I qo}
def jq(ops:I gU)(j st:V)(a oe:di)(b d:J)(r:lH):gd:=⟨ops,j,st,a,oe,b,d,r⟩
theorem HA(h:ops[j]?=U o)(st a oe b d r):(jq ops j st a oe b d r).op=o:=by show(ops[j]?).getD K3=o;rw[h];rfl
theorem aw2(k):iS (m7 (Mn [] 0) p cW kG c dq) k=qn:=by show(kG[k.toNat]?).getD qn=qn;rw[kG,tI];split<;>rfl
theorem aw3(k x):(kG.set k x).set k qn=kG:=by
 rw[List.set_set];refine Cq λi=>?_;rw[ly];split
 .rename_i e;subst e;rw[kG,tI,p8]
 .rfl
theorem aw4(a:j<ops.length):(gR (n6 ops j p c dq) 0).1=m7 (jq ops j 1 L L c 0 r0) p ⟨1,[(0,L)],[]⟩ kG (c+1) dq:=by rw[n6,Eg];show(if ops.length<=j then(_:eu×di) else _).1=_;rw[cS R];rfl
theorem aw5(h:ops[j]?=U o)(r:i1 o=L):(gR (m7 (jq ops j 1 L L c 0 r0) p ⟨1,[(0,L)],[]⟩ kG (c+1) dq) 0).1=m7 (jq ops j 2 N L c 0 r0) p ⟨1,[(0,L)],[]⟩ (kG.set o.2.1.toNat ⟨[0],gy (o.1≠2),[]⟩) (c+2) dq:=by rw[Eg];show(if i1 (jq ops j 1 L L c 0 r0).op=N then(_:eu×di) else({pd (m7 (jq ops j 1 L L c 0 r0) p ⟨1,[(0,L)],[]⟩ kG (c+1+1) dq) 0 (jq ops j 2 N L c 0 r0) with ej:=r7 kG (jq ops j 1 L L c 0 r0).op.2.1 (uc (iS (m7 (Mn [] 0) p cW kG c dq) (jq ops j 1 L L c 0 r0).op.2.1) 0 (decide ((jq ops j 1 L L c 0 r0).op.1≠2)))},N)).1=_;rw[HA h,cS eM,aw2,show c+2=c+1+1 by omega];rfl
theorem aw6(h:ops[j]?=U o)(r:i1 o=L):(gR (m7 (jq ops j 2 N L c 0 r0) p ⟨1,[(0,L)],[]⟩ (kG.set o.2.1.toNat ⟨[0],gy (o.1≠2),[]⟩) (c+2) dq) 0).1=m7 (jq ops j 3 N L c 0 r0) p ⟨1,[(0,L)],[]⟩ (kG.set o.2.1.toNat ⟨[0],gy (o.1≠2),[]⟩) (c+3) dq:=by
 have⟨_,_,q⟩:=yO r
 have e:iS (m7 (jq ops j 2 N L c 0 r0) p ⟨1,[(0,L)],[]⟩ (kG.set o.2.1.toNat ⟨[0],gy (o.1≠2),[]⟩) (c+2+1) dq) o.2.1=⟨[0],gy (o.1≠2),[]⟩:=by show((kG.set o.2.1.toNat _)[o.2.1.toNat]?).getD qn=_;rw[KV (by rw[kG,p8];omega)];rfl
 rw[Eg];show(if s9 (iS (m7 (jq ops j 2 N L c 0 r0) p ⟨1,[(0,L)],[]⟩ (kG.set o.2.1.toNat ⟨[0],gy (o.1≠2),[]⟩) (c+2+1) dq) (jq ops j 2 N L c 0 r0).op.2.1) 0=L then(_:eu×di) else _).1=_;have a:s9 ⟨[0],gy (o.1≠2),[]⟩ 0=N:=Z;rw[HA h,e,a,cS cZ,show c+3=c+2+1 by omega];rfl
theorem aw7{l}(a:ops[j]?=U o)(h:¬(l7 p o.2.1=L/\ (o.1=2\/o.1=3))):(gR (m7 (jq ops j 3 N L c 0 r0) p ⟨1,[(0,L)],[]⟩ l (c+3) dq) 0).1=m7 (jq ops j 5 N N c 0 r0) p ⟨1,[(0,N)],[]⟩ l (c+4) dq:=by rw[Eg];show(if l7 p (jq ops j 3 N L c 0 r0).op.2.1=L/\ ((jq ops j 3 N L c 0 r0).op.1=2\/ (jq ops j 3 N L c 0 r0).op.1=3) then(_:eu×di) else _).1=_;rw[HA a,cS h,show c+4=c+3+1 by omega];rfl
theorem aw8{l h}(a:ops[j]?=U o):(gR (m7 (jq ops j 5 N N c 0 r0) p h l (c+4) dq) 0).1=m7 (jq ops j 6 N N c (c+4) (gg p o).2) (gg p o).1 h l (c+5) dq:=by rw[Eg];show(({pd (m7 (jq ops j 5 N N c 0 r0) p h l (c+4+1) dq) 0 (qp (jq ops j 5 N N c 0 r0) (gg p (jq ops j 5 N N c 0 r0).op).2 (c+4)) with p:=(gg p (jq ops j 5 N N c 0 r0).op).1}:eu),N).1=_;rw[HA a,show c+5=c+4+1 by omega];rfl
theorem aw9{r x}(h:ops[j]?=U o)(d:i1 o=L):∃v,(gR (m7 (jq ops j 6 N N c (c+4) r) p ⟨1,[(0,N)],[]⟩ (kG.set o.2.1.toNat ⟨[0],x,[]⟩) (c+5) dq) 0).1=n6 ops (j+1) p (c+6) v:=by
 have⟨_,_,q⟩:=yO d
 have e:iS (m7 (jq ops j 6 N N c (c+4) r) p ⟨1,[(0,N)],[]⟩ (kG.set o.2.1.toNat ⟨[0],x,[]⟩) (c+5+1) dq) o.2.1=⟨[0],x,[]⟩:=by show((kG.set o.2.1.toNat _)[o.2.1.toNat]?).getD qn=_;rw[KV (by rw[kG,p8];omega)];rfl
 refine⟨dq++[⟨0,o,r,c,c+4,c+5⟩],?_⟩;rw[Eg];show(⟨[Mn ops (j+1)],p,r3 (xe ⟨1,[(0,N)],[]⟩ 0) 0,r7 (kG.set o.2.1.toNat ⟨[0],x,[]⟩) (jq ops j 6 N N c (c+4) r).op.2.1 (r5 (iS (m7 (jq ops j 6 N N c (c+4) r) p ⟨1,[(0,N)],[]⟩ (kG.set o.2.1.toNat ⟨[0],x,[]⟩) (c+5+1) dq) (jq ops j 6 N N c (c+4) r).op.2.1) 0),Bl,c+5+1,dq++[⟨0,(jq ops j 6 N N c (c+4) r).op,r,c,c+4,c+5⟩]⟩:eu)=_;rw[HA h,e];have a:r7 (kG.set o.2.1.toNat ⟨[0],x,[]⟩) o.2.1 (r5 ⟨[0],x,[]⟩ 0)=kG:=aw3 _ _
 have b:r3 (xe ⟨1,[(0,N)],[]⟩ 0) 0=cW:=by kernel_rfl
 rw[a,b,show c+6=c+5+1 by omega];rfl
theorem Eh{m a i M}(h:gN M 1 [] i=m)(e:(gR m 0).1=a)(s:a.s=Bl):gN M 1 [] (i+1)=a:=by show(kF (gN M 1 [] i) 1 L).1=a;rw[h,aw1 eM,e]
theorem Ei{m w}(h:m.ws[0]?=U w)(l:w.ended<w.todo.length):oM m 1=N:=Sj.2 ⟨0,cZ,by rw[jQ,h];simp_all⟩
theorem axa(b:ops[j]?=U o)(f:i1 o=L)(s:¬(l7 p o.2.1=L/\ (o.1=2\/o.1=3))):∃e,gN (n6 ops j p c dq) 1 [] 6=n6 ops (j+1) (gg p o).1 (c+6) e/\ ∀i,i<6->oM (gN (n6 ops j p c dq) 1 [] i) 1=N:=by
 have a:=(f_.1 b).1;have d:gN (n6 ops j p c dq) 1 [] 0=n6 ops j p c dq:=Z;have g:=Eh d (aw4 a) Z;have k:=Eh g (aw5 b f) Z;have l:=Eh k (aw6 b f) Z;have m:=Eh l (aw7 b s) Z;have n:=Eh m (aw8 b) Z;have⟨e,q⟩:=aw9 (p:=(gg p o).1) (c:=c) (dq:=dq) (r:=(gg p o).2) (x:=gy (o.1≠2)) b f;refine⟨e,Eh n q Z,λi cK=>?_⟩;have cK:i=0\/i=1\/i=2\/i=3\/i=4\/i=5:=R;rcases cK with rfl|rfl|rfl|rfl|rfl|rfl
 .rw[d];exact Ei Z a
 .rw[g];exact Ei Z a
 .rw[k];exact Ei Z a
 .rw[l];exact Ei Z a
 .rw[m];exact Ei Z a
 .rw[n];exact Ei Z a
end
def uv(p:fJ)(ops:I gU):V->fJ
 |0=>p
 |j+1=>(gg (uv p ops j) (ops.getD j K3)).1
theorem afg{p ops}(r:∀o∈ops,i1 o=L)(f:∀j o,ops[j]?=U o->¬(l7 (uv p ops j) o.2.1=L/\ (o.1=2\/o.1=3))):∀j,j<=ops.length->∃dq,gN (n6 ops 0 p 0 []) 1 [] (6*j)=n6 ops j (uv p ops j) (6*j:V) dq/\ ∀i,i<6*j->oM (gN (n6 ops 0 p 0 []) 1 [] i) 1=N
 |0,_=>⟨[],Z,λi cK=>dN cK R⟩
 |j+1,h=>by
  have⟨dq,e,l⟩:=afg r f j R;have a:ops[j]?=U ops[j]:=fq R;have⟨v,b,dY⟩:=axa (c:=(6*j:V)) (dq:=dq) a (r _ (hF _)) (f j _ a);refine⟨v,?_,λi cK=>?_⟩
  .rw[show 6*(j+1)=6*j+6 by omega,<-SI,e,b]
   have d:(gg (uv p ops j) ops[j]).1=uv p ops (j+1):=by rw[uv,wM,a];rfl
   simp_all
  .by_cases g:i<6*j
   .grind
   .have:=dY (i-6*j) R;rwa[<-e,SI,show 6*j+(i-6*j)=i by omega]at this
theorem axb{p ops}(a:∀o∈ops,i1 o=L)(f:∀j o,ops[j]?=U o->¬(l7 (uv p ops j) o.2.1=L/\ (o.1=2\/o.1=3))){g1}(m:6*ops.length<=g1):pR (n6 ops 0 p 0 []) 1 g1=6*ops.length/\ ∃c dq,gN (n6 ops 0 p 0 []) 1 [] (6*ops.length)=n6 ops ops.length (uv p ops ops.length) c dq:=by
 have⟨dq,e,l⟩:=afg a f ops.length (fi _)
 have h:oM (gN (n6 ops 0 p 0 []) 1 [] (6*ops.length)) 1=L:=by
  rw[e];refine Sk.2 λk b=>?_
  have:k=0:=R
  subst this;show ¬(0:J)<(ops.length:J)-(ops.length:V);omega
 have r:=DS (n6 ops 0 p 0 []) 1 g1;refine⟨r.uniq ?_ l h,_,dq,e⟩;rcases r.stop with q|q
 .by_cases g:6*ops.length<pR (n6 ops 0 p 0 []) 1 g1
  .have:=r.all _ g;simp_all
  grind
 .exact q
theorem Ej(a):(L5 a).size=a.size:=rfl
theorem axc{c K:Prop}(k:K)(h:c:=by first|decide|omega|(simp only [ByteArray.size_append,Ej,List.size_toArray,List.length_cons,List.length_nil];omega)):jZ c K:=⟨⟨h,k⟩⟩
theorem jT{K G:Prop}(k:K)(h:j5 K->G:=by intro k;(conv=>whnf);(repeat ((first|with_reducible refine po ?_|with_reducible refine zp ?_|refine Bz ?_|refine BA ?_|refine axc ?_|refine zq ?_|refine HU ?_|refine HV ?_|with_reducible refine MQ ?_);conv=>whnf));exact k.k):G:=h ⟨k⟩
structure nt(s:dG)(n:V)(x:h4)(e:dG):Prop where
 nl:s=⟨#[]⟩ \/ ∃t,s=t++⟨#[10]⟩
 vP:(gn s).length=n
 run:m0 hg (gn s)=x
 rep:ia s=e
theorem nt.nil:nt ⟨#[]⟩ 0 hg ⟨#[]⟩:=⟨.inl Z,Z,Z,Z⟩
section
variable {s cM line out E e:dG} {n:V} {x iK:h4}
theorem nt.lines(h:nt s n x e)(m):gn (s++m)=gn s++gn m:=by
 rcases h.nl with rfl|⟨t,rfl⟩
 .rfl
 .exact Te t m
theorem nt.app(h:nt s n x e)(m):ia (s++m)=e++⟨(jS x (gn m)).toArray⟩:=by apply l8;rw[l',<-h.rep,<-h.run];show jS hg _=jS hg _++jS _ _;rw[h.lines,Td]
theorem nt.add(h:nt s n x e)(l:fZ x line=(iK,out))(d:∀c∈line.data.toList,c≠10)(f:cM=line++⟨#[10]⟩)(a:E=out++⟨#[10]⟩):nt (s++cM) (n+1) iK (e++E):=by
 subst f a;have b:=aeT d;refine⟨.inr ⟨s++line,by rw[axd]⟩,by rw[h.lines,b,kv,h.vP];rfl,?_,?_⟩
 .rw[h.lines,b,DL,h.run];show(fZ x line).1=_;rw[l]
 .rw[h.app,b];congr 1;apply l8;rw[l'];rw[sk,l];rfl
end
theorem axe{w k d}(hw:∀c∈w.data.toList,c≠32)(a:∀c∈k.data.toList,c≠32):jU (⟨#[100,111,32]⟩++w++(⟨#[32]⟩++k++⟨#[32]⟩++d))=⟨#[100,111]⟩::w::k::jU d:=by have e:(⟨#[100,111,32]⟩:dG)++w++(⟨#[32]⟩++k++⟨#[32]⟩++d)=⟨#[100,111]⟩++⟨#[32]⟩++(w++⟨#[32]⟩++(k++⟨#[32]⟩++d)):=l8 Bn;rw[e,xs cZ,xs hw,xs a]
theorem Tn(x){w k d}{W:V}(hw:∀c∈w.data.toList,c≠32)(h:∀c∈k.data.toList,c≠32):fZ x (⟨#[100,111,32]⟩++w++(⟨#[32]⟩++k++⟨#[32]⟩++d))=m1 x (w::k::jU d):=by unfold fZ;rw[axe hw h];rfl
theorem afh(x){w k d W dh}(hw:l0 w=U W)(cP:l0 d=U dh)(fb:W<4)(h:pB k≠0):m1 x [w,k,d]=(yY x W (pB k,dh,.empty),gv []):=by unfold m1;grind
theorem axf(x){w k d b W dh}(hw:l0 w=U W)(cP:l0 d=U dh)(fb:W<4)(h:pB k≠0):m1 x [w,k,d,b]=(yY x W (pB k,dh,b),gv []):=by unfold m1;grind
theorem afi(x){a b}(d:∀c∈a.data.toList,c≠32)(f:∀c∈b.data.toList,c≠32):fZ x (⟨#[115,116,97,114,116,32]⟩++a++⟨#[32]⟩++b)=mz x [a,b]:=by have e:(⟨#[115,116,97,114,116,32]⟩:dG)++a++⟨#[32]⟩++b=⟨#[115,116,97,114,116]⟩++⟨#[32]⟩++(a++⟨#[32]⟩++b):=l8 Bn;unfold fZ;rw[e,xs cZ,xs d,Bi f];rfl
theorem axg{x m}(a:x.m=U m){n}(c0:n<1000000000):fZ x (⟨#[115,116,97,116,101,32]⟩++f2 n)=(⟨x.e_,x.eB,x.el,x.fY,x.gV,U m,x.hQ⟩,gv [pj m n,(jQ m n).toNat]):=by
 have e:(⟨#[115,116,97,116,101,32]⟩:dG)++f2 n=⟨#[115,116,97,116,101]⟩++⟨#[32]⟩++f2 n:=l8 Bn;unfold fZ;rw[e,xs cZ,Bi (oP cZ)];show un x ⟨#[115,116,97,116,101]⟩ _=_
 have q:jM [f2 n]=U [n]:=by rw[jM,Bj c0];rfl
 rw[un,cS cZ,cS cZ,q];have⟨e_,eB,el,fY,d,b,w⟩:=x
 cases a
 rfl
theorem afj{a b}(h:a<1000000000)(c:b<1000000000):jM [f2 a,f2 b]=U [a,b]:=by rw[jM,Bj h,jM,Bj c];rfl
def axh(p a):(nV p a).1.d=p.d:=by rw[nV];grind
def axi{p id}(h:l7 p id=N):(r1 p id).1.d=p.d:=by rw[r1,if_pos (show(jO p.f id).2=N from h)];split<;>rfl
def To{p a}(h:(a.1=1/\l7 p a.2.1=N) \/a.1=3\/a.1=4\/a.1=5):(hp p a).1.d=p.d:=by
 rw[hp];split
 .rfl
 split
 .rfl
 split
 .rename_i Q;rcases h with h|h|h|h
  .exact axi h.2
  all_goals omega
 rw[cS R,cS R,cS R,cS R];exact axh _ _
def afk(o q):(rh o q).1.d=q.1.d:=by
 rw[rh];split
 .exact To (.inr (.inr (.inr Z)))
 .rfl
def axj{p id b}(h:l7 p id=N):(gg p (3,id,b)).1.d=p.d:=by
 rw[gg,afk];have a:(hp p (1,id,b)).1.d=p.d:=To (.inl ⟨Z,h⟩);show(kA (3,id,b) [1,4] p (0,d_)).1.d=_;rw[kA];simp only[];split
 .exact a
 rw[kA];simp only[];have e:(hp (hp p (1,id,b)).1 (4,id,b)).1.d=(hp p (1,id,b)).1.d:=To (.inr (.inr (.inl Z)));split
 .simp_all
 .rw[kA];simp_all
def axk{p P n}(h:n4 p P n){q}(Q:1<=q)(a:q<=16)(z:(P q).1=0){i}(cK:i<p.f.cN.length)(f:p.f.cN[i].1=0)(b):(gg p (1,(q),b)).1.d=p.d:=by
 have dh:=h.inv
 have c0:∀i (cK:i<p.f.cN.length),p.f.cN[i].1≠(q:J):=by
  rcases dh.where Q with c0|⟨k,c8⟩
  .exact c0
  .exact dN z (dh.uh c8)
 have⟨j,g,d,e,_,_⟩:=R4 (acF dh.ef.fm ⟨i,cK,f⟩) dh.ef.fm (x:=pN q) (R2 R R) dh.ef.j3 dh.ef.fA N c0 ⟨i,cK,f⟩ dh.ef.dK
 have c:r2 p q=re p (pN q) N:=by
  rw[r2,qk dh.ef.fm c0 R,cS (show ¬L=N by decide),dh.ef.get Q a,dh.on.kE q Q a (dh.out Q c0),if_pos z,cS (show ¬(3:J)=0 by decide)]
  first|rfl|(rw[if_pos Z];rfl)
 rw[gg,afk];show(kA (1,(q:J),b) [2] p (0,d_)).1.d=_;rw[kA];simp only[];rw[LZ p Q a,c,e];simp only[];rfl
def axl(P){id:V}{b}(cW:(P id).1≠0)(h:b.size<=16)(cY:(P id).2.1≠2147483647):(ka P (3,(id),b)).1=hZ P id (nU (P id) b):=by simp[ka,cW,cY,Nat.not_lt.2 h]
def axm{α}(P q)(x y:α):hZ (hZ P q x) q y=hZ P q y:=by funext k;simp[hZ];split<;>rfl
def axn{P}(h:∀k,(P k).1=0):ro P 16=[]:=by rw[ro,auM];intro k _;rw[DU,cS (λg=>g (h _))]
def axo{P x q}(Q:1<=q)(h:q<=16)(b:P q=x)(a:x.1≠0)(z:∀k,k≠q->(P k).1=0):ro P 16=[x]:=by
 have y:∀n,ro P n=if q<=n then [x] else []:=by
  intro n
  induction n with
  |zero=>rw[cS R];rfl
  |succ n i=>
   have e:ro P (n+1)=ro P n++(DU P n).toList:=He ..
   rw[e,i,DU];grind
 simp_all
def y9:dG:=⟨#[120]⟩
def ti(id:V):V->e'
 |0=>pN id
 |j+1=>nU (ti id j) y9
def Tp(id):∀j,(ti id j).1=id/\ (ti id j).2.1=1+j
 |0=>g_
 |j+1=>by
  have⟨Q,a⟩:=Tp id j;exact⟨Q,by show(ti id j).2.1+1=_;omega⟩
def vY(id:V):V->V->e'
 |0=>λ_=>d_
 |j+1=>hZ (λ_=>d_) id (ti id j)
def lL(id n:V):I gU:=(1,(id:J),fB)::eQ n (3,(id:J),y9)
structure Dr(id j:V)(p:fJ):Prop where
 doc:n4 p (vY id j) 1
 d:p.d=iH
 ids:iW p.f=if j=0 then [0] else [(id:J)]
def dz{id n}(Q:1<=id)(a:id<=16)(c0:n<=9):∀j,j<=n+1->Dr id j (uv (ja 1) (lL id n) j)
 |0,_=>⟨L2 (fi 1) cZ,Z,cV⟩
 |1,_=>by
  have cP:=L2 (fi 1) cZ
  have r:i1 (1,(id:J),fB)=L:=by simp[i1];omega
  have h:=(L1 cP (fi 1) (1,(id:J),fB) r).2;have e:(ka (λ_=>d_) (1,(id:J),fB)).1=vY id 1:=Z;rw[e]at h;have⟨j,c,q⟩:=aex cP Q a Z (i:=0) cZ cV fB;have cW:iW (ja 1).f=[0]:=cV;rw[cW]at c q;refine⟨h,axk cP Q a Z (i:=0) cZ cV fB,?_⟩
  match j,c,q with
  |0,_,q=>exact q
 |j+2,d=>by
  have b:=dz Q a c0 (j+1) R
  have r:i1 (3,(id:J),y9)=L:=by simp[i1];omega
  have o:(lL id n).getD (j+1) K3=(3,(id:J),y9):=by rw[lL,wM,I0,tI,if_pos R];rfl
  have cY:=Tp id j;have h:=(L1 b.doc (fi 1) (3,(id:J),y9) r).2
  have e:(ka (vY id (j+1)) (3,(id:J),y9)).1=vY id (j+2):=by rw[vY,axl _ (by rw[j',cY.1];omega) cZ (by rw[j',cY.2];omega),j',axm];rfl
  rw[e]at h;have c9:=(S_ b.doc Q).2 (by rw[b.ids];grind);rw[uv,o];exact⟨h,(axj c9).trans b.d,(av0 c9).trans b.ids⟩
def axp{id n}(Q:1<=id)(a:id<=16)(c0:n<=9):∀j o,(lL id n)[j]?=U o->¬(l7 (uv (ja 1) (lL id n) j) o.2.1=L/\ (o.1=2\/o.1=3))
 |0,o,h=>by
  cases h
  omega
 |j+1,o,h=>by
  have b:=(f_.1 h).1
  have l:(lL id n).length=n+1:=by simp[lL]
  have i:=dz Q a c0 (j+1) R
  have e:o.2.1=id:=by
   rw[lL,I0,tI,if_pos R]at h
   cases h;rfl
  rw[e,(S_ i.doc Q).2 (by rw[i.ids];grind)];simp_all
def axq{id n}(Q:1<=id)(a:id<=16):∀o∈lL id n,i1 o=L:=by
 intro o h;rcases nG.1 h with rfl|h
 .simp[i1];omega
 .rw[(List.mem_replicate.1 h).2];simp[i1];omega
def axr{de p P n}(h:m3 de p P n):m3 de (lk p 1) P n:=by
 refine⟨?_,?_⟩
 .have cK:=h.inv;have c:=cK.ef.j3;have d:=cK.ef.fA
  have mk:∀t:J,p.now<=t->t<=2147483647->fu ⟨p.f,p.d,t⟩ P (λ_=>0) de 0:=λt e b=>⟨⟨cK.ef.fm,cK.ef.rest,cK.ef.fy,cK.ef.rm,by grind,b,λx a=>by have:=cK.ef.dK x a;grind⟩,cK.pins,cK.at_,cK.on,cK.td⟩
  rw[lk];grind
 .rw[lk];repeat' split
  all_goals exact h.len
def axs{p P n}(h:n4 p P n){b}:∀q,1<=q->q<=16->il (hp (lk p 1) (8,0,b)).1.d.sec q=if(P q).1=0 then(d_,3) else(P q,0):=by
 have t:=axr h;have d:=acR t.inv 0
 have f:hp (lk p 1) (8,0,b)=ua (lk p 1) 0:=by rw[hp,cS (show ¬((8:J)<1\/ (8:J)<8) by decide),cS (show ¬((8:J)≠8/\_) from λg=>g.1 Z)];rfl
 have⟨q,l,e,j,_⟩:=d.1.eq;rw[f];intro k k1 c
 have c0:∀x,x∉(ua (lk p 1) 0).1.f.dK:=λx a=>by
  have i:=(d.2 (kX 0) x).1 a;have:=t.inv.ef.dK x i.1;omega
 rw[e]at c0⊢;exact j.on.kE k k1 c λx a=>dN a (c0 x)
def m3.kE{de p P n}(h:m3 de p P n):np de p.d:=⟨h.inv.ef.rest,h.inv.ef.fy,h.inv.ef.rm,h.inv.on.gV⟩
def np.afl{T d}(h:np T d){k:V}(k1:1<=k)(a:k<=8):iQ d k=(⟨kZ k,d,0⟩,0):=by have cP:d=⟨d.sec,[]⟩:=Mv;have e:=Sw (n:=k) h.rest h.rm R R;grind
def axt{d}(h:np 2147483647 d){k}(k1:1<=k)(a:k<=8)(n work):m2 (mw ⟨kZ k,d,0⟩ n work)=ro (qv d) 16:=by have e:=h.afl k1 a;have⟨fo,b,_,_,_,cP⟩:=h.open_ cZ (n:=k) (eL Tc e);have:fo=k:=R;subst this;exact SA (m:=mw ⟨kZ fo,d,0⟩ n work) cP
def m8{v}{a b:dG}(d:∀c∈a.data.toList,c≠v)(e:∀c∈b.data.toList,c≠v):∀c∈(a++b).data.toList,c≠v:=λc h=>by
 rw[l']at h;grind
def nt.cast{s s' e a n b x}(h:nt s n x e)(Q:s=s')(c:n=b)(eG:e=a):nt s' b x a:=Q▸c▸eG▸h
def Ek(a b c:dG):a++b++c=a++(b++c):=axd
def sm:dG:=⟨#[111,107,10]⟩
def y_:sm=gv []++⟨#[10]⟩:=l8 Z
def axu(n):gv [n]++⟨#[10]⟩=⟨#[111,107,32]⟩++f2 n++⟨#[10]⟩:=l8 (by simp;show [111,107]++(32::oB n++[])++[10]=[111,107,32]++oB n++[10];simp)
def afm(n k):gv [n,k]++⟨#[10]⟩=⟨#[111,107]⟩++(⟨#[32]⟩++f2 n++⟨#[32]⟩++f2 k)++⟨#[10]⟩:=l8 (by simp only[l'];show [111,107]++(32::oB n++(32::oB k++[]))++[10]=[111,107]++([32]++oB n++[32]++oB k)++[10];simp)
def xt(dh:V):V->dG
 |0=>⟨#[100,111,32,48,32,110,101,119,32]⟩++f2 dh++⟨#[10]⟩
 |i+1=>xt dh i++(⟨#[100,111,32,48,32,119,114,105,116,101,32]⟩++f2 dh++⟨#[32,120,10]⟩)
def Bm:V->dG
 |0=>sm
 |i+1=>Bm i++sm
def e1:dG:=⟨#[48]⟩
def afn:dG:=⟨#[110,101,119]⟩
def axv:dG:=⟨#[119,114,105,116,101]⟩
def afo{dh}(a:dh<=16):∀i,nt (xt dh i) (1+i) ⟨lL dh i,[],[],[],iH,cL,0⟩ (Bm i)
 |0=>by
  have l:fZ hg (⟨#[100,111,32]⟩++e1++(⟨#[32]⟩++afn++⟨#[32]⟩++f2 dh))=(⟨lL dh 0,[],[],[],iH,cL,0⟩,gv []):=by rw[Tn hg (W:=0) cZ cZ,Bi (oP cZ),afh hg (W:=0) (dh:=dh) cZ (Bj R) cZ cZ];rfl
  have h:=nt.nil.add l (m8 (m8 cZ cZ) (m8 (m8 (m8 cZ cZ) cZ) (oP cZ))) Z y_;assumption
 |i+1=>by
  have l:fZ ⟨lL dh i,[],[],[],iH,cL,0⟩ (⟨#[100,111,32]⟩++e1++(⟨#[32]⟩++axv++⟨#[32]⟩++(f2 dh++⟨#[32]⟩++y9)))=(⟨lL dh (i+1),[],[],[],iH,cL,0⟩,gv []):=by
   rw[Tn _ (W:=0) cZ cZ,xs (oP cZ),Bi cZ,axf _ (W:=0) (dh:=dh) cZ (Bj R) cZ cZ]
   have e:lL dh (i+1)=lL dh i++[(3,(dh:J),y9)]:=by rw[lL,lL,RO,o8]
   rw[e];rfl
  have h:=(afo a i).add l (m8 (m8 cZ cZ) (m8 (m8 (m8 cZ cZ) cZ) (m8 (m8 (oP cZ) cZ) cZ))) Z y_;refine h.cast ?_ R Z;rw[xt]
  congr 1
  exact l8 Bn
def Tq:dG:=⟨#[115,116,97,114,116,32,49,32,49]⟩
def axw:dG:=⟨#[114,117,110,32,53,48,48]⟩
def axx:dG:=⟨#[97,103,101,32,48]⟩
def axy:dG:=⟨#[112,97,103,101,115]⟩
def lm(m:eu)(n:V):h4:=⟨[],[],[],[],iH,U m,n⟩
def afp(x):fZ x Tq=mz x [⟨#[49]⟩,⟨#[49]⟩]:=cV
def axz(m n):fZ (lm m n) axw=(lm (gN m n [] (pR m n 500)) n,gv [pR m n 500]):=cV
def axA(m n):fZ (lm m n) axx=(lm (vF m 0) n,gv []):=cV
def axB(m n):fZ (lm m n) axy=(lm m n,gv (rn (m2 m))):=cV
def Mo{x a b ws}(c0:jM ws=U [a,b])(h:¬4<a)(t:ul (se x a))(e:x.gV=iH)(cP:np 2147483647 (pi x))(c:1<=b)(d:b<=8):
  mz x ws=(lm (mw ⟨kZ b,pi x,0⟩ b (se x a)) a,gv []):=by
 have o:=cP.afl c d;rw[Sn c0 h ⟨t,eL Tc o⟩,eL QM o,e];rfl
def afq(l)(h:l.length<=60):ul [l]:=⟨fi 1,by simp_all,λx a=>by simp_all⟩
def Mp:np 2147483647 iH:=np.new cZ
def afr{dh dc}(Q:1<=dh)(h:dh<=16)(hB:dc<=9):∃m,nt (xt dh dc++⟨#[115,116,97,114,116,32,49,32,49,10,114,117,110,32,53,48,48,10]⟩) (3+dc) (lm m 1) (Bm dc++(⟨#[111,107,10,111,107,32]⟩++f2 (6*(1+dc))++⟨#[10]⟩)) /\Dr dh (dc+1) m.p:=by
 have l:(lL dh dc).length=dc+1:=by simp[lL]
 have f:fZ ⟨lL dh dc,[],[],[],iH,cL,0⟩ Tq=(lm (n6 (lL dh dc) 0 (ja 1) 0 []) 1,gv []):=by rw[afp,Mo (x:=⟨lL dh dc,[],[],[],iH,cL,0⟩) (a:=1) (b:=1) cV cZ (afq (lL dh dc) R) Z Mp cZ cZ];rfl
 have⟨r,c,dq,d⟩:=axb (axq Q h) (axp Q h hB) (g1:=500) R;have e:=axz (n6 (lL dh dc) 0 (ja 1) 0 []) 1;rw[r,d,l]at e;refine⟨_,(((afo h dc).add f cZ Z Z).add e cZ Z Z).cast ?_ R ?_,dz Q h hB (dc+1) (fi _)⟩
 .rw[Ek];rfl
 .rw[Ek,axu,show 6*(dc+1)=6*(1+dc) by omega];rfl
def afs{s e n m}(h:nt s n (lm m 1) e)(cP:np 2147483647 m.p.d):∃x,nt (s++⟨#[115,116,97,114,116,32,49,32,49,10,112,97,103,101,115,10]⟩) (n+2) x (e++sm++(gv (rn (ro (qv m.p.d) 16))++⟨#[10]⟩)):=by
 have f:fZ (lm m 1) Tq=(lm (mw ⟨kZ 1,m.p.d,0⟩ 1 [[]]) 1,gv []):=by rw[afp,Mo (x:=lm m 1) (a:=1) (b:=1) cV cZ (afq [] (eY _)) Z cP cZ cZ];rfl
 have c:=axB (mw ⟨kZ 1,m.p.d,0⟩ 1 [[]]) 1;rw[axt cP cZ cZ]at c;refine⟨_,((h.add f cZ Z y_).add c cZ Z Z).cast ?_ Z Z⟩;rw[Ek];rfl
def Tr(w:V):dG:=⟨#[100,111,32]⟩++f2 w++⟨#[32,110,101,119,32,49,10]⟩
def vZ(l:I V):V->dG
 |0=>⟨#[]⟩
 |i+1=>vZ l i++Tr (l.getD i 0%4)
def El:V->dG
 |0=>⟨#[]⟩
 |i+1=>El i++sm
def cnt(l:I V)(w:V):V->V
 |0=>0
 |i+1=>if l.getD i 0%4=w then cnt l w i+1 else cnt l w i
def Mq(l w):∀i,cnt l w i<=i
 |0=>fi 0
 |i+1=>by
  have:=Mq l w i;rw[cnt];grind
def qz(k:V):I gU:=eQ k jp
def DO(k):qz (k+1)=qz k++[jp]:=RO
def v0(l:I V)(i:V):h4:=⟨qz (cnt l 0 i),qz (cnt l 1 i),qz (cnt l 2 i),qz (cnt l 3 i),iH,cL,0⟩
def axC(l i){w}(hw:l.getD i 0%4=w):yY (v0 l i) w jp=v0 l (i+1):=by
 have fb:w<4:=R
 have e:∀v,cnt l v (i+1)=if w=v then cnt l v i+1 else cnt l v i:=λv=>by rw[cnt,hw]
 unfold v0;rw[e,e,e,e]
 match w,fb with
 |0,_=>rw[if_pos Z,cS cZ,cS cZ,cS cZ,DO];rfl|1,_=>rw[if_pos Z,cS cZ,cS cZ,cS cZ,DO];rfl|2,_=>rw[if_pos Z,cS cZ,cS cZ,cS cZ,DO];rfl|3,_=>rw[if_pos Z,cS cZ,cS cZ,cS cZ,DO];rfl
def aft(l):∀i,nt (vZ l i) i (v0 l i) (El i)
 |0=>nt.nil
 |i+1=>by
  have⟨w,hw⟩:∃w,l.getD i 0%4=w:=⟨_,Z⟩
  have a:fZ (v0 l i) (⟨#[100,111,32]⟩++f2 w++(⟨#[32]⟩++afn++⟨#[32]⟩++⟨#[49]⟩))=(v0 l (i+1),gv []):=by rw[Tn _ (W:=0) (oP cZ) cZ,Bi cZ,afh _ (W:=w) (dh:=1) (Bj R) cZ R cZ];show(yY (v0 l i) w jp,_)=_;rw[axC l i hw]
  refine((aft l i).add a (m8 (m8 cZ (oP cZ)) cZ) Z y_).cast ?_ Z Z;rw[vZ,hw]
  congr 1
  exact l8 (by simp;rfl)
def Ts(l:I V)(n:V):I (I gU):=[qz (cnt l 0 l.length),qz (cnt l 1 l.length),qz (cnt l 2 l.length),qz (cnt l 3 l.length)].take n
def y'(l:I V)(n b:V):eu:=mw ⟨kZ b,iH,0⟩ b (Ts l n)
def Em(l:I V)(n w:V):V:=if n<=w then 0 else cnt l w l.length
def axD{l n b w}(fb:w<4):pj (y' l n b) w=0/\ (jQ (y' l n b) w).toNat=Em l n w:=by
 have e:(y' l n b).ws[w]?=if n<=w then cL else U (rg (qz (cnt l w l.length))):=by
  show((Ts l n).map rg)[w]?=_;rw[ir,Ts,u_]
  by_cases g:w<n
  .grind
  .simp_all
 rw[pj,jQ,e,Em]
 by_cases g:n<=w
 .simp_all
 .rw[cS g,cS g];refine⟨Z,?_⟩;show(((qz (cnt l w l.length)).length:J)-((0:V):J)).toNat=_;rw[qz,p8];omega
def xu(l:I V)(n b:V):V->dG
 |0=>vZ l l.length++(⟨#[115,116,97,114,116,32]⟩++f2 n++⟨#[32]⟩++f2 b++⟨#[10]⟩)
 |w+1=>xu l n b w++(⟨#[115,116,97,116,101,32]⟩++f2 w++⟨#[10]⟩)
def uw(l:I V)(n:V):V->dG
 |0=>El l.length++sm
 |w+1=>uw l n w++(⟨#[111,107,32,48,32]⟩++f2 (Em l n w)++⟨#[10]⟩)
def afu{l n b}(g:l.length<=9)(i:1<=n)(j:n<=4)(d:1<=b)(e:b<=8):∀w,w<=4->nt (xu l n b w) (l.length+1+w) (lm (y' l n b) n) (uw l n w)
 |0,_=>by
  have o:fZ (v0 l l.length) (⟨#[115,116,97,114,116,32]⟩++f2 n++⟨#[32]⟩++f2 b)=(lm (y' l n b) n,gv []):=by
   have f:=λw=>Mq l w l.length
   have t:ul (se (v0 l l.length) n):=by
    refine⟨by simp[se];omega,by simp[se];omega,λx c=>?_⟩;have c:=Lp c;simp at c
    have k:∀w,(qz (cnt l w l.length)).length<=60:=λw=>by have:=f w;rw[qz,p8];omega
    rcases c with rfl|rfl|rfl|rfl
    .exact k 0
    .exact k 1
    .exact k 2
    .exact k 3
   rw[afi _ (oP cZ) (oP cZ),Mo (x:=v0 l l.length) (a:=n) (b:=b) (afj R R) R t Z Mp d e];rfl
  exact(aft l l.length).add o (m8 (m8 (m8 cZ (oP cZ)) cZ) (oP cZ)) Z y_
 |w+1,h=>by
  have⟨q,m⟩:=axD (l:=l) (n:=n) (b:=b) (w:=w) R;have o:=axg (x:=lm (y' l n b) n) Z (n:=w) R;rw[q,m]at o;refine((afu g i j d e w R).add o (m8 cZ (oP cZ)) Z Z).cast ?_ Z ?_
  .rw[xu]
  .rw[uw,afm];rfl
def za(b:V):eu:=mw ⟨kZ b,iH,0⟩ b [[],[],[],[]]
def xv(b:V):eu:=⟨(za b).ws,(za b).p,(za b).h,(za b).ej,(za b).s,4,[]⟩
def axE(b):kF (za b) 4 L=(xv b,L):=cV
def axF(b):pR (xv b) 4 5=0:=by
 have h:oM (xv b) 4=L:=Sk.2 λk a=>by
  match k,a with
  |0,_|1,_|2,_|3,_=>show ¬(0:J)<((0:V):J)-((0:V):J);decide
 have r:=DS (xv b) 4 5
 by_cases g:0<pR (xv b) 4 5
 .have:=r.all 0 g;rw[show gN (xv b) 4 [] 0=xv b from Z,h]at this;cases this
 .omega
def afv:dG:=⟨#[114,111,117,110,100]⟩
def afw:dG:=⟨#[114,117,110,32,53]⟩
def afx:dG:=⟨#[104,105,115,116,111,114,121]⟩
def axG(m n):fZ (lm m n) afv=(lm (kF m n L).1 n,vN (kF m n L).2):=cV
def axH(m n):fZ (lm m n) afw=(lm (gN m n [] (pR m n 5)) n,gv [pR m n 5]):=cV
def axI(m n):fZ (lm m n) afx=(lm m n,gv (um m.dq)):=cV
def En(l:I V)(n b:V):dG:=xu l n b 4++(⟨#[115,116,97,114,116,32,52,32]⟩++f2 b++⟨#[10,114,111,117,110,100,10,114,117,110,32,53,10,104,105,115,116,111,114,121,10]⟩)
def afy{l n b}(j:l.length<=9)(k:1<=n)(m:n<=4)(c:1<=b)(d:b<=8):ia (En l n b)=uw l n 4++⟨#[111,107,10,111,107,32,110,111,10,111,107,32,48,10,111,107,10]⟩ /\ (gn (En l n b)).length<=230:=by
 have r0:=afu j k m c d 4 R
 have h:fZ (lm (y' l n b) n) (⟨#[115,116,97,114,116,32]⟩++f2 4++⟨#[32]⟩++f2 b)=(lm (za b) 4,gv []):=by
  rw[afi _ (oP cZ) (oP cZ),Mo (x:=lm (y' l n b) n) (a:=4) (b:=b) (afj R R) R ⟨by show 1<=4;decide,by show 4<=4;decide,λx g=>?_⟩ Z Mp c d]
  .rfl
  .have g:x∈[([]:I gU),[],[],[]]:=g;simp_all
 have e:=axG (za b) 4;rw[axE]at e;have f:=axH (xv b) 4;rw[axF]at f;have i:=axI (xv b) 4;have r:=(((r0.add h (m8 (m8 (m8 cZ (oP cZ)) cZ) (oP cZ)) Z y_).add e cZ Z Z).add f cZ Z Z).add i cZ Z Z;have o:(f2 4).data.toList=[52]:=cZ;have es:En l n b=xu l n b 4++(⟨#[115,116,97,114,116,32]⟩++f2 4++⟨#[32]⟩++f2 b++⟨#[10]⟩)++(afv++⟨#[10]⟩)++(afw++⟨#[10]⟩)++(afx++⟨#[10]⟩):=l8 (by rw[En];simp;rfl);rw[es];refine⟨r.rep.trans ?_,by rw[r.vP];omega⟩;rw[Ek,Ek,Ek];rfl
def Tt:∀i,(El i).size=3*i
 |0=>rfl
 |i+1=>by
  rw[El,hu,Tt i];rfl
def Tu(l):∀i,(vZ l i).size<=40*i
 |0=>fi 0
 |i+1=>by
  have:=mR (l.getD i 0%4);have:=Tu l i;rw[vZ,Tr,hu,hu,hu];show _+(3+_+7) <=_;omega
def afz(l n b):∀i,(xu l n b i).size<=100+40*l.length+40*i
 |0=>by
  have:=mR n;have:=mR b;have:=Tu l l.length;rw[xu,hu,hu,hu,hu,hu];show _+(6+_+1+_+1) <=_;omega
 |i+1=>by
  have:=mR i;have:=afz l n b i;rw[xu,hu,hu,hu];show _+(6+_+1) <=_;omega
def afA(l n):∀i,(uw l n i).size<=3*l.length+3+40*i
 |0=>by
  rw[uw,hu,Tt];show _+3<=_;omega
 |i+1=>by
  have:=mR (Em l n i);have:=afA l n i;rw[uw,hu,hu,hu];show _+(5+_+1) <=_;omega
def rr(l:I V)(i:V):I c3:=[(cnt l 0 i),(cnt l 1 i),(cnt l 2 i),(cnt l 3 i)]
def afB(l i){w}(h:w<4):(rr l i)[w]?=U (.int .i64 (cnt l w i)):=by
 match w,h with
 |0,_|1,_|2,_|3,_=>rfl
def axJ(l i){w}(hw:l.getD i 0%4=w):(rr l i).set w (.int .i64 ((cnt l w i:J)+1))=rr l (i+1):=by
 have fb:w<4:=R
 have e:∀v,cnt l v (i+1)=if w=v then cnt l v i+1 else cnt l v i:=λv=>by rw[cnt,hw]
 unfold rr;grind
def HB(x:V):I c3:=[.int .u8 x]
def axL(k cN:V)(l:I V)(hw:k<=255)(P:cN<=255)(db:l.length<=9223372036854775807)(c0:∀x∈l,x<=255):jo (Tryz.f7.body.getD .skip) ⟨k9 [.int .u8 k,.int .u8 cN,.dm (l.map HB)],λ_=>cL⟩ (kc 6):=by
 have v:(l.map HB).length=l.length:=ec ..
 conv=>whnf
 refine c6 ?_
 refine dT (λQ=>?_) λQ=>?_
 .refine c6 ?_;refine rq [] (c6 ?_);exact Z
 .rw[v]at Q
  have h:l.length<=9:=R
  refine eH ?_;rw[show(k:J)%4=((k%4:V):J) by omega];have⟨cX,B⟩:∃cX,k%4=cX:=⟨_,Z⟩
  have C:cX<=3:=R
  rw[B];refine jT ?_;rw[show(1:J)+(cX:J)=((1+cX:V):J) by omega];have⟨n,r⟩:∃n,1+cX=n:=⟨_,Z⟩
  have y:1<=n:=R
  have z:n<=4:=R
  rw[r];refine jT ?_;refine eW (D:=V) (λi=>[(1,.d (.int .u8 cN)),(7,.d n),(8,.d (.str (vZ l i))),(9,.d (.str (El i))),(10,.ptr 10 0 0),(24,.d (.dm (l.map HB))),(25,.d l.length),(26,.d i)])
   (λi=>[(10,.box ((rr l i).map dp.d) L)])
   (λi=>i<=l.length) (λi=>l.length-i) 0 (eY _) (dX (dH ⟨Z,Z,Z,Z,Z,Z,by show dp.d (.int .i64 _)=dp.d (.int .i64 _);rw[v],Z,dM⟩ ez dV)) ?_
  intro i cK;have X:=Tu l i;have cU:=Tt i
  conv=>whnf
  refine dT (λdu=>?_) λdu=>?_
  .have dY:i<l.length:=R
   refine jT ?_
   have O:(l.map HB)[i]?=U (HB (l.getD i 0)):=by rw[ir,fq dY,wM,fq dY];rfl
   have F:l.getD i 0<=255:=by rw[wM,fq dY];exact c0 _ (hF dY)
   have⟨x,f⟩:∃x,l.getD i 0=x:=⟨_,Z⟩;rw[f]at O F;refine eH ?_;rw[show(x:J)%4=((x%4:V):J) by omega];have⟨w,a⟩:∃w,x%4=w:=⟨_,Z⟩
   have g:w<4:=R
   have cP:=mR w;have G:=Mq l w i;rw[a];refine jT ?_;refine df (vU w R) (cO ?_);refine jT ?_;refine zr R R (cO ?_);rw[show(x:J)%4=((x%4:V):J) by omega,a];refine eH ?_
   have m:0+w*(T 3).size=w:=by rw[show(T 3).size=1 by kernel_rfl];omega
   have c:(rr l i)[0+w*(T 3).size]?=U (cnt l w i):=by rw[m];exact afB l i g
   refine afC (l:=rr l i) (cnt l w i) Z c (cO ?_);refine jT ?_;refine ea g (cO ?_);refine jT ?_
   have A:(rr l i).set (0+w*(T 3).size) (.int .i64 ((cnt l w i:J)+1))=rr l (i+1):=by rw[m];exact axJ l i (by omega)
   refine axK (l:=rr l i) (fY:=rr l (i+1)) Z (by grind) A (cO ?_);refine jT ?_;refine⟨i+1,by omega,by omega,?_⟩
   have S:vZ l (i+1)=vZ l i++Tr w:=by rw[vZ,f,a]
   rw[S];exact(dX (dH lP ez dV))
  .have e:i=l.length:=R
   subst e;refine eH ?_;rw[show(cN:J)%8=((cN%8:V):J) by omega];have⟨j,d⟩:∃cX,cN%8=cX:=⟨_,Z⟩
   have E:j<=7:=R
   rw[d];refine jT ?_;rw[show(1:J)+(j:J)=((1+j:V):J) by omega];have⟨b,o⟩:∃b,1+j=b:=⟨_,Z⟩
   have t:1<=b:=R
   have u:b<=8:=R
   rw[o];have H:=mR b;have dh:=mR n;refine df (vU b R) (cO ?_);refine jT ?_;refine df (vU n R) (cO ?_);refine jT ?_;refine eW (D:=V) (λw=>[(7,.d n),(8,.d (.str (xu l n b w))),(9,.d (.str (uw l n w))),(10,.ptr 10 0 0),(13,.d (.str (f2 b))),(63,.d w)])
    (λw=>[(10,.box ((rr l l.length).map dp.d) L)])
    (λw=>w<=4) (λw=>4-w) 0 (eY _) (dX (dH mc ez dV)) ?_
   intro w dc;have M:=afz l n b w;have cM:=afA l n w;have K:=mR w
   conv=>whnf
   refine dT (λhL=>?_) λhL=>?_
   .have g:w<4:=R
    refine jT ?_;refine df (vU w R) (cO ?_);refine jT ?_;refine ea g (cO ?_);refine jT ?_
    have m:0+w*(T 3).size=w:=by rw[show(T 3).size=1 by kernel_rfl];omega
    have c:(rr l l.length)[0+w*(T 3).size]?=U (cnt l w l.length):=by rw[m];exact afB l l.length g
    have G:=Mq l w l.length;refine afC (l:=rr l l.length) (cnt l w l.length) Z c (cO ?_);refine jT ?_
    refine dT (λW=>?_) λW=>?_
    .have p:Em l n w=0:=if_pos R;have q:=mR 0;refine jT ?_;refine df (vU 0 R) (cO ?_);refine jT ?_;refine⟨w+1,by omega,by omega,?_⟩;rw[uw,p];exact(dX (dH mc ez dV))
    .have p:Em l n w=cnt l w l.length:=cS R;have q:=mR (cnt l w l.length);refine jT ?_;refine df (vU (cnt l w l.length) R) (cO ?_);refine jT ?_;refine⟨w+1,by omega,by omega,?_⟩;rw[uw,p];exact(dX (dH mc ez dV))
   .have e:w=4:=R
    subst e;refine jT ?_;refine tg (s:=En l n b) [(9,.d (.str (uw l n 4++⟨#[111,107,10,111,107,32,110,111,10,111,107,32,48,10,111,107,10]⟩)))] ⟨by simp[En,hu,Ej,Gk,nF,wJ];omega,(afy h y z t u).2⟩ (cO ?_);rw[(afy h y z t u).1];refine jT ?_
    refine dT (λh=>?_) λh=>?_
    .refine c6 ?_;refine rq [(96,.eN)] (c6 ?_);exact Z
    .exact dN Z h
def zb(dh dc:V):dG:=xt dh dc++⟨#[115,116,97,114,116,32,49,32,49,10,114,117,110,32,53,48,48,10]⟩
def v2(dc:V):dG:=Bm dc++(⟨#[111,107,10,111,107,32]⟩++f2 (6*(1+dc))++⟨#[10]⟩)
def afE{d k}(h:∀q,1<=q->q<=16->q=k->il d.sec q=(d_,3)):(qv d k).1=0:=by
 rw[qv];split
 .grind
 .rfl
def afF{dh dc}(Q:1<=dh)(a:dh<=16)(hB:dc<=9):ia (zb dh dc++⟨#[115,116,97,114,116,32,49,32,49,10,112,97,103,101,115,10]⟩)=v2 dc++⟨#[111,107,10,111,107]⟩++⟨#[10]⟩ /\ (gn (zb dh dc++⟨#[115,116,97,114,116,32,49,32,49,10,112,97,103,101,115,10]⟩)).length<=230:=by
 have⟨m,c,f⟩:=afr Q a hB;have⟨x,h⟩:=afs c (by rw[f.d];exact Mp)
 have e:ro (qv m.p.d) 16=[]:=axn λk=>afE λq d b _=>by rw[f.d];exact LK b
 rw[e]at h;refine⟨h.rep.trans ?_,?_⟩
 .show v2 dc++sm++(gv []++⟨#[10]⟩)=_;rw[<-y_];exact l8 Bn
 .exact fG (tD h.vP) R
def afG{dh dc}(Q:1<=dh)(a:dh<=16)(hB:dc<=9):ia (zb dh dc++⟨#[97,103,101,32,48,10]⟩++⟨#[115,116,97,114,116,32,49,32,49,10,112,97,103,101,115,10]⟩)=v2 dc++sm++⟨#[111,107,10,111,107]⟩++(⟨#[32]⟩++f2 dh++⟨#[32]⟩++f2 (1+dc))++⟨#[10]⟩ /\ (gn (zb dh dc++⟨#[97,103,101,32,48,10]⟩++⟨#[115,116,97,114,116,32,49,32,49,10,112,97,103,101,115,10]⟩)).length<=230:=by
 have⟨m,i,l⟩:=afr Q a hB;have cP:n4 (vF m 0).p (vY dh (dc+1)) 1:=l.doc.g2 0 _;have f:=(i.add (axA m 1) cZ Z y_);have⟨x,h⟩:=afs f (m3.kE cP);have cY:=Tp dh dc;have c:∀q:V,1<=q->q<=16->il (vF m 0).p.d.sec q=if(vY dh (dc+1) q).1=0 then(d_,3) else(vY dh (dc+1) q,0):=axs l.doc
 have e:ro (qv (vF m 0).p.d) 16=[ti dh dc]:=by
  refine axo (q:=dh) Q a ?_ (by rw[cY.1];omega) λk g=>afE λq j b e=>?_
  .have:=c dh Q a;rw[show vY dh (dc+1) dh=ti dh dc from j' (λ_=>d_) dh (ti dh dc),cS (by rw[cY.1];omega)]at this;rw[qv,this,if_pos ⟨Q,a,Z⟩]
  .subst e;rw[c q j b,show vY dh (dc+1) q=d_ from mZ (λ_=>d_) (ti dh dc) g];rfl
 have d:rn [ti dh dc]=[dh,1+dc]:=by show [(ti dh dc).1.toNat,(ti dh dc).2.1.toNat]++[]=_;rw[cY.1,cY.2,qW,gz,show((1:J)+(dc:J)).toNat=1+dc by omega]
 rw[e,d,afm]at h;refine⟨h.rep.trans ?_,?_⟩
 .show v2 dc++sm++sm++(⟨#[111,107]⟩++(⟨#[32]⟩++f2 dh++⟨#[32]⟩++f2 (1+dc))++⟨#[10]⟩)=_;exact l8 (by simp;rfl)
 .exact fG (tD h.vP) R
def afH(dh):∀i,(xt dh i).size<=40+40*i
 |0=>by
  have:=mR dh;rw[xt,hu,hu];show 9+_+1<=40;omega
 |i+1=>by
  have:=mR dh;have:=afH dh i;rw[xt,hu,hu,hu];show _+(11+_+3) <=_;omega
def afI:∀i,(Bm i).size=3+3*i
 |0=>rfl
 |i+1=>by
  rw[Bm,hu,afI i];rfl
def axQ(b w:V)(g)(O:b<=255)(hw:w<=255):jo (Tryz.f8.body.getD .skip) ⟨k9 [.int .u8 b,.int .u8 w,.bool g],λ_=>cL⟩ (kc 6):=by
 conv=>whnf
 refine eH ?_;rw[show(b:J)%16=((b%16:V):J) by omega];have⟨cX,j⟩:∃cX,b%16=cX:=⟨_,Z⟩
 have k:cX<=15:=R
 rw[j];refine c6 ?_;rw[show(1:J)+(cX:J)=((1+cX:V):J) by omega];have⟨dh,f⟩:∃dh,1+cX=dh:=⟨_,Z⟩
 have Q:1<=dh:=R
 have a:dh<=16:=R
 rw[f];refine df (vU dh R) (c7 ?_);refine zr R R (cO ?_);rw[show(w:J)%10=((w%10:V):J) by omega];have⟨dc,c⟩:∃dc,w%10=dc:=⟨_,Z⟩
 have hB:dc<=9:=R
 rw[c];have cP:=mR dh;refine jT ?_;refine eW (D:=V) (λi=>[(2,.d (.bool g)),(7,.d (.str (f2 dh))),(8,.d dc),(9,.d (.str (xt dh i))),(10,.d (.str (Bm i))),(22,.d dc),(23,.d i)])
  (λi=>[]) (λi=>i<=dc) (λi=>dc-i) 0 (eY _) (dX (dH v9 dM dV)) ?_
 intro i cK;have q:=afH dh i;have o:=afI i
 conv=>whnf
 refine dT (λdu=>?_) λdu=>?_
 .refine jT ?_;exact⟨i+1,by omega,by omega,(dX (dH v9 dM dV))⟩
 .have e:i=dc:=R
  subst e;have m:=mR (6*(1+i));have n:=mR (1+i);refine jT ?_;rw[show(6:J)*(1+(i:J))=((6*(1+i):V):J) by omega];refine df (vU (6*(1+i)) R) (cO ?_);refine jT ?_
  refine hV (λd=>?_) λd=>?_
  .cases d
   refine jT ?_;rw[show(1:J)+(i:J)=((1+i:V):J) by omega];refine df (vU (1+i) R) (cO ?_);refine jT ?_;refine tg (s:=zb dh i++⟨#[97,103,101,32,48,10]⟩++⟨#[115,116,97,114,116,32,49,32,49,10,112,97,103,101,115,10]⟩) [(10,.d (.str (v2 i++sm++⟨#[111,107,10,111,107]⟩++(⟨#[32]⟩++f2 dh++⟨#[32]⟩++f2 (1+i)))))] ⟨by simp[zb,hu,Ej,Gk,nF,wJ];omega,(afG Q a hB).2⟩ (cO ?_);rw[(afG Q a hB).1]
   have z:(v2 i).size<=1000:=by simp[v2,hu,Ej,Gk,nF,wJ];omega
   have l:sm.size=3:=Z;refine jT ?_
   refine dT (λhL=>?_) λhL=>?_
   .refine c6 ?_;refine rq [(67,.eN)] (c6 ?_);exact Z
   .exact dN Z hL
  .cases d
   refine jT ?_;refine tg (s:=zb dh i++⟨#[115,116,97,114,116,32,49,32,49,10,112,97,103,101,115,10]⟩) [(10,.d (.str (v2 i++⟨#[111,107,10,111,107]⟩)))] ⟨by simp[zb,hu,Ej,Gk,nF,wJ];omega,(afF Q a hB).2⟩ (cO ?_);rw[(afF Q a hB).1]
   have z:(v2 i).size<=1000:=by simp[v2,hu,Ej,Gk,nF,wJ];omega
   have l:sm.size=3:=Z;refine jT ?_
   refine dT (λhL=>?_) λhL=>?_
   .refine c6 ?_;refine rq [(67,.eN)] (c6 ?_);exact Z
   .exact dN Z hL
end Dk
end Go.Lk
set_option maxRecDepth 100000
namespace Go.Lk.Dk
open Go Go.Conc Go.Proofs Go.RowKit Go.ChangeShapes Go.WideShapes Go.ChangeAt
theorem aeI:Kids cQ (·<cQ.types.size):=kids_rows cV cV
theorem awn:∀t e,t<cQ.types.size->cQ.underlying t=U (.slice e)->0<cQ.cellsOf e:=ak8 cV
theorem own:ownKnob cQ.godebug=cL:=cV
theorem q3.len{T}:∀ {s dx},q3 T s dx->dx.length=s.length
 | [],dx,h=>by have e:=h;rw[e];rfl
 |t::s,dx,h=>by
  obtain⟨n,d,r,rfl,_,h⟩:=h;simp[q3.len h]
section
variable {H:Type} {enc:eF×dr->H} {P:Program} {w:da} {CV:V->di} {held:di}
theorem awo{w w'}(h:Below w.heap.size w w'){p}(O:p.block<w.heap.size):w.sameAt w' p:=by
 have:=h.block p.block O
 cases p with|cell b off=>simp[World.sameAt,ke];simp[MemPlace.block]at this;rw[this]|map b=>exact this
theorem aeJ{w'}:∀ {c vs dx s},J6 enc P w 0 CV held c vs dx s->(∀p∈s,w.sameAt w' p)->J6 enc P w' 0 CV held c vs dx s
 | [],vs,dx,s,h,_=>by
  obtain⟨rfl,rfl,rfl⟩:=trodAll_nil h;rfl
 |t::c,vs,dx,s,h,e=>by
  obtain⟨v,i,d,f,a,b,rfl,rfl,rfl,⟨n,c0⟩,g⟩:=trodAll_cons h;exact⟨a,b,⟨n,DataW.trod_carry n t _ _ c0 λp O=>e p (ot _ O)⟩,aeJ g λp O=>e p (pz _ O),Z⟩
theorem awp{f}{s:aeK}{a gl Bg again W i args v dx c1 e q2 q4}
  (k:awq enc P f.params.toList s.vars a W args.toList dx c1 e)
  (d:∀b g cP,J6 enc P i b g cP f.resultTypes.toList (v.resultList f.resultTypes.size) (s.fn H (dx++c1)).results [])
  (h:∀g,(∀p∈e,g p.block=N)->J6 enc P i 0 g N f.params.toList args.toList (s.fn H (dx++c1)).args q2)
  (c:∀g,(∀p∈e,g p.block=N)->DataW.TrodVars enc P i g s.vars (s.fn H (dx++c1)).vars q4)
  (q:e=q2++q4)(u:Below W.heap.size W i)
  (m:∀(j:V) (t r),f.resultTypes[j]?=U t->(v.resultList f.resultTypes.size)[j]?=U r->J4 P i .any 0 t r):
  s.post enc P f a gl Bg again W args v i:=by
 have l:=λp O=>k.lt p O
 have o:∀p∈e,(λb=>gy (b<W.heap.size)) p.block=N:=λp O=>by simp_all
 refine⟨dx,c1,e,[],q2,q4,k,d _ _ _,h _ o,c _ o,World.keptBut_mono (λp O=>⟨O,?_⟩) (u.frame (·∈e)),λ_=>?_⟩
 .simp_all
 .have⟨_,_,_,_,_,z,c0⟩:=k;refine⟨m,_,_,([]++q2)++q4,⟨[]++q2,q4,trodAll_append (h _ (λ_ _=>Z)) (d _ _ _),c _ (λ_ _=>Z),Z,?_,?_⟩,?_⟩
  .intro b off O
   have n:MemPlace.cell b off∈e:=by rw[q];simpa using O
   rw[u.frozen (l _ n)];exact z b off n
  .simp_all
  simp_all
end
section
variable {H:Type} {enc:eF×dr->H}
theorem awr{f}{fn:Func}{c t}{s:aeK}{gl Bg again eg}(D:cQ.funcs[f]?=U fn)(B:fn.body=U c)(M:kt fn.ntmps c=N)(c0:fn.params.toList.length<=fn.ntmps)(cU:fn.results=#[.tmp t])(y:¬2=f)
  (u:∀t∈fn.params.toList,t<cQ.types.size/\ ∃m,o6 T m t=N)(r:fn.resultTypes=#[eg])(cX:cQ.underlying eg=U .bool)(h:s.vars=[])
  (S:∀dx,dx.length=fn.params.toList.length->s.fn H dx={results:=[.lit (.bool N)],args:=dx})
  (F:∀a,q3 T fn.params.toList a->jo c ⟨k9 a,λ_=>cL⟩ (kc t))
  (W base args dx c1 e)
  (w:∀(j:V) t v,fn.params[j]?=U t->args[j]?=U v->J4 cQ W .any base t v)
  (z:awq enc cQ fn.params.toList s.vars L W args.toList dx c1 e)(cM:E' (tT W)):
  fa cQ (λv dh=>s.post enc cQ fn L gl Bg again W args v dh) (solo (G (B9 cQ f args .normal) []) W) #[]:=by
 have C:=λp O=>z.lt p O;have A:=z;obtain⟨p,q,c8,de,rfl,P,db⟩:=z;rw[h]at de;obtain⟨rfl,rfl⟩:=trodVars_none de;have⟨a,g,dc,o,n⟩:=Yz sQ aeI u (λj t v Q y=>w j t v eM eM) c8;refine avP (dx:=a) D B M (by rwa[q3.len g]) cU (F a g) y cM (λ_ _ _ h=>h) ⟨by simp_all,λi d v Q y=>n i d v Q eM⟩ λdh l=>?_
 have k:s.fn H (dx++[])={results:=[.lit (.bool N)],args:=dx}:=by rw[qW];exact S _ o
 refine awp (q2:=p) (q4:=[]) A ?_ ?_ ?_ Z l ?_
 .intro b K cP;rw[k,r];exact trodAll_mk1 ⟨1,by simp[DataW.trod,cX,Value.cells]⟩
 .intro K E;rw[k];exact ayh aeI awn (λt I=>(u t I).1) (aeJ c8 λx X=>awo l (C x eM)) λx X=>E x eM
 .intro K _;rw[k,h];rfl
 .exact ok_one r Z (okWide_bool_mk cX _)
end
open YtfnijfdfhgpimaaGreatDoor YtfnijfdfhgpimaaGreatDoor.Rows
abbrev lK:I (String×DataW Unit):=deskIdleRow.laid
theorem aws{W}(h:pS cQ lK W):E' (tT W):=by
 rw[awt _ _ _ cV]at h;have⟨M,⟨K,db,y,H,ja,dc,f,j,v,d,⟨dI,cU,z,dh,fD,O,i,m,q,a,⟨cM,t2,A,cX,uG,P,g,t,r,b,_,_⟩,_⟩,_⟩,_,_⟩:=h;obtain rfl:=pV ((show cQ.globalNamed _=U 3 by kernel_rfl).symm.trans g);obtain rfl:=pV ((show(cQ.globals[3]?).map (·.type)=U 355 by kernel_rfl).symm.trans t);clear f j v d i m q a t;obtain⟨dD,q5,rfl,s,w,F,l⟩:=DataW.trod_array (n:=20) (e:=59) cV b
 have c:cQ.cellsOf 59=1:=by kernel_rfl
 intro o n c0;have G:o<20:=(f_.1 c0).1;have cW:=l o G
 have x:dD[o]?=U (dD[o]' R):=dw
 rw[x]at cW;have⟨k,p,B,_⟩:=DataW.trod_int (k:=.u64) cV cW
 have u:NC.map (λn=>(DataW.lit (.int .u64 n):DataW Unit))=dD.map (·.1):=by have:=(Prod.mk.inj s).1;exact(DataW.agg.inj this)
 have E:k=n:=by
  have:=eL (·[o]?) u;simp only[ir,c0,x,B,jB,fC]at this
  injection this with this
  injection this with _ this
  exact this.symm
 subst E;rw[c]at p;have C:=World.var?_cell g r o;show W.cell? ⟨3,o,cL⟩=_;rw[C];have:=eL (·[0]?) p;simpa[u_,Ii]using this
theorem D_(os args):pS cQ lK ((World.laidAll cQ os lK).forCall (λ_ _=>0) ⟨#[],args,[]⟩).memory:=by rw[awt _ _ _ cV];exact laidMet_laidAll _ cV cV
theorem Ea{os}(r:os.Started){H}{enc:eF×dr->H}{f}{fn:Func}{c t s gl Bg again eg}(F:cQ.funcs[f]?=U fn)(y:fn.body=U c)(K:kt fn.ntmps c=N)(c0:fn.params.toList.length<=fn.ntmps)(cM:fn.results=#[.tmp t])(dh:¬2=f)
  (A:∀t∈fn.params.toList,t<cQ.types.size/\ ∃m,o6 T m t=N)(l:fn.resultTypes=#[eg])(cX:cQ.underlying eg=U .bool)(d:s.vars=[])
  (dc:∀dx,dx.length=fn.params.toList.length->s.fn H dx={results:=[.lit (.bool N)],args:=dx})
  (E:∀g,q3 T fn.params.toList g->jo c ⟨k9 g,λ_=>cL⟩ (kc t))
  (n:∃(w:da) (a:Tape) (i:Input),w.os=os/\ (w.forCall a i).Shaped oO.prog/\i.vars=[] /\Input.okWide oO.prog (w.forCall a i) .any w.heap.size f i/\
   ((s.pre enc oO.prog fn [] L (w.forCall a i).memory i.args/\pS cQ lK (w.forCall a i).memory) /\sizedMet enc oO.prog fn (vT s) L (w.forCall a i).memory i.args) /\ ({}:Assume).holds oO.prog (lone (B9 oO.prog f i.args .normal) [] (w.forCall a i))):
  ReturnsInLeavingWide {} oO os f .any (λw args=>(s.pre enc cQ fn [] L w args/\pS cQ lK w) /\sizedMet enc cQ fn (vT s) L w args) (s.post enc cQ fn L gl Bg again):=by
 apply returnsInLeavingWide_of_good own r n;intro w a i _ _ _ z k x;have⟨_,_,_,G,j,_,_,_,_,q⟩:=z;have e:=pV (j.symm.trans F);subst e;have⟨⟨⟨dx,c1,b,hw,_⟩,h⟩,S⟩:=k;have B:=ayi (w':=w.forCall a i) f0 hw;have C:pS cQ lK (w.forCall a i):=h.of_heap f0;have⟨M,u,o,w',cU,P,db,p,D⟩:=awr (gl:=gl) (Bg:=Bg) (again:=again) F y K c0 cM dh A l cX d dc E (w.forCall a i) w.heap.size i.args dx c1 b q B (aws C);exact⟨M,u,o,w',cU,P,db,p,D.mono λv O=>ChangeSpec.post_blind O⟩
end Go.Lk.Dk
namespace Go.Lk
open Go Go.RowKit
theorem Mi{n d}(h:sT T n 9 d):∃s,d=.str s:=by have⟨s,e,_⟩:=ak9 Z (J7 (t:=9) Z h);simp_all
end Go.Lk
namespace Go.Lk
open Go.RowKit
def aeL{k n t dx}(e:(T t).k=.int k)(h:iF T n t dx):∃x,dx=[.int k x] /\ (Yw k x).wf=N:=by cases n with|zero=>exact h.elim|succ n=>simpa[iF,e]using h
def aeM{k x m}(h:(Yw k x).wf=N)(a:k.min=0)(b:k.max=m):∃n:V,x=n/\ (n:J)<=m:=⟨x.toNat,by simp[Lit.wf,a,b]at h;omega⟩
def Hr{n d}(h:sT T n 5 d):∃a:V,d=.int .u8 a/\a<=255:=by
 have⟨x,e,w⟩:=aeL Z (J7 (t:=5) Z h);have⟨n,i,j⟩:=aeM w Z Z;cases e;exact⟨n,i▸Z,by have:(n:J)<=255:=j;omega⟩
def awu{n d}(h:sT T n 4 d):∃a,d=.bool a:=by have h:=J7 (t:=4) Z h;cases n with|zero=>exact h.elim|succ n=>have⟨b,e⟩:∃b,[d]=[.bool b]:=h;cases e;exact⟨b,Z⟩
def aeN{f:V->I c3}{m:V}:∀{l:I (I c3)},(∀x∈l,∃a,x=f a/\a<=m)->∃r:I V,l=r.map f/\ ∀a∈r,a<=m
 | [],_=>⟨[],Z,λa h=>by cases h⟩
 |x::l,h=>by
  obtain⟨a,rfl,dt⟩:=h x (.head _);obtain⟨r,rfl,dQ⟩:=aeN (l:=l) λy b=>h y (.tail _ b);exact⟨a::r,Z,by simpa using⟨dt,dQ⟩⟩
def aeO{n d t e k m}(h:sT T n t d)(a:(T t).k=.slice e)(g:(T t).k.agg=L)(b:(T e).k=.int k)(c:k.min=0)(f:k.max=(m:V)):∃l:I V,d=.dm (l.map λx:V=>[.int k x]) /\ (∀x∈l,x<=m) /\l.length<=9223372036854775807:=by
 have h:=J7 g h
 cases n with|zero=>exact h.elim|succ n=>
  simp[iF,a]at h;have⟨l,p,o,q⟩:=h;subst p
  obtain⟨r,rfl,dQ⟩:=aeN (f:=λx:V=>[.int k x]) (m:=m) (l:=l) λx i=>by
   have⟨z,e,w⟩:=aeL b (q x i);have⟨n,i,j⟩:=aeM w c f;subst i;exact⟨n,e,by omega⟩
  rw[ec]at o;exact⟨r,Z,dQ,o⟩
namespace Dk
open Go.Proofs Go.RowKit YtfnijfdfhgpimaaGreatDoor
def Ec{a b:di}(h:a=N)(k:b=N):(a&&b)=N:=by rw[h,k];rfl
def Ed(f:im)(fn:Func){s:aeK}{c:OpenClaim}(dj:c.holds aeP (vT s))(hw:c.wfByText (vT s)=N)(d:c.laidByTextAt .later aeP [.data,.data,.data,.data,.pinned] N)
  (Q:c.start=.entering)(c5:c.noBlocks=L/\c.again=L)(eG:cQ.funcNamed c.func=U f)(fb:cQ.funcs[f]?=U fn)(du:(fn.params.toList.all λu=> !cQ.wantsStandIn u)=N)(dY:N=c.goesBy cQ):
  Claim7.holds aeP (.plain (vT s)) {stood:={row:=c,standIns:=[],harness:=(N, "43a77d81664a00aed95f56a3acf144a7d237df1bd2783f42c5568906e9d873eb"),looks:=L},kinds:=[],alts:=[],goes:=N,laidByText:=N,laidKinds:=[.data,.data,.data,.data,.pinned],laidTests:=N,laidLooks:=.later}:=
 ⟨Claim7.tied_new_at .later [.data,.data,.data,.data,.pinned] N (Claim7.new_of_sixth dj (N, "43a77d81664a00aed95f56a3acf144a7d237df1bd2783f42c5568906e9d873eb") L Q c5 cV (by simp[Claim7.isSixth]) λe g a b=>by
   obtain rfl:=pV (a.symm.trans eG);obtain rfl:=pV (b.symm.trans fb)
   exact⟨cV,λj t d=>by
    have:=of.1 du t (by simpa using EN d)
    exact(show cQ.wantsStandIn t=L by simpa using this)⟩) hw,λc3 h=>(Hf h).elim,d,(λh=>by cases h),dY⟩
