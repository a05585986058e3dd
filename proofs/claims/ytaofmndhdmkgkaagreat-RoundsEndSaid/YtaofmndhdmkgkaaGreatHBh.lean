/-
  What is proved here: what functions of the program compute, and what follows; no condition beyond each theorem's own.
-/
import Derived.Test.YtaofmndhdmkgkaaGreatHAu
import Derived.Test.YtaofmndhdmkgkaaGreatHBc
import Derived.Test.YtaofmndhdmkgkaaGreatHBg
set_option linter.unusedSimpArgs false
set_option linter.unusedVariables false
set_option linter.unnecessarySimpa false
set_option linter.unusedSectionVars false
namespace Go.Lk
open Go Go.Proofs Go.RowKit
def mdoc (P:Nat->Pg) (o:MOp):(Nat->Pg)×MRes:=
 if o.1=1 then (if (P o.2.1.toNat).1≠0 then (P,(4,zP)) else (ud P o.2.1.toNat (newP o.2.1.toNat),(0,newP o.2.1.toNat)))
 else if (P o.2.1.toNat).1=0 then (P,(3,zP))
 else if o.1=2 then (P,(0,P o.2.1.toNat))
 else if o.1=3 then (if 16<o.2.2.size then (P,(5,zP)) else if (P o.2.1.toNat).2.1=2147483647 then (P,(7,zP)) else (ud P o.2.1.toNat (wrPg (P o.2.1.toNat) o.2.2),(0,wrPg (P o.2.1.toNat) o.2.2)))
 else (ud P o.2.1.toNat zP,(0,zP))
structure DocI (p:PS) (P:Nat->Pg) (n:Nat):Prop where
 inv:Inv p P (fun _=>0) 2147483647 0
 len:p.f.fr.length=n
theorem Inv.u0 {p P u} (h:Inv p P (fun _=>0) 2147483647 u):Inv p P (fun _=>0) 2147483647 0:=⟨h.pj,h.pins,h.at_,h.on,fun _=>Int.le_refl _⟩
theorem ud_back (q:Nat):ud (ud (fun _=>(0:Int)) q 1) q ((ud (fun _=>(0:Int)) q 1) q-1)=fun _=>0:=by
 funext k
 by_cases e:k=q
 ·subst e;rw [ud_at,ud_at];rfl
 ·rw [ud_ne _ _ e,ud_ne _ _ e]
theorem back0 {p P u} (h:Inv p P (fun _=>0) 2147483647 u) (o:MOp) {q:Nat} (ho:o.2.1=(q:Int)) (h1:1<=q) (h16:q<=16) (r:MRes):backP o (p,r)=(p,r):=by
 rw [backP,if_neg];show ¬hasPinsM p o.2.1=true
 rw [ho,hasPins9 h h1 h16];decide
theorem pin_at {p P u} {q:Nat} (h:Inv p P (ud (fun _=>0) q 1) 2147483647 u) (h1:1<=q) (h16:q<=16):∃ i,∃ hA:AtF p.f (q:Int) i,(p.f.fr[i]'hA.hi).2.1≠0:=by
 rcases h.where h1 with hn|⟨i,hA⟩
 ·have:=h.wout h1 h16 hn
  rw [ud_at] at this;cases this
 ·refine ⟨i,hA,?_⟩
  rw [<-h.wat hA,ud_at];decide
theorem back1 {p P u} {q:Nat} (h:Inv p P (ud (fun _=>0) q 1) 2147483647 u) (o:MOp) (ho:o.2.1=(q:Int)) (h1:1<=q) (h16:q<=16) (r:MRes):
  ∃ p',backP o (p,r)=(p',r) /\Inv p' P (fun _=>0) 2147483647 0/\p'.now=p.now/\p'.f.fr.length=p.f.fr.length:=by
 obtain ⟨i,hA,hz⟩:=pin_at h h1 h16;obtain ⟨_,_,p',e,i',n',l'⟩:=pinned9 h hA hz ByteArray.empty h1 h16;rw [ud_back] at i';refine ⟨p',?_,i'.u0,n',l'⟩
 have hp:hasPinsM p o.2.1=true:=by rw [ho,hasPins9 h h1 h16,ud_at];rfl
 rw [backP,if_pos hp];simp only [];rw [ho,e];simp only [];rw [if_neg (fun g=>g.2 rfl)]
theorem do1 (p:PS) {q:Nat} (h1:1<=q) (h16:q<=16) (b:ByteArray):poolDo p (1,(q:Int),b)=poolFetch p q:=by
 rw [poolDo,if_neg (show ¬((1:Int)<1\/ (8:Int)<1) by decide),if_neg (show ¬((1:Int)≠8/\ ((q:Int)<1\/16<(q:Int))) by omega),if_pos rfl]
theorem do2 (p:PS) {q:Nat} (h1:1<=q) (h16:q<=16) (b:ByteArray):poolDo p (2,(q:Int),b)=poolCreate p q:=by
 rw [poolDo,if_neg (show ¬((2:Int)<1\/ (8:Int)<2) by decide),if_neg (show ¬((2:Int)≠8/\ ((q:Int)<1\/16<(q:Int))) by omega),if_neg (show ¬(2:Int)=1 by decide),if_pos rfl]
theorem do6 (p:PS) {q:Nat} (h1:1<=q) (h16:q<=16) (b:ByteArray):poolDo p (6,(q:Int),b)=poolRemove p q:=by
 rw [poolDo,if_neg (show ¬((6:Int)<1\/ (8:Int)<6) by decide),if_neg (show ¬((6:Int)≠8/\ ((q:Int)<1\/16<(q:Int))) by omega),if_neg (show ¬(6:Int)=1 by decide),if_neg (show ¬(6:Int)=2 by decide),if_pos rfl]
theorem act_err {p p':PS} {x:Pg} {l:List Jo} {e k:Int} {ks:List Int} {o:MOp} {r:MRes} (h:poolDo p (k,o.2.1,o.2.2)=(p',x,l,e)) (he:e≠0):actG o (k::ks) p r=(p',(e,zP)):=by
 rw [actG];simp only [h];rw [if_pos he]
theorem act_go {p p':PS} {x:Pg} {l:List Jo} {k:Int} {ks:List Int} {o:MOp} {r:MRes} (h:poolDo p (k,o.2.1,o.2.2)=(p',x,l,0)):actG o (k::ks) p r=actG o ks p' (r.1,x):=by
 rw [actG];simp only [h];rw [if_neg (fun g=>g rfl)]
theorem nofull {n:Nat} (hn:1<=n) (q:Nat):¬((fun _=>(0:Int)) q=0/\bn (fun _=>(0:Int)) 16=n):=fun g=>by
 have:bn (fun _=>(0:Int)) 16=0:=rfl;omega
theorem work9 {p P n} (h:DocI p P n) (hn:1<=n) (o:MOp) (hr:refB o=false):
  (workP p o).2=(mdoc P o).2/\DocI (workP p o).1 (mdoc P o).1 n:=by
 obtain ⟨h,hl⟩:=h;obtain ⟨⟨k1,k4⟩,q1,q16⟩:=refB_f hr;obtain ⟨k,id,b⟩:=o;simp only [] at k1 k4 q1 q16;obtain ⟨q,rfl⟩:∃ q:Nat,id=q:=⟨id.toNat,by omega⟩
 have h1:1<=q:=by omega
 have h16:q<=16:=by omega
 have key:∀ {p':PS} {P':Nat->Pg} {r:MRes},workP p (k,(q:Int),b)=(p',r)->Inv p' P' (fun _=>0) 2147483647 0->p'.f.fr.length=p.f.fr.length->mdoc P (k,(q:Int),b)=(P',r)->
   (workP p (k,(q:Int),b)).2=(mdoc P (k,(q:Int),b)).2/\DocI (workP p (k,(q:Int),b)).1 (mdoc P (k,(q:Int),b)).1 n:=by
  intro p' P' r e i m d;rw [e,d];exact ⟨rfl,i,m.trans hl⟩
 have hk:k=1\/k=2\/k=3\/k=4:=by omega
 by_cases hz:(P q).1=0
 ·rcases hk with rfl|hk
  ·have d:=create9 h (Int.le_refl _) (by decide) h1 h16 hl;rw [thereM,if_neg (fun g=>absurd g.1 (by decide)),if_neg (fun g=>g.2 hz),if_neg (nofull hn q),if_pos rfl] at d;obtain ⟨p1,l,e,i1,n1,m1,_⟩:=d.eq;rw [<-do2 p h1 h16 b] at e;obtain ⟨p2,e2,i2,n2,m2⟩:=back1 i1 (1,(q:Int),b) rfl h1 h16 (0,newP q);refine key (p':=p2) (P':=ud P q (newP q)) (r:=(0,newP q)) ?_ i2 (m2.trans m1) ?_
   ·rw [workP,show actsK 1=[2] from rfl,act_go (o:=(1,(q:Int),b)) e];exact e2
   ·rw [mdoc,if_pos rfl,if_neg (fun g=>g (by simpa using hz))];simp
  ·have hmd:mdoc P (k,(q:Int),b)=(P,(3,zP)):=by
    rw [mdoc,if_neg (by show ¬k=1;omega),if_pos (by simpa using hz)]
   by_cases h4:k=4
   ·subst h4;have d:=delete_did h (by decide) h1 h16;rw [if_neg (show ¬(0:Int)<0 by decide),if_pos hz] at d;obtain ⟨p1,l,e,i1,n1,m1,_⟩:=d.eq;rw [<-do6 p h1 h16 b] at e;refine key (p':=p1) (P':=P) (r:=(3,zP)) ?_ i1.u0 m1 hmd;rw [workP,show actsK 4=[6] from rfl,act_err (o:=(4,(q:Int),b)) e (by decide)];exact back0 i1 _ rfl h1 h16 _
   ·have d:=fetch9 h (Int.le_refl _) (by decide) h1 h16 hl;rw [thereM,if_pos ⟨rfl,hz⟩] at d;obtain ⟨p1,l,e,i1,n1,m1,_⟩:=d.eq;rw [<-do1 p h1 h16 b] at e;refine key (p':=p1) (P':=P) (r:=(3,zP)) ?_ i1.u0 m1 hmd
    obtain ⟨ks,hks⟩:∃ ks,actsK k=1::ks:=by
     rcases hk with rfl|rfl|rfl
     ·exact ⟨_,rfl⟩
     ·exact ⟨_,rfl⟩
     ·exact absurd rfl h4
    rw [workP,show actsK (k,(q:Int),b).1=1::ks from hks,act_err (o:=(k,(q:Int),b)) e (by decide)];exact back0 i1 _ rfl h1 h16 _
 ·have fet:∃ p1 l,poolDo p (1,(q:Int),b)=(p1,P q,l,0) /\Inv p1 P (ud (fun _=>0) q 1) 2147483647 1/\p1.f.fr.length=p.f.fr.length:=by
   have d:=fetch9 h (Int.le_refl _) (by decide) h1 h16 hl;rw [thereM,if_neg (fun g=>hz g.2),if_neg (fun g=>absurd g.1 (by decide)),if_neg (nofull hn q),if_neg (by decide),ud_self] at d;obtain ⟨p1,l,e,i1,n1,m1,_⟩:=d.eq;rw [<-do1 p h1 h16 b] at e;exact ⟨p1,l,e,i1,m1⟩
  rcases hk with rfl|rfl|rfl|rfl
  ·have d:=create9 h (Int.le_refl _) (by decide) h1 h16 hl;rw [thereM,if_neg (fun g=>absurd g.1 (by decide)),if_pos ⟨rfl,hz⟩] at d;obtain ⟨p1,l,e,i1,n1,m1,_⟩:=d.eq;rw [<-do2 p h1 h16 b] at e;refine key (p':=p1) (P':=P) (r:=(4,zP)) ?_ i1.u0 m1 ?_
   ·rw [workP,show actsK 1=[2] from rfl,act_err (o:=(1,(q:Int),b)) e (by decide)];exact back0 i1 _ rfl h1 h16 _
   ·rw [mdoc,if_pos rfl,if_pos (by simpa using hz)]
  ·obtain ⟨p1,l,e,i1,m1⟩:=fet;obtain ⟨i,hA,hp⟩:=pin_at i1 h1 h16;have e2:=(pinned9 i1 hA hp b h1 h16).1;obtain ⟨p2,e3,i2,n2,m2⟩:=back1 i1 (2,(q:Int),b) rfl h1 h16 (0,P q);refine key (p':=p2) (P':=P) (r:=(0,P q)) ?_ i2 (m2.trans m1) ?_
   ·rw [workP,show actsK 2=[1,3] from rfl,act_go (o:=(2,(q:Int),b)) e,act_go (o:=(2,(q:Int),b)) e2];exact e3
   ·rw [mdoc,if_neg (show ¬(2:Int)=1 by decide),if_neg (by simpa using hz),if_pos rfl];simp
  ·obtain ⟨p1,l,e,i1,m1⟩:=fet;obtain ⟨i,hA,hp⟩:=pin_at i1 h1 h16;obtain ⟨p2,r,e2,n2,m2,c⟩:=(pinned9 i1 hA hp b h1 h16).2.1
   have fin:∀ {P':Nat->Pg},Inv p2 P' (ud (fun _=>0) q 1) 2147483647 1->(r.1≠0->r.2=zP)->mdoc P (3,(q:Int),b)=(P',r)->
     (workP p (3,(q:Int),b)).2=(mdoc P (3,(q:Int),b)).2/\DocI (workP p (3,(q:Int),b)).1 (mdoc P (3,(q:Int),b)).1 n:=by
    intro P' i2 hr0 d;obtain ⟨p3,e3,i3,n3,m3⟩:=back1 i2 (3,(q:Int),b) rfl h1 h16 r;refine key (p':=p3) (P':=P') (r:=r) ?_ i3 (m3.trans (m2.trans m1)) d;rw [workP,show actsK 3=[1,4] from rfl,act_go (o:=(3,(q:Int),b)) e]
    by_cases hr0':r.1=0
    ·rw [hr0'] at e2;rw [act_go (o:=(3,(q:Int),b)) e2];rw [show ((0,r.2):MRes)=r by rw [<-hr0']];exact e3
    ·rw [act_err (o:=(3,(q:Int),b)) e2 hr0',show ((r.1,zP):MRes)=r by rw [<-hr0 hr0']];exact e3
   have hmd:mdoc P (3,(q:Int),b)=(if 16<b.size then (P,(5,zP)) else if (P q).2.1=2147483647 then (P,(7,zP)) else (ud P q (wrPg (P q) b),(0,wrPg (P q) b))):=by
    rw [mdoc,if_neg (show ¬(3:Int)=1 by decide),if_neg (by simpa using hz),if_neg (show ¬(3:Int)=2 by decide),if_pos rfl];simp
   by_cases hb:16<b.size
   ·rw [if_pos hb] at c hmd;obtain ⟨rfl,rfl⟩:=c;exact fin i1 (fun _=>rfl) hmd
   ·rw [if_neg hb] at c hmd
    by_cases hv:(P q).2.1=2147483647
    ·rw [if_pos hv] at c hmd;obtain ⟨rfl,rfl⟩:=c;exact fin i1 (fun _=>rfl) hmd
    ·rw [if_neg hv] at c hmd;obtain ⟨rfl,i2⟩:=c;exact fin i2 (fun g=>absurd rfl g) hmd
  ·have d:=delete_did h (by decide) h1 h16;rw [if_neg (show ¬(0:Int)<0 by decide),if_neg hz] at d;obtain ⟨p1,l,e,i1,n1,m1,_⟩:=d.eq;rw [<-do6 p h1 h16 b] at e;refine key (p':=p1) (P':=ud P q zP) (r:=(0,zP)) ?_ i1.u0 m1 ?_
   ·rw [workP,show actsK 4=[6] from rfl,act_go (o:=(4,(q:Int),b)) e];exact back0 i1 _ rfl h1 h16 _
   ·rw [mdoc,if_neg (show ¬(4:Int)=1 by decide),if_neg (by simpa using hz),if_neg (show ¬(4:Int)=2 by decide),if_neg (show ¬(4:Int)=3 by decide)];simp
def oA:MOp:=(1,1,ByteArray.empty)
def wkA:List (List MOp):=[[oA]]
def mA (p:PS) (w:WA) (h:HA) (l:LA) (c:Int) (ev:List EvA):MS:=⟨[w],p,h,(List.replicate 17 noLA).set 1 l,⟨0,false,[none],0,[]⟩,c,ev⟩
theorem aw0 (p:PS):newMS p 1 wkA=mA p (newWA [oA]) ⟨1,[],[]⟩ noLA 0 []:=rfl
theorem aw1 (p:PS):stepM (mA p (newWA [oA]) ⟨1,[],[]⟩ noLA 0 []) 0=(mA p ⟨[oA],0,1,false,false,0,0,(0,zP)⟩ ⟨1,[(0,false)],[]⟩ noLA 1 [],true):=rfl
theorem aw2 (p:PS):stepM (mA p ⟨[oA],0,1,false,false,0,0,(0,zP)⟩ ⟨1,[(0,false)],[]⟩ noLA 1 []) 0=(mA p ⟨[oA],0,2,true,false,0,0,(0,zP)⟩ ⟨1,[(0,false)],[]⟩ ⟨[0],true,[]⟩ 2 [],true):=rfl
theorem aw3 (p:PS):stepM (mA p ⟨[oA],0,2,true,false,0,0,(0,zP)⟩ ⟨1,[(0,false)],[]⟩ ⟨[0],true,[]⟩ 2 []) 0=(mA p ⟨[oA],0,3,true,false,0,0,(0,zP)⟩ ⟨1,[(0,false)],[]⟩ ⟨[0],true,[]⟩ 3 [],true):=rfl
theorem aw4 (p:PS):stepM (mA p ⟨[oA],0,3,true,false,0,0,(0,zP)⟩ ⟨1,[(0,false)],[]⟩ ⟨[0],true,[]⟩ 3 []) 0=(mA p ⟨[oA],0,5,true,true,0,0,(0,zP)⟩ ⟨1,[(0,true)],[]⟩ ⟨[0],true,[]⟩ 4 [],true):=by
 show (if hasF p 1=false/\ ((1:Int)=2\/ (1:Int)=3) then _ else _)=_;rw [if_neg (fun g=>absurd g.2 (by decide))];rfl
theorem aw5 (p:PS):stepM (mA p ⟨[oA],0,5,true,true,0,0,(0,zP)⟩ ⟨1,[(0,true)],[]⟩ ⟨[0],true,[]⟩ 4 []) 0=(mA (workP p oA).1 ⟨[oA],0,6,true,true,0,4,(workP p oA).2⟩ ⟨1,[(0,true)],[]⟩ ⟨[0],true,[]⟩ 5 [],true):=rfl
theorem aw6 (p:PS) (r:MRes):stepM (mA p ⟨[oA],0,6,true,true,0,4,r⟩ ⟨1,[(0,true)],[]⟩ ⟨[0],true,[]⟩ 5 []) 0=(mA p ⟨[oA],1,0,false,false,0,0,(0,zP)⟩ ⟨1,[],[]⟩ noLA 6 [⟨0,oA,r,0,4,5⟩],true):=rfl
theorem aw7 (p:PS) (c:Int) (ev:List EvA):stepM (mA p ⟨[oA],1,0,false,false,0,0,(0,zP)⟩ ⟨1,[],[]⟩ noLA c ev) 0=(mA p ⟨[oA],1,0,false,false,0,0,(0,zP)⟩ ⟨1,[],[]⟩ noLA (c+1) ev,false):=rfl
noncomputable def awk:Nat->MS
 |0=>newMS (p0 1) 1 wkA
 |k+1=>(stepM (awk k) 0).1
theorem p0_doc {n:Nat} (h1:1<=n) (h8:n<=8):DocI (p0 n) (fun _=>zP) n:=⟨(p0_inv h1 h8).mono (by decide) (by decide),List.length_replicate ..⟩
theorem takeM_r {s:ByteArray} (h:(takeM s).2=0):pgR (takeM s).1=true:=by
 rw [takeM] at h⊢
 split at h
 ·cases h
 rw [if_neg (by assumption)]
 split at h
 ·cases h
 rw [if_neg (by assumption)]
 split at h
 ·cases h
 rw [if_neg (by assumption)]
 split at h
 ·rename_i g;rw [if_pos g];exact g.1
 ·cases h
theorem getR_r {s:List ByteArray} {q:Nat} (h:(getR s q).2=0):pgR (getR s q).1=true/\ (getR s q).1.1=(q:Int):=by
 rw [getR] at h⊢
 split at h
 ·rename_i g;exact absurd h g
 rename_i g;rw [if_neg g]
 split at h
 ·cases h
 rename_i g2;rw [if_neg g2];exact ⟨takeM_r (by simpa using g),by simpa using g2⟩
theorem pages_pairwise {f:Nat->Option Pg} (hf:∀ k x,f k=some x->x.1=(k:Int)+1) (n:Nat):((List.range n).filterMap f).Pairwise fun a b=>a.1<b.1:=by
 rw [List.pairwise_filterMap]
 refine List.pairwise_lt_range.imp fun {a b} hab x hx y hy=>?_
 have:=hf a x hx;have:=hf b y hy;omega
theorem mr_of {l:List Pg} (h1:∀ x∈l,pgR x=true) (h2:l.Pairwise fun a b=>a.1<b.1):Hy.MRight l:=
 ⟨h1,fun i hi=>(List.pairwise_iff_getElem.1 h2) i (i+1) (by omega) hi (by omega)⟩
theorem getO_yes {l:List Pg} (h1:∀ x∈l,pgR x=true) (h2:l.Pairwise fun a b=>a.1<b.1) {x:Pg} (hx:x∈l):getO l x.1=(x,true):=by
 obtain ⟨i,hi,rfl⟩:=List.mem_iff_getElem.1 hx
 have e:Hy.plN l l[i].1=i:=Hy.plN_at hi (Int.le_refl _) fun j hj hjl=>(List.pairwise_iff_getElem.1 h2) j i hjl hi hj
 rw [getO,if_pos ⟨Hy.mapB_t.2 (mr_of h1 h2),by rw [Hy.plB,e,List.getElem?_eq_getElem hi];simp⟩,e,List.getElem?_eq_getElem hi];rfl
theorem getO_no {l:List Pg} {id:Int} (h:∀ x∈l,x.1≠id):getO l id=(zP,false):=by
 rw [getO,if_neg];rintro ⟨_,g⟩;rw [Hy.plB] at g
 split at g
 ·rename_i p hp;exact h p (List.mem_of_getElem? hp) (by simpa using g)
 ·cases g
theorem stAt_of {d:DS} {k:Nat} {x:Pg} (hd:∀ q:Nat,1<=q->q<=16->getS d q=getR d.sec q) (hk:k<16) (h:stAt d k=some x):pgR x=true/\x.1=(k:Int)+1:=by
 have e:=hd (k+1) (by omega) (by omega);rw [show (((k+1:Nat):Int))=(k:Int)+1 by omega] at e;rw [stAt,e] at h
 split at h
 ·rename_i g
  cases h
  have:=getR_r g;exact ⟨this.1,by omega⟩
 ·cases h
theorem lsN_mem {d:DS} {x:Pg}:x∈lsN d 16↔∃ k,k<16/\stAt d k=some x:=by
 rw [lsN,List.mem_filterMap];simp [List.mem_range]
theorem fm_congr {f g:Nat->Option Pg} {n:Nat} (h:∀ k,k<n->f k=g k):(List.range n).filterMap f=(List.range n).filterMap g:=by
 induction n with
 |zero=>rfl
 |succ n ih=>rw [fm_succ,fm_succ,ih fun k hk=>h k (by omega),h n (by omega)]
theorem pages_doc {m:MS} {P:Nat->Pg} {n:Nat} (h:DocI m.p P n):pagesM m=bgN P 16:=by
 have hi:=h.inv
 have hd:∀ q:Nat,1<=q->q<=16->getS m.p.d q=getR m.p.d.sec q:=fun q h1 h16=>hi.pj.get h1 h16
 have r1:∀ x∈lsN m.p.d 16,pgR x=true:=fun x hx=>by
  obtain ⟨k,hk,e⟩:=lsN_mem.1 hx;exact (stAt_of hd hk e).1
 have r2:(lsN m.p.d 16).Pairwise fun a b=>a.1<b.1:=by
  have e:lsN m.p.d 16=(List.range 16).filterMap fun k=>if k<16 then stAt m.p.d k else none:=fm_congr fun k hk=>by rw [if_pos hk]
  rw [e];refine pages_pairwise (fun k x hx=>?_) 16
  split at hx
  ·rename_i hk;exact (stAt_of hd hk hx).2
  ·cases hx
 refine fm_congr fun k hk=>?_
 rw [pgAt,bgAt,show ((k:Int)+1)=((k+1:Nat):Int) by omega]
 rcases hi.where (q:=k+1) (by omega) with hn|⟨i,hA⟩
 ·rw [findF_no hi.pj.fm hn (by omega),if_neg (by decide)];have e:=hi.on.dsk (k+1) (by omega) (by omega) (hi.out (by omega) hn)
  by_cases hz:(P (k+1)).1=0
  ·rw [if_pos hz] at e;rw [getO_no,if_neg (by decide),if_neg (show ¬(P (k+1)).1≠0 from fun g=>g hz)];intro x hx ex;obtain ⟨j,hj,ej⟩:=lsN_mem.1 hx;have h2:=(stAt_of hd hj ej).2
   have:j=k:=by omega
   subst this;rw [stAt,show ((j:Int)+1)=((j+1:Nat):Int) by omega,hd (j+1) (by omega) (by omega),e,if_neg (by decide)] at ej
   cases ej
  ·rw [if_neg hz] at e;rw [if_pos hz]
   have hm:P (k+1)∈lsN m.p.d 16:=lsN_mem.2 ⟨k,hk,by
    rw [stAt,show ((k:Int)+1)=((k+1:Nat):Int) by omega,hd (k+1) (by omega) (by omega),e,if_pos rfl]⟩
   have:=getO_yes r1 r2 hm;rw [(hi.on.nz (q:=k+1) (by omega) (by omega) hz).2] at this;rw [this,if_pos rfl]
 ·rw [findF_at hA,if_pos rfl,if_pos (hi.nz hA)];simp only [Int.toNat_natCast];rw [atP_eq hA.hp,hi.at_ (k+1) i hA]
theorem MG.new {p:PS} {n:Nat} {work:List (List MOp)} (n1:1<=n) (n8:n<=8) (hp:p.f.fr.length=n) (hg:Gd 0 p) (t1:1<=work.length) (t4:work.length<=4):MG work 0 (newMS p n work):=
 ⟨new_mok n1 n8 hp t1 t4,hg,by
  show (work.map newWA).map (·.todo)=work;rw [List.map_map]
  exact List.map_id'' (fun _=>rfl) _,Int.le_refl _⟩
theorem DocI.gd {p P n} (h:DocI p P n):Gd p.now p:=⟨h.inv.pj.fm,by
 have:=h.inv.pj.rest.us
 rw [<-h.inv.pj.d] at this;exact this,rfl⟩
theorem awk_mg:∀ k,MG wkA 0 (awk k)
 |0=>MG.new (Nat.le_refl 1) (by decide) (List.length_replicate ..) (p0_doc (Nat.le_refl 1) (by decide)).gd (Nat.le_refl 1) (by decide)
 |k+1=>(awk_mg k).step 0
def mCk (k:Nat) (m:MS):List AV:=.own (k+1)::(m.p.box++(m.h.cells.map AV.d++(latC m.lat++((m.s.cells m.p.d).map AV.d++[.d (.int .i64 m.clk),.own (k+2)]))))
theorem wkA_60:∀ l∈wkA,l.length<=60:=fun l h=>by rw [wkA,List.mem_singleton] at h;subst h;decide
def stV (m:MS) (k:Nat):Int:=match m.ws[k]? with|some w=>(w.st:Int)|none=>0
theorem stateV_ok (m:MS) (k:Nat):HCall Tryz.prog 35 [.ptr 1000000 0 0,.d (.int .i64 k)] (mH m) (mH m) (.int .i64 (stV m k)):=by
 have h:=state_ok m k;rw [if_pos (by omega),Int.toNat_natCast] at h;exact h
theorem begM_doc (n:Nat) (n1:1<=n) (n8:n<=8) (pages:List Pg) (work:List (List MOp)):DocI (begM n pages work).p (new9 pages).2 n:=
 ⟨Inv.new n1 n8 (NI9.ofG pages).rest (NI9.ofG pages).z (NI9.ofG pages).on (Int.le_refl 0),List.length_replicate ..⟩
theorem begM_mg (n:Nat) (n1:1<=n) (n8:n<=8) (pages:List Pg) (work:List (List MOp)) (h1:1<=work.length) (h4:work.length<=4):MG work 0 (begM n pages work):=
 MG.new n1 n8 (List.length_replicate ..) (begM_doc n n1 n8 pages work).gd h1 h4
theorem begM_mge (n:Nat) (n1:1<=n) (n8:n<=8) (pages:List Pg) (work:List (List MOp)) (h1:1<=work.length) (h4:work.length<=4):MGE work (begM n pages work):=
 ⟨0,Int.le_refl 0,by decide,begM_mg n n1 n8 pages work h1 h4⟩
inductive Tr (m:MS):MS->Prop
 |same (h':HA) (lat':List LA) (s':SA) (c':Int) (hc:c'=m.clk\/c'=m.clk+1):Tr m ⟨m.ws,m.p,h',lat',s',c',m.ev⟩
 |age (a:Int):Tr m (ageM m a)
 |beg (k:Nat) (w:WA) (h':HA) (hk:m.ws[k]?=some w) (hs:w.st=0) (he:w.ended<w.todo.length):Tr m ⟨m.ws.set k {w with began:=m.clk,st:=1},m.p,h',m.lat,m.s,m.clk+1,m.ev⟩
 |mid (k:Nat) (w:WA) (a p:Bool) (s:Nat) (h':HA) (lat':List LA) (s':SA) (hk:m.ws[k]?=some w) (h1:1<=w.st) (h5:w.st<6) (h2:2<=s) (h6:s<=5):Tr m ⟨m.ws.set k {w with asked:=a,pinned:=p,st:=s},m.p,h',lat',s',m.clk+1,m.ev⟩
 |wake (k:Nat) (w:WA) (s':SA) (hk:m.ws[k]?=some w) (hs:w.st=4):Tr m ⟨m.ws.set k {w with st:=5},m.p,m.h,m.lat,s',m.clk,m.ev⟩
 |fail (k:Nat) (w:WA) (s':SA) (hk:m.ws[k]?=some w) (hs:w.st=4):Tr m ⟨m.ws.set k (tellW w (8,zP) (m.clk-1)),m.p,m.h,m.lat,s',m.clk,m.ev⟩
 |refuse (k:Nat) (w:WA) (hk:m.ws[k]?=some w) (hs:w.st=1) (hr:refB w.op=true):Tr m ⟨m.ws.set k (tellW w (1,zP) m.clk),m.p,m.h,m.lat,m.s,m.clk+1,m.ev⟩
 |work (k:Nat) (w:WA) (hk:m.ws[k]?=some w) (hs:w.st=5) (hr:refB w.op=false):Tr m ⟨m.ws.set k (tellW w (workP m.p w.op).2 m.clk),(workP m.p w.op).1,m.h,m.lat,m.s,m.clk+1,m.ev⟩
 |leave (k:Nat) (w:WA) (h':HA) (lat':List LA) (hk:m.ws[k]?=some w) (hs:w.st=6):Tr m ⟨m.ws.set k (leftW w),m.p,h',lat',m.s,m.clk+1,m.ev++[⟨k,w.op,w.res,w.began,w.done,m.clk⟩]⟩
theorem tr_step {m:MS} (o:MOk m) (k:Int):Tr m (stepM m k).1:=by
 rw [stepM]
 split
 ·exact .same m.h m.lat m.s m.clk (.inl rfl)
 split
 ·exact .same m.h m.lat m.s m.clk (.inl rfl)
 ·rename_i w hk;have v:=o.w _ w hk;have no:Tr m {m with clk:=m.clk+1}:=.same m.h m.lat m.s (m.clk+1) (.inr rfl);unfold stepW
  split
  ·rename_i hs
   split
   ·exact no
   ·exact .beg _ w _ hk hs (by omega)
  ·rename_i hs
   split
   ·exact no
   split
   ·rename_i hr;exact .refuse _ w hk hs hr
   ·exact .mid _ w true w.pinned 2 _ _ _ hk (by omega) (by omega) (by omega) (by omega)
  ·rename_i hs
   split
   ·exact no
   ·exact .mid _ w w.asked w.pinned 3 _ _ _ hk (by omega) (by omega) (by omega) (by omega)
  ·rename_i hs
   split
   ·exact no
   split
   ·exact .mid _ w w.asked true 4 _ _ _ hk (by omega) (by omega) (by omega) (by omega)
   ·exact .mid _ w w.asked true 5 _ _ _ hk (by omega) (by omega) (by omega) (by omega)
  ·rename_i hs;exact .work _ w hk hs (v.val (v.ask (by omega) (by omega)))
  ·rename_i hs;exact .leave _ w _ _ hk hs
  ·exact no
theorem tr_fin {m:MS} (o:MOk m) (i:Int) (b:Bool):Tr m (finM m i b).1:=by
 rw [finM]
 split
 ·exact .same m.h m.lat m.s m.clk (.inl rfl)
 split
 ·exact .same m.h m.lat _ m.clk (.inl rfl)
 ·split
  ·exact .same m.h m.lat _ m.clk (.inl rfl)
  ·rename_i w hk
   split
   ·exact .same m.h m.lat _ m.clk (.inl rfl)
   ·rename_i hs;unfold toldW
    split
    ·exact .fail _ w _ hk (by omega)
    ·exact .wake _ w _ hk (by omega)
structure OkP (P:Nat->Pg):Prop where
 ok:∀ q:Nat,1<=q->q<=16->P q=zP\/ (pgR (P q)=true/\ (P q).1=(q:Int))
theorem DocI.okp {p P n} (h:DocI p P n):OkP P:=⟨h.inv.on.okp⟩
theorem OkP.zz {P} (h:OkP P) {q:Nat} (h1:1<=q) (h16:q<=16) (hz:(P q).1=0):P q=zP:=by
 rcases h.ok q h1 h16 with e|⟨_,e⟩
 ·exact e
 ·omega
theorem OkP.nz {P} (h:OkP P) {q:Nat} (h1:1<=q) (h16:q<=16) (hz:(P q).1≠0):pgR (P q)=true/\ (P q).1=(q:Int):=by
 rcases h.ok q h1 h16 with e|e
 ·rw [e] at hz;exact absurd rfl hz
 ·exact e
theorem OkP.ud {P} (h:OkP P) {q:Nat} {x:Pg} (hx:x=zP\/ (pgR x=true/\x.1=(q:Int))):OkP (ud P q x):=⟨fun k k1 k16=>by
 by_cases e:k=q
 ·subst e;rw [ud_at];exact hx
 ·rw [ud_ne _ _ e];exact h.ok k k1 k16⟩
def mdocX (P:Nat->Pg) (o:MOp):(Nat->Pg)×MRes:=if refB o=true then (P,(1,zP)) else mdoc P o
theorem mdocX_ok {P} (h:OkP P) (o:MOp):OkP (mdocX P o).1:=by
 rw [mdocX]
 split
 ·exact h
 rename_i hr;obtain ⟨⟨k1,k4⟩,q1,q16⟩:=refB_f (by simpa using hr)
 rw [mdoc];repeat' split
 all_goals first|exact h|skip
 ·exact h.ud (.inr ⟨pg1_ok (by omega) (by omega),rfl⟩)
 ·rename_i g1 g2 g3 g4 g5 g6;obtain ⟨r1,r2⟩:=h.nz (q:=o.2.1.toNat) (by omega) (by omega) g2;have:=pgR_out.1 r1;exact h.ud (.inr ⟨pgR_out.2 ⟨this.1,this.2.1,by show 1<= (P o.2.1.toNat).2.1+1;omega,by show (P o.2.1.toNat).2.1+1<=_;omega,by show o.2.2.size<=16;omega⟩,r2⟩)
 ·exact h.ud (.inl rfl)
theorem mdocX_8 (P:Nat->Pg) (o:MOp):(mdocX P o).2.1≠8:=by
 rw [mdocX]
 split
 ·exact (by decide:(1:Int)≠8)
 rw [mdoc];repeat' split
 all_goals first|exact (by decide:(4:Int)≠8)|exact (by decide:(0:Int)≠8)|exact (by decide:(3:Int)≠8)|exact (by decide:(5:Int)≠8)|exact (by decide:(7:Int)≠8)
theorem bg_mem {P:Nat->Pg} {x:Pg}:x∈bgN P 16↔∃ q:Nat,1<=q/\q<=16/\ (P q).1≠0/\x=P q:=by
 rw [bgN,List.mem_filterMap];simp only [List.mem_range,bgAt]
 constructor
 ·rintro ⟨k,hk,e⟩
  split at e
  ·rename_i g;cases e;exact ⟨k+1,by omega,by omega,g,rfl⟩
  ·cases e
 ·rintro ⟨q,h1,h16,hz,rfl⟩;exact ⟨q-1,by omega,by rw [show q-1+1=q by omega,if_pos hz]⟩
theorem bg_pw {P} (h:OkP P):(bgN P 16).Pairwise fun a b=>a.1<b.1:=by
 have e:bgN P 16=(List.range 16).filterMap fun k=>if k<16 then bgAt P k else none:=fm_congr fun k hk=>by rw [if_pos hk]
 rw [e];refine pages_pairwise (fun k x hx=>?_) 16
 split at hx
 ·rw [bgAt] at hx
  split at hx
  ·rename_i hk g
   cases hx
   have:=(h.nz (q:=k+1) (by omega) (by omega) g).2;omega
  ·cases hx
 ·cases hx
theorem bg_mr {P} (h:OkP P):Hy.MRight (bgN P 16):=mr_of (fun x hx=>by
 obtain ⟨q,h1,h16,hz,rfl⟩:=bg_mem.1 hx
 exact (h.nz h1 h16 hz).1) (bg_pw h)
theorem bg_len (P:Nat->Pg):(bgN P 16).length<=16:=fm_len _ _
theorem bg_find {P} (h:OkP P) {q:Nat} (h1:1<=q) (h16:q<=16):(Hy.findP (bgN P 16) q).getD Hy.zP=P q:=by
 by_cases hz:(P q).1=0
 ·rw [h.zz h1 h16 hz]
  cases e:Hy.findP (bgN P 16) q with
  |none=>rfl
  |some x=>
   obtain ⟨hm,hx⟩:=(Hy.findP_iff (bg_pw h)).1 e;obtain ⟨k,k1,k16,kz,rfl⟩:=bg_mem.1 hm;have:=(h.nz k1 k16 kz).2
   have:k=q:=by omega
   subst this;exact absurd hz kz
 ·rw [(Hy.findP_iff (bg_pw h)).2 ⟨bg_mem.2 ⟨q,h1,h16,hz,rfl⟩,(h.nz h1 h16 hz).2⟩];rfl
theorem bg_zero {P} (h:OkP P):(Hy.findP (bgN P 16) 0).getD Hy.zP=zP:=by
 cases e:Hy.findP (bgN P 16) 0 with
 |none=>rfl
 |some x=>
  obtain ⟨hm,hx⟩:=(Hy.findP_iff (bg_pw h)).1 e;obtain ⟨k,k1,k16,kz,rfl⟩:=bg_mem.1 hm;have:=(h.nz k1 k16 kz).2;omega
theorem bg_tab {P} (h:OkP P):Hy.tabOf (bgN P 16)=(List.range 17).map fun j=>if j=0 then zP else P j:=by
 rw [Hy.tabOf]
 refine List.map_congr_left fun j hj=>?_
 have hj:=List.mem_range.1 hj
 by_cases e:j=0
 ·subst e;rw [if_pos rfl];exact bg_zero h
 ·rw [if_neg e];exact bg_find h (by omega) (by omega)
theorem bg_set {P:Nat->Pg} {n:Nat} (h1:1<=n) (x:Pg):((List.range 17).map fun j=>if j=0 then zP else P j).set n x=(List.range 17).map fun j=>if j=0 then zP else ud P n x j:=by
 refine List.ext_getElem (by simp) fun i hi hi2=>?_
 rw [List.getElem_set];simp only [List.getElem_map,List.getElem_range]
 by_cases e:n=i
 ·subst e;rw [if_pos rfl,if_neg (by omega),ud_at]
 ·rw [if_neg e]
  by_cases e0:i=0
  ·rw [if_pos e0,if_pos e0]
  ·rw [if_neg e0,if_neg e0,ud_ne _ _ (fun g=>e g.symm)]
theorem bg_filter (P:Nat->Pg):∀ l:List Nat,l.filterMap (bgAt P)=(l.map fun k=>P (k+1)).filter fun p=>!decide (p.1=0)
 | []=>rfl
 |k::l=>by
  rw [List.filterMap_cons,List.map_cons,List.filter_cons,bgAt,bg_filter P l]
  by_cases e:(P (k+1)).1=0
  ·rw [if_neg (fun g=>g e),decide_eq_true e];rfl
  ·rw [if_pos e,decide_eq_false e];rfl
theorem bg_col (P:Nat->Pg):Hy.colN ((List.range 17).map fun j=>if j=0 then zP else P j) 17=bgN P 16:=by
 rw [bgN,bg_filter];rfl
theorem doM_bg {P} (h : OkP P) (o : MOp) : Hy.doM (bgN P 16) o = (bgN (mdocX P o).1 16, (mdocX P o).2) := by
  have hm : Hy.mapB (bgN P 16) = true := Hy.mapB_t.2 (bg_mr h)
  rw [← Hy.rdM_eq, Hy.rdM, mdocX]
  by_cases hr : refB o = true
  · rw [if_pos hr, if_pos]
    · rfl
    · right
      simp only [refB, Bool.or_eq_true, decide_eq_true_eq] at hr
      omega
  rw [if_neg hr]
  obtain ⟨⟨k1, k4⟩, q1, q16⟩ := refB_f (by simpa using hr)
  rw [if_neg (by rw [hm]; rintro (g | g)
                 · cases g
                 · omega)]
  have q1' : 1 ≤ o.2.1.toNat := by omega
  have q16' : o.2.1.toNat ≤ 16 := by omega
  simp only [bg_find h q1' q16', bg_tab h, bg_set q1', bg_col]
  rw [mdoc]
  have hzz : Hy.zP = zP := rfl
  by_cases a1 : o.1 = 1
  · by_cases hz : (P o.2.1.toNat).1 = 0
    · have e : newP o.2.1.toNat = (o.2.1, 1, ByteArray.empty) := by rw [newP]; congr 1; omega
      simp [a1, hz, e]
    · simp [a1, hz, hzz]
  · have k2 : 1 < o.1 := by omega
    by_cases hz : (P o.2.1.toNat).1 = 0
    · simp [a1, hz, hzz, k2]
    · by_cases a3 : o.1 = 3
      · by_cases hb : 16 < o.2.2.size
        · simp [a3, hz, hzz, hb]
        · by_cases hv : (P o.2.1.toNat).2.1 = 2147483647
          · simp [a3, hz, hzz, hb, hv]
          · simp [a3, hz, hb, hv, wrPg]
      · by_cases a2 : o.1 = 2
        · simp [a2, hz, ud_self]
        · have a4 : o.1 = 4 := by omega
          simp [a4, hz, hzz]
theorem set_some {ws:List WA} {k j:Nat} {w v:WA} (h:(ws.set k w)[j]?=some v):(j=k/\v=w) \/ (j≠k/\ws[j]?=some v):=by
 rw [List.getElem?_set] at h
 split at h
 ·rename_i e;subst e
  split at h
  ·cases h;exact .inl ⟨rfl,rfl⟩
  ·cases h
 ·rename_i e;exact .inr ⟨fun g=>e g.symm,h⟩
def opsK (l:List EvA) (k:Nat):List MOp:=(l.filter fun e=>e.who==k).map (·.op)
theorem opsK_snoc (l:List EvA) (e:EvA) (k:Nat):opsK (l++[e]) k=opsK l k++(if e.who=k then [e.op] else []):=by
 rw [opsK,List.filter_append,List.map_append,<-opsK]
 by_cases h:e.who=k
 ·rw [if_pos h];simp [h]
 ·rw [if_neg h];simp [h]
structure PG (m:MS):Prop where
 who:∀ e∈m.ev,e.who<m.ws.length
 ops:∀ (k:Nat) (w:WA),m.ws[k]?=some w->opsK m.ev k=w.todo.take w.ended
 bu:∀ (k:Nat) (w:WA),m.ws[k]?=some w->w.st≠0->w.ended<w.todo.length
theorem PG.upd {m:MS} (g:PG m) {k:Nat} {w w':WA} {p':PS} {h':HA} {lat':List LA} {s':SA} {c':Int} (hk:m.ws[k]?=some w) (e1:w'.todo=w.todo) (e2:w'.ended=w.ended) (hb:w.ended<w.todo.length):PG ⟨m.ws.set k w',p',h',lat',s',c',m.ev⟩:=by
 refine ⟨fun e he=>by show e.who<(m.ws.set k w').length;rw [List.length_set];exact g.who e he,fun j v hj=>?_,fun j v hj hs=>?_⟩
 ·rcases set_some hj with ⟨rfl,rfl⟩|⟨_,h⟩
  ·rw [e1,e2];exact g.ops _ w hk
  ·exact g.ops j v h
 ·rcases set_some hj with ⟨rfl,rfl⟩|⟨_,h⟩
  ·rw [e1,e2];exact hb
  ·exact g.bu j v h hs
theorem PG.tr {m m':MS} (g:PG m) (t:Tr m m'):PG m':=by
 cases t with
 |same h' lat' s' c' hc=>exact ⟨g.who,g.ops,g.bu⟩
 |age a=>exact ⟨g.who,g.ops,g.bu⟩
 |beg k w h' hk hs he=>exact g.upd hk rfl rfl he
 |mid k w a p s h' lat' s' hk h1 h5 h2 h6=>exact g.upd hk rfl rfl (g.bu k w hk (by omega))
 |wake k w s' hk hs=>exact g.upd hk rfl rfl (g.bu k w hk (by omega))
 |fail k w s' hk hs=>exact g.upd hk rfl rfl (g.bu k w hk (by omega))
 |refuse k w hk hs hr=>exact g.upd hk rfl rfl (g.bu k w hk (by omega))
 |work k w hk hs hr=>exact g.upd hk rfl rfl (g.bu k w hk (by omega))
 |leave k w h' lat' hk hs=>
  have hlt:=(List.getElem?_eq_some_iff.1 hk).1;have hb:=g.bu k w hk (by omega);refine ⟨fun e he=>?_,fun j v hj=>?_,fun j v hj hs'=>?_⟩
  ·show e.who<(m.ws.set k (leftW w)).length;rw [List.length_set]
   rcases List.mem_append.1 he with he|he
   ·exact g.who e he
   ·rw [List.mem_singleton.1 he];exact hlt
  ·show opsK (m.ev++[_]) j=_;rw [opsK_snoc]
   rcases set_some hj with ⟨rfl,rfl⟩|⟨hne,h⟩
   ·rw [if_pos rfl,g.ops _ w hk];show _++[w.op]=w.todo.take (w.ended+1)
    rw [take_snoc hb,WA.op,List.getElem?_eq_getElem hb];rfl
   ·rw [if_neg (fun e=>hne e.symm),List.append_nil];exact g.ops j v h
  ·rcases set_some hj with ⟨rfl,rfl⟩|⟨_,h⟩
   ·exact absurd rfl hs'
   ·exact g.bu j v h hs'
structure TG (m:MS):Prop where
 c0:0<=m.clk
 n4:m.ws.length<=4
 ev:∀ e∈m.ev,e.who<4/\0<=e.began/\e.began<e.done/\e.done<e.ended/\e.ended<m.clk
 up:m.ev.Pairwise fun a b=>a.ended<b.ended
 seq:m.ev.Pairwise fun a b=>a.who=b.who->a.ended<b.began
 w1:∀ (k:Nat) (w:WA),m.ws[k]?=some w->w.st≠0->0<=w.began/\w.began<m.clk/\ ∀ e∈m.ev,e.who=k->e.ended<w.began
 w2:∀ (k:Nat) (w:WA),m.ws[k]?=some w->2<=w.st->w.began+1<m.clk
 w6:∀ (k:Nat) (w:WA),m.ws[k]?=some w->w.st=6->w.began<w.done/\w.done<m.clk
theorem TG.upd {m:MS} (g:TG m) {k:Nat} {w':WA} {p':PS} {h':HA} {lat':List LA} {s':SA} {c':Int} (hc:m.clk<=c')
  (h1:w'.st≠0->0<=w'.began/\w'.began<c'/\ ∀ e∈m.ev,e.who=k->e.ended<w'.began) (h2:2<=w'.st->w'.began+1<c') (h6:w'.st=6->w'.began<w'.done/\w'.done<c'):TG ⟨m.ws.set k w',p',h',lat',s',c',m.ev⟩:=by
 refine ⟨by have:=g.c0;show 0<=c';omega,by show (m.ws.set k w').length<=4;rw [List.length_set];exact g.n4,fun e he=>?_,g.up,g.seq,fun j v hj hs=>?_,fun j v hj hs=>?_,fun j v hj hs=>?_⟩
 ·have:=g.ev e he;show _/\_/\_/\_/\e.ended<c';omega
 ·rcases set_some hj with ⟨rfl,rfl⟩|⟨_,h⟩
  ·exact h1 hs
  ·have:=g.w1 j v h hs;exact ⟨this.1,by show _<c';omega,this.2.2⟩
 ·rcases set_some hj with ⟨rfl,rfl⟩|⟨_,h⟩
  ·exact h2 hs
  ·have:=g.w2 j v h hs
   show _<c';omega
 ·rcases set_some hj with ⟨rfl,rfl⟩|⟨_,h⟩
  ·exact h6 hs
  ·have:=g.w6 j v h hs;exact ⟨this.1,by show _<c';omega⟩
theorem TG.tr {m m':MS} (g:TG m) (t:Tr m m'):TG m':=by
 have c0:=g.c0
 cases t with
 |same h' lat' s' c' hc=>
  refine ⟨by show 0<=c';omega,g.n4,fun e he=>?_,g.up,g.seq,fun j v hj hs=>?_,fun j v hj hs=>?_,fun j v hj hs=>?_⟩
  ·have:=g.ev e he;show _/\_/\_/\_/\e.ended<c';omega
  ·have:=g.w1 j v hj hs;exact ⟨this.1,by show _<c';omega,this.2.2⟩
  ·have:=g.w2 j v hj hs
   show _<c';omega
  ·have:=g.w6 j v hj hs;exact ⟨this.1,by show _<c';omega⟩
 |age a=>exact ⟨g.c0,g.n4,g.ev,g.up,g.seq,g.w1,g.w2,g.w6⟩
 |beg k w h' hk hs he=>
  refine g.upd (by omega) (fun _=>⟨c0,by show m.clk<m.clk+1;omega,fun e he _=>(g.ev e he).2.2.2.2⟩) (fun q=>absurd (show 2<=1 from q) (by decide)) (fun q=>absurd (show 1=6 from q) (by decide))
 |mid k w a p s h' lat' s' hk h1 h5 h2 h6=>
  have a1:=g.w1 k w hk (by omega);refine g.upd (by omega) (fun _=>⟨a1.1,by show w.began<m.clk+1;omega,a1.2.2⟩) (fun _=>by show w.began+1<m.clk+1;omega) (fun q=>absurd (show s=6 from q) (by omega))
 |wake k w s' hk hs=>
  have a1:=g.w1 k w hk (by omega);have a2:=g.w2 k w hk (by omega);exact g.upd (by omega) (fun _=>a1) (fun _=>a2) (fun q=>absurd (show 5=6 from q) (by decide))
 |fail k w s' hk hs=>
  have a1:=g.w1 k w hk (by omega);have a2:=g.w2 k w hk (by omega);exact g.upd (by omega) (fun _=>a1) (fun _=>a2) (fun _=>⟨by show w.began<m.clk-1;omega,by show m.clk-1<m.clk;omega⟩)
 |refuse k w hk hs hr=>
  have a1:=g.w1 k w hk (by omega);exact g.upd (by omega) (fun _=>⟨a1.1,by show w.began<m.clk+1;omega,a1.2.2⟩) (fun _=>by show w.began+1<m.clk+1;omega) (fun _=>⟨a1.2.1,by show m.clk<m.clk+1;omega⟩)
 |work k w hk hs hr=>
  have a1:=g.w1 k w hk (by omega);exact g.upd (by omega) (fun _=>⟨a1.1,by show w.began<m.clk+1;omega,a1.2.2⟩) (fun _=>by show w.began+1<m.clk+1;omega) (fun _=>⟨a1.2.1,by show m.clk<m.clk+1;omega⟩)
 |leave k w h' lat' hk hs=>
  have hlt:=(List.getElem?_eq_some_iff.1 hk).1;have n4:=g.n4;have a1:=g.w1 k w hk (by omega);have a6:=g.w6 k w hk hs;refine ⟨by show 0<=m.clk+1;omega,by show (m.ws.set k _).length<=4;rw [List.length_set];exact g.n4,fun e he=>?_,?_,?_,fun j v hj hs'=>?_,fun j v hj hs'=>?_,fun j v hj hs'=>?_⟩
  ·rcases List.mem_append.1 he with he|he
   ·have:=g.ev e he;show _/\_/\_/\_/\e.ended<m.clk+1;omega
   ·rw [List.mem_singleton.1 he];exact ⟨by show k<4;omega,a1.1,a6.1,a6.2,by show m.clk<m.clk+1;omega⟩
  ·refine List.pairwise_append.2 ⟨g.up,by simp,fun a ha b hb=>?_⟩;rw [List.mem_singleton.1 hb];exact (g.ev a ha).2.2.2.2
  ·refine List.pairwise_append.2 ⟨g.seq,by simp,fun a ha b hb hw=>?_⟩;rw [List.mem_singleton.1 hb] at hw⊢;exact a1.2.2 a ha hw
  ·rcases set_some hj with ⟨rfl,rfl⟩|⟨hne,h⟩
   ·exact absurd rfl hs'
   ·have:=g.w1 j v h hs';refine ⟨this.1,by show _<m.clk+1;omega,fun e he hw=>?_⟩
    rcases List.mem_append.1 he with he|he
    ·exact this.2.2 e he hw
    ·rw [List.mem_singleton.1 he] at hw;exact absurd hw.symm hne
  ·rcases set_some hj with ⟨rfl,rfl⟩|⟨hne,h⟩
   ·exact absurd (show 2<=0 from hs') (by decide)
   ·have:=g.w2 j v h hs'
    show _<m.clk+1;omega
  ·rcases set_some hj with ⟨rfl,rfl⟩|⟨hne,h⟩
   ·exact absurd (show 0=6 from hs') (by decide)
   ·have:=g.w6 j v h hs';exact ⟨this.1,by show _<m.clk+1;omega⟩
structure Rc where
 op:MOp
 res:MRes
 done:Int
def evR (e:EvA):Rc:=⟨e.op,e.res,e.done⟩
def wR (w:WA):Option Rc:=if w.st=6 then some ⟨w.op,w.res,w.done⟩ else none
def pendR (ws:List WA):List Rc:=ws.filterMap wR
def allR (m:MS):List Rc:=m.ev.map evR++pendR m.ws
def goodR (r:Rc):Bool:=decide (r.res.1≠8)
def PlayOk:(Nat->Pg)->List Rc->(Nat->Pg)->Prop
 |P,[],P'=>P'=P
 |P,r::G,P'=>(mdocX P r.op).2=r.res/\PlayOk (mdocX P r.op).1 G P'
theorem PlayOk.snoc {o:MOp} {r:MRes} {d:Int}:∀ {G:List Rc} {P P':Nat->Pg},PlayOk P G P'->(mdocX P' o).2=r->PlayOk P (G++[⟨o,r,d⟩]) (mdocX P' o).1
 | [],P,P',h,hr=>by
  cases (show P'=P from h)
  exact ⟨hr,rfl⟩
 |x::G,P,P',h,hr=>⟨h.1,PlayOk.snoc (G:=G) h.2 hr⟩
theorem cut_set {ws:List WA} {k:Nat} {w:WA} (h:ws[k]?=some w):∃ A B,ws=A++w::B/\ ∀ w',ws.set k w'=A++w'::B:=by
 have hi:=(List.getElem?_eq_some_iff.1 h).1;have hj:=(List.getElem?_eq_some_iff.1 h).2;refine ⟨ws.take k,ws.drop (k+1),?_,fun w'=>?_⟩
 ·rw [<-hj,<-List.drop_eq_getElem_cons hi,List.take_append_drop]
 ·rw [List.set_eq_take_append_cons_drop,if_pos hi]
theorem pend_at {ws:List WA} {k:Nat} {w:WA} (h:ws[k]?=some w):∃ A B:List Rc,pendR ws=A++((wR w).toList++B) /\ ∀ w',pendR (ws.set k w')=A++((wR w').toList++B):=by
 obtain ⟨A,B,e1,e2⟩:=cut_set h
 have key:∀ v:WA,pendR (A++v::B)=pendR A++((wR v).toList++pendR B):=fun v=>by
  rw [pendR,List.filterMap_append,List.filterMap_cons]
  cases e:wR v<;>simp [pendR]
 exact ⟨pendR A,pendR B,(congrArg pendR e1).trans (key w),
  fun w'=>by rw [e2];exact key w'⟩
theorem pend_no {ws:List WA} {k:Nat} {w w':WA} (h:ws[k]?=some w) (h1:w.st≠6) (h2:w'.st≠6):pendR (ws.set k w')=pendR ws:=by
 obtain ⟨A,B,e1,e2⟩:=pend_at h;rw [e1,e2,wR,wR,if_neg h1,if_neg h2]
theorem pend_new {ws:List WA} {k:Nat} {w w':WA} (h:ws[k]?=some w) (h1:w.st≠6) (h2:w'.st=6):(pendR (ws.set k w')).Perm (pendR ws++[⟨w'.op,w'.res,w'.done⟩]):=by
 obtain ⟨A,B,e1,e2⟩:=pend_at h;rw [e1,e2,wR,wR,if_neg h1,if_pos h2];show (A++(_::B)).Perm ((A++B)++[_]);exact List.perm_middle.trans (List.perm_append_singleton _ _).symm
theorem pend_old {ws:List WA} {k:Nat} {w w':WA} (h:ws[k]?=some w) (h1:w.st=6) (h2:w'.st≠6):(pendR ws).Perm (⟨w.op,w.res,w.done⟩::pendR (ws.set k w')):=by
 obtain ⟨A,B,e1,e2⟩:=pend_at h;rw [e1,e2,wR,wR,if_pos h1,if_neg h2];show (A++(_::B)).Perm (_::(A++B));exact List.perm_middle
structure OG (P0:Nat->Pg) (n:Nat) (m:MS):Prop where
 n1:1<=n
 ex:∃ (G:List Rc) (P:Nat->Pg),PlayOk P0 G P/\DocI m.p P n/\G.Pairwise (fun a b=>a.done<b.done) /\ (∀ r∈G,r.done<m.clk) /\ ((allR m).filter goodR).Perm G
 bad:∀ r∈allR m,r.res.1=8->r.res=(8,zP)
theorem OG.keep {P0 n} {m m':MS} (g:OG P0 n m) (hp:m'.p=m.p) (hc:m.clk<=m'.clk) (ha:(allR m').Perm (allR m)):OG P0 n m':=by
 obtain ⟨G,P,g1,g2,g3,g4,g5⟩:=g.ex;refine ⟨g.n1,⟨G,P,g1,by rw [hp];exact g2,g3,fun r hr=>by have:=g4 r hr;omega,(ha.filter _).trans g5⟩,fun r hr=>g.bad r (ha.mem_iff.1 hr)⟩
theorem OG.same {P0 n} {m m':MS} (g:OG P0 n m) (hp:m'.p=m.p) (hc:m.clk<=m'.clk) (ha:allR m'=allR m):OG P0 n m':=g.keep hp hc (by rw [ha])
theorem OG.add {P0 n} {m m':MS} (g:OG P0 n m) {o:MOp} {r:MRes} (hw:∀ P,DocI m.p P n->r=(mdocX P o).2/\DocI m'.p (mdocX P o).1 n) (hc:m.clk<m'.clk) (ha:(allR m').Perm (allR m++[⟨o,r,m.clk⟩])):OG P0 n m':=by
 obtain ⟨G,P,g1,g2,g3,g4,g5⟩:=g.ex;obtain ⟨h1,h2⟩:=hw P g2
 have hne:r.1≠8:=by rw [h1];exact mdocX_8 P o
 refine ⟨g.n1,⟨G++[⟨o,r,m.clk⟩],(mdocX P o).1,g1.snoc h1.symm,h2,?_,fun x hx=>?_,?_⟩,fun x hx h8=>?_⟩
 ·refine List.pairwise_append.2 ⟨g3,by simp,fun a ha b hb=>?_⟩
  rw [List.mem_singleton.1 hb];exact g4 a ha
 ·rcases List.mem_append.1 hx with hx|hx
  ·have:=g4 x hx;omega
  ·rw [List.mem_singleton.1 hx];exact hc
 ·refine (ha.filter _).trans ?_;rw [List.filter_append];refine g5.append ?_
  have:goodR ⟨o,r,m.clk⟩=true:=by simp [goodR,hne]
  rw [List.filter_cons,if_pos this,List.filter_nil]
 ·rcases List.mem_append.1 (ha.mem_iff.1 hx) with hx|hx
  ·exact g.bad x hx h8
  ·rw [List.mem_singleton.1 hx] at h8;exact absurd h8 hne
theorem DocI.age {p P n} (h:DocI p P n) (a:Int) (b:ByteArray):DocI (poolDo (tickP p 1) (8,a,b)).1 P n:=by
 have ht:DocI (tickP p 1) P n:=by
  refine ⟨?_,?_⟩
  ·have hi:=h.inv;have n0:=hi.pj.n0;have n1:=hi.pj.n1
   have mk:∀ t:Int,p.now<=t->t<=2147483647->Inv ⟨p.f,p.d,t⟩ P (fun _=>0) 2147483647 0:=fun t t0 t1=>
    ⟨⟨hi.pj.fm,hi.pj.rest,hi.pj.ca,hi.pj.z0,by show 0<=t;omega,t1,fun x hx=>by have:=hi.pj.dt x hx;show x.2<=t;omega⟩,hi.pins,hi.at_,hi.on,hi.ub⟩
   rw [tickP];repeat' split
   ·exact hi
   ·exact mk _ (by omega) (Int.le_refl _)
   ·exact mk _ (by omega) (by omega)
  ·rw [tickP];repeat' split
   all_goals exact h.len
 have d:=(age_did ht.inv a).1;obtain ⟨q,l,e,i1,n1,m1,_⟩:=d.eq
 have e2:poolDo (tickP p 1) (8,a,b)=poolAge (tickP p 1) a:=by
  rw [poolDo,if_neg (show ¬((8:Int)<1\/ (8:Int)<8) by decide),if_neg (show ¬((8:Int)≠8/\_) from fun g=>g.1 rfl)];rfl
 rw [e2,e];exact ⟨i1,m1.trans ht.len⟩
theorem OG.tr {P0 n} {m m':MS} (g:OG P0 n m) (t:Tr m m'):OG P0 n m':=by
 cases t with
 |same h' lat' s' c' hc=>exact g.same rfl (by show m.clk<=c';omega) rfl
 |age a=>
  obtain ⟨G,P,g1,g2,g3,g4,g5⟩:=g.ex;exact ⟨g.n1,⟨G,P,g1,g2.age a _,g3,g4,g5⟩,g.bad⟩
 |beg k w h' hk hs he=>exact g.same rfl (by show m.clk<=m.clk+1;omega) (congrArg (m.ev.map evR++·) (pend_no hk (by omega) (show 1≠6 by decide)))
 |mid k w a p s h' lat' s' hk h1 h5 h2 h6=>exact g.same rfl (by show m.clk<=m.clk+1;omega) (congrArg (m.ev.map evR++·) (pend_no hk (by omega) (show s≠6 by omega)))
 |wake k w s' hk hs=>exact g.same rfl (Int.le_refl _) (congrArg (m.ev.map evR++·) (pend_no hk (by omega) (show 5≠6 by decide)))
 |fail k w s' hk hs=>
  obtain ⟨G,P,g1,g2,g3,g4,g5⟩:=g.ex;have ha:=List.Perm.append_left (m.ev.map evR) (pend_new (w':=tellW w (8,zP) (m.clk-1)) hk (by omega) rfl);rw [<-List.append_assoc] at ha;refine ⟨g.n1,⟨G,P,g1,g2,g3,g4,(ha.filter _).trans ?_⟩,fun r hr h8=>?_⟩
  ·rw [List.filter_append];have:List.filter goodR [(⟨w.op,(8,zP),m.clk-1⟩:Rc)]=[]:=rfl;rw [show ([⟨(tellW w (8,zP) (m.clk-1)).op,(tellW w (8,zP) (m.clk-1)).res,(tellW w (8,zP) (m.clk-1)).done⟩]:List Rc)=[⟨w.op,(8,zP),m.clk-1⟩] from rfl,this,List.append_nil];exact g5
  ·rcases List.mem_append.1 (ha.mem_iff.1 hr) with hr|hr
   ·exact g.bad r hr h8
   ·rw [List.mem_singleton.1 hr];rfl
 |refuse k w hk hs hr=>
  have ha:=List.Perm.append_left (m.ev.map evR) (pend_new (w':=tellW w (1,zP) m.clk) hk (by omega) rfl);rw [<-List.append_assoc] at ha;refine g.add (o:=w.op) (r:=(1,zP)) (fun P hP=>?_) (by show m.clk<m.clk+1;omega) ha;rw [mdocX,if_pos hr];exact ⟨rfl,hP⟩
 |work k w hk hs hr=>
  have ha:=List.Perm.append_left (m.ev.map evR) (pend_new (w':=tellW w (workP m.p w.op).2 m.clk) hk (by omega) rfl);rw [<-List.append_assoc] at ha;refine g.add (o:=w.op) (r:=(workP m.p w.op).2) (fun P hP=>?_) (by show m.clk<m.clk+1;omega) ha;rw [mdocX,if_neg (by rw [hr];decide)];exact work9 hP g.n1 w.op hr
 |leave k w h' lat' hk hs=>
  refine g.keep rfl (by show m.clk<=m.clk+1;omega) ?_;have hp:=pend_old (w':=leftW w) hk hs (show 0≠6 by decide);show ((m.ev++[_]).map evR++pendR (m.ws.set k (leftW w))).Perm (m.ev.map evR++pendR m.ws);rw [List.map_append,List.append_assoc];exact List.Perm.append_left _ hp.symm
structure HI (P0:Nat->Pg) (n:Nat) (work:List (List MOp)) (m:MS):Prop where
 g:MGE work m
 pg:PG m
 tg:TG m
 og:OG P0 n m
theorem MGE.ok {work m} (h:MGE work m):MOk m:=by obtain ⟨t,_,_,g⟩:=h.ex;exact g.ok
theorem MGE.step {work m} (h:MGE work m) (k:Int):MGE work (stepM m k).1:=by
 obtain ⟨t,h0,h1,g⟩:=h.ex;exact ⟨t,h0,h1,g.step k⟩
theorem HI.step {P0 n work m} (h:HI P0 n work m) (k:Int):HI P0 n work (stepM m k).1:=
 have t:=tr_step h.g.ok k
 ⟨h.g.step k,h.pg.tr t,h.tg.tr t,h.og.tr t⟩
theorem HI.new {n:Nat} (n1:1<=n) (n8:n<=8) (pages:List Pg) {work:List (List MOp)} (h1:1<=work.length) (h4:work.length<=4):HI (new9 pages).2 n work (begM n pages work):=by
 have hws:∀ (k:Nat) (w:WA),(work.map newWA)[k]?=some w->w.st=0/\w.ended=0:=fun k w h=>by
  rw [List.getElem?_map] at h;obtain ⟨l,_,rfl⟩:=Option.map_eq_some_iff.1 h;exact ⟨rfl,rfl⟩
 refine ⟨begM_mge n n1 n8 pages work h1 h4,⟨fun e he=>(by cases he),fun k w hk=>?_,fun k w hk hs=>absurd (hws k w hk).1 hs⟩,⟨Int.le_refl 0,by show (work.map newWA).length<=4;rw [List.length_map];exact h4,fun e he=>(by cases he),.nil,.nil,fun k w hk hs=>absurd (hws k w hk).1 hs,fun k w hk hs=>?_,fun k w hk hs=>?_⟩,⟨n1,⟨[],_,rfl,begM_doc n n1 n8 pages work,.nil,fun r hr=>(by cases hr),?_⟩,fun r hr=>?_⟩⟩
 ·rw [(hws k w hk).2];rfl
 ·have:=(hws k w hk).1;omega
 ·have:=(hws k w hk).1;omega
 ·have:pendR (work.map newWA)=[]:=by
   rw [pendR,List.filterMap_eq_nil_iff];intro w hw;obtain ⟨l,_,rfl⟩:=List.mem_map.1 hw;rfl
  show ((([]:List EvA).map evR++pendR (work.map newWA)).filter goodR).Perm []
  rw [this];exact .nil
 ·have:pendR (work.map newWA)=[]:=by
   rw [pendR,List.filterMap_eq_nil_iff];intro w hw;obtain ⟨l,_,rfl⟩:=List.mem_map.1 hw;rfl
  rw [allR] at hr;rw [show pendR (begM n pages work).ws=[] from this] at hr
  cases hr
theorem HI.evl {P0 n work m} (h:HI P0 n work m):(m.ev.length:Int) <=m.clk:=by
 obtain ⟨t,_,_,g⟩:=h.g.ex;exact g.ev
theorem HI.td {P0 n work m} (h:HI P0 n work m):m.ws.map (·.todo)=work:=by
 obtain ⟨t,_,_,g⟩:=h.g.ex;exact g.td
theorem HI.wl {P0 n work m} (h:HI P0 n work m):m.ws.length=work.length:=by
 rw [<-h.td,List.length_map]
theorem opsK_app (a b:List EvA) (k:Nat):opsK (a++b) k=opsK a k++opsK b k:=by
 rw [opsK,List.filter_append,List.map_append];rfl
theorem HI.todo {P0 n work m} (h:HI P0 n work m) {k:Nat} {w:WA} (hk:m.ws[k]?=some w) (hk2:k<work.length:=by omega):w.todo=work[k]:=by
 have e:(m.ws.map (·.todo))[k]?=some w.todo:=by rw [List.getElem?_map,hk];rfl
 rw [h.td,List.getElem?_eq_getElem hk2] at e;exact (Option.some.inj e).symm
def wkR:List (List MOp):=[[],[]]
theorem lane_none {jobs:List (Option Int)} (h:∀ j∈jobs,j=none):∀ (n k:Nat),laneFrom jobs n k=none
 |0,_=>rfl
 |n+1,k=>by
  rw [laneFrom,if_neg,lane_none h n]
  cases e:jobs[k%jobs.length]? with
  |none=>simp
  |some j=>rw [h j (List.mem_of_getElem? e)];simp
def nm11:List (Nat×Nat):=[(1000000,2000144),(1000001,2000145),(1000004,2000146)]
theorem stepW_2 (m:MS) (c:Int) (k:Nat) (w:WA) (now now':Int):(stepW {m with clk:=c} k w now').2=(stepW m k w now).2:=by
 unfold stepW;repeat' split
 all_goals first|rfl|(exfalso;simp only [latM] at*;simp_all;done)
theorem stepM_2 (m:MS) (c:Int) (k:Int):(stepM {m with clk:=c} k).2=(stepM m k).2:=by
 rw [stepM,stepM]
 split
 ·rfl
 ·show (match m.ws[k.toNat]? with|none=>({m with clk:=c},false)|some w=>stepW {m with clk:=c+1} k.toNat w c).2=_
  cases h:m.ws[k.toNat]? with
  |none=>rfl
  |some w=>exact (stepW_2 m (c+1) _ w 0 c).trans (stepW_2 m (m.clk+1) _ w 0 m.clk).symm
theorem stepW_no (m:MS) (k:Nat) (w:WA) (now:Int):(stepW m k w now).2=false->(stepW m k w now).1=m:=by
 unfold stepW;repeat' split
 all_goals first|exact fun _=>rfl|exact fun h=>by cases h
theorem stepM_no {m:MS} {k:Int} (h:(stepM m k).2=false):∃ c,(stepM m k).1={m with clk:=c} /\m.clk<=c/\c<=m.clk+1:=by
 rw [stepM] at h⊢
 split
 ·exact ⟨m.clk,rfl,by omega,by omega⟩
 ·rename_i hk;rw [if_neg hk] at h
  cases e:m.ws[k.toNat]? with
  |none=>exact ⟨m.clk,rfl,by omega,by omega⟩
  |some w=>
   rw [e] at h;exact ⟨m.clk+1,stepW_no _ _ _ _ h,by omega,by omega⟩
def goB (m:MS) (k:Nat):Prop:=(stepM m k).2=true\/stV m k=4
def lfV (m:MS) (k:Nat):Int:=match m.ws[k]? with|some w=>(w.todo.length:Int)-w.ended|none=>0
theorem step_at {m:MS} {k:Nat} {w:WA} (hk:m.ws[k]?=some w):(stepM m k).2=(stepW m k w 0).2:=by
 rw [stepM,if_neg (by omega),Int.toNat_natCast,hk];exact stepW_2 m _ _ w 0 _
theorem stV_at {m:MS} {k:Nat} {w:WA} (hk:m.ws[k]?=some w):stV m k=w.st:=by rw [stV,hk]
theorem goes3 {m:MS} (o:MOk m) (hz:∀ k,¬goB m k) {k:Nat} {w:WA} (hk:m.ws[k]?=some w):w.st<3:=by
 have v:=o.w k w hk;have h6:=v.st6;have hg:=hz k;rw [goB,step_at hk,stV_at hk] at hg
 refine Classical.byContradiction fun hn=>hg ?_
 have hst:w.st=3\/w.st=4\/w.st=5\/w.st=6:=by omega
 rcases hst with hs|hs|hs|hs
 ·left
  simp only [stepW,hs]
  split
  ·rename_i hf
   have hf1:0<heldN m.h.cl:=by have:=o.hall.n1;omega
   obtain ⟨c,hc,hb⟩:=List.countP_pos_iff.1 hf1;have hm:c.1∈m.h.all:=List.mem_append.2 (.inl (List.mem_map_of_mem (f:=(·.1)) hc));have hlt:=o.hw _ hm;obtain ⟨w2,hw2⟩:∃ w2,m.ws[c.1]?=some w2:=⟨_,List.getElem?_eq_getElem hlt⟩;have v2:=o.w _ w2 hw2
   have hp:w2.pinned=true:=by
    rw [<-v2.held];exact heldW_t.2 (by rw [<-hb];exact hc)
   have h4:¬w2.st<4:=fun g=>by rw [v2.npin g] at hp;cases hp
   have h62:=v2.st6;have hg2:=hz c.1;rw [goB,step_at hw2,stV_at hw2] at hg2;refine absurd ?_ hg2
   have hst:w2.st=4\/w2.st=5\/w2.st=6:=by omega
   rcases hst with hs2|hs2|hs2
   ·right;omega
   ·left;simp only [stepW,hs2]
   ·left;simp only [stepW,hs2]
  ·split<;>rfl
 ·right;omega
 ·left;simp only [stepW,hs]
 ·left;simp only [stepW,hs]
theorem goes2 {m:MS} (o:MOk m) (hz:∀ k,¬goB m k) {k:Nat} {w:WA} (hk:m.ws[k]?=some w):w.st<2:=by
 have h3:=goes3 o hz hk
 refine Classical.byContradiction fun hn=>?_
 have hs:w.st=2:=by omega
 have v:=o.w k w hk;have ha:=v.ask (by omega) (by omega);obtain ⟨_,r1,r2⟩:=refB_f (v.val ha)
 have hi:w.op.2.1.toNat<m.lat.length:=by rw [o.ll];omega
 obtain ⟨l,hl⟩:∃ l,m.lat[w.op.2.1.toNat]?=some l:=⟨_,List.getElem?_eq_getElem hi⟩;have hm:=(v.lt _ l hl).2 ⟨ha,by omega⟩;have L:=o.li _ l hl
 have key:∀ j,j∈l.hs->False:=fun j hj=>by
  have hlt:=L.lt j (List.mem_append.2 (.inl hj));obtain ⟨w2,hw2⟩:∃ w2,m.ws[j]?=some w2:=⟨_,List.getElem?_eq_getElem hlt⟩;have v2:=o.w _ w2 hw2;obtain ⟨q1,q2⟩:=(v2.lt _ l hl).1 (List.mem_append.2 (.inl hj));have q3:=goes3 o hz hw2
  have q4:¬w2.st<2:=fun g=>by rw [v2.nask g] at q1;cases q1
  have q5:w2.st=2:=by omega
  have hg2:=hz j;rw [goB,step_at hw2] at hg2;refine hg2 (.inl ?_)
  have e:latM m w2.op.2.1=l:=by rw [latM,q2,Int.toNat_natCast,hl];rfl
  simp only [stepW,q5];rw [e,holdsL,List.contains_iff_mem.2 hj];rfl
 rcases List.mem_append.1 hm with h|h
 ·exact key k h
 ·rcases L.shut with e|⟨e,_⟩
  ·rw [e] at h;cases h
  ·obtain ⟨j,hj⟩:=List.exists_mem_of_ne_nil _ e;exact key j hj
theorem goes1 {m:MS} (o:MOk m) (hz:∀ k,¬goB m k) {k:Nat} {w:WA} (hk:m.ws[k]?=some w):w.st=0:=by
 have h2:=goes2 o hz hk
 refine Classical.byContradiction fun hn=>?_
 have hs:w.st=1:=by omega
 have v:=o.w k w hk;have hm:=v.hal.2 hn
 have key:∀ j,isCl m.h j=true->False:=fun j hj=>by
  have hmj:j∈m.h.all:=List.mem_append.2 (.inl (isCl_t.1 hj));have hlt:=o.hw j hmj;obtain ⟨w2,hw2⟩:∃ w2,m.ws[j]?=some w2:=⟨_,List.getElem?_eq_getElem hlt⟩;have v2:=o.w _ w2 hw2;have q0:=v2.hal.1 hmj;have q3:=goes2 o hz hw2
  have q5:w2.st=1:=by omega
  have hg2:=hz j;rw [goB,step_at hw2] at hg2;refine hg2 (.inl ?_);simp only [stepW,q5];rw [hj,if_neg (by decide)]
  split<;>rfl
 rcases List.mem_append.1 hm with h|h
 ·exact key k (isCl_t.2 h)
 ·rcases o.hall.shut with e|e
  ·rw [e] at h;cases h
  ·have n1:=o.hall.n1
   have:0<m.h.cl.length:=by omega
   obtain ⟨c,hc⟩:=List.exists_mem_of_length_pos this;exact key c.1 (isCl_t.2 (List.mem_map_of_mem (f:=(·.1)) hc))
theorem goes0 {m:MS} (o:MOk m) (hz:∀ k,¬goB m k) {k:Nat} {w:WA} (hk:m.ws[k]?=some w):w.ended=w.todo.length:=by
 have h1:=goes1 o hz hk;have v:=o.w k w hk
 refine Classical.byContradiction fun hn=>?_
 have hg:=hz k;rw [goB,step_at hk] at hg;refine hg (.inl ?_);simp only [stepW,h1];rw [if_neg (by have:=v.en;omega)]
theorem go_left {m:MS} (o:MOk m) {k:Nat} {w:WA} (hk:m.ws[k]?=some w) (h:goB m k):w.ended<w.todo.length:=by
 have v:=o.w k w hk;rw [goB,step_at hk,stV_at hk] at h
 by_cases hs:w.st=0
 ·rcases h with h|h
  ·simp only [stepW,hs] at h
   split at h
   ·cases h
   ·omega
  ·omega
 ·exact v.bu hs
theorem goes {m:MS} (o:MOk m):(∃ k,k<m.ws.length/\goB m k)↔∃ k,k<m.ws.length/\0<lfV m k:=by
 constructor
 ·rintro ⟨k,hk,h⟩;refine ⟨k,hk,?_⟩;have:=go_left o (List.getElem?_eq_getElem hk) h;rw [lfV,List.getElem?_eq_getElem hk]
  show 0<(m.ws[k].todo.length:Int)-m.ws[k].ended;omega
 ·rintro ⟨k,hk,h⟩
  refine Classical.byContradiction fun hn=>?_
  have hz:∀ k,¬goB m k:=fun j hj=>by
   by_cases e:j<m.ws.length
   ·exact hn ⟨j,e,hj⟩
   ·rw [goB,stepM,if_neg (by omega),Int.toNat_natCast,List.getElem?_eq_none (by omega),stV,List.getElem?_eq_none (by omega)] at hj
    rcases hj with hj|hj
    ·cases hj
    ·exact absurd hj (by decide)
  have:=goes0 o hz (List.getElem?_eq_getElem hk);rw [lfV,List.getElem?_eq_getElem hk] at h;replace h:0<(m.ws[k].todo.length:Int)-m.ws[k].ended:=h;omega
set_option maxRecDepth 20000 in
set_option maxHeartbeats 8000000 in
theorem hall_ok (m:MS) (h1:m.h.cl.length<=1000000) (h2:m.h.q.length<=1000000):HCall Tryz.prog 42 [.ptr 1000000 0 0] (mH m) (mH m) (encHA m.h):=by
 have hc:=cloneCl (encCl_ok m.h.cl) (by rw [List.length_map];exact h1);have ht:=cloneTk (encTk_ok m.h.q) (by rw [List.length_map];exact h2);refine hcall_of Tryz.func42 1 rfl (by kernel_rfl) (by rfl) (aP ?_);refine callX_own hc (aP ?_);refine callX_own ht (aP ?_);exact hret_of rfl rfl rfl ⟨rfl,rfl,rfl,trivial⟩
theorem lfV_at {m:MS} {k:Nat} {w:WA} (hk:m.ws[k]?=some w):lfV m k=(w.todo.length:Int)-w.ended:=by rw [lfV,hk]
def evZ:EvA:=⟨0,noMO,(0,zP),0,0,0⟩
def nxG (l:List EvA) (t:List Bool):Nat->Int
 |0=>-1
 |j+1=>if (t[l.length-(j+1)]?.getD true)=false/\ (nxG l t j<0\/ (l[l.length-(j+1)]?.getD evZ).done<= (l[(nxG l t j).toNat]?.getD evZ).done) then ((l.length-(j+1):Nat):Int) else nxG l t j
structure NxS (l:List EvA) (t:List Bool) (j:Nat) (a:Int):Prop where
 out:(a=-1/\ ∀ k,l.length-j<=k->k<l.length->t[k]?=some true) \/
  ∃ i:Nat,a=i/\l.length-j<=i/\i<l.length/\t[i]?=some false/\ ∀ k,l.length-j<=k->k<l.length->t[k]?=some false->(l[i]?.getD evZ).done<= (l[k]?.getD evZ).done
theorem nx_spec {l:List EvA} {t:List Bool} (ht:t.length=l.length):∀ j,j<=l.length->NxS l t j (nxG l t j)
 |0,_=>⟨.inl ⟨rfl,fun k h1 h2=>by omega⟩⟩
 |j+1,hj=>by
  have ih:=(nx_spec ht j (by omega)).out
  have hlt:l.length-(j+1)<t.length:=by omega
  have htk:t[l.length-(j+1)]?=some t[l.length-(j+1)]:=List.getElem?_eq_getElem hlt
  have hk:∀ k,l.length-(j+1) <=k->k=l.length-(j+1) \/l.length-j<=k:=fun k h=>by omega
  rw [nxG]
  split
  ·rename_i hc;obtain ⟨c1,c2⟩:=hc;rw [htk,Option.getD_some] at c1;refine ⟨.inr ⟨l.length-(j+1),rfl,Nat.le_refl _,by omega,by rw [htk,c1],fun k h1 h2 h3=>?_⟩⟩
   rcases hk k h1 with rfl|h4
   ·exact Int.le_refl _
   ·rcases ih with ⟨e,h5⟩|⟨i,e,_,_,_,h5⟩
    ·rw [h5 k h4 h2] at h3;cases h3
    ·rw [e] at c2
     rcases c2 with c2|c2
     ·omega
     ·rw [Int.toNat_natCast] at c2;exact Int.le_trans c2 (h5 k h4 h2 h3)
  ·rename_i hc
   rcases ih with ⟨e,h5⟩|⟨i,e,h6,h7,h8,h5⟩
   ·have c1:t[l.length-(j+1)]=true:=by
     cases q:t[l.length-(j+1)] with
     |true=>rfl
     |false=>exact absurd ⟨by rw [htk,q];rfl,.inl (by rw [e];decide)⟩ hc
    refine ⟨.inl ⟨e,fun k h1 h2=>?_⟩⟩
    rcases hk k h1 with rfl|h4
    ·rw [htk,c1]
    ·exact h5 k h4 h2
   ·refine ⟨.inr ⟨i,e,by omega,h7,h8,fun k h1 h2 h3=>?_⟩⟩
    rcases hk k h1 with rfl|h4
    ·rw [e] at hc
     refine Classical.byContradiction fun hn=>hc ⟨by rw [h3];rfl,.inr ?_⟩
     rw [Int.toNat_natCast];omega
    ·exact h5 k h4 h2 h3
def encBl (b:Bool):List D:=[.bool b]
set_option maxRecDepth 20000 in
set_option maxHeartbeats 16000000 in
theorem next86_ok (l:List EvA) (t:List Bool) (ht:t.length=l.length) (hl:l.length<=1000000):HCall Tryz.prog 91 [.d (.lst (l.map encEvA)),.own 1000000] [(1000000,.row (t.map encBl) 1 false)] [(1000000,.row (t.map encBl) 1 false)] (.int .i64 (nxG l t l.length)):=by
 have hm:(l.map encEvA).length=l.length:=List.length_map ..
 have hmt:(t.map encBl).length=t.length:=List.length_map ..
 refine hcall_of Tryz.func91 2 rfl (by kernel_rfl) (by rfl) (aP ?_);refine aloop (ι:=Nat) (fun j=>[(0,.d (.lst (l.map encEvA))),(1,.own 1000000),(5,.d (.int .i64 (nxG l t j))),(6,.d (.int .i64 ((l.map encEvA).length-((j+1:Nat):Int))))])
  (fun j=>[(1000000,.row (t.map encBl) 1 false)]) (fun j=>j<=l.length) (fun j=>l.length-j) 0 (Nat.zero_le _) (le0 (le_of_cov ⟨rfl,rfl,rfl,rfl,trivial⟩ ⟨rfl,trivial⟩ ⟨rfl,rfl,rfl,rfl⟩)) ?_
 intro j hj;have hS:=(nx_spec ht j hj).out
 conv=>whnf
 refine bcase_p (fun h5=>?_) (fun h5=>?_)<;>conv=>whnf
 ·have hj2:j<l.length:=by omega
  obtain ⟨k,hk⟩:∃ k,l.length-(j+1)=k:=⟨_,rfl⟩
  have hkl:k<l.length:=by omega
  have hkt:k<t.length:=by omega
  have ek:((l.map encEvA).length:Int)-((j+1:Nat):Int)=(k:Int):=by omega
  have ek2:((l.map encEvA).length:Int)-((j+1+1:Nat):Int)=(k:Int)-1:=by omega
  have es:nxG l t (j+1)=if (t[k]?.getD true)=false/\ (nxG l t j<0\/ (l[k]?.getD evZ).done<= (l[(nxG l t j).toNat]?.getD evZ).done) then (k:Int) else nxG l t j:=by rw [nxG,hk]
  rw [List.getElem?_eq_getElem hkt,List.getElem?_eq_getElem hkl,Option.getD_some,Option.getD_some] at es;rw [ek]
  rcases hS with ⟨e,_⟩|⟨i,e,h6,h7,_⟩
  ·rw [e] at es⊢;refine aP ?_;refine idxK_nat (by omega) (w0 ?_);refine getRow_of (x:=encBl t[k]) (by simp [hkt]) (aW ?_)
   refine bcase_intro (fun b1=>?_) (fun b1=>?_)<;>conv=>whnf
   ·rw [if_pos ⟨by simpa using b1,.inl (by decide)⟩] at es;refine aP ?_;refine ⟨j+1,by omega,by omega,?_⟩;rw [es,ek2];exact (le0 (le_of_cov ⟨rfl,rfl,rfl,rfl,trivial⟩ ⟨rfl,trivial⟩ ⟨rfl,rfl,rfl,rfl⟩))
   ·rw [if_neg (fun g=>by rw [g.1] at b1;cases b1)] at es;refine aP ?_;refine ⟨j+1,by omega,by omega,?_⟩;rw [es,ek2];exact (le0 (le_of_cov ⟨rfl,rfl,rfl,rfl,trivial⟩ ⟨rfl,trivial⟩ ⟨rfl,rfl,rfl,rfl⟩))
  ·rw [e,Int.toNat_natCast,List.getElem?_eq_getElem h7,Option.getD_some] at es;rw [e];refine aP ?_;refine idxK_nat (by omega) (w0 ?_);refine getRow_of (x:=encBl t[k]) (by simp [hkt]) (aW ?_)
   refine bcase_intro (fun b1=>?_) (fun b1=>?_)<;>conv=>whnf
   ·refine aP ?_;refine idxK_nat (by omega) (w0 ?_);refine getRow_of (x:=encEvA l[k]) (by simp [hkl]) (aW ?_);refine aP ?_;refine idxK_nat (by omega) (w0 ?_);refine getRow_of (x:=encEvA l[i]) (by simp [h7]) (aW ?_);refine aP ?_
    refine bcase_p (fun c1=>?_) (fun c1=>?_)<;>conv=>whnf
    ·rw [if_pos ⟨by simpa using b1,.inr c1⟩] at es;refine aP ?_;refine ⟨j+1,by omega,by omega,?_⟩;rw [es,ek2];exact (le0 (le_of_cov ⟨rfl,rfl,rfl,rfl,trivial⟩ ⟨rfl,trivial⟩ ⟨rfl,rfl,rfl,rfl⟩))
    ·rw [if_neg (fun g=>by have:=g.2;omega)] at es;refine aP ?_;refine ⟨j+1,by omega,by omega,?_⟩;rw [es,ek2];exact (le0 (le_of_cov ⟨rfl,rfl,rfl,rfl,trivial⟩ ⟨rfl,trivial⟩ ⟨rfl,rfl,rfl,rfl⟩))
   ·rw [if_neg (fun g=>by rw [g.1] at b1;cases b1)] at es;refine aP ?_;refine ⟨j+1,by omega,by omega,?_⟩;rw [es,ek2];exact (le0 (le_of_cov ⟨rfl,rfl,rfl,rfl,trivial⟩ ⟨rfl,trivial⟩ ⟨rfl,rfl,rfl,rfl⟩))
 ·have hjl:j=l.length:=by omega
  subst hjl;refine aP ?_;exact hret_of rfl rfl rfl ⟨rfl,trivial⟩
theorem kids:Kids Tryz.prog (·<Tryz.prog.types.size):=kids_rows (by kernel_rfl) (by kernel_rfl)
theorem sizes:∀ t e,t<Tryz.prog.types.size->Tryz.prog.underlying t=some (.slice e)->0<Tryz.prog.cellsOf e:=sliceSize_out (by kernel_rfl)
theorem own:ownKnob Tryz.prog.godebug=none:=by kernel_rfl
theorem fit_pg {m:Nat} {ds:List D} (h:Fit T m 57 ds):∃ x:Pg,ds=encP x/\True:=by
 obtain ⟨k,a,r,rfl,ha,b,r2,rfl,hb,c,r3,rfl,hc,rfl⟩:=fit_struct (fs:=[(0,3),(1,3),(2,9)]) rfl h;obtain ⟨x,rfl,_⟩:=fit_int (k:=.i64) rfl ha;obtain ⟨y,rfl,_⟩:=fit_int (k:=.i64) rfl hb;obtain ⟨z,rfl,_⟩:=fit_str rfl hc;exact ⟨(x,y,z),rfl,trivial⟩
theorem fit_mo {m:Nat} {ds:List D} (h:Fit T m 75 ds):∃ x:MOp,ds=encMO x/\True:=by
 obtain ⟨k,a,r,rfl,ha,b,r2,rfl,hb,c,r3,rfl,hc,rfl⟩:=fit_struct (fs:=[(0,3),(1,3),(2,9)]) rfl h;obtain ⟨x,rfl,_⟩:=fit_int (k:=.i64) rfl ha;obtain ⟨y,rfl,_⟩:=fit_int (k:=.i64) rfl hb;obtain ⟨z,rfl,_⟩:=fit_str rfl hc;exact ⟨(x,y,z),rfl,trivial⟩
theorem fit_td {m:Nat} {ds:List D} (h:Fit T m 83 ds):∃ x:List MOp,ds=encTd x/\x.length<=9223372036854775807:=by
 obtain ⟨l,rfl,b,_⟩:=fit_rows (f:=encMO) (Q:=fun _=>True) (e:=75) rfl h fun m x h=>fit_mo h
 exact ⟨l,rfl,b⟩
theorem pages_arg {n:Nat} {d:D} (h:FitV T n 22 d):∃ l:List Pg,d=.lst (l.map encP) /\l.length<=9223372036854775807:=by
 obtain ⟨l,rfl,b,_⟩:=fitV_rows (f:=encP) (Q:=fun _=>True) (e:=57) rfl h fun m x h=>fit_pg h
 exact ⟨l,rfl,b⟩
theorem work_arg {n:Nat} {d:D} (h:FitV T n 23 d):∃ l:List (List MOp),d=.lst (l.map encTd) /\l.length<=9223372036854775807/\ ∀ x∈l,x.length<=9223372036854775807:=by
 obtain ⟨l,rfl,b,q⟩:=fitV_rows (f:=encTd) (Q:=fun x=>x.length<=9223372036854775807) (e:=83) rfl h fun m x h=>fit_td h
 exact ⟨l,rfl,b,q⟩
theorem u8_arg {n:Nat} {d:D} (h:FitV T n 5 d):∃ a:Int,d=.int .u8 a/\0<=a/\a<=255:=by
 obtain ⟨a,rfl,w⟩:=fitV_int (k:=.u8) rfl h;exact ⟨a,rfl,(wf_u8 w).1,(wf_u8 w).2⟩
theorem faults_arg {n:Nat} {d:D} (h:FitV T n 64 d):∃ l:List Bool,d=.lst (l.map encBl) /\l.length<=9223372036854775807:=by
 obtain ⟨l,rfl,b,_⟩:=fitV_rows (f:=encBl) (Q:=fun _=>True) (e:=4) rfl h fun m x h=>by
  obtain ⟨x,rfl⟩:=fit_bool rfl h;exact ⟨x,rfl,trivial⟩
 exact ⟨l,rfl,b⟩
end Go.Lk
