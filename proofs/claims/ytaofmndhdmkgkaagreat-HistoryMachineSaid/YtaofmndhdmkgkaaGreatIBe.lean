/-
  What is proved here: what functions of the program compute, and what follows; no condition beyond each theorem's own.
-/
import Derived.Test.YtaofmndhdmkgkaaGreatIAp
import Derived.Test.YtaofmndhdmkgkaaGreatIBa
import Derived.Test.YtaofmndhdmkgkaaGreatIBb
set_option linter.unusedSimpArgs false
set_option linter.unusedVariables false
set_option linter.unnecessarySimpa false
set_option linter.unusedSectionVars false
namespace Go.Lk
open Go Go.Proofs Go.RowKit
def putD (s:List ByteArray) (x:Pg):List ByteArray:=setD s x.1.toNat ((putB x).extract 0 16) ((putB x).extract 16 32)
def rmD (s:List ByteArray) (p:Nat):List ByteArray:=setD s p ((nulB 32).extract 0 16) ((nulB 32).extract 16 32)
noncomputable def getR (s:List ByteArray) (p:Nat):Pg×Int:=
 if (zFd (raw s p)).2≠0 then (zP,(zFd (raw s p)).2) else if (zFd (raw s p)).1.1≠(p:Int) then (zP,9) else ((zFd (raw s p)).1,0)
theorem yIf {s:List ByteArray} (h:Rest s) {p:Nat} (h1:1<=p) (h16:p<=16):getS ⟨s,[]⟩ p=getR s p:=by
 rw [yAx ⟨h.us,by omega,by omega⟩]
 have e:rdS ⟨s,[]⟩ (2*(p:Int)+1)++rdS ⟨s,[]⟩ (2*(p:Int)+1+1)=raw s p:=by
  simp only [rdS,pick,List.foldl_nil,raw];rw [show (2*(p:Int)+1).toNat=2*p+1 by omega,show (2*(p:Int)+1+1).toNat=2*p+2 by omega]
 rw [e,getR]
theorem zTu {s:List ByteArray} (h:Rest s) {p:Nat} (h1:1<=p) (h16:p<=16) {x:ByteArray} (hx:x.size=32):zEl ⟨s,[]⟩ p x=(⟨setD s p (x.extract 0 16) (x.extract 16 32),[]⟩,0) /\zGo ⟨s,[]⟩ p x=(zGe p x,0):=by
 have e:zGo ⟨s,[]⟩ p x=(zGe p x,0):=by rw [zGo,if_pos ⟨h.us,⟨by omega,by omega⟩,hx⟩,Int.toNat_natCast]
 refine ⟨?_,e⟩;rw [zEl,e,if_pos rfl,runM];simp only [Int.toNat_natCast,List.take_length];rw [zLb h h1 h16 hx]
theorem zVk {x:Pg} (h:pgR x=true):∃ p:Nat,x.1=(p:Int) /\1<=p/\p<=16:=by
 have:=pgR_out.1 h;exact ⟨x.1.toNat,by omega,by omega,by omega⟩
theorem zLg {s:List ByteArray} (h:Rest s) {x:Pg} (hx:pgR x=true):setS ⟨s,[]⟩ x=(⟨putD s x,[]⟩,0) /\zHq ⟨s,[]⟩ x=zGe x.1.toNat (putB x) /\Rest (putD s x) /\ (putD s x).length=s.length:=by
 have hv:=pgR_out.1 hx;obtain ⟨p,ep,h1,h16⟩:=zVk hx;have hz:=zDv hv.2.2.2.2;obtain ⟨z1,z2⟩:=zZq hz;obtain ⟨c1,c2⟩:=zTu h h1 h16 hz;refine ⟨?_,?_,Rest.setD h z1 z2,yCl _ _ _ _⟩
 ·rw [setS,if_pos hx,ep,c1,putD,ep,Int.toNat_natCast]
 ·rw [zHq,if_pos (.inl (by omega)),if_pos hx,ep,c2,Int.toNat_natCast]
theorem z3d {s:List ByteArray} (h:Rest s) {p:Nat} (h1:1<=p) (h16:p<=16):delD ⟨s,[]⟩ p=(⟨rmD s p,[]⟩,0) /\zHq ⟨s,[]⟩ ((p:Int),0,ByteArray.empty)=zGe p (nulB 32) /\Rest (rmD s p) /\ (rmD s p).length=s.length:=by
 have hz:(nulB 32).size=32:=zCj 32;obtain ⟨z1,z2⟩:=zZq hz;obtain ⟨c1,c2⟩:=zTu h h1 h16 hz;refine ⟨by rw [delD,c1];rfl,?_,Rest.setD h z1 z2,yCl _ _ _ _⟩;rw [zHq,if_neg (by simp),c2]
theorem z7r {s:List ByteArray} (h:Rest s) {x:Pg} (hx:pgR x=true) {q:Nat} (h1:1<=q) (h16:q<=16):getR (putD s x) q=if x.1=(q:Int) then (x,0) else getR s q:=by
 obtain ⟨p,ep,p1,p16⟩:=zVk hx;have hz:=zDv (pgR_out.1 hx).2.2.2.2;rw [putD,ep,Int.toNat_natCast]
 by_cases e:p=q
 ·subst e;rw [if_pos rfl,getR,yCg h p1 p16,yHs hz,yPq hx,if_neg (fun q=>q rfl),if_neg (fun q=>q ep)]
 ·rw [if_neg (by omega),getR,z5j h1 e];rfl
theorem yIh {s:List ByteArray} (h:Rest s) {p q:Nat} (p1:1<=p) (p16:p<=16) (h1:1<=q) (h16:q<=16):getR (rmD s p) q=if p=q then (zP,3) else getR s q:=by
 have hz:(nulB 32).size=32:=zCj 32;rw [rmD]
 by_cases e:p=q
 ·subst e;rw [if_pos rfl,getR,yCg h p1 p16,yHs hz,yDb,if_pos (show (3:Int)≠0 by decide)]
 ·rw [if_neg e,getR,z5j h1 e];rfl
theorem zOt:Rest (List.replicate 35 zDg):=⟨by simp,by simp,fun i h=>by rw [List.getElem_replicate];exact zQw⟩
theorem yUm:zDg++zDg=nulB 32:=bl_ext (by
 rw [zHn,show bl zDg=_ from zCz 16,show bl (nulB 32)=_ from zCz 32];rfl)
theorem yIg {q:Nat} (h16:q<=16):getR (List.replicate 35 zDg) q=(zP,3):=by
 have e:raw (List.replicate 35 zDg) q=nulB 32:=by
  simp only [raw,List.getElem?_replicate];rw [if_pos (by omega),if_pos (by omega),Option.getD_some,yUm]
 rw [getR,e,yDb,if_pos (show (3:Int)≠0 by decide)]
theorem yOp {s:List ByteArray} (h:Rest s) (h0:s[0]?.getD ByteArray.empty=zDg):recM ⟨s,[]⟩=⟨s,[]⟩:=by
 have e:zFo ⟨s,[]⟩=[]:=by
  rw [zFo,if_pos h.us,if_pos];exact h0
 rw [recM,e];rfl
theorem z5m {s:List ByteArray} (h:Rest s) {p:Nat} {a b:ByteArray}:(setD s p a b)[0]?.getD ByteArray.empty=zDg:=by
 have:=h.n;simp only [setD,List.getElem?_set,List.length_set]
 rw [if_pos trivial,if_pos (by omega)];rfl
theorem yHw {f:FX} (h:FM f) {p:Int} (hp:p≠0) (hn:∀ i (hi:i<f.fr.length),f.fr[i].1≠p):Tb.findS f.tb p=(0,false):=by
 rcases h.find_cases hp with ⟨e,_⟩|⟨i,_,hA⟩
 ·exact e
 ·exact absurd hA.fr (hn i hA.hi)
theorem zZm {f:FX} (h:FM f) {x:Int×Int} (hx:x∈f.dt):∃ i,AtF f x.1 i:=by
 obtain ⟨k,hk⟩:=h.dirty x hx;have hv:=yCi h.dt hx;obtain ⟨i,_,hi,e⟩:=h.frame hv.1 hk;exact ⟨i,zEd h (by omega) hi e⟩
theorem yOb {f:FX} (h:FM f) {p t:Int} (hp1:1<=p) (hp16:p<=16) (h0:0<=t) (h1:t<=2147483647) (hn:∀ i (hi:i<f.fr.length),f.fr[i].1≠p) (ht:∀ x∈f.dt,x.2<=t):Dt.markG f.dt p t=(f.dt++[(p,t)],0):=by
 have hpl:¬0<=Dt.placeG f.dt p 0:=fun q=>by
  obtain ⟨x,hx,e⟩:=Dt.placeG_mem.1 q;obtain ⟨i,hA⟩:=zZm h hx;exact hn i hA.hi (hA.fr.trans e)
 have hl:Dt.lateB f.dt t=false:=by
  unfold Dt.lateB
  by_cases hz:0<f.dt.length
  ·have hm:=List.getElem_mem (show f.dt.length-1<f.dt.length by omega);have:=ht _ hm;rw [List.getElem?_eq_getElem (by omega),Option.getD_some]
   simp;omega
  ·simp [hz]
 rw [Dt.markG,if_neg,if_neg (by rw [hl];decide),if_neg hpl];intro q
 rcases q with q|q|q
 ·rw [h.dt] at q;cases q
 ·simp [Dt.pageB] at q;omega
 ·simp [Dt.timeB] at q;omega
theorem yBl {f:FX} (h:FM f) {p t:Int} (hp1:1<=p) (hp16:p<=16) (h0:0<=t) (h1:t<=2147483647) (hd:0<=Dt.placeG f.dt p 0) (ht:∀ x∈f.dt,x.2<=t):Dt.markG f.dt p t=(f.dt,0):=by
 have hl:Dt.lateB f.dt t=false:=by
  unfold Dt.lateB
  by_cases hz:0<f.dt.length
  ·have hm:=List.getElem_mem (show f.dt.length-1<f.dt.length by omega);have:=ht _ hm;rw [List.getElem?_eq_getElem (by omega),Option.getD_some]
   simp;omega
  ·simp [hz]
 rw [Dt.markG,if_neg,if_neg (by rw [hl];decide),if_pos hd];intro q
 rcases q with q|q|q
 ·rw [h.dt] at q;cases q
 ·simp [Dt.pageB] at q;omega
 ·simp [Dt.timeB] at q;omega
theorem yNy {f:FX} {p:Pg} {now:Int} (fresh:Bool) (h:FM f) (hp:pgR p=true) (h0:0<=now) (h1:now<=2147483647) (hn:∀ i (hi:i<f.fr.length),f.fr[i].1≠p.1) (hf:∃ i,∃ hi:i<f.fr.length,f.fr[i].1=0) (ht:∀ x∈f.dt,x.2<=now):
  ∃ i,∃ hi:i<f.fr.length,f.fr[i].1=0/\zGn f p now fresh=({inS f p i with dt:=bif fresh then f.dt++[(p.1,now)] else f.dt},0) /\
   FM {inS f p i with dt:=bif fresh then f.dt++[(p.1,now)] else f.dt} /\AtF {inS f p i with dt:=bif fresh then f.dt++[(p.1,now)] else f.dt} p.1 i:=by
 have hv:=pgR_out.1 hp;have hfn:=yHw h (show p.1≠0 by omega) hn
 rcases zGz f.fr with ⟨_,hno⟩|⟨i,e,hi,hz⟩
 ·obtain ⟨i,hi,hz⟩:=hf;exact absurd hz (hno i hi)
 have hmk:=yOb h hv.1 hv.2.1 h0 h1 hn ht;obtain ⟨l',e1,_⟩:=yTk h hv.1 hv.2.1 hi hfn
 have hM:=FM.loaded (l:=bif fresh then f.dt++[(p.1,now)] else f.dt) h hp hi hz hfn (by
  cases fresh with
  |false=>exact h.dt
  |true=>
   have:=Dt.mark_keeps (l:=f.dt) (p:=p.1) (t:=now) (by rw [hmk])
   rwa [hmk] at this) (by
  intro y hy
  cases fresh with
  |false=>exact .inl hy
  |true=>
   rcases List.mem_append.1 hy with q|q
   ·exact .inl q
   ·rw [List.mem_singleton] at q;subst q;exact .inr rfl)
 refine ⟨i,hi,hz,?_,hM.1,hM.2⟩;rw [zGn,if_neg,hfn,if_neg (show ¬false=true by decide),e,if_neg (show ¬true=false by decide),Int.toNat_natCast,e1,if_neg (fun q=>q rfl)]
 ·cases fresh with
  |false=>rw [if_neg (by decide)];rfl
  |true=>rw [if_pos rfl,hmk,if_neg (fun q=>q rfl)];rfl
 ·intro q
  rcases q with q|q|q|q
  ·exact q (zGg.2 h)
  ·rw [hp] at q;cases q
  ·omega
  ·omega
theorem z4k {p:PS} (h:FM p.f) (hno:∀ i (hi:i<p.f.fr.length),p.f.fr[i].1≠0) (hpin:∀ i (hi:i<p.f.fr.length),p.f.fr[i].2.1≠0):zFi p=(p,[],6):=by
 rcases zDy h with ⟨i,hi,hz,e⟩|⟨_,_,e⟩|⟨_,l,a,q,hA,_,_,h0,_⟩
 ·exact absurd hz (hno i hi)
 ·show mrM (16+1) p []=_;rw [mrM,e,if_pos (show (6:Int)≠0 by decide)]
 ·exact absurd h0 (hpin a hA.hi)
theorem zRl {f:FX} {p:Int} {i:Nat} (hA:AtF f p i) (hp:(f.fr[i]'hA.hi).2.1≠0):zEg f p=(zRm f i (zGd (f.fr[i]'hA.hi)),0):=by
 have hR:=hA.right
 have e:zCc f p=((i:Int),0):=by
  rw [zCc,if_pos (zGg.2 hR),(zCa hR.tb).2 ⟨hA.p1,hA.mem⟩];rfl
 rw [zEg,e,if_neg (fun q=>q rfl),Int.toNat_natCast,zCg hA.hi,if_neg hp]
theorem yC {f:FX} {p:Int} {i:Nat} (hA:AtF f p i) (hp:(f.fr[i]'hA.hi).2.1<2147483647):pinS f p=(zRm f i (z1z (f.fr[i]'hA.hi)),0):=by
 have hR:=hA.right
 have e:zCc f p=((i:Int),0):=by
  rw [zCc,if_pos (zGg.2 hR),(zCa hR.tb).2 ⟨hA.p1,hA.mem⟩];rfl
 rw [pinS,e,if_neg (fun q=>q rfl),Int.toNat_natCast,zCg hA.hi,if_neg (by omega)]
structure PJ (p:PS):Prop where
 fm:FM p.f
 rest:Rest p.d.sec
 ca:p.d.ca=[]
 z0:p.d.sec[0]?.getD ByteArray.empty=zDg
 n0:0<=p.now
 n1:p.now<=2147483647
 dt:∀ x∈p.f.dt,x.2<=p.now
theorem PJ.d {p:PS} (h:PJ p):p.d=⟨p.d.sec,[]⟩:=by
 obtain ⟨f,⟨s,c⟩,n⟩:=p;have:=h.ca;simp only at this;subst this;rfl
theorem PJ.get {p:PS} (h:PJ p) {q:Nat} (h1:1<=q) (h16:q<=16):getS p.d q=getR p.d.sec q:=by
 have:=yIf h.rest h1 h16
 rw [<-h.d] at this;exact this
def pg1' (id:Int):Pg:=(id,1,ByteArray.empty)
theorem yBz {id:Int} (h1:1<=id) (h16:id<=16):pgR (pg1' id)=true:=pgR_out.2 ⟨h1,h16,show (1:Int) <=1 by decide,show (1:Int) <=2147483647 by decide,show ByteArray.empty.size<=16 by decide⟩
theorem zIi {p:PS} {k id:Int} {b:ByteArray} (h1:1<=id) (h16:id<=16) (hk:k=3\/k=4\/k=5):zBb p (k,id,b)=((zCu p (k,id,b)).1,(zCu p (k,id,b)).2.1,[],(zCu p (k,id,b)).2.2):=by
 rw [zBb,if_neg (by simp only [];omega),if_neg (by simp only [];omega),if_neg (by simp only [];omega),if_neg (by simp only [];omega),if_neg (by simp only [];omega),if_neg (by simp only [];omega),if_neg (by simp only [];omega)]
theorem zYa {p r:PS} {l:List Jo} {x:Pg} (hm:zFi p=(r,l,0)) (hr:FM r.f) (hx:pgR x=true) (h0:0<=r.now) (h1:r.now<=2147483647) (fresh:Bool) (hn:∀ i (hi:i<r.f.fr.length),r.f.fr[i].1≠x.1) (hf:∃ i,∃ hi:i<r.f.fr.length,r.f.fr[i].1=0) (ht:∀ y∈r.f.dt,y.2<=r.now):
  ∃ i,∃ hi:i<r.f.fr.length,r.f.fr[i].1=0/\zDf p x fresh=(⟨{inS r.f x i with dt:=bif fresh then r.f.dt++[(x.1,r.now)] else r.f.dt},r.d,r.now⟩,x,l,0) /\
   FM {inS r.f x i with dt:=bif fresh then r.f.dt++[(x.1,r.now)] else r.f.dt} /\AtF {inS r.f x i with dt:=bif fresh then r.f.dt++[(x.1,r.now)] else r.f.dt} x.1 i:=by
 obtain ⟨i,hi,hz,e,m1,m2⟩:=yNy fresh hr hx h0 h1 hn hf ht;refine ⟨i,hi,hz,?_,m1,m2⟩;rw [zDf,hm,if_neg (fun q=>q rfl)];simp only [];rw [e,if_neg (fun q=>q rfl)]
theorem zLa {p:PS} {a:PAct} {i:Nat} (hA:AtF p.f a.2.1 i) (hp:(p.f.fr[i]'hA.hi).2.1≠0):zCu p a=
  if a.1=4 then (if (zBr p.f a.2.1 a.2.2 p.now).2≠0 then (p,zP,(zBr p.f a.2.1 a.2.2 p.now).2) else (⟨(zBr p.f a.2.1 a.2.2 p.now).1,p.d,p.now⟩,atP (zBr p.f a.2.1 a.2.2 p.now).1.pg i,0))
  else if a.1=5 then (if (zEg p.f a.2.1).2≠0 then (p,zP,(zEg p.f a.2.1).2) else (⟨(zEg p.f a.2.1).1,p.d,p.now⟩,zP,0))
  else (p,p.f.pg[i]'hA.hp,0):=by
 rw [zCu,findF_at hA,if_neg,Int.toNat_natCast,zDq hA.hp];rintro (g|g)
 ·cases g
 ·rw [Int.toNat_natCast,zCg hA.hi] at g;exact hp g
def ud {α:Type} (P:Nat->α) (q:Nat) (x:α):Nat->α:=fun k=>if k=q then x else P k
theorem zDk {α:Type} (P:Nat->α) (q:Nat) (x:α):ud P q x q=x:=if_pos rfl
theorem zDo {α:Type} (P:Nat->α) {q k:Nat} (x:α) (h:k≠q):ud P q x k=P k:=if_neg h
structure OnD (s:List ByteArray) (l:List (Int×Int)) (P:Nat->Pg) (v:Int):Prop where
 dsk:∀ q:Nat,1<=q->q<=16->(∀ x∈l,x.1≠(q:Int))->getR s q=if (P q).1=0 then (zP,3) else (P q,0)
 okp:∀ q:Nat,1<=q->q<=16->P q=zP\/ (pgR (P q)=true/\ (P q).1=(q:Int))
 vb:∀ q,(P q).2.1<=v
structure Inv (p:PS) (P:Nat->Pg) (W:Nat->Int) (v u:Int):Prop where
 pj:PJ p
 pins:zDc p.f.fr W
 at_:∀ (q:Nat) (i:Nat) (hA:AtF p.f (q:Int) i),p.f.pg[i]'hA.hp=P q
 on:OnD p.d.sec p.f.dt P v
 ub:∀ q,W q<=u
theorem OnD.nz {s l P v} (h:OnD s l P v) {q:Nat} (h1:1<=q) (h16:q<=16) (hz:(P q).1≠0):pgR (P q)=true/\ (P q).1=(q:Int):=by
 rcases h.okp q h1 h16 with e|e
 ·rw [e] at hz;exact absurd rfl hz
 ·exact e
theorem Inv.out {p P W v u} (h:Inv p P W v u) {q:Nat} (h1:1<=q) (hn:∀ i (hi:i<p.f.fr.length),p.f.fr[i].1≠(q:Int)):∀ x∈p.f.dt,x.1≠(q:Int):=fun x hx e=>by
 obtain ⟨i,hA⟩:=zZm h.pj.fm hx;exact hn i hA.hi (hA.fr.trans e)
theorem Inv.wout {p P W v u} (h:Inv p P W v u) {q:Nat} (h1:1<=q) (h16:q<=16) (hn:∀ i (hi:i<p.f.fr.length),p.f.fr[i].1≠(q:Int)):W q=0:=by
 rcases h.pins q h1 h16 with ⟨i,hi,e,_⟩|⟨_,e⟩
 ·exact absurd e (hn i hi)
 ·exact e
theorem Inv.wat {p P W v u} (h:Inv p P W v u) {q i:Nat} (hA:AtF p.f (q:Int) i):W q=(p.f.fr[i]'hA.hi).2.1:=by
 have:=h.pins.at hA
 rwa [Int.toNat_natCast] at this
theorem Inv.swp {p P W v u} (h:Inv p P W v u) {l:List Fr} {a:Nat} (hs:Swp p.f.fr p.f.hand.toNat l a):Inv ⟨zIa p.f (l,a),p.d,p.now⟩ P W v u:=by
 obtain ⟨o1,o2,o3,o4⟩:=hs.out;have hm:=h.pj.fm.swp (q:=(l,a)) hs;refine ⟨⟨hm,h.pj.rest,h.pj.ca,h.pj.z0,h.pj.n0,h.pj.n1,h.pj.dt⟩,zDc.same h.pins o1 o3,fun q i hA=>?_,h.on,h.ub⟩;have hi:i<l.length:=hA.hi
 have hq:(q:Int)≠0:=by have:=hA.p1;omega
 have e:l[i].1=(q:Int):=hA.fr;exact h.at_ q i (zEd h.pj.fm hq (by omega) (by rw [<-(o3 i (by omega) hi).1];exact e))
theorem Inv.clean {p P W v u} (h:Inv p P W v u) {q i:Nat} (hA:AtF p.f (q:Int) i):Inv ⟨zJu p.f q,⟨putD p.d.sec (p.f.pg[i]'hA.hp),[]⟩,p.now⟩ P W v u:=by
 have hm:=zNr h.pj.fm q;obtain ⟨s1,s2,s3,s4⟩:=zLg h.pj.rest hA.pgr;have hpg:=hA.pg
 have hq:1<=q:=by have:=hA.p1;omega
 refine ⟨⟨hm,s3,rfl,z5m h.pj.rest,h.pj.n0,h.pj.n1,fun x hx=>h.pj.dt x (List.mem_filter.1 hx).1⟩,h.pins,fun k j hB=>?_,⟨fun k h1 h16 hn=>?_,h.on.okp,h.on.vb⟩,h.ub⟩
 ·exact h.at_ k j (zEd h.pj.fm (by have:=hB.p1;omega) hB.hi hB.fr)
 ·show getR (putD p.d.sec (p.f.pg[i]'hA.hp)) k=_;rw [z7r h.pj.rest hA.pgr h1 h16]
  by_cases e:(p.f.pg[i]'hA.hp).1=(k:Int)
  ·rw [if_pos e]
   have ek:q=k:=by omega
   subst ek;rw [<-h.at_ q i hA,if_neg (by omega)]
  ·rw [if_neg e]
   refine h.on.dsk k h1 h16 fun x hx ex=>hn x (List.mem_filter.2 ⟨hx,?_⟩) ex
   simp only [bne_iff_ne,ne_eq];omega
theorem Inv.rel {p P W v u} (h:Inv p P W v u) {q i:Nat} (hA:AtF p.f (q:Int) i) (h0:(p.f.fr[i]'hA.hi).2.1=0) {s':List ByteArray} {P':Nat->Pg} (hs:Rest s') (hz:s'[0]?.getD ByteArray.empty=zDg)
  (hP:∀ k,k≠q->P' k=P k) (hg:∀ k,1<=k->k<=16->k≠q->getR s' k=getR p.d.sec k) (hq:getR s' q=if (P' q).1=0 then (zP,3) else (P' q,0)) (hok:P' q=zP\/ (pgR (P' q)=true/\ (P' q).1=(q:Int))) (hv:(P' q).2.1<=v):
  Inv ⟨relS p.f i q,⟨s',[]⟩,p.now⟩ P' W v u:=by
 have hm:=FM.rel hA
 have hq1:1<=q:=by have:=hA.p1;omega
 have hi:=hA.hi;obtain ⟨c1,c2⟩:=zJd (p:=(q:Int)) h.pj.fm.dt;have hd:∀ x,x∈(relS p.f i q).dt↔x∈p.f.dt/\x.1≠(q:Int):=c2;have hfr:(relS p.f i q).fr=p.f.fr.set i (0,0,false):=rfl;have hpg:(relS p.f i q).pg=p.f.pg.set i noPg:=rfl;refine ⟨⟨hm,hs,rfl,hz,h.pj.n0,h.pj.n1,fun x hx=>h.pj.dt x ((hd x).1 hx).1⟩,?_,fun k j hB=>?_,⟨fun k h1 h16 hn=>?_,fun k h1 h16=>?_,fun k=>?_⟩,h.ub⟩
 ·show zDc (p.f.fr.set i (0,0,false)) W
  refine zDc.set h.pins hi hA.uniq fun k h1 h16=>⟨fun e=>?_,fun _ e=>?_,fun _ _=>rfl⟩
  ·have e:(0:Int)=k:=e;omega
  ·have ek:k=q:=by rw [hA.fr] at e;omega
   subst ek;rw [h.wat hA,h0]
 ·have hj:j<(p.f.fr.set i (0,0,false)).length:=hB.hi;have ef:(p.f.fr.set i (0,0,false))[j].1=(k:Int):=hB.fr;have hk1:=hB.p1
  have hne:i≠j:=fun e=>by
   subst e;rw [List.getElem_set_self] at ef;have ef:(0:Int)=k:=ef;omega
  rw [List.getElem_set_ne hne] at ef
  have hj':j<p.f.fr.length:=by rw [List.length_set] at hj;exact hj
  have hC:=zEd h.pj.fm (by omega) hj' ef;have hj2:j<(p.f.pg.set i noPg).length:=hB.hp;show (p.f.pg.set i noPg)[j]'hj2=_;rw [List.getElem_set_ne hne,h.at_ k j hC,hP];intro e;subst e;exact hne (hA.uni hj' ef).symm
 ·show getR s' k=_
  by_cases e:k=q
  ·subst e;exact hq
  ·rw [hg k h1 h16 e,hP k e]
   exact h.on.dsk k h1 h16 fun x hx ex=>hn x ((hd x).2 ⟨hx,by omega⟩) ex
 ·by_cases e:k=q
  ·subst e;exact hok
  ·rw [hP k e];exact h.on.okp k h1 h16
 ·by_cases e:k=q
  ·subst e;exact hv
  ·rw [hP k e];exact h.on.vb k
theorem Inv.rel0 {p P W v u} (h:Inv p P W v u) {q i:Nat} (hA:AtF p.f (q:Int) i) (h0:(p.f.fr[i]'hA.hi).2.1=0) (hn:∀ x∈p.f.dt,x.1≠(q:Int)):Inv ⟨relS p.f i q,p.d,p.now⟩ P W v u:=by
 have hq1:1<=q:=by have:=hA.p1;omega
 have hq16:q<=16:=by have:=hA.p16;omega
 have:=h.rel hA h0 (s':=p.d.sec) (P':=P) h.pj.rest h.pj.z0 (fun _ _=>rfl) (fun _ _ _ _=>rfl) (h.on.dsk q hq1 hq16 hn) (h.on.okp q hq1 hq16) (h.on.vb q)
 rw [<-h.pj.d] at this;exact this
theorem Inv.rm {p P W v u} (h:Inv p P W v u) {q:Nat} (h1:1<=q) (h16:q<=16) (hv:0<=v) (hn:∀ i (hi:i<p.f.fr.length),p.f.fr[i].1≠(q:Int)):Inv ⟨p.f,⟨rmD p.d.sec q,[]⟩,p.now⟩ (ud P q zP) W v u:=by
 obtain ⟨d1,d2,d3,d4⟩:=z3d h.pj.rest h1 h16;refine ⟨⟨h.pj.fm,d3,rfl,z5m h.pj.rest,h.pj.n0,h.pj.n1,h.pj.dt⟩,h.pins,fun k j hA=>?_,⟨fun k k1 k16 hk=>?_,fun k k1 k16=>?_,fun k=>?_⟩,h.ub⟩
 ·have:k≠q:=fun e=>by subst e;exact hn j hA.hi hA.fr
  rw [zDo _ _ this];exact h.at_ k j hA
 ·show getR (rmD p.d.sec q) k=_;rw [yIh h.pj.rest h1 h16 k1 k16]
  by_cases e:q=k
  ·subst e;rw [if_pos rfl,zDk,if_pos (show zP.1=0 from rfl)]
  ·rw [if_neg e,zDo _ _ (fun q=>e q.symm)];exact h.on.dsk k k1 k16 hk
 ·by_cases e:k=q
  ·subst e;rw [zDk];exact .inl rfl
  ·rw [zDo _ _ e];exact h.on.okp k k1 k16
 ·by_cases e:k=q
  ·subst e;rw [zDk];exact hv
  ·rw [zDo _ _ e];exact h.on.vb k
theorem Inv.pin {p P W v u} (h:Inv p P W v u) {q i:Nat} (hA:AtF p.f (q:Int) i) {y:Fr} (hy:frOk y=true) (h1:y.1=(q:Int)) {u':Int} (hu:y.2.1<=u') (huu:u<=u'):Inv ⟨zRm p.f i y,p.d,p.now⟩ P (ud W q y.2.1) v u':=by
 have hm:=FM.pins hA hy h1;have hi:=hA.hi;refine ⟨⟨hm,h.pj.rest,h.pj.ca,h.pj.z0,h.pj.n0,h.pj.n1,h.pj.dt⟩,?_,fun k j hB=>?_,h.on,fun k=>?_⟩
 ·show zDc (p.f.fr.set i y) _
  refine zDc.set h.pins hi hA.uniq fun k k1 k16=>⟨fun e=>?_,fun e1 e2=>?_,fun e1 e2=>?_⟩
  ·have:k=q:=by omega
   subst this;exact zDk _ _ _
  ·rw [hA.fr] at e2;omega
  ·exact zDo _ _ (by omega)
 ·have hj:j<(p.f.fr.set i y).length:=hB.hi;have ef:(p.f.fr.set i y)[j].1=(k:Int):=hB.fr
  have hj':j<p.f.fr.length:=by rw [List.length_set] at hj;exact hj
  refine h.at_ k j (zEd h.pj.fm (by have:=hB.p1;omega) hj' ?_)
  by_cases e:i=j
  ·subst e;rw [List.getElem_set_self] at ef;rw [hA.fr,<-h1,ef]
  ·rw [List.getElem_set_ne e] at ef;exact ef
 ·by_cases e:k=q
  ·subst e;rw [zDk];exact hu
  ·rw [zDo _ _ e];have:=h.ub k;omega
theorem Inv.load {p P W v u} (h:Inv p P W v u) {q i:Nat} (h1:1<=q) (h16:q<=16) (hi:i<p.f.fr.length) (hz:p.f.fr[i].1=0) (hn:∀ j (hj:j<p.f.fr.length),p.f.fr[j].1≠(q:Int)) {x:Pg} (hx:pgR x=true) (hxq:x.1=(q:Int)) (fresh:Bool) (hf:fresh=false->x=P q) (hv:x.2.1<=v) (hu:1<=u)
  (hm:FM {inS p.f x i with dt:=bif fresh then p.f.dt++[(x.1,p.now)] else p.f.dt}):
  Inv ⟨{inS p.f x i with dt:=bif fresh then p.f.dt++[(x.1,p.now)] else p.f.dt},p.d,p.now⟩ (ud P q x) (ud W q 1) v u:=by
 refine ⟨⟨hm,h.pj.rest,h.pj.ca,h.pj.z0,h.pj.n0,h.pj.n1,fun y hy=>?_⟩,?_,fun k j hB=>?_,⟨fun k k1 k16 hk=>?_,fun k k1 k16=>?_,fun k=>?_⟩,fun k=>?_⟩
 ·cases fresh with
  |false=>exact h.pj.dt y hy
  |true=>
   rcases List.mem_append.1 hy with e|e
   ·exact h.pj.dt y e
   ·rw [List.mem_singleton] at e;subst e;exact Int.le_refl _
 ·show zDc (p.f.fr.set i (x.1,1,true)) _
  refine zDc.set h.pins hi (fun j hj e0 e1=>absurd (e1.trans hz) e0) fun k k1 k16=>⟨fun e=>?_,fun _ e=>?_,fun e _=>?_⟩
  ·have e:x.1=(k:Int):=e
   have:k=q:=by omega
   subst this;exact zDk _ _ _
  ·rw [hz] at e;omega
  ·have e:x.1≠(k:Int):=e;exact zDo _ _ (by omega)
 ·have hj:j<(p.f.fr.set i (x.1,1,true)).length:=hB.hi;have ef:(p.f.fr.set i (x.1,1,true))[j].1=(k:Int):=hB.fr
  have hj':j<p.f.fr.length:=by rw [List.length_set] at hj;exact hj
  have hk1:=hB.p1;have hj2:j<(p.f.pg.set i x).length:=hB.hp;show (p.f.pg.set i x)[j]'hj2=_
  by_cases e:i=j
  ·subst e;rw [List.getElem_set_self] at ef⊢;have ef:x.1=(k:Int):=ef
   have:k=q:=by omega
   subst this;rw [zDk]
  ·rw [List.getElem_set_ne e] at ef⊢
   have:k≠q:=fun e2=>by subst e2;exact hn j hj' ef
   rw [zDo _ _ this];exact h.at_ k j (zEd h.pj.fm (by omega) hj' ef)
 ·have hk':∀ y∈p.f.dt,y.1≠(k:Int):=fun y hy=>hk y (by
   cases fresh with
   |false=>exact hy
   |true=>exact List.mem_append_left _ hy)
  by_cases e:k=q
  ·subst e
   cases fresh with
   |true=>exact absurd hxq (hk (x.1,p.now) (List.mem_append_right _ (List.mem_singleton.2 rfl)))
   |false=>
    rw [zDk];have:=h.on.dsk k k1 k16 hk'
    rwa [<-hf rfl] at this
  ·rw [zDo _ _ e];exact h.on.dsk k k1 k16 hk'
 ·by_cases e:k=q
  ·subst e;rw [zDk];exact .inr ⟨hx,hxq⟩
  ·rw [zDo _ _ e];exact h.on.okp k k1 k16
 ·by_cases e:k=q
  ·subst e;rw [zDk];exact hv
  ·rw [zDo _ _ e];exact h.on.vb k
 ·by_cases e:k=q
  ·subst e;rw [zDk];exact hu
  ·rw [zDo _ _ e];exact h.ub k
noncomputable def runL (d:DS) (l:List Jo):DS:=l.foldl zEc d
theorem yCj (d:DS) (a b:List Jo):runL d (a++b)=runL (runL d a) b:=List.foldl_append ..
theorem yLt {p P W v u} (h:Inv p P W v u) {q i:Nat} (hA:AtF p.f (q:Int) i) (hd:∃ x∈p.f.dt,x.1=(q:Int)):
  ∃ p' l,wbM p q=(p',l,0) /\Inv p' P W v u/\p'.f=zJu p.f q/\p'.now=p.now/\runL p.d l=p'.d/\l.length=10:=by
 have hpg:=hA.pg;obtain ⟨s1,s2,s3,s4⟩:=zLg h.pj.rest hA.pgr;have hw:=yWg hA;rw [if_pos (Dt.placeG_mem.2 hd),h.pj.d,s1,if_neg (fun q=>q rfl),s2,hpg,Int.toNat_natCast] at hw;refine ⟨_,_,hw,h.clean hA,rfl,rfl,?_,rfl⟩;have:=(pgR_out.1 hA.pgr);have hz:=zDv this.2.2.2.2;have e:=zLb h.pj.rest (p:=q) (by omega) (by omega) hz;rw [runL,h.pj.d];show _=DS.mk (putD p.d.sec (p.f.pg[i]'hA.hp)) [];rw [e,putD,hpg,Int.toNat_natCast]
theorem Inv.loose0 {p P W v u} (h:Inv p P W v u) {i:Nat} (hi:i<p.f.fr.length) (hz:p.f.fr[i].1=0):p.f.fr[i].2.1=0:=by
 rcases h.pj.fm.place i hi hi (by rw [h.pj.fm.len];exact hi) with q|⟨q,_⟩
 ·exact q.2.1
 ·omega
theorem yRc:∀ (n:Nat) {p P W v u} (l:List Jo),Inv p P W v u->p.f.dt.length<n->(∃ i,∃ hi:i<p.f.fr.length,p.f.fr[i].2.1=0)->
  ∃ p' l',mrM n p l=(p',l++l',0) /\Inv p' P W v u/\ (∃ i,∃ hi:i<p'.f.fr.length,p'.f.fr[i].1=0) /\p'.now=p.now/\p'.f.fr.length=p.f.fr.length/\runL p.d l'=p'.d/\l'.length<=10*n/\
   (∀ q,q≠0->(∀ i (hi:i<p.f.fr.length),p.f.fr[i].1≠q)->∀ i (hi:i<p'.f.fr.length),p'.f.fr[i].1≠q)
 |0,p,P,W,v,u,l,h,hn,_=>absurd hn (Nat.not_lt_zero _)
 |n+1,p,P,W,v,u,l,h,hn,hlo=>by
  rw [mrM]
  rcases zDy h.pj.fm with ⟨i,hi,hz,e⟩|⟨_,hb,e⟩|⟨hno,t,a,q,hA,hs,hA2,h0,e⟩
  ·rw [e,if_neg (fun q=>q rfl),if_pos rfl];exact ⟨p,[],by rw [List.append_nil],h,⟨i,hi,hz⟩,rfl,rfl,rfl,by simp,fun _ _ g=>g⟩
  ·obtain ⟨i,hi,hz⟩:=hlo;exact absurd hz (hb i hi)
  obtain ⟨o1,o2,o3,o4,o5⟩:=hs.out;have hI:=h.swp hs;obtain ⟨qn,rfl⟩:∃ qn:Nat,q=qn:=⟨q.toNat,by have:=hA.p1;omega⟩;have hpg:(p.f.pg[a]'hA.hp).1=qn:=hA.pg
  by_cases hsin:(Dt.sinceG p.f.dt qn).2=true
  ·rw [if_pos hsin] at e;rw [e,if_neg (fun q=>q rfl),if_neg (show ¬true=false by decide)];simp only [hpg];have hd:=Dt.placeG_mem.1 (zHg hsin);obtain ⟨p',l1,e1,i1,f1,n1,r1,len1⟩:=yLt (p:=⟨zIa p.f (t,a),p.d,p.now⟩) hI hA2 hd;rw [e1,if_neg (fun q=>q rfl)];simp only [];have hlt:=z2t (f:=zIa p.f (t,a)) (p:=qn) (zHg hsin);have hlt:(zJu (zIa p.f (t,a)) qn).dt.length<p.f.dt.length:=hlt
   have hfr:p'.f.fr=t:=by rw [f1];rfl
   obtain ⟨p2,l2,e2,i2,g2,n2,m2,r2,len2,out2⟩:=yRc n (l++l1) i1 (by rw [f1];exact Nat.lt_of_lt_of_le hlt (Nat.le_of_lt_succ hn)) ⟨a,by rw [hfr];exact o4,by simp only [hfr];exact o5⟩;refine ⟨p2,l1++l2,by rw [e2,List.append_assoc],i2,g2,n2.trans n1,by rw [m2,hfr,o1],by rw [yCj,r1,r2],by simp only [List.length_append];omega,fun q hq hn=>out2 q hq ?_⟩;intro i hi
   have hi':i<t.length:=by rw [<-hfr];exact hi
   simp only [hfr];rw [(o3 i (by omega) hi').1];exact hn i (by omega)
  ·rw [if_neg hsin] at e;rw [e,if_neg (fun q=>q rfl),if_pos rfl]
   have hnd:∀ x∈(PS.mk (zIa p.f (t,a)) p.d p.now).f.dt,x.1≠(qn:Int):=fun x hx ex=>hsin (by
    have hx:x∈p.f.dt:=hx
    rw [Dt.since_yes h.pj.fm.dt (p:=(qn:Int)) (t:=x.2) (by rw [<-ex];exact hx)])
   have i1:=hI.rel0 hA2 (by have h3:=(o3 a o2 o4).2;exact h3.trans h0) hnd;refine ⟨_,[],by rw [List.append_nil],i1,?_,rfl,?_,rfl,by simp,fun q hq hn i hi=>?_⟩
   ·refine ⟨a,by show a<(t.set a (0,0,false)).length;rw [List.length_set];exact o4,?_⟩;show ((t.set a (0,0,false))[a]'(by rw [List.length_set];exact o4)).1=0;rw [List.getElem_set_self]
   ·show (t.set a (0,0,false)).length=_
    rw [List.length_set];exact o1
   ·have hi':i<(t.set a (0,0,false)).length:=hi;show ((t.set a (0,0,false))[i]'hi').1≠q;rw [List.getElem_set]
    split
    ·exact fun g=>hq g.symm
    ·rw [(o3 i (by rw [List.length_set] at hi';omega) (by rw [List.length_set] at hi';exact hi')).1];exact hn i _
theorem yO {p P W v u} (h:Inv p P W v u):
  ((∀ i (hi:i<p.f.fr.length),p.f.fr[i].2.1≠0) /\zFi p=(p,[],6)) \/ ((∃ i,∃ hi:i<p.f.fr.length,p.f.fr[i].2.1=0) /\
  ∃ p' l',zFi p=(p',l',0) /\Inv p' P W v u/\ (∃ i,∃ hi:i<p'.f.fr.length,p'.f.fr[i].1=0) /\p'.now=p.now/\p'.f.fr.length=p.f.fr.length/\runL p.d l'=p'.d/\l'.length<=170/\
   (∀ q,q≠0->(∀ i (hi:i<p.f.fr.length),p.f.fr[i].1≠q)->∀ i (hi:i<p'.f.fr.length),p'.f.fr[i].1≠q)):=by
 by_cases hb:∀ i (hi:i<p.f.fr.length),p.f.fr[i].2.1≠0
 ·exact .inl ⟨hb,z4k h.pj.fm (fun i hi e=>hb i hi (h.loose0 hi e)) hb⟩
 ·refine .inr ?_;obtain ⟨i,hi⟩:=Classical.not_forall.1 hb;obtain ⟨hi,he⟩:=Classical.not_forall.1 hi;have he:p.f.fr[i].2.1=0:=Classical.byContradiction he;have hl:=(Dt.rightB_out h.pj.fm.dt).1;obtain ⟨p',l',e1,r⟩:=yRc 17 [] h (Nat.lt_succ_of_le hl) ⟨i,hi,he⟩;exact ⟨⟨i,hi,he⟩,p',l',e1,r⟩
theorem z0j:∀ {a b:List Int},a.Nodup->(∀ x∈a,x∈b)->a.length<=b.length
 | [],b,_,_=>Nat.zero_le _
 |y::r,b,hn,hs=>by
  rw [List.nodup_cons] at hn;have hy:=hs y (List.mem_cons_self ..)
  have:=z0j (b:=b.erase y) hn.2 fun z hz=>(List.mem_erase_of_ne (fun e=>hn.1 (by rw [<-e];exact hz))).2 (hs z (List.mem_cons_of_mem _ hz))
  rw [List.length_erase_of_mem hy] at this;have hb:0<b.length:=List.length_pos_of_mem hy
  simp only [List.length_cons];omega
def bn (W:Nat->Int):Nat->Nat
 |0=>0
 |k+1=>bn W k+(if 0<W (k+1) then 1 else 0)
def bl' (W:Nat->Int):Nat->List Int
 |0=>[]
 |k+1=>if 0<W (k+1) then ((k+1:Nat):Int)::bl' W k else bl' W k
theorem yGm (W:Nat->Int):∀ k,(bl' W k).length=bn W k
 |0=>rfl
 |k+1=>by
  rw [bl',bn,<-yGm W k]
  split<;>simp
theorem zPx {W:Nat->Int} {x:Int}:∀ {k:Nat},x∈bl' W k↔∃ q:Nat,x=q/\1<=q/\q<=k/\0<W q
 |0=>by simp [bl'];omega
 |k+1=>by
  rw [bl']
  constructor
  ·intro hx
   split at hx
   ·rename_i hw
    rcases List.mem_cons.1 hx with e|e
    ·exact ⟨k+1,e,by omega,by omega,hw⟩
    ·obtain ⟨q,a,b,c,d⟩:=zPx.1 e;exact ⟨q,a,b,by omega,d⟩
   ·obtain ⟨q,a,b,c,d⟩:=zPx.1 hx;exact ⟨q,a,b,by omega,d⟩
  ·rintro ⟨q,a,b,c,d⟩
   by_cases e:q=k+1
   ·subst e;rw [if_pos d,a];exact List.mem_cons_self ..
   ·have:=zPx (W:=W) (k:=k) (x:=x) |>.2 ⟨q,a,b,by omega,d⟩
    split
    ·exact List.mem_cons_of_mem _ this
    ·exact this
theorem zTm (W:Nat->Int):∀ k,(bl' W k).Nodup
 |0=>List.nodup_nil
 |k+1=>by
  rw [bl']
  split
  ·rw [List.nodup_cons];refine ⟨fun h=>?_,zTm W k⟩;obtain ⟨q,a,_,c,_⟩:=zPx.1 h;omega
  ·exact zTm W k
def pinned (l:List Fr):List Int:=(l.filter fun x=>!decide (x.2.1=0)).map (·.1)
theorem zRa {l:List Fr} {p:Int}:p∈pinned l↔∃ i,∃ h:i<l.length,l[i].1=p/\l[i].2.1≠0:=by
 unfold pinned;rw [List.mem_map]
 constructor
 ·rintro ⟨x,hx,rfl⟩;obtain ⟨h1,h2⟩:=List.mem_filter.1 hx;obtain ⟨i,hi,rfl⟩:=List.mem_iff_getElem.1 h1;exact ⟨i,hi,rfl,by simpa using h2⟩
 ·rintro ⟨i,hi,rfl,h0⟩;exact ⟨l[i],List.mem_filter.2 ⟨List.getElem_mem hi,by simpa using h0⟩,rfl⟩
theorem zRz:∀ {l:List Fr},(∀ i j,(hi:i<l.length)->(hj:j<l.length)->l[i].2.1≠0->l[i].1=l[j].1->i=j)->(pinned l).Nodup
 | [],_=>by simp [pinned]
 |x::r,h=>by
  have ih:=zRz (l:=r) fun i j hi hj h0 e=>by
   have:=h (i+1) (j+1) (by simpa using hi) (by simpa using hj) (by simpa using h0) (by simpa using e);omega
  unfold pinned at ih⊢
  by_cases hx:x.2.1=0
  ·rw [List.filter_cons_of_neg (by simp [hx])];exact ih
  ·rw [List.filter_cons_of_pos (by simp [hx]),List.map_cons,List.nodup_cons];refine ⟨fun hm=>?_,ih⟩;obtain ⟨j,hj,e,_⟩:=zRa.1 hm;have:=h 0 (j+1) (by simp) (by simpa using hj) (by simpa using hx) (by simpa using e.symm);omega
theorem Inv.busy {p P W v u} (h:Inv p P W v u):bn W 16=p.f.fr.length↔∀ i (hi:i<p.f.fr.length),p.f.fr[i].2.1≠0:=by
 have hfr:∀ i (hi:i<p.f.fr.length),p.f.fr[i].2.1≠0->1<=p.f.fr[i].1/\p.f.fr[i].1<=16:=fun i hi h0=>by
  have hne:p.f.fr[i].1≠0:=fun e=>h0 (h.loose0 hi e)
  have hA:=zEd h.pj.fm hne hi rfl;exact ⟨hA.p1,hA.p16⟩
 have hnd:(pinned p.f.fr).Nodup:=zRz fun i j hi hj h0 e=>h.pj.fm.uni hi hj (by have:=hfr i hi h0;omega) e
 have s1:∀ x∈pinned p.f.fr,x∈bl' W 16:=fun x hx=>by
  obtain ⟨i,hi,e,h0⟩:=zRa.1 hx;have hb:=hfr i hi h0;have hA:=zEd h.pj.fm (p:=((x.toNat:Nat):Int)) (by omega) hi (by omega);have hw:=h.wat hA;have hk:=zBq.1 (h.pj.fm.ck.all i hi);exact zPx.2 ⟨x.toNat,by omega,by omega,by omega,by rw [hw];omega⟩
 have s2:∀ x∈bl' W 16,x∈pinned p.f.fr:=fun x hx=>by
  obtain ⟨q,e,q1,q16,hw⟩:=zPx.1 hx
  rcases h.pins q q1 q16 with ⟨i,hi,e1,e2⟩|⟨_,e2⟩
  ·exact zRa.2 ⟨i,hi,by rw [e1,e],by omega⟩
  ·omega
 have hlen:(pinned p.f.fr).length=bn W 16:=by
  rw [<-yGm];exact Nat.le_antisymm (z0j hnd s1) (z0j (zTm W 16) s2)
 rw [<-hlen];unfold pinned;rw [List.length_map,List.length_filter_eq_length_iff]
 constructor
 ·intro g i hi
  simpa using g _ (List.getElem_mem hi)
 ·intro g x hx;obtain ⟨i,hi,rfl⟩:=List.mem_iff_getElem.1 hx
  simpa using g i hi
def newP (q:Nat):Pg:=((q:Int),1,ByteArray.empty)
abbrev R3:=(Nat->Pg)×(Nat->Int)×Pg×Int
def zHr (P:Nat->Pg) (W:Nat->Int) (n:Nat) (k:Int) (q:Nat):R3:=
 if k=1/\ (P q).1=0 then (P,W,zP,3)
 else if k=2/\ (P q).1≠0 then (P,W,zP,4)
 else if W q=0/\bn W 16=n then (P,W,zP,6)
 else if k=2 then (ud P q (newP q),ud W q (W q+1),newP q,0)
 else (ud P q (P q),ud W q (W q+1),P q,0)
theorem z1w {α:Type} (P:Nat->α) (q:Nat):ud P q (P q)=P:=by
 funext k
 rw [ud]
 split
 ·rename_i h;rw [h]
 ·rfl
theorem Inv.mono {p P W v u v' u'} (h:Inv p P W v u) (hv:v<=v') (hu:u<=u'):Inv p P W v' u':=
 ⟨h.pj,h.pins,h.at_,⟨h.on.dsk,h.on.okp,fun q=>Int.le_trans (h.on.vb q) hv⟩,fun q=>Int.le_trans (h.ub q) hu⟩
structure Did (p:PS) (v u:Int) (m:R3) (r:R4):Prop where
 told:r.2.1=m.2.2.1
 err:r.2.2.2=m.2.2.2
 inv:Inv r.1 m.1 m.2.1 v u
 now:r.1.now=p.now
 len:r.1.f.fr.length=p.f.fr.length
 run:runL p.d r.2.2.1=r.1.d
 few:r.2.2.1.length<=170
 none:r.2.2.2≠0->r.2.2.1=[]
theorem Did.same {p P W v u} (h:Inv p P W v u) (x:Pg) (e:Int):Did p v u (P,W,x,e) (p,x,[],e):=⟨rfl,rfl,h,rfl,rfl,rfl,by simp,fun _=>rfl⟩
theorem Inv.where {p P W v u} (h:Inv p P W v u) {q:Nat} (h1:1<=q):(∀ i (hi:i<p.f.fr.length),p.f.fr[i].1≠(q:Int)) \/ ∃ i,AtF p.f (q:Int) i:=by
 have hq0:(q:Int)≠0:=by omega
 by_cases hn:∀ i (hi:i<p.f.fr.length),p.f.fr[i].1≠(q:Int)
 ·exact .inl hn
 ·obtain ⟨i,hi⟩:=Classical.not_forall.1 hn;obtain ⟨hi,he⟩:=Classical.not_forall.1 hi;exact .inr ⟨i,zEd h.pj.fm hq0 hi (Classical.byContradiction he)⟩
theorem Inv.nz {p P W v u} (h:Inv p P W v u) {q i:Nat} (hA:AtF p.f (q:Int) i):(P q).1≠0:=by
 rw [<-h.at_ q i hA,hA.pg];have:=hA.p1;omega
theorem zSy {p P W v u} (h:Inv p P W v u) (hu:1<=u) {q:Nat} (h1:1<=q) (h16:q<=16) (hn:∀ i (hi:i<p.f.fr.length),p.f.fr[i].1≠(q:Int)) {x:Pg} (hx:pgR x=true) (hxq:x.1=(q:Int)) (fresh:Bool) (hf:fresh=false->x=P q) (hv:x.2.1<=v) {n:Nat} (hl:p.f.fr.length=n):
  Did p v u (if W q=0/\bn W 16=n then (P,W,zP,6) else (ud P q x,ud W q (W q+1),x,0)) (zDf p x fresh):=by
 have hw:=h.wout h1 h16 hn
 rcases yO h with ⟨hb,e⟩|⟨hlo,p',l',e,i',⟨i,hi,hz⟩,hnow,hlen,hrun,hfew,hout⟩
 ·rw [if_pos ⟨hw,by rw [<-hl];exact h.busy.2 hb⟩,zDf,e,if_pos (show (6:Int)≠0 by decide)];exact Did.same h zP 6
 ·have hbz:¬(W q=0/\bn W 16=n):=fun g=>by
   rw [<-hl] at g;obtain ⟨j,hj,ej⟩:=hlo;exact h.busy.1 g.2 j hj ej
  have hq0:(q:Int)≠0:=by omega
  have hn':=hout q hq0 hn;obtain ⟨j,hj,hz',e2,m1,m2⟩:=zYa e i'.pj.fm hx i'.pj.n0 i'.pj.n1 fresh (by rw [hxq];exact hn') ⟨i,hi,hz⟩ i'.pj.dt;rw [if_neg hbz,e2,hw];exact ⟨rfl,rfl,i'.load h1 h16 hj hz' hn' hx hxq fresh hf hv hu m1,hnow,by show (p'.f.fr.set j _).length=_;rw [List.length_set,hlen],hrun,hfew,fun g=>absurd rfl g⟩
theorem yBk {f:FX} (h:FM f) {p t:Int} (hp1:1<=p) (hp16:p<=16) (h0:0<=t) (h1:t<=2147483647) (ht:∀ x∈f.dt,x.2<=t):Dt.markG f.dt p t=(if 0<=Dt.placeG f.dt p 0 then f.dt else f.dt++[(p,t)],0):=by
 by_cases hd:0<=Dt.placeG f.dt p 0
 ·rw [if_pos hd];exact yBl h hp1 hp16 h0 h1 hd ht
 ·rw [if_neg hd]
  have hl:Dt.lateB f.dt t=false:=by
   unfold Dt.lateB
   by_cases hz:0<f.dt.length
   ·have hm:=List.getElem_mem (show f.dt.length-1<f.dt.length by omega);have:=ht _ hm;rw [List.getElem?_eq_getElem (by omega),Option.getD_some]
    simp;omega
   ·simp [hz]
  rw [Dt.markG,if_neg,if_neg (by rw [hl];decide),if_neg hd];intro q
  rcases q with q|q|q
  ·rw [h.dt] at q;cases q
  ·simp [Dt.pageB] at q;omega
  ·simp [Dt.timeB] at q;omega
theorem ySu {s:List ByteArray} (h:Rest s) {q:Nat} (h1:1<=q) (h16:q<=16):runL ⟨s,[]⟩ (zGe q (nulB 32))=⟨rmD s q,[]⟩:=
 zLb h h1 h16 (zCj 32)
theorem zQb {p P W v u} (h:Inv p P W v u) (hv:0<=v) {q:Nat} (h1:1<=q) (h16:q<=16):Did p v u (if 0<W q then (P,W,zP,6) else if (P q).1=0 then (P,W,zP,3) else (ud P q zP,W,zP,0)) (zDx p q):=by
 obtain ⟨d1,d2,d3,d4⟩:=z3d h.pj.rest h1 h16;have hr:=ySu h.pj.rest h1 h16;rw [zDx]
 rcases h.where h1 with hn|⟨i,hA⟩
 ·rw [zCp h.pj.fm hn (by omega),if_neg (show ¬false=true by decide),h.pj.get h1 h16,h.on.dsk q h1 h16 (h.out h1 hn),h.wout h1 h16 hn,if_neg (show ¬(0:Int)<0 by decide)]
  by_cases hz:(P q).1=0
  ·rw [if_pos hz,if_pos hz,if_pos (show (3:Int)≠0 by decide)];exact Did.same h zP 3
  ·rw [if_neg hz,if_neg hz,if_neg (show ¬((0:Int)≠0) from fun g=>g rfl),zHv,h.pj.get h1 h16,h.on.dsk q h1 h16 (h.out h1 hn),if_neg hz,if_neg (show ¬(0:Int)=3 by decide)];rw [h.pj.d,d1,d2,if_neg (show ¬((0:Int)≠0) from fun g=>g rfl)];exact ⟨rfl,rfl,h.rm h1 h16 hv hn,rfl,rfl,by rw [h.pj.d];exact hr,show (10:Nat) <=170 by decide,fun g=>absurd rfl g⟩
 ·have hi:=hA.hi;have hw:=h.wat hA;have hk:=zBq.1 (h.pj.fm.ck.all i hi);rw [findF_at hA,if_pos rfl,Int.toNat_natCast,zCg hi,hw]
  by_cases hz:0<p.f.fr[i].2.1
  ·rw [if_pos hz,if_pos hz];exact Did.same h zP 6
  rw [if_neg hz,if_neg hz,if_neg (h.nz hA)]
  have e:zCc p.f q=((i:Int),0):=by
   rw [zCc,if_pos (zGg.2 hA.right),(zCa hA.right.tb).2 ⟨hA.p1,hA.mem⟩];rfl
  have ed:zJh p.f q=(relS p.f i q,0):=by
   rw [zJh,e,if_neg (fun g=>g rfl),Int.toNat_natCast,zCg hi,if_neg hz]
  rw [ed,if_neg (show ¬((0:Int)≠0) from fun g=>g rfl),zHv,h.pj.get h1 h16]
  have h0:p.f.fr[i].2.1=0:=by omega
  by_cases hg:(getR p.d.sec q).2=3
  ·rw [if_pos hg]
   have hg2:getR p.d.sec q=(zP,3):=by
    have e3:∀ a:ByteArray,(zFd a).2≠0->True:=fun _ _=>trivial
    rw [getR] at hg⊢
    split
    ·rename_i g;rw [if_pos g] at hg;rw [hg]
    ·rename_i g;rw [if_neg g] at hg
     split at hg<;>exact absurd hg (show ¬_=(3:Int) by simp only [];decide)
   have:=h.rel hA h0 (s':=p.d.sec) (P':=ud P q zP) h.pj.rest h.pj.z0 (fun k hk=>zDo _ _ hk) (fun _ _ _ _=>rfl) (by rw [zDk,if_pos (show zP.1=0 from rfl)];exact hg2) (by rw [zDk];exact .inl rfl) (by rw [zDk];exact hv);rw [<-h.pj.d] at this;exact ⟨rfl,rfl,this,rfl,by show (p.f.fr.set i _).length=_;rw [List.length_set],rfl,by simp,fun g=>absurd rfl g⟩
  ·rw [if_neg hg,h.pj.d,d1,d2,if_neg (show ¬((0:Int)≠0) from fun g=>g rfl)];have:=h.rel hA h0 (s':=rmD p.d.sec q) (P':=ud P q zP) d3 (z5m h.pj.rest) (fun k hk=>zDo _ _ hk) (fun k k1 k16 hne=>by rw [yIh h.pj.rest h1 h16 k1 k16,if_neg (fun e=>hne e.symm)]) (by rw [zDk,if_pos (show zP.1=0 from rfl),yIh h.pj.rest h1 h16 h1 h16,if_pos rfl]) (by rw [zDk];exact .inl rfl) (by rw [zDk];exact hv);exact ⟨rfl,rfl,this,rfl,by show (p.f.fr.set i _).length=_;rw [List.length_set],by rw [h.pj.d];exact hr,show (10:Nat) <=170 by decide,fun g=>absurd rfl g⟩
theorem yG {p0:PS}:∀ {ids:List Int} {q P W v u} {l:List Jo},Inv q P W v u->ids.Nodup->(∀ id∈ids,∃ x∈q.f.dt,x.1=id)->
  ∃ q' l',ageL p0 ids q l=(q',zP,l++l',0) /\Inv q' P W v u/\q'.now=q.now/\q'.f.fr.length=q.f.fr.length/\runL q.d l'=q'.d/\l'.length<=10*ids.length/\ ∀ x,x∈q'.f.dt↔x∈q.f.dt/\x.1∉ids
 | [],q,P,W,v,u,l,h,_,_=>⟨q,[],by rw [ageL,List.append_nil],h,rfl,rfl,rfl,by simp,fun x=>by simp⟩
 |id::r,q,P,W,v,u,l,h,hn,hd=>by
  rw [List.nodup_cons] at hn;obtain ⟨x,hx,ex⟩:=hd id (List.mem_cons_self ..);obtain ⟨i,hA⟩:=zZm h.pj.fm hx;rw [ex] at hA;obtain ⟨qn,rfl⟩:∃ qn:Nat,id=qn:=⟨id.toNat,by have:=hA.p1;omega⟩;obtain ⟨p',l1,e,i1,f1,n1,r1,len1⟩:=yLt h hA ⟨x,hx,ex⟩
  have hmem:∀ y,y∈p'.f.dt↔y∈q.f.dt/\y.1≠(qn:Int):=fun y=>by
   rw [f1];show y∈q.f.dt.filter _↔_;rw [List.mem_filter];simp
  obtain ⟨q2,l2,e2,i2,n2,m2,r2,len2,d2⟩:=yG (p0:=p0) (l:=l++l1) i1 hn.2 fun id' hid'=>by
   obtain ⟨y,hy,ey⟩:=hd id' (List.mem_cons_of_mem _ hid');exact ⟨y,(hmem y).2 ⟨hy,fun g=>hn.1 (by rw [<-g,ey];exact hid')⟩,ey⟩
  refine ⟨q2,l1++l2,?_,i2,n2.trans n1,by rw [m2,f1];rfl,by rw [yCj,r1,r2],by simp only [List.length_append,List.length_cons];omega,fun y=>?_⟩
  ·rw [ageL,e,if_neg (show ¬((0:Int)≠0) from fun g=>g rfl),e2,List.append_assoc]
  ·rw [d2,hmem,List.mem_cons]
   constructor
   ·rintro ⟨⟨a,b⟩,c⟩;exact ⟨a,fun g=>g.elim b c⟩
   ·rintro ⟨a,b⟩;exact ⟨⟨a,fun g=>b (.inl g)⟩,fun g=>b (.inr g)⟩
theorem z3g {now age:Int}:∀ {l:List (Int×Int)},l.Pairwise (fun a b=>a.1≠b.1)->(l.filterMap (Dt.dueF now age)).Nodup
 | [],_=>List.nodup_nil
 |x::r,h=>by
  rw [List.pairwise_cons] at h;have ih:=z3g (now:=now) (age:=age) h.2;rw [List.filterMap_cons]
  split
  ·exact ih
  ·rename_i b e;rw [List.nodup_cons];refine ⟨fun hm=>?_,ih⟩;obtain ⟨y,hy,ey⟩:=List.mem_filterMap.1 hm;rw [Dt.dueF] at e ey
   split at e
   ·split at ey
    ·exact h.1 y hy ((Option.some.inj e).trans (Option.some.inj ey).symm)
    ·cases ey
   ·cases e
theorem due_nd {l:List (Int×Int)} (h:Dt.rightB l=true) (now age:Int):(Dt.dueG l now age).Nodup:=by
 rw [Dt.dueG]
 split
 ·exact List.nodup_nil
 ·exact z3g (Dt.rightB_iff.1 h).2.2.1
theorem yFz {p P W v u} (h:Inv p P W v u) (age:Int):Did p v u (P,W,zP,0) (zJn p age) /\ (0<=age->∀ x,x∈(zJn p age).1.f.dt↔x∈p.f.dt/\p.now-x.2<age):=by
 obtain ⟨q',l',e,i1,n1,m1,r1,len1,d1⟩:=yG (p0:=p) (l:=[]) h (due_nd h.pj.fm.dt p.now age) fun id hid=>by
  obtain ⟨_,t,ht,_⟩:=z7a hid;exact ⟨_,ht,rfl⟩
 have h16:=due_len (now:=p.now) (age:=age) h.pj.fm.dt;rw [zJn,e];refine ⟨⟨rfl,rfl,i1,n1,m1,r1,by simp only [List.nil_append];omega,fun g=>absurd rfl g⟩,fun h0 x=>?_⟩;simp only [];rw [d1]
 constructor
 ·rintro ⟨a,b⟩;refine ⟨a,Classical.byContradiction fun g=>b ?_⟩;rw [Dt.dueG,if_neg]
  ·exact List.mem_filterMap.2 ⟨x,a,by rw [Dt.dueF,if_pos (by omega)]⟩
  ·rintro (g|g|g)
   ·omega
   ·have:=h.pj.n0;omega
   ·rw [h.pj.fm.dt] at g;cases g
 ·rintro ⟨a,b⟩;refine ⟨a,fun g=>?_⟩;obtain ⟨_,t,ht,hl⟩:=z7a g;have s1:=Dt.since_yes h.pj.fm.dt ht;rw [Dt.since_yes h.pj.fm.dt (p:=x.1) (t:=x.2) a] at s1
  cases s1
  omega
theorem Inv.new {n:Nat} (h1:1<=n) (h8:n<=8) {s:List ByteArray} (hs:Rest s) (hz:s[0]?.getD ByteArray.empty=zDg) {P:Nat->Pg} {v u:Int} (h:OnD s [] P v) (hu:0<=u):Inv ⟨zK n,⟨s,[]⟩,0⟩ P (fun _=>0) v u:=by
 have hfr:∀ i (hi:i<(zK n).fr.length),(zK n).fr[i]=(0,0,false):=fun i hi=>by
  have hi2:i<(List.replicate n ((0,0,false):Fr)).length:=hi;show (List.replicate n ((0,0,false):Fr))[i]'hi2=_;rw [List.getElem_replicate]
 refine ⟨⟨FM.new h1 h8,hs,rfl,hz,by show (0:Int) <=0;decide,by show (0:Int) <=_;decide,fun x hx=>by cases hx⟩,fun q h1 h16=>.inr ⟨fun i hi e=>?_,rfl⟩,fun q i hA=>?_,h,fun q=>hu⟩
 ·rw [hfr i hi] at e;have e:(0:Int)=(q:Int):=e;omega
 ·have e:=hA.fr;rw [hfr i hA.hi] at e;have e:(0:Int)=(q:Int):=e;have:=hA.p1;omega
theorem OnD.new {v:Int} (hv:0<=v):OnD (List.replicate 35 zDg) [] (fun _=>zP) v:=
 ⟨fun q _ h16 _=>by rw [yIg h16,if_pos (show zP.1=0 from rfl)],fun _ _ _=>.inl rfl,fun _=>hv⟩
theorem yQg:(List.replicate 35 zDg)[0]?.getD ByteArray.empty=zDg:=by rw [List.getElem?_replicate,if_pos (by decide)];rfl
theorem Did.eq {p v u} {P':Nat->Pg} {W':Nat->Int} {x:Pg} {e:Int} {r:R4} (h:Did p v u (P',W',x,e) r):∃ q l,r=(q,x,l,e) /\Inv q P' W' v u/\q.now=p.now/\q.f.fr.length=p.f.fr.length/\runL p.d l=q.d/\l.length<=170/\ (e≠0->l=[]):=by
 obtain ⟨q,y,l,f⟩:=r;have h1:=h.told;have h2:=h.err;simp only at h1 h2;subst h1 h2;exact ⟨q,l,rfl,h.inv,h.now,h.len,h.run,h.few,h.none⟩
theorem yLx {n:Nat}:∀ (l:List Wt) (s:List ByteArray),(∀ i,(h:i<s.length)->s[i].size=16)->(∀ w∈l,w.2.size=16)->∀ i,(h:i<(wrS s l).length)->(wrS s l)[i].size=16
 | [],s,hs,_=>hs
 |w::r,s,hs,hw=>yLx (n:=n) r (s.set w.1.toNat w.2) (fun i h=>by
   rw [List.getElem_set]
   split
   ·exact hw w (.head _)
   ·exact hs i (by rw [List.length_set] at h;exact h)) fun x hx=>hw x (.tail _ hx)
theorem DR.sync {d:DS} (h:DR d):DR ⟨wrS d.sec d.ca,[]⟩:=by
 refine ⟨by show 1<= (wrS d.sec d.ca).length;rw [zIc];exact h.s1,by show (wrS d.sec d.ca).length<=64;rw [zIc];exact h.s2,Nat.zero_le _,yLx (n:=0) _ _ h.s fun w hw=>?_,fun i hi=>absurd hi (Nat.not_lt_zero _)⟩;obtain ⟨i,hi,rfl⟩:=List.mem_iff_getElem.1 hw;exact (zDj.1 (h.c i hi)).2.2
theorem yPd {d:DS} (h:DR d) (o:Jo):DR (zEc d o):=by
 rw [zEc]
 split
 ·rw [zWh,if_pos h];exact h.sync
 ·rw [putM]
  split
  ·rename_i g
   split
   ·exact h
   ·refine ⟨h.s1,h.s2,by show (d.ca++[o.2]).length<=200;rw [List.length_append];show d.ca.length+1<=200;omega,h.s,fun i hi=>?_⟩;show okW d.sec.length (d.ca++[o.2])[i]=true
    by_cases e:i<d.ca.length
    ·rw [List.getElem_append_left e];exact h.c i e
    ·have hi2:i<(d.ca++[o.2]).length:=hi;rw [List.length_append] at hi2
     have:i=d.ca.length:=by simp at hi2;omega
     subst this;simp [g.2]
  ·exact h
theorem yLk (d:DS) (o:Jo):(zEc d o).sec.length=d.sec.length:=by
 rw [zEc]
 split
 ·rw [zWh];split
  ·exact zIc ..
  ·rfl
 ·rw [putM];split
  ·split<;>rfl
  ·rfl
theorem yPe {d:DS} (h:Us d) (o:Jo):Us (zEc d o):=⟨yPd h.dr o,by rw [yLk];exact h.n⟩
theorem yAv:∀ (l:List Jo) {d:DS},Us d->Us (l.foldl zEc d)
 | [],_,h=>h
 |o::r,_,h=>yAv r (yPe h o)
theorem yKu {d:DS} (h:Us d) (l:List Jo) (n:Int):Us (runM d l n):=yAv _ h
theorem z2z {d:DS} (h:Us d) (p:Int) (s:ByteArray):Us (zEl d p s).1:=by
 rw [zEl];split
 ·exact yKu h _ _
 ·exact h
theorem yVh {d:DS} (h:Us d) (x:Pg):Us (setS d x).1:=by
 rw [setS];split
 ·exact z2z h _ _
 ·exact h
theorem zVl {f:FX} (h:FM f):∃ w,zDc f.fr w:=by
 refine ⟨fun q=>if e:∃ i,∃ hi:i<f.fr.length,f.fr[i].1=(q:Int) then (f.fr[e.choose]'e.choose_spec.choose).2.1 else 0,fun q h1 h16=>?_⟩
 by_cases e:∃ i,∃ hi:i<f.fr.length,f.fr[i].1=(q:Int)
 ·left
  refine ⟨e.choose,e.choose_spec.choose,e.choose_spec.choose_spec,?_⟩;simp only [dif_pos e]
 ·right
  refine ⟨fun i hi g=>e ⟨i,hi,g⟩,?_⟩;simp only [dif_neg e]
theorem pin_fm {f:FX} (h:FM f) (id:Int):FM (pinS f id).1:=by
 obtain ⟨w,hw⟩:=zVl h;exact (Kept.pin (a:=⟨1,id,0,ByteArray.empty,zP⟩) h hw rfl).fm
theorem yPt {f:FX} (h:FM f) (id:Int):FM (zEg f id).1:=by
 obtain ⟨w,hw⟩:=zVl h;exact (Kept.unpin (a:=⟨2,id,0,ByteArray.empty,zP⟩) h hw rfl).fm
theorem yQe {f:FX} (h:FM f) (id:Int) (b:ByteArray) (n:Int):FM (zBr f id b n).1:=by
 obtain ⟨w,hw⟩:=zVl h;exact (Kept.write (a:=⟨3,id,n,b,zP⟩) h hw rfl).fm
theorem ySx {f:FX} (h:FM f) (id:Int):FM (zJh f id).1:=by
 obtain ⟨w,hw⟩:=zVl h;exact (Kept.drop (a:=⟨5,id,0,ByteArray.empty,zP⟩) h hw rfl).fm
theorem yTx {f:FX} (h:FM f) (x:Pg) (n:Int) (fresh:Bool):FM (zGn f x n fresh).1:=by
 obtain ⟨w,hw⟩:=zVl h;exact (Kept.load (a:=⟨6,0,n,ByteArray.empty,x⟩) fresh h hw rfl).fm
structure Gd (m:Int) (p:PS):Prop where
 fm:FM p.f
 us:Us p.d
 now:p.now=m
theorem Gd.wb {m p} (h:Gd m p) (id:Int):Gd m (wbM p id).1:=by
 refine ⟨yWh h.fm id,?_,?_⟩
 ·rw [wbM]
  repeat' split
  all_goals first|exact h.us|exact yVh h.us _
 ·rw [wbM]
  repeat' split
  all_goals exact h.now
theorem Gd.room {m p} (h:Gd m p):Gd m ⟨(zBy p.f).1,p.d,p.now⟩:=⟨z1i h.fm,h.us,h.now⟩
theorem Gd.mr {m}:∀ (n:Nat) (p:PS) (l:List Jo),Gd m p->Gd m (mrM n p l).1/\ (mrM n p l).2.1.length<=l.length+10*n
 |0,p,l,h=>⟨h,by show l.length<=_;omega⟩
 |n+1,p,l,h=>by
  rw [mrM]
  split
  ·exact ⟨h,by show l.length<=_;omega⟩
  split
  ·exact ⟨h.room,by show l.length<=_;omega⟩
  split
  ·exact ⟨h.room,by show l.length<=_;omega⟩
  ·have ih:=Gd.mr n _ (l++(wbM ⟨(zBy p.f).1,p.d,p.now⟩ (zBy p.f).2.1.1).2.1) (h.room.wb (zBy p.f).2.1.1);refine ⟨ih.1,?_⟩;have h2:=ih.2;have h3:=yDj ⟨(zBy p.f).1,p.d,p.now⟩ (zBy p.f).2.1.1;rw [List.length_append] at h2;omega
theorem Gd.make {m p} (h:Gd m p):Gd m (zFi p).1/\ (zFi p).2.1.length<=170:=by
 have:=Gd.mr 17 p [] h;exact ⟨this.1,by have h2:=this.2;show (mrM 17 p []).2.1.length<=170;simpa using h2⟩
def GdR (m:Int) (r:R4):Prop:=Gd m r.1/\r.2.2.1.length<=170
theorem Gd.same {m p} (h:Gd m p) (x:Pg) (e:Int):GdR m (p,x,[],e):=⟨h,Nat.zero_le _⟩
theorem Gd.load {m p} (h:Gd m p) (x:Pg) (fresh:Bool):GdR m (zDf p x fresh):=by
 obtain ⟨h1,h2⟩:=h.make;rw [zDf]
 split
 ·exact h1.same _ _
 split
 ·exact h1.same _ _
 ·exact ⟨⟨yTx h1.fm _ _ _,h1.us,h1.now⟩,h2⟩
theorem Gd.fetch {m p} (h:Gd m p) (id:Int):GdR m (zDh p id):=by
 rw [zDh]
 split
 ·split
  ·exact h.same _ _
  ·exact Gd.same (p:=⟨(pinS p.f id).1,p.d,p.now⟩) ⟨pin_fm h.fm _,h.us,h.now⟩ _ _
 split
 ·exact h.same _ _
 ·exact h.load _ _
theorem Gd.create {m p} (h:Gd m p) (id:Int):GdR m (zBs p id):=by
 rw [zBs]
 split
 ·exact h.same _ _
 split
 ·exact h.load _ _
 split<;>exact h.same _ _
theorem Gd.tail {m p q} (h:Gd m p) (hq:Gd m q) (id:Int):GdR m (zHv p q id):=by
 rw [zHv]
 split
 ·exact hq.same _ _
 split
 ·exact h.same _ _
 ·exact ⟨⟨hq.fm,z2z h.us _ _,hq.now⟩,by
   show (zHq p.d (id,0,ByteArray.empty)).length<=170;have:=zRj p.d (id,0,ByteArray.empty)
   omega⟩
theorem Gd.remove {m p} (h:Gd m p) (id:Int):GdR m (zDx p id):=by
 rw [zDx]
 split
 ·split
  ·exact h.same _ _
  split
  ·exact h.same _ _
  ·exact h.tail (q:=⟨(zJh p.f id).1,p.d,p.now⟩) ⟨ySx h.fm _,h.us,h.now⟩ _
 split
 ·exact h.same _ _
 ·exact h.tail h _
theorem Gd.flush {m p} (h:Gd m p) (id:Int):GdR m (zFa p id):=by
 rw [zFa]
 split
 ·split<;>exact h.same _ _
 split
 ·exact h.same _ _
 split
 ·exact h.same _ _
 ·exact ⟨h.wb id,Nat.le_trans (yDj p id) (by decide)⟩
theorem Gd.ageL {m p} (h:Gd m p):∀ (ids:List Int) {q:PS} (l:List Jo),Gd m q->Gd m (ageL p ids q l).1/\ (ageL p ids q l).2.2.1.length<=l.length+10*ids.length
 | [],q,l,hq=>⟨hq,by show l.length<=_;omega⟩
 |id::r,q,l,hq=>by
  rw [Lk.ageL]
  split
  ·exact ⟨h,Nat.zero_le _⟩
  ·have ih:=Gd.ageL h r (l++(wbM q id).2.1) (hq.wb id);refine ⟨ih.1,?_⟩;have h2:=ih.2;have h3:=yDj q id;rw [List.length_append] at h2;show _<=l.length+10*(r.length+1);omega
theorem Gd.age {m p} (h:Gd m p) (n:Int):GdR m (zJn p n):=by
 have h1:=h.ageL (Dt.dueG p.f.dt p.now n) [] h;have h2:=due_len (now:=p.now) (age:=n) h.fm.dt;refine ⟨h1.1,?_⟩;have h3:=h1.2;rw [zJn];simp only [List.length_nil] at h3;omega
theorem Gd.pinned {m p} (h:Gd m p) (a:PAct):Gd m (zCu p a).1:=by
 rw [zCu]
 split
 ·exact h
 split
 ·split
  ·exact h
  ·exact ⟨yQe h.fm _ _ _,h.us,h.now⟩
 split
 ·split
  ·exact h
  ·exact ⟨yPt h.fm _,h.us,h.now⟩
 ·exact h
theorem Gd.act {m p} (h:Gd m p) (a:PAct):GdR m (zBb p a):=by
 rw [zBb]
 repeat' split
 ·exact h.same _ _
 ·exact h.same _ _
 ·exact h.fetch _
 ·exact h.create _
 ·exact h.remove _
 ·exact h.flush _
 ·exact h.age _
 ·exact ⟨h.pinned a,Nat.zero_le _⟩
end Go.Lk
namespace Go.Lk
theorem yUv (f:FX) (id:Int):(pinS f id).1.fr.length=f.fr.length:=by
 rw [pinS];repeat' split
 all_goals first|rfl|simp [zRm]
theorem yLq (f:FX) (id:Int):(zEg f id).1.fr.length=f.fr.length:=by
 rw [zEg];repeat' split
 all_goals first|rfl|simp [zRm]
theorem yM (f:FX) (id:Int) (b:ByteArray) (n:Int):(zBr f id b n).1.fr.length=f.fr.length:=by
 rw [zBr];repeat' split
 all_goals rfl
theorem yGx (f:FX) (id:Int):(zFj f id).1.fr.length=f.fr.length:=by
 rw [zFj];repeat' split
 all_goals rfl
theorem yMz (f:FX) (id:Int):(zJh f id).1.fr.length=f.fr.length:=by
 rw [zJh];repeat' split
 all_goals first|rfl|simp [relS]
theorem yNx (f:FX) (x:Pg) (n:Int) (b:Bool):(zGn f x n b).1.fr.length=f.fr.length:=by
 rw [zGn];repeat' split
 all_goals first|rfl|simp [inS]
theorem yOs {f:FX} (h:FM f):(zBy f).1.fr.length=f.fr.length:=by
 rcases zDy h with ⟨i,hi,_,e⟩|⟨_,_,e⟩|⟨_,l,a,p,hA,hs,hA2,_,e⟩
 ·rw [e]
 ·rw [e]
 ·have hl:l.length=f.fr.length:=by obtain ⟨o1,_⟩:=hs.out;exact o1
  rw [e]
  split
  ·exact hl
  ·show (l.set _ _).length=_;rw [List.length_set];exact hl
theorem zWk (p:PS) (id:Int):(wbM p id).1.f.fr.length=p.f.fr.length:=by
 rw [wbM];repeat' split
 all_goals first|rfl|exact yGx _ _
theorem yRd {t:Int}:∀ (n:Nat) (p:PS) (l:List Jo),Gd t p->(mrM n p l).1.f.fr.length=p.f.fr.length
 |0,p,l,_=>rfl
 |n+1,p,l,h=>by
  have hr:(zBy p.f).1.fr.length=p.f.fr.length:=yOs h.fm;rw [mrM]
  split
  ·rfl
  split
  ·exact hr
  split
  ·exact hr
  ·rw [yRd n _ _ (h.room.wb _),zWk];exact hr
theorem z0g {t:Int} {p:PS} (h:Gd t p):(zFi p).1.f.fr.length=p.f.fr.length:=yRd 17 p [] h
theorem z5f {t:Int} {p:PS} (h:Gd t p) (x:Pg) (b:Bool):(zDf p x b).1.f.fr.length=p.f.fr.length:=by
 rw [zDf];repeat' split
 ·exact z0g h
 ·exact z0g h
 ·exact (yNx _ _ _ _).trans (z0g h)
theorem z9x {t:Int} {p:PS} (hp:Gd t p):∀ (ids:List Int) (q:PS) (l:List Jo),q.f.fr.length=p.f.fr.length->(ageL p ids q l).1.f.fr.length=p.f.fr.length
 | [],q,l,h=>h
 |id::r,q,l,h=>by
  rw [ageL]
  split
  ·rfl
  ·exact z9x hp r _ _ ((zWk q id).trans h)
theorem yDa (p q:PS) (id:Int) (h:q.f.fr.length=p.f.fr.length):(zHv p q id).1.f.fr.length=p.f.fr.length:=by
 rw [zHv];repeat' split
 all_goals first|rfl|exact h
theorem yAl {t:Int} {p:PS} (h:Gd t p) (a:PAct):(zBb p a).1.f.fr.length=p.f.fr.length:=by
 rw [zBb];repeat' split
 ·rfl
 ·rfl
 ·rw [zDh];repeat' split
  all_goals first|rfl|exact yUv _ _|exact z5f h _ _
 ·rw [zBs];repeat' split
  all_goals first|rfl|exact z5f h _ _
 ·rw [zDx];repeat' split
  all_goals first|rfl|exact yDa _ _ _ (yMz _ _)|exact yDa _ _ _ rfl
 ·rw [zFa];repeat' split
  all_goals first|rfl|exact zWk _ _
 ·exact z9x h _ _ _ rfl
 ·show (zCu p a).1.f.fr.length=_
  rw [zCu];repeat' split
  all_goals first|rfl|exact yM _ _ _ _|exact yLq _ _
theorem Gd.do {t:Int} {p:PS} (h:Gd t p) (a:PAct):Gd t (zBb p a).1:=(h.act a).1
end Go.Lk
namespace Go.Lk
open Go Go.Proofs Go.RowKit
theorem z4w {s:List ByteArray} (hs:Rest s) (hz:s[0]?.getD ByteArray.empty=zDg) {n:Int} (h1:1<=n) (h8:n<=8):zQy ⟨s,[]⟩ n=(⟨zK n.toNat,⟨s,[]⟩,0⟩,0):=by
 rw [zQy,if_neg,if_neg (by omega),yOp hs hz];rintro (g|g)
 ·refine g ?_;rw [getJ,if_pos ⟨hs.us,by decide,by decide⟩]
 ·exact absurd g (show ¬0<([]:List Wt).length by decide)
theorem yDs (n:Int) (s:ByteArray):zAi Tryz.prog 158 [.int .i64 n,.str s] (.agg (encJ (wJ n s))):=by
 refine zAe Tryz.func158 2 rfl (by kernel_rfl) (aW ?_);exact ret_of rfl rfl
theorem z3o (s:ByteArray) (hs:s.size<=16):zAi Tryz.prog 159 [.str s] (.str (s++nulB (16-s.size))):=by
 refine zAe Tryz.func159 1 rfl (by kernel_rfl) (w0 ?_);refine zAq (ι:=Nat) (fun k=>[(0,.d (.str (s++nulB k)))]) (fun _=>[])
  (fun k=>s.size+k<=16) (fun k=>16-k) 0 (by omega) (le0 (zAb ⟨?_,trivial⟩ trivial ⟨rfl,rfl,rfl,rfl⟩)) ?_
 ·show AV.d (.str s)=_;rw [yOf]
  congr 2
  apply bl_ext;rw [zHn];exact (List.append_nil _).symm
 intro k hk
 have hsz:(s++nulB k).size=s.size+k:=by rw [ByteArray.size_append,zCj]
 conv=>whnf
 refine bcase_p (fun h5=>?_) (fun h5=>?_)<;>conv=>whnf
 ·have hk2:s.size+k<16:=by omega
  refine aA ?_;refine zAg (by rw [hsz,zFw];simp;omega) (aW ?_)
  have e:s++nulB k++bstr [0]=s++nulB (k+1):=by
   rw [<-z0k];apply bl_ext;simp only [zHn,List.append_assoc]
  rw [e];exact ⟨k+1,by omega,by omega,(le0 (zAb ⟨rfl,trivial⟩ trivial ⟨rfl,rfl,rfl,rfl⟩))⟩
 ·refine aA ?_
  have ek:k=16-s.size:=by omega
  subst ek;exact ret_of rfl rfl
theorem z8v:zAi Tryz.prog 94 [] (.str (nulB 32)):=by
 refine zAe Tryz.func94 0 rfl (by kernel_rfl) (aW ?_);refine zAq (ι:=Nat) (fun k=>[(1,.d (.str (nulB k))),(2,.d (.int .i64 k))]) (fun _=>[])
  (fun k=>k<=32) (fun k=>32-k) 0 (by omega) (le0 (zAb ⟨?_,rfl,trivial⟩ trivial ⟨rfl,rfl,rfl,rfl⟩)) ?_
 ·show AV.d (.str ByteArray.empty)=_;rw [yOf]
 intro k hk
 conv=>whnf
 refine bcase_p (fun h5=>?_) (fun h5=>?_)<;>conv=>whnf
 ·refine aA ?_;refine zAg (by rw [zCj,zFw];simp;omega) (aW ?_);rw [z0k];exact ⟨k+1,by omega,by omega,(le0 (zAb ⟨rfl,rfl,trivial⟩ trivial ⟨rfl,rfl,rfl,rfl⟩))⟩
 ·refine aA ?_
  have ek:k=32:=by omega
  subst ek;exact ret_of rfl rfl
theorem yOg (s:ByteArray):ByteArray.empty++s=s:=by
 apply bl_ext;rw [zHn];rfl
theorem by_eps {α:Type} [Nonempty α] (P:α->Prop) (h:P (Classical.epsilon fun a=>¬P a)) (a:α):P a:=
 Classical.byContradiction fun g=>(Classical.epsilon_spec (p:=fun a=>¬P a) ⟨a,g⟩) h
def z9w (a:Nat×ByteArray):Prop:=a.1<=16->a.2.size=32->zDp Tryz.prog 93 [.int .i64 a.1,.str a.2] ((zGe a.1 a.2).map encJ) 3
noncomputable def zP1:Nat×ByteArray:=Classical.epsilon fun a=>¬z9w a
noncomputable def zp:Nat:=zP1.1
noncomputable def zs:ByteArray:=zP1.2
noncomputable def zx:ByteArray:=zs.extract 0 16
noncomputable def zy:ByteArray:=zs.extract 16 32
noncomputable def zh:ByteArray:=zHc zp
def zn:ByteArray:=zDg
theorem yVc (hp:zp<=16) (hs:zs.size=32):zDp Tryz.prog 93 [.int .i64 zp,.str zs] (([wJ 1 zx,wJ 2 zy,syJ]++[wJ 0 zh,syJ]++[wJ (2*(zp:Int)+1) zx,wJ (2*(zp:Int)+1+1) zy,syJ]++[wJ 0 zn,syJ]).map encJ) 3:=by
 refine zBj Tryz.func93 2 rfl (by kernel_rfl) (aW ?_);refine zCr (h:=16) (by omega) (aW ?_);refine zD (l:=16) (by omega) (aW ?_);rw [show zs.extract 0 16=zx from rfl,show zs.extract 16 zs.size=zy from by rw [hs];rfl];refine zAa (yDs 1 zx) (aW ?_);refine zAa (yDs 2 zy) (aW ?_);refine zCd (u8in (by omega) (by omega)) (aW ?_);refine zAa (z3o (bstr [74,(zp:Int)]) (by rw [zFw];exact (show 2<=16 by decide))) (aW ?_);rw [show bstr [74,(zp:Int)]++nulB (16-(bstr [74,(zp:Int)]).size)=zh from by rw [zFw];rfl];refine zAa (yDs 0 zh) (aW ?_);refine zAa (yDs (2*(zp:Int)+1) zx) (aW ?_);refine zAa (yDs (2*(zp:Int)+1+1) zy) (aW ?_);refine zAa (z3o ByteArray.empty (by decide)) (aW ?_);rw [show ByteArray.empty++nulB (16-ByteArray.empty.size)=zn from yOg _];refine zAa (yDs 0 zn) (aW ?_);exact ⟨4,rfl,.inl ⟨38,rfl,rfl⟩⟩
theorem z1j (p:Nat) (s:ByteArray) (hp:p<=16) (hs:s.size=32):zDp Tryz.prog 93 [.int .i64 p,.str s] ((zGe p s).map encJ) 3:=
 by_eps z9w (fun hp hs=>yVc hp hs) (p,s) hp hs
open Classical in
noncomputable def zJx (d:DS) (x:Pg):List Jo:=
 if ¬(Us d/\1<=x.1/\x.1<=16) then [] else if x.2.1=0/\x.2.2=ByteArray.empty then zGe x.1.toNat (nulB 32) else if pgR x=true then zGe x.1.toNat (putB x) else []
theorem yKt (d:DS) (x:Pg):zAi Tryz.prog 49 [zCm d,.agg (encP x)] (.lst ((zJx d x).map encJ)):=by
 refine zAe Tryz.func49 2 rfl (by kernel_rfl) (aW ?_);refine zAa (yR d) (aW ?_);rw [zJx]
 refine zAf (fun h1=>?_) (fun h1=>?_)<;>conv=>whnf
 ·refine aA ?_;rw [if_pos (fun q=>by rw [zSk.2 q.1] at h1;exact absurd h1 (by decide))];exact ret_of rfl rfl
 have hU:Us d:=zSk.1 (by simpa using h1);refine aA ?_
 refine bcase_p (fun h2=>?_) (fun h2=>?_)<;>conv=>whnf
 ·refine aA ?_;rw [if_pos (fun q=>by omega)];exact ret_of rfl rfl
 refine aA ?_
 refine bcase_p (fun h3=>?_) (fun h3=>?_)<;>conv=>whnf
 ·refine aA ?_;rw [if_pos (fun q=>by omega)];exact ret_of rfl rfl
 rw [if_neg (fun q=>q ⟨hU,by omega,by omega⟩)];obtain ⟨a,v,b⟩:=x;simp only at h2 h3⊢;obtain ⟨k,rfl⟩:∃ k:Nat,a=k:=⟨a.toNat,by omega⟩;rw [Int.toNat_natCast];refine aA ?_
 refine bcase_p (fun h4=>?_) (fun h4=>?_)<;>conv=>whnf
 ·refine aA ?_
  refine bcase_p (fun h5=>?_) (fun h5=>?_)<;>conv=>whnf
  ·rw [if_pos ⟨h4,h5⟩];refine aA ?_;refine zAa z8v (aW ?_);refine zAn (z1j k (nulB 32) (by omega) (zCj 32)) (aW ?_);exact ret_of rfl rfl
  rw [if_neg (fun q=>h5 q.2)];refine aA ?_;refine zAa (zJp ((k:Int),v,b)) (aW ?_)
  refine zAf (fun h6=>?_) (fun h6=>?_)<;>conv=>whnf
  ·refine aA ?_;rw [if_neg (fun q=>by rw [q] at h6;cases h6)];exact ret_of rfl rfl
  have h6:pgR ((k:Int),v,b)=true:=by simpa using h6
  rw [if_pos h6];refine aA ?_;refine zAa (z8x _ h6) (aW ?_);refine zAn (z1j k (putB ((k:Int),v,b)) (by omega) (zDv (pgR_out.1 h6).2.2.2.2)) (aW ?_);exact ret_of rfl rfl
 rw [if_neg (fun q=>h4 q.1)];refine aA ?_;refine zAa (zJp ((k:Int),v,b)) (aW ?_)
 refine zAf (fun h6=>?_) (fun h6=>?_)<;>conv=>whnf
 ·refine aA ?_;rw [if_neg (fun q=>by rw [q] at h6;cases h6)];exact ret_of rfl rfl
 have h6:pgR ((k:Int),v,b)=true:=by simpa using h6
 rw [if_pos h6];refine aA ?_;refine zAa (z8x _ h6) (aW ?_);refine zAn (z1j k (putB ((k:Int),v,b)) (by omega) (zDv (pgR_out.1 h6).2.2.2.2)) (aW ?_);exact ret_of rfl rfl
def pL (P:Nat->Pg):List D:=(List.range 17).flatMap fun q=>encP (P q)
theorem szs:(T 3).size=1/\ (T 57).size=3:=⟨rfl,rfl⟩
end Go.Lk
