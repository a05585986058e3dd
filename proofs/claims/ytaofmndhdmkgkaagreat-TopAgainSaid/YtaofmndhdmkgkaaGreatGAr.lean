/-
  What is proved here: what functions of the program compute, and what follows; no condition beyond each theorem's own.
-/
import Derived.Test.YtaofmndhdmkgkaaGreatGAj
import Derived.Test.YtaofmndhdmkgkaaGreatGAp
set_option linter.unusedSimpArgs false
set_option linter.unusedVariables false
set_option linter.unnecessarySimpa false
set_option linter.unusedSectionVars false
namespace Go.Lk
open Go Go.Proofs Go.RowKit
theorem yNs {M:Mem} {w:World} {l:List (List D)} {u:Value} (sz:Nat) (hA:zBj M w) (h:DenD M (.lst l) u) (hok:okRows sz l=true):
  ∃ (a:Option Addr) (cap b off:Nat) (val:Nat->Nat->Value),u=.slice a l.length cap/\ (0<l.length->a=some ⟨b,off,none⟩) /\
   (∀ (i j:Nat) (e:List D) (d:D),l[i]?=some e->e[j]?=some d->w.cell? ⟨b,off+i*sz+j,none⟩=some (val i j) /\DenD M d (val i j)):=by
 cases h with
 |emp a cap=>exact ⟨a,cap,0,0,fun _ _=>undef,rfl,fun h=>absurd h (by simp),fun i j e d h=>by simp at h⟩
 |lst _ b off cap sz' val hl hs hm hd=>
  refine ⟨_,cap,b,off,val,rfl,fun _=>rfl,fun i j e d h1 h2=>⟨?_,hd i j e d h1 h2⟩⟩;have e1:sz'=sz:=(hs i e h1).symm.trans (zHe hok i e h1).1;rw [<-e1];exact hA b _ _ (hm i j e d h1 h2)
def dreadD (d:DS) (n:Int):Prop:=DR d/\0<=n/\n<d.sec.length
open Classical in
noncomputable def zJb (d:DS) (n:Int):ByteArray×Int:=if dreadD d n then (rdS d n,0) else (ByteArray.empty,1)
theorem yCe {M:Mem} {k:IntKind} {n:Int} {u:Value} (h:DenD M (.int k n) u):u=.int k n:=by cases h;rfl
theorem den_str' {M:Mem} {s:ByteArray} {u:Value} (h:DenD M (.str s) u):u=.string s:=by cases h;rfl
theorem two_out {M:Mem} {x y:D} {vs:Array Value} (h:vs.size=2) (hd:∀ (i:Nat) (d:D) (v:Value),[x,y][i]?=some d->vs[i]?=some v->DenD M d v):∃ u v,vs=#[u,v] /\DenD M x u/\DenD M y v:=by
 obtain ⟨l⟩:=vs
 match l,h,hd with
 | [u,v],_,hd=>exact ⟨u,v,rfl,hd 0 _ _ rfl rfl,hd 1 _ _ rfl rfl⟩
theorem zKc (d:DS) (n:Int):zAj Tryz.prog 109 [zCp d,.int .i64 n] (.tup [.str (zJb d n).1,.int .i64 (zJb d n).2]):=by
 refine ⟨⟨Tryz.f109,Tryz.func109,rfl,by kernel_rfl⟩,fun w M vs hA hd=>?_⟩;obtain ⟨u,v,rfl,hu,hv⟩:=two_out hd.1 hd.2;have hu0:=hu;have hv':=yCe hv;subst hv'
 obtain ⟨us,rfl,hus⟩:∃ us:Array Value,u=.agg us/\ (us.size=2/\ ∀ (i:Nat) (x:D) (v:Value),[D.lst (d.sec.map encB),.lst (d.ca.map encW)][i]?=some x->us[i]?=some v->DenD M x v):=by
  cases hu with
  |agg c us hl hdd=>exact ⟨us,rfl,hl,hdd⟩
 obtain ⟨s1,s2,rfl,h1,h2⟩:=two_out hus.1 hus.2
 have hm1:(d.sec.map encB).length=d.sec.length:=List.length_map ..
 have hm2:(d.ca.map encW).length=d.ca.length:=List.length_map ..
 obtain ⟨sa,scap,sb,soff,sval,rfl,hsa,hsc⟩:=yNs 1 hA h1 (z8s _);obtain ⟨a,cap,b,off,val,rfl,ha,hc⟩:=yNs 2 hA h2 (z8v _);rw [hm1] at hsa hu0⊢;rw [hm2] at ha hu0⊢
 have cs:∀ j,j<d.sec.length->w.cell? ⟨sb,soff+j,none⟩=some (.string (d.sec[j]?.getD ByteArray.empty)):=fun j hj=>by
  obtain ⟨q1,q2⟩:=hsc j 0 (encB d.sec[j]) (.str d.sec[j]) (by simp [hj]) rfl;rw [den_str' q2,Nat.mul_one,Nat.add_zero] at q1
  rw [List.getElem?_eq_getElem hj];exact q1
 have cw:∀ j,j<d.ca.length->w.cell? ⟨b,off+j*2,none⟩=some (.int .i64 (d.ca[j]?.getD (0,ByteArray.empty)).1) /\w.cell? ⟨b,off+j*2+1,none⟩=some (.string (d.ca[j]?.getD (0,ByteArray.empty)).2):=fun j hj=>by
  obtain ⟨q1,q2⟩:=hc j 0 (encW d.ca[j]) (.int .i64 d.ca[j].1) (by simp [hj]) rfl;obtain ⟨q3,q4⟩:=hc j 1 (encW d.ca[j]) (.str d.ca[j].2) (by simp [hj]) rfl;rw [yCe q2,Nat.add_zero] at q1;rw [den_str' q4] at q3
  rw [List.getElem?_eq_getElem hj];exact ⟨q1,q3⟩
 have agr:∀ W:World,Below w.heap.size w W->zBj M W:=fun W hb b o v h=>(hb.cell (p:=⟨b,o,none⟩) (yBx (hA b o v h))).trans (hA b o v h)
 refine (Tryz.dread_in sa d.sec.length scap a d.ca.length cap sb soff b off (fun j=>d.sec[j]?.getD ByteArray.empty) (fun j=>d.ca[j]?.getD (0,ByteArray.empty)) n (drB d) w ?_ ?_ hsa (fun h=>yBx (cs 0 h)) cs ⟨ha,fun h=>yBx (cw 0 h).1,cw⟩).mono ?_
 ·intro W hb
  refine ((zIy d).2 W M #[.agg #[.slice sa d.sec.length scap,.slice a d.ca.length cap]] (agr W hb) ⟨rfl,fun i x v hx hv=>?_⟩).mono fun e W' he=>?_
  ·cases i with
   |zero=>
    simp at hx hv;subst hx hv;exact hu0
   |succ i=>simp at hx
  ·obtain ⟨v,M',rfl,hb',_,_,_,hv⟩:=he
   cases hv
   exact ⟨rfl,hb'⟩
 ·intro h;have hR:=zRf.1 h;exact ⟨hR.c1,hR.s2⟩
 ·rintro e W' ⟨hb,h⟩
  have told:∀ (s:ByteArray) (k:Int),zJb d n=(s,k)->e=.returned (.tuple #[.string s,.int .i64 k])->∃ (v:Value) (M':Mem),e=.returned v/\Below w.heap.size w W'/\Sub M M'/\zBj M' W'/\zTf w M M'/\DenD M' (.tup [.str (zJb d n).1,.int .i64 (zJb d n).2]) v:=by
   intro s k hs he;refine ⟨_,M,he,hb,Sub.refl M,agr W' hb,fun b o v h=>.inl h,?_⟩;rw [hs]
   refine .tup _ _ rfl fun i x v hx hv=>?_
   match i with
   |0=>simp at hx hv;subst hx hv;exact .str _
   |1=>simp at hx hv;subst hx hv;exact .int _ _
   |i+2=>simp at hx
  rcases h with ⟨hn,he⟩|⟨hr,h0,h1,h⟩
  ·exact told _ _ (if_neg fun q=>hn ⟨zRf.2 q.1,q.2.1,q.2.2⟩) he
  ·have hR:=zRf.1 hr;have hdr:zJb d n=(rdS d n,0):=if_pos ⟨hR,h0,h1⟩
   rcases h with ⟨k,hk,e1,e2,he⟩|⟨hne,he⟩
   ·refine told _ _ ?_ he;rw [hdr]
    congr 1
    simp only [List.getElem?_eq_getElem hk,Option.getD_some] at e1⊢;exact yNc hk e1 (fun j hj hj2=>by have:=e2 j hj hj2;simpa only [List.getElem?_eq_getElem hj2,Option.getD_some] using this) _
   ·refine told _ _ ?_ he;rw [hdr]
    congr 1
    refine zPz ?_;intro w' hw;obtain ⟨i,hi,rfl⟩:=List.mem_iff_getElem.1 hw;have:=hne i hi
    simpa only [List.getElem?_eq_getElem hi,Option.getD_some] using this
abbrev Jo:=Bool×Int×ByteArray
def encJ (o:Jo):List D:=[.bool o.1,.int .i64 o.2.1,.str o.2.2]
theorem z8t:∀ (l:List Jo),okRows 3 (l.map encJ)=true
 | []=>rfl
 |_::r=>z8t r
structure Us (d:DS):Prop where
 dr:DR d
 n:35<=d.sec.length
open Classical in
noncomputable def usB (d:DS):Bool:=decide (Us d)
theorem zTj {d:DS}:usB d=true↔Us d:=by simp [usB]
theorem ySw {d:DS}:usB d=false↔¬Us d:=by simp [usB]
def vaB (p:Int):Bool:=decide (1<=p)&&decide (p<=16)
theorem z3r {p:Int}:vaB p=true↔1<=p/\p<=16:=by simp [vaB]
theorem zXr (d:DS):zAj Tryz.prog 108 [zCp d] (.bool (usB d)):=by
 refine zAe Tryz.func108 1 rfl (by kernel_rfl) (w0 ?_)
 have hm:(d.sec.map encB).length=d.sec.length:=List.length_map ..
 refine aA ?_;refine zAa (zIy d) (aW ?_)
 refine zAf (fun h1=>?_) (fun h1=>?_)<;>conv=>whnf
 ·have hR:=zRf.1 h1;refine aA ?_;refine ret_of rfl (congrArg D.bool ?_)
  by_cases h:(35:Int) <= ((d.sec.map encB).length:Int)
  ·rw [decide_eq_true h];exact (zTj.2 ⟨hR,by omega⟩).symm
  ·rw [decide_eq_false h];exact (ySw.2 fun q=>by have:=q.n;omega).symm
 ·refine aA ?_;exact ret_of rfl (congrArg D.bool (ySw.2 fun q=>zKb.1 h1 q.dr).symm)
theorem yFu (p:Int):zAj Tryz.prog 185 [.int .i64 p] (.bool (vaB p)):=by
 refine zAe Tryz.func185 1 rfl (by kernel_rfl) (w0 ?_)
 refine bcase_p (fun h1=>?_) (fun h1=>?_)<;>conv=>whnf
 ·refine aA ?_;exact ret_of rfl (congrArg D.bool (by simp [vaB,h1]))
 ·refine aA ?_;exact ret_of rfl (congrArg D.bool (by simp [vaB,h1]))
theorem home_ok (p:Int) (h:vaB p=true):zAj Tryz.prog 112 [.int .i64 p] (.int .i64 (2*p+1)):=by
 have hv:=z3r.1 h;refine zAe Tryz.func112 1 rfl (by kernel_rfl) (aW ?_);exact ret_of rfl rfl
def lit16:ByteArray:={data:=#[0,0,0,0,0,0,0,0,0,0,0,0,0,0,0,0]}
theorem z1o:lit16=zDe:=bl_ext (by rw [show bl zDe=_ from zDf 16];rfl)
def zHp (p:Nat):ByteArray:=bstr [74,(p:Int)]++nulB 14
theorem yXr:zDe.extract 2 16=nulB 14:=bl_ext (by rw [zEx,show bl zDe=_ from zDf 16,show bl (nulB 14)=_ from zDf 14];rfl)
theorem zRo (p:Nat):(zHp p).size=16:=by rw [zHp,ByteArray.size_append,zGf,zCm];rfl
theorem yLe (p:Nat) (h:p<=16):zAj Tryz.prog 179 [.int .i64 p] (.str (zHp p)):=by
 refine zAe Tryz.func179 1 rfl (by kernel_rfl) (w0 ?_);refine zCg (u8in (by omega) (by omega)) (aW ?_);refine zDg (l:=2) (by decide) (aW ?_);rw [show ByteArray.extract {data:=#[0,0,0,0,0,0,0,0,0,0,0,0,0,0,0,0]} 2 (ByteArray.size {data:=#[0,0,0,0,0,0,0,0,0,0,0,0,0,0,0,0]})=nulB 14 from by rw [<-yXr,<-z1o];rfl];refine zAh (by rw [zGf,zCm];show 2+14<=_;decide) (aW ?_);exact ret_of rfl rfl
def wJ (n:Int) (s:ByteArray):Jo:=(false,n,s)
def syJ:Jo:=(true,0,ByteArray.empty)
theorem zVo (n:Int) (a b:ByteArray) (h0:0<=n) (h1:n<=1000):zDt Tryz.prog 111 [.int .i64 n,.str a,.str b] ([wJ n a,wJ (n+1) b,syJ].map encJ) 3:=by
 refine zBk Tryz.func111 3 rfl (by kernel_rfl) (aW ?_);exact ⟨6,rfl,.inl ⟨17,rfl,rfl⟩⟩
theorem yFq (s:ByteArray):zDt Tryz.prog 113 [.str s] ([wJ 0 s,syJ].map encJ) 3:=by
 refine zBk Tryz.func113 1 rfl (by kernel_rfl) (aW ?_);exact ⟨2,rfl,.inl ⟨7,rfl,rfl⟩⟩
def zGr (p:Nat) (s:ByteArray):List Jo:=[wJ 1 (s.extract 0 16),wJ 2 (s.extract 16 32),syJ]++[wJ 0 (zHp p),syJ]++[wJ (2*(p:Int)+1) (s.extract 0 16),wJ (2*(p:Int)+1+1) (s.extract 16 32),syJ]++[wJ 0 zDe,syJ]
open Classical in
noncomputable def zH (d:DS) (p:Int) (s:ByteArray):List Jo×Int:=if Us d/\ (1<=p/\p<=16) /\s.size=32 then (zGr p.toNat s,0) else ([],1)
theorem z2i (d:DS) (p:Int) (s:ByteArray) (hs:s.size<=1000000):zAj Tryz.prog 242 [zCp d,.int .i64 p,.str s] (.tup [.lst ((zH d p s).1.map encJ),.int .i64 (zH d p s).2]):=by
 refine zAe Tryz.func242 3 rfl (by kernel_rfl) (aW ?_);refine zAa (zXr d) (aW ?_)
 refine zAf (fun h1=>?_) (fun h1=>?_)<;>conv=>whnf
 ·refine aA ?_;rw [zH,if_neg (fun q=>by rw [zTj.2 q.1] at h1;exact absurd h1 (by decide))];exact ret_of rfl rfl
 have hU:Us d:=zTj.1 (by simpa using h1);refine aA ?_;refine zAa (yFu p) (aW ?_)
 refine zAf (fun h2=>?_) (fun h2=>?_)<;>conv=>whnf
 ·refine aA ?_;rw [zH,if_neg (fun q=>by rw [z3r.2 q.2.1] at h2;exact absurd h2 (by decide))];exact ret_of rfl rfl
 have hV:=z3r.1 (show vaB p=true by simpa using h2);refine aA ?_
 refine bcase_n (fun h3=>?_) (fun h3=>?_)<;>conv=>whnf
 ·refine aA ?_;rw [zH,if_neg (fun q=>h3 (by rw [q.2.2];rfl))];exact ret_of rfl rfl
 have h3:s.size=32:=by omega
 obtain ⟨k,rfl⟩:∃ k:Nat,p=(k:Int):=⟨p.toNat,by omega⟩;rw [zH,if_pos ⟨hU,hV,h3⟩,Int.toNat_natCast,zGr];refine aA ?_;refine zCv (h:=16) (by omega) (aW ?_);refine zDg (l:=16) (by omega) (aW ?_);obtain ⟨x,hx⟩:∃ x,s.extract 0 16=x:=⟨_,rfl⟩;obtain ⟨y,hy⟩:∃ y,s.extract 16 32=y:=⟨_,rfl⟩;rw [hx,hy];rw [h3,hy];refine zAn (zVo 1 x y (by omega) (by omega)) (aW ?_);refine zAa (yLe k (by omega)) (aW ?_);refine zAn (yFq (zHp k)) (aW ?_);refine zAk 1000 1000 (by simp) (by decide) (by decide) (by decide) (aW ?_);refine zAa (home_ok k (z3r.2 hV)) (aW ?_);refine zAn (zVo (2*(k:Int)+1) x y (by omega) (by omega)) (aW ?_);refine zAk 1000 1000 (by simp) (by decide) (by decide) (by decide) (aW ?_);rw [show ({data:=#[0,0,0,0,0,0,0,0,0,0,0,0,0,0,0,0]}:ByteArray)=zDe from z1o];refine zAn (yFq zDe) (aW ?_);refine zAk 1000 1000 (by simp) (by decide) (by decide) (by decide) (aW ?_);exact ret_of rfl rfl
noncomputable def zEh (d:DS) (o:Jo):DS:=if o.1=true then zXp d else (putM d o.2).1
noncomputable def runM (d:DS) (l:List Jo) (most:Int):DS:=(l.take most.toNat).foldl zEh d
theorem yUp (d:DS) (l:List Jo) (most:Int) (hl:l.length<=1000000):zAj Tryz.prog 56 [zCp d,.lst (l.map encJ),.int .i64 most] (zCp (runM d l most)):=by
 refine zAe Tryz.func56 3 rfl (by kernel_rfl) (w0 ?_)
 have hm:(l.map encJ).length=l.length:=List.length_map ..
 refine aA ?_;refine zAq (ι:=Nat×DS) (fun k=>[(2,.d (.int .i64 most)),(3,.ptr 3 0 0),(6,.ptr 6 0 0),(11,.d (.lst (l.map encJ))),(12,.d (.int .i64 (l.map encJ).length)),(13,.d (.int .i64 k.1))]) (fun k=>[(3,.box [.d (.lst (k.2.sec.map encB)),.d (.lst (k.2.ca.map encW))] false),(6,.box [.nil,.nil] false)])
  (fun k=>k.1<=l.length/\ ((k.1:Int) <=most\/k.1=0) /\k.2=(l.take k.1).foldl zEh d) (fun k=>l.length-k.1) (0,d) ⟨by omega,.inr rfl,rfl⟩ (le0 (zAb ⟨rfl,rfl,rfl,rfl,rfl,rfl,trivial⟩ ⟨rfl,rfl,trivial⟩ ⟨rfl,rfl,rfl,rfl⟩)) ?_
 rintro ⟨k,e⟩ ⟨hk,hc,he⟩;simp only at hk hc he⊢
 have tk:∀ j,most.toNat=j->(l.take j).foldl zEh d=runM d l most:=fun j h=>by rw [runM,h]
 conv=>whnf
 refine bcase_p (fun h5=>?_) (fun h5=>?_)<;>conv=>whnf
 ·have hk2:k<l.length:=by omega
  have en:∀ x,zEh e l[k]=x->(l.take (k+1)).foldl zEh d=x:=fun x hx=>by rw [zAs hk2,List.foldl_append,<-he];exact hx
  refine zAd (by omega) (w0 ?_);refine zAc (x:=encJ l[k]) (by simp [hk2]) (aW ?_)
  refine bcase_p (fun h6=>?_) (fun h6=>?_)<;>conv=>whnf
  ·refine aA ?_
   have:e=runM d l most:=by
    rcases hc with h|h
    ·rw [he];exact tk k (by omega)
    ·subst h;rw [he];exact tk 0 (by omega)
   rw [this];exact ret_of rfl rfl
  refine aA ?_
  refine zAf (fun h7=>?_) (fun h7=>?_)<;>conv=>whnf
  ·refine aA ?_;refine zAa (yYz e) (aW ?_);exact ⟨(k+1,zXp e),⟨by simp only [];omega,.inl (by simp only [];omega),(en _ (if_pos h7)).symm⟩,by simp only [];omega,(le0 (zAb ⟨rfl,rfl,rfl,rfl,rfl,rfl,trivial⟩ ⟨rfl,rfl,trivial⟩ ⟨rfl,rfl,rfl,rfl⟩))⟩
  ·refine aA ?_;refine zAa (yWa e l[k].2) (aW ?_);have hs:zEh e l[k]=(putM e l[k].2).1:=if_neg (by rw [h7];decide)
   refine bcase_p (fun h8=>?_) (fun h8=>?_)<;>conv=>whnf
   ·refine aA ?_;exact ⟨(k+1,(putM e l[k].2).1),⟨by simp only [];omega,.inl (by simp only [];omega),(en _ hs).symm⟩,by simp only [];omega,(le0 (zAb ⟨rfl,rfl,rfl,rfl,rfl,rfl,trivial⟩ ⟨rfl,rfl,trivial⟩ ⟨rfl,rfl,rfl,rfl⟩))⟩
   ·refine aA ?_
    have:(putM e l[k].2).1=e:=by
     rw [putM] at h8⊢
     split
     ·rename_i q;rw [if_pos q] at h8
      split
      ·rfl
      ·rename_i q2;rw [if_neg q2] at h8;exact absurd rfl h8
     ·rfl
    exact ⟨(k+1,e),⟨by simp only [];omega,.inl (by simp only [];omega),(en _ (hs.trans this)).symm⟩,by simp only [];omega,(le0 (zAb ⟨rfl,rfl,rfl,rfl,rfl,rfl,trivial⟩ ⟨rfl,rfl,trivial⟩ ⟨rfl,rfl,rfl,rfl⟩))⟩
 ·refine aA ?_
  have:e=runM d l most:=by
   rw [he,runM]
   rcases hc with h|h
   ·rw [List.take_of_length_le (by omega),List.take_of_length_le (by omega)]
   ·have:l=[]:=List.length_eq_zero_iff.1 (by omega);subst this;simp
  rw [this];exact ret_of rfl rfl
def zPh (s:ByteArray):Nat->Nat->Int×Bool
 |0,_=>(0,false)
 |n+1,k=>if s=zHp k then ((k:Int),true) else zPh s n (k+1)
def zTh (s:ByteArray):Int×Bool:=zPh s 16 1
theorem yLf (s:ByteArray):zAj Tryz.prog 110 [.str s] (.tup [.int .i64 (zTh s).1,.bool (zTh s).2]):=by
 refine zAe Tryz.func110 1 rfl (by kernel_rfl) (w0 ?_);refine zAq (ι:=Nat) (fun k=>[(0,.d (.str s)),(4,.d (.int .i64 k))]) (fun _=>[])
  (fun k=>1<=k/\k<=17/\zTh s=zPh s (17-k) k) (fun k=>17-k) 1 ⟨by omega,by omega,rfl⟩ (le0 (zAb ⟨rfl,rfl,trivial⟩ trivial ⟨rfl,rfl,rfl,rfl⟩)) ?_
 rintro k ⟨h1,h2,hR⟩;rw [hR]
 conv=>whnf
 refine bcase_p (fun h5=>?_) (fun h5=>?_)<;>conv=>whnf
 ·have e:17-k=(16-k)+1:=by omega
  rw [e,zPh];refine aA ?_;refine zAa (yLe k (by omega)) (aW ?_)
  refine bcase_p (fun h6=>?_) (fun h6=>?_)<;>conv=>whnf
  ·refine aA ?_;rw [if_pos h6];exact ret_of rfl rfl
  ·refine aA ?_;rw [if_neg h6];exact ⟨k+1,⟨by omega,by omega,by rw [show 17-(k+1)=16-k by omega]⟩,by omega,(le0 (zAb ⟨rfl,rfl,trivial⟩ trivial ⟨rfl,rfl,rfl,rfl⟩))⟩
 ·refine aA ?_
  have ek:k=17:=by omega
  subst ek;exact ret_of rfl rfl
theorem z6r {n:Int}:∀ {l:List Wt} {b:ByteArray},b.size=16->(∀ w∈l,w.2.size=16)->(pick n l b).size=16
 | [],b,hb,_=>hb
 |w::r,b,hb,h=>by
  show (pick n r (if w.1=n then w.2 else b)).size=16
  refine z6r ?_ fun x hx=>h x (List.mem_cons_of_mem _ hx)
  split
  ·exact h w (List.mem_cons_self ..)
  ·exact hb
theorem zQc {d:DS} (hR:DR d) {n:Int} (h0:0<=n) (h1:n<d.sec.length):(rdS d n).size=16:=by
 refine z6r ?_ fun w hw=>?_
 ·rw [List.getElem?_eq_getElem (by omega),Option.getD_some];exact hR.s _ _
 ·obtain ⟨i,hi,rfl⟩:=List.mem_iff_getElem.1 hw;exact (zDo.1 (hR.c i hi)).2.2
theorem zLi {d:DS} (hR:DR d) {n:Int} (h0:0<=n) (h1:n<d.sec.length):zJb d n=(rdS d n,0):=if_pos ⟨hR,h0,h1⟩
noncomputable def fixJ (d:DS):List Jo:=if (zTh (rdS d 0)).2=true then [wJ (2*(zTh (rdS d 0)).1+1) (rdS d 1),wJ (2*(zTh (rdS d 0)).1+1+1) (rdS d 2),syJ] else []
open Classical in
noncomputable def zFy (d:DS):List Jo:=if Us d then (if rdS d 0=zDe then [] else fixJ d++[wJ 0 zDe,syJ]) else []
theorem z1h {s:ByteArray}:∀ {n k:Nat},(zPh s n k).2=true->(k:Int) <= (zPh s n k).1/\ (zPh s n k).1<((k+n:Nat):Int) /\s=zHp (zPh s n k).1.toNat
 |0,k,h=>by simp [zPh] at h
 |n+1,k,h=>by
  rw [zPh] at h⊢
  split
  ·rename_i e;exact ⟨by omega,by omega,by simpa using e⟩
  ·rename_i e;rw [if_neg e] at h;have:=z1h h;exact ⟨by omega,by omega,this.2.2⟩
theorem yNl (d:DS):zDt Tryz.prog 55 [zCp d] ((zFy d).map encJ) 3:=by
 refine zBk Tryz.func55 1 rfl (by kernel_rfl) (aW ?_);refine zAa (zXr d) (aW ?_)
 refine zAf (fun h1=>?_) (fun h1=>?_)<;>conv=>whnf
 ·refine aA ?_;rw [zFy,if_neg (fun q=>by rw [zTj.2 q] at h1;exact absurd h1 (by decide))];exact ⟨2,rfl,.inr ⟨rfl,rfl⟩⟩
 have hU:Us d:=zTj.1 (by simpa using h1);have hR:=hU.dr;have hn:=hU.n;rw [zFy,if_pos hU];refine aA ?_;refine zAa (zKc d 0) (aW ?_);rw [zLi hR (by decide) (by omega)];rw [show ({data:=#[0,0,0,0,0,0,0,0,0,0,0,0,0,0,0,0]}:ByteArray)=zDe from z1o]
 refine bcase_p (fun h2=>?_) (fun h2=>?_)<;>conv=>whnf
 ·refine aA ?_;rw [if_pos h2];exact ⟨2,rfl,.inr ⟨rfl,rfl⟩⟩
 rw [if_neg h2];refine aA ?_;refine zAa (yLf (rdS d 0)) (aW ?_)
 refine zAf (fun h3=>?_) (fun h3=>?_)<;>conv=>whnf
 ·obtain ⟨q1,q2,_⟩:=z1h (show (zPh (rdS d 0) 16 1).2=true from h3);have q1:1<= (zTh (rdS d 0)).1:=q1;have q2:(zTh (rdS d 0)).1<17:=q2;refine aA ?_;refine zAa (zKc d 1) (aW ?_);rw [zLi hR (by decide) (by omega)];refine aA ?_;refine zAa (zKc d 2) (aW ?_);rw [zLi hR (by decide) (by omega)];obtain ⟨p,hp⟩:∃ p,(zTh (rdS d 0)).1=p:=⟨_,rfl⟩;rw [fixJ,if_pos h3,hp];rw [hp] at q1 q2;refine aA ?_;refine zAa (home_ok p (z3r.2 ⟨by omega,by omega⟩)) (aW ?_);refine zAn (zVo (2*p+1) (rdS d 1) (rdS d 2) (by omega) (by omega)) (aW ?_);refine zAn (yFq zDe) (aW ?_);refine zAk 1000 1000 (by simp) (by decide) (by decide) (by decide) (w0 ?_);exact ⟨2,rfl,.inl ⟨42,rfl,rfl⟩⟩
 ·rw [fixJ,if_neg (by rw [h3];decide)];refine aA ?_;refine zAn (yFq zDe) (aW ?_);refine zAk 1000 1000 (by simp) (by decide) (by decide) (by decide) (w0 ?_);exact ⟨2,rfl,.inl ⟨45,rfl,rfl⟩⟩
noncomputable def zEq (d:DS) (p:Int) (s:ByteArray):DS×Int:=if (zH d p s).2=0 then (runM d (zH d p s).1 ((zH d p s).1.length:Nat),0) else (d,(zH d p s).2)
theorem zWs (d:DS) (p:Int) (s:ByteArray):(zH d p s).1.length<=10:=by
 rw [zH];split
 ·simp [zGr]
 ·simp
theorem yJt (d:DS) (p:Int) (s:ByteArray) (hs:s.size<=1000000):zAj Tryz.prog 280 [zCp d,.int .i64 p,.str s] (.tup [zCp (zEq d p s).1,.int .i64 (zEq d p s).2]):=by
 refine zAe Tryz.func280 3 rfl (by kernel_rfl) (aW ?_);refine zAa (z2i d p s hs) (aW ?_);have hl:=zWs d p s
 have hml:((zH d p s).1.map encJ).length=(zH d p s).1.length:=List.length_map ..
 refine bcase_n (fun h1=>?_) (fun h1=>?_)<;>conv=>whnf
 ·refine aA ?_;rw [zEq,if_neg h1];exact ret_of rfl rfl
 ·rw [zEq,if_pos h1];refine aA ?_;rw [hml];refine zAa (yUp d (zH d p s).1 ((zH d p s).1.length:Nat) (by omega)) (aW ?_);exact ret_of rfl rfl
theorem yAo (d:DS):(zFy d).length<=5:=by
 rw [zFy];split
 ·split
  ·simp
  ·rw [fixJ];split<;>simp
 ·simp
noncomputable def recM (d:DS):DS:=runM d (zFy d) ((zFy d).length:Nat)
theorem zSd (d:DS):zAj Tryz.prog 21 [zCp d] (zCp (recM d)):=by
 refine zAe Tryz.func21 1 rfl (by kernel_rfl) (aW ?_);refine zAn (yNl d) (w0 ?_);have hl:=yAo d
 have hml:((zFy d).map encJ).length=(zFy d).length:=List.length_map ..
 refine aA ?_;rw [hml];refine zAa (yUp d (zFy d) ((zFy d).length:Nat) (by omega)) (aW ?_);exact ret_of rfl rfl
open Classical in
noncomputable def getJ (d:DS) (p:Int):ByteArray×Int:=if Us d/\1<=p/\p<=16 then (rdS d (2*p+1)++rdS d (2*p+1+1),0) else (ByteArray.empty,1)
theorem yKy (d:DS) (p:Int):zAj Tryz.prog 126 [zCp d,.int .i64 p] (.tup [.str (getJ d p).1,.int .i64 (getJ d p).2]):=by
 refine zAe Tryz.func126 2 rfl (by kernel_rfl) (aW ?_);refine zAa (zXr d) (aW ?_)
 refine zAf (fun h1=>?_) (fun h1=>?_)<;>conv=>whnf
 ·refine aA ?_;rw [getJ,if_neg (fun q=>by rw [zTj.2 q.1] at h1;exact absurd h1 (by decide))];exact ret_of rfl rfl
 have hU:Us d:=zTj.1 (by simpa using h1);have hR:=hU.dr;have hn:=hU.n;refine aA ?_;refine zAa (yFu p) (aW ?_)
 refine zAf (fun h2=>?_) (fun h2=>?_)<;>conv=>whnf
 ·refine aA ?_;rw [getJ,if_neg (fun q=>by rw [z3r.2 q.2] at h2;exact absurd h2 (by decide))];exact ret_of rfl rfl
 have hV:=z3r.1 (show vaB p=true by simpa using h2);rw [getJ,if_pos ⟨hU,hV⟩];refine aA ?_;refine zAa (home_ok p (z3r.2 hV)) (aW ?_);refine zAa (zKc d (2*p+1)) (aW ?_);rw [zLi hR (by omega) (by omega)];refine aA ?_;refine zAa (home_ok p (z3r.2 hV)) (aW ?_);refine zAa (zKc d (2*p+1+1)) (aW ?_);rw [zLi hR (by omega) (by omega)];have z1:=zQc hR (show 0<=2*p+1 by omega) (by omega);have z2:=zQc hR (show 0<=2*p+1+1 by omega) (by omega);refine zAh (by show (rdS d (2*p+1)).size+(rdS d (2*p+1+1)).size<=_;rw [z1,z2];decide) (aW ?_);exact ret_of rfl rfl
theorem zXi:zAj Tryz.prog 241 [] (.str (nulB 32)):=by
 refine zAe Tryz.func241 0 rfl (by kernel_rfl) (w0 ?_);refine zAa (zQd yBo 32 (by decide) (by decide)) (aW ?_);exact ret_of rfl rfl
noncomputable def getS (d:DS) (id:Int):Pg×Int:=
 if (getJ d id).2≠0 then (zP,(getJ d id).2) else if (zFl (getJ d id).1).2≠0 then (zP,(zFl (getJ d id).1).2) else if (zFl (getJ d id).1).1.1≠id then (zP,9) else ((zFl (getJ d id).1).1,0)
theorem zRm (d:DS) (id:Int):zAj Tryz.prog 99 [zCp d,.int .i64 id] (.tup [.agg (encP (getS d id).1),.int .i64 (getS d id).2]):=by
 refine zAe Tryz.func99 2 rfl (by kernel_rfl) (aW ?_);refine zAa (yKy d id) (aW ?_);rw [getS]
 refine bcase_n (fun h1=>?_) (fun h1=>?_)<;>conv=>whnf
 ·refine aA ?_;rw [if_pos h1];exact ret_of rfl rfl
 rw [if_neg (fun q=>q h1)];refine aA ?_;refine zAa (yZa (getJ d id).1) (aW ?_)
 refine bcase_n (fun h2=>?_) (fun h2=>?_)<;>conv=>whnf
 ·refine aA ?_;rw [if_pos h2];exact ret_of rfl rfl
 rw [if_neg (fun q=>q h2)];refine aA ?_
 refine bcase_n (fun h3=>?_) (fun h3=>?_)<;>conv=>whnf
 ·refine aA ?_;rw [if_pos h3];exact ret_of rfl rfl
 rw [if_neg (fun q=>q h3)];refine aA ?_;exact ret_of rfl rfl
theorem zZx (d:DS) (p:Int) (s:ByteArray) (hs:s.size<=1000000):zAj Tryz.prog 240 [zCp d,.int .i64 p,.str s] (.tup [zCp (zEq d p s).1,.int .i64 (zEq d p s).2]):=by
 refine zAe Tryz.func240 3 rfl (by kernel_rfl) (aW ?_);refine zAa (yJt d p s hs) (aW ?_)
 have hc:(zEq d p s).2≠0->(zEq d p s).1=d:=fun h=>by
  rw [zEq] at h⊢
  split
  ·rename_i q;rw [if_pos q] at h;exact absurd rfl h
  ·rfl
 refine bcase_n (fun h1=>?_) (fun h1=>?_)<;>conv=>whnf
 ·refine aA ?_;rw [hc h1];exact ret_of rfl rfl
 ·refine aA ?_;rw [h1];exact ret_of rfl rfl
open Classical in
noncomputable def setS (d:DS) (x:Pg):DS×Int:=if pgR x=true then zEq d x.1 (putB x) else (d,1)
theorem yYl (d:DS) (x:Pg):zAj Tryz.prog 244 [zCp d,.agg (encP x)] (.tup [zCp (setS d x).1,.int .i64 (setS d x).2]):=by
 refine zAe Tryz.func244 2 rfl (by kernel_rfl) (aW ?_);have hput:=put_ok x
 by_cases hR:pgR x=true
 ·rw [if_pos hR] at hput;rw [setS,if_pos hR];have hz:=zDz (pgR_out.1 hR).2.2.2.2;refine zAa hput (aW ?_);refine zAa (zZx d x.1 (putB x) (by omega)) (aW ?_);exact ret_of rfl rfl
 ·rw [if_neg hR] at hput;rw [setS,if_neg hR];refine zAa hput (aW ?_);exact ret_of rfl rfl
noncomputable def delD (d:DS) (id:Int):DS×Int:=zEq d id (nulB 32)
theorem yKb (d:DS) (id:Int):zAj Tryz.prog 171 [zCp d,.int .i64 id] (.tup [zCp (delD d id).1,.int .i64 (delD d id).2]):=by
 refine zAe Tryz.func171 2 rfl (by kernel_rfl) (aW ?_);refine zAa zXi (aW ?_);refine zAa (zZx d id (nulB 32) (by rw [zCm];decide)) (aW ?_);exact ret_of rfl rfl
open Classical in
noncomputable def zIe (d:DS) (x:Pg):List Jo:=if x.2.1≠0\/x.2.2≠ByteArray.empty then (if pgR x=true then (zH d x.1 (putB x)).1 else []) else (zH d x.1 (nulB 32)).1
theorem z2h {d:DS} {p:Int} {s:ByteArray} (h:(zH d p s).2≠0):(zH d p s).1=[]:=by
 rw [zH] at h⊢
 split
 ·rename_i q;rw [if_pos q] at h;exact absurd rfl h
 ·rfl
theorem zXn (d:DS) (x:Pg):zAj Tryz.prog 172 [zCp d,.agg (encP x)] (.lst ((zIe d x).map encJ)):=by
 refine zAe Tryz.func172 2 rfl (by kernel_rfl) (aW ?_);refine zAa zXi (aW ?_);rw [zIe]
 refine bcase_n (fun h1=>?_) (fun h1=>?_)<;>conv=>whnf
 ·rw [if_pos (.inl h1)];refine aA ?_;have hput:=put_ok x
  by_cases hR:pgR x=true
  ·rw [if_pos hR] at hput;rw [if_pos hR];have hz:=zDz (pgR_out.1 hR).2.2.2.2;refine zAa hput (aW ?_);refine zAa (z2i d x.1 (putB x) (by omega)) (aW ?_)
   refine bcase_n (fun h9=>?_) (fun h9=>?_)<;>conv=>whnf
   ·refine aA ?_;rw [z2h h9];exact ret_of rfl rfl
   ·refine aA ?_;exact ret_of rfl rfl
  ·rw [if_neg hR] at hput;rw [if_neg hR];refine zAa hput (aW ?_);exact ret_of rfl rfl
 ·refine aA ?_
  refine bcase_n (fun h2=>?_) (fun h2=>?_)<;>conv=>whnf
  ·rw [if_pos (.inr h2)];refine aA ?_;have hput:=put_ok x
   by_cases hR:pgR x=true
   ·rw [if_pos hR] at hput;rw [if_pos hR];have hz:=zDz (pgR_out.1 hR).2.2.2.2;refine zAa hput (aW ?_);refine zAa (z2i d x.1 (putB x) (by omega)) (aW ?_)
    refine bcase_n (fun h9=>?_) (fun h9=>?_)<;>conv=>whnf
    ·refine aA ?_;rw [z2h h9];exact ret_of rfl rfl
    ·refine aA ?_;exact ret_of rfl rfl
   ·rw [if_neg hR] at hput;rw [if_neg hR];refine zAa hput (aW ?_);exact ret_of rfl rfl
  ·rw [if_neg (fun q=>q.elim (fun q=>q h1) (fun q=>q h2))];refine aA ?_;refine zAa (z2i d x.1 (nulB 32) (by rw [zCm];decide)) (aW ?_)
   refine bcase_n (fun h9=>?_) (fun h9=>?_)<;>conv=>whnf
   ·refine aA ?_;rw [z2h h9];exact ret_of rfl rfl
   ·refine aA ?_;exact ret_of rfl rfl
theorem yU (d:DS):zAj Tryz.prog 65 [zCp d] (.bool (usB d)):=by
 refine zAe Tryz.func65 1 rfl (by kernel_rfl) (w0 ?_)
 have hm:(d.sec.map encB).length=d.sec.length:=List.length_map ..
 refine aA ?_;refine zAa (zSc d) (aW ?_)
 refine zAf (fun h1=>?_) (fun h1=>?_)<;>conv=>whnf
 ·have hR:=zRf.1 h1;refine aA ?_;refine ret_of rfl (congrArg D.bool ?_)
  by_cases h:(34:Int)<((d.sec.map encB).length:Int)
  ·rw [decide_eq_true h];exact (zTj.2 ⟨hR,by omega⟩).symm
  ·rw [decide_eq_false h];exact (ySw.2 fun q=>by have:=q.n;omega).symm
 ·refine aA ?_;exact ret_of rfl (congrArg D.bool (ySw.2 fun q=>zKb.1 h1 q.dr).symm)
theorem yNm (d:DS) (p:Int) (hU:Us d) (h1:1<=p) (h2:p<=16):zAj Tryz.prog 67 [zCp d,.int .i64 p] (.str (rdS d (2*p+1)++rdS d (2*p+1+1))):=by
 have hR:=hU.dr;have hn:=hU.n;have hc:=hR.c1;have z1:=zQc hR (show 0<=2*p+1 by omega) (by omega);have z2:=zQc hR (show 0<=2*p+1+1 by omega) (by omega);refine zAe Tryz.func67 2 rfl (by kernel_rfl) (aW ?_);refine zAa (z2x d (2*p+1) (by omega) (by omega) (by omega)) (aW ?_);rw [show 2*p+2=2*p+1+1 by omega];refine zAa (z2x d (2*p+1+1) (by omega) (by omega) (by omega)) (aW ?_);exact ret_of rfl rfl
theorem z9h {d:DS} {id:Int} (h:¬(Us d/\1<=id/\id<=16)):getS d id=(zP,1):=by
 have:getJ d id=(ByteArray.empty,1):=if_neg h;rw [getS,this,if_pos (by decide)]
theorem yCx {d:DS} {id:Int} (h:Us d/\1<=id/\id<=16):getS d id=if (zFl (rdS d (2*id+1)++rdS d (2*id+1+1))).2≠0 then (zP,(zFl (rdS d (2*id+1)++rdS d (2*id+1+1))).2) else if (zFl (rdS d (2*id+1)++rdS d (2*id+1+1))).1.1≠id then (zP,9) else ((zFl (rdS d (2*id+1)++rdS d (2*id+1+1))).1,0):=by
 have:getJ d id=(rdS d (2*id+1)++rdS d (2*id+1+1),0):=if_pos h;rw [getS,this,if_neg (fun q=>q rfl)]
theorem z2o (d:DS) (id:Int):zAj Tryz.prog 24 [zCp d,.int .i64 id] (.tup [.agg (encP (getS d id).1),.int .i64 (getS d id).2]):=by
 refine zAe Tryz.func24 2 rfl (by kernel_rfl) (aW ?_);refine zAa (yU d) (aW ?_)
 refine zAf (fun h1=>?_) (fun h1=>?_)<;>conv=>whnf
 ·refine aA ?_;rw [z9h (fun q=>by rw [zTj.2 q.1] at h1;exact absurd h1 (by decide))];exact ret_of rfl rfl
 have hU:Us d:=zTj.1 (by simpa using h1);refine aA ?_
 refine bcase_p (fun h2=>?_) (fun h2=>?_)<;>conv=>whnf
 ·refine aA ?_;rw [z9h (by omega)];exact ret_of rfl rfl
 refine aA ?_
 refine bcase_p (fun h3=>?_) (fun h3=>?_)<;>conv=>whnf
 ·refine aA ?_;rw [z9h (by omega)];exact ret_of rfl rfl
 refine aA ?_;rw [yCx ⟨hU,by omega,by omega⟩];refine zAa (yNm d id hU (by omega) (by omega)) (aW ?_);obtain ⟨t,ht⟩:∃ t,zFl (rdS d (2*id+1)++rdS d (2*id+1+1))=t:=⟨_,rfl⟩;have hk:=yRs (rdS d (2*id+1)++rdS d (2*id+1+1));rw [ht] at hk⊢;refine zAa hk (aW ?_)
 refine bcase_n (fun h4=>?_) (fun h4=>?_)<;>conv=>whnf
 ·refine aA ?_;rw [if_pos h4];exact ret_of rfl rfl
 rw [if_neg (fun q=>q h4)];refine aA ?_
 refine bcase_n (fun h5=>?_) (fun h5=>?_)<;>conv=>whnf
 ·refine aA ?_;rw [if_pos h5];exact ret_of rfl rfl
 rw [if_neg (fun q=>q h5)];refine aA ?_;exact ret_of rfl rfl
structure Rest (s:List ByteArray):Prop where
 n:35<=s.length
 m:s.length<=64
 z:∀ i,(h:i<s.length)->s[i].size=16
theorem Rest.dr {s:List ByteArray} (h:Rest s) {l:List Wt} (hl:l.length<=200) (hw:∀ w∈l,okW s.length w=true):DR ⟨s,l⟩:=
 ⟨by have:=h.n;simp only [];omega,h.m,hl,h.z,fun i hi=>hw _ (List.getElem_mem hi)⟩
theorem Rest.us {s:List ByteArray} (h:Rest s):Us ⟨s,[]⟩:=⟨h.dr (by simp) (by simp),h.n⟩
theorem Rest.set {s:List ByteArray} (h:Rest s) (i:Nat) {b:ByteArray} (hb:b.size=16):Rest (s.set i b):=by
 refine ⟨by rw [List.length_set];exact h.n,by rw [List.length_set];exact h.m,fun j hj=>?_⟩;rw [List.getElem_set]
 split
 ·exact hb
 ·exact h.z _ _
theorem z3j {s:List ByteArray} (h:Rest s) {l:List Wt} {n:Int} {b:ByteArray} (hl:l.length<200) (hw:∀ w∈l,okW s.length w=true) (h0:0<=n) (h1:n<s.length) (hb:b.size=16):
  zEh ⟨s,l⟩ (wJ n b)=⟨s,l++[(n,b)]⟩ /\ ∀ w∈l++[(n,b)],okW s.length w=true:=by
 have hk:okW s.length (n,b)=true:=zDo.2 ⟨h0,h1,hb⟩
 constructor
 ·show (putM ⟨s,l⟩ (n,b)).1=_;rw [putM,if_pos ⟨h.dr (by omega) hw,hk⟩,if_neg (by simp only [];omega)]
 ·intro w hm
  rcases List.mem_append.1 hm with q|q
  ·exact hw w q
  ·rw [List.mem_singleton] at q;subst q;exact hk
theorem z7d {s:List ByteArray} (h:Rest s) {l:List Wt} (hl:l.length<=200) (hw:∀ w∈l,okW s.length w=true):zEh ⟨s,l⟩ syJ=⟨wrS s l,[]⟩:=by
 show zXp ⟨s,l⟩=_;rw [zXp,if_pos (h.dr hl hw)]
theorem step1 {s:List ByteArray} (h:Rest s) {n:Int} {b:ByteArray} (h0:0<=n) (h1:n<s.length) (hb:b.size=16):[wJ n b,syJ].foldl zEh ⟨s,[]⟩=⟨s.set n.toNat b,[]⟩:=by
 obtain ⟨e1,w1⟩:=z3j h (l:=[]) (by simp) (by simp) h0 h1 hb;simp only [List.foldl_cons,List.foldl_nil,e1];rw [z7d h (by simp) w1];rfl
theorem step2 {s:List ByteArray} (h:Rest s) {n m:Int} {b c:ByteArray} (h0:0<=n) (h1:n<s.length) (hb:b.size=16) (h2:0<=m) (h3:m<s.length) (hc:c.size=16):[wJ n b,wJ m c,syJ].foldl zEh ⟨s,[]⟩=⟨(s.set n.toNat b).set m.toNat c,[]⟩:=by
 obtain ⟨e1,w1⟩:=z3j h (l:=[]) (by simp) (by simp) h0 h1 hb;obtain ⟨e2,w2⟩:=z3j h (l:=[]++[(n,b)]) (by simp) w1 h2 h3 hc;simp only [List.foldl_cons,List.foldl_nil,e1,e2];rw [z7d h (by simp) w2];rfl
def setD (s:List ByteArray) (p:Nat) (a b:ByteArray):List ByteArray:=(((((s.set 1 a).set 2 b).set 0 (zHp p)).set (2*p+1) a).set (2*p+2) b).set 0 zDe
theorem zRx:zDe.size=16:=zCm 16
theorem z0z {s:ByteArray} (h:s.size=32):(s.extract 0 16).size=16/\ (s.extract 16 32).size=16:=by
 have hb:(bl s).length=32:=by rw [zSp];exact h
 constructor
 ·rw [<-zSp,zEx,List.length_take,List.length_drop];omega
 ·rw [<-zSp,zEx,List.length_take,List.length_drop];omega
theorem yKm {s:ByteArray} (h:s.size=32):s.extract 0 16++s.extract 16 32=s:=by
 have hb:(bl s).length=32:=by rw [zSp];exact h
 apply bl_ext;rw [zIa,zEx,zEx,List.drop_zero];rw [List.take_of_length_le (show ((bl s).drop 16).length<=32-16 by rw [List.length_drop];omega)];exact List.take_append_drop 16 (bl s)
theorem zM {s:List ByteArray} (h:Rest s) {p:Nat} (h1:1<=p) (h16:p<=16) {x:ByteArray} (hx:x.size=32):(zGr p x).foldl zEh ⟨s,[]⟩=⟨setD s p (x.extract 0 16) (x.extract 16 32),[]⟩:=by
 obtain ⟨ha,hb⟩:=z0z hx;have hn:=h.n;rw [zGr,List.foldl_append,List.foldl_append,List.foldl_append];rw [step2 h (by decide) (by omega) ha (by decide) (by omega) hb];have r1:=(h.set 1 ha).set 2 hb
 have l1:((s.set 1 (x.extract 0 16)).set 2 (x.extract 16 32)).length=s.length:=by simp
 rw [show ((1:Int).toNat)=1 from rfl,show ((2:Int).toNat)=2 from rfl];rw [step1 r1 (by decide) (by omega) (zRo p)];have r2:=r1.set 0 (zRo p)
 have l2:(((s.set 1 (x.extract 0 16)).set 2 (x.extract 16 32)).set 0 (zHp p)).length=s.length:=by simp
 rw [show ((0:Int).toNat)=0 from rfl];rw [step2 r2 (by omega) (by omega) ha (by omega) (by omega) hb];rw [show (2*(p:Int)+1).toNat=2*p+1 by omega,show (2*(p:Int)+1+1).toNat=2*p+2 by omega];have r3:=(r2.set (2*p+1) ha).set (2*p+2) hb;rw [step1 r3 (by decide) (by simp;omega) zRx];rfl
theorem Rest.setD {s:List ByteArray} (h:Rest s) {p:Nat} {a b:ByteArray} (ha:a.size=16) (hb:b.size=16):Rest (setD s p a b):=
 (((((h.set 1 ha).set 2 hb).set 0 (zRo p)).set _ ha).set _ hb).set 0 zRx
theorem yEu (s:List ByteArray) (p:Nat) (a b:ByteArray):(setD s p a b).length=s.length:=by simp [setD]
def raw (s:List ByteArray) (p:Nat):ByteArray:=s[2*p+1]?.getD ByteArray.empty++s[2*p+2]?.getD ByteArray.empty
theorem yEo {s:List ByteArray} (h:Rest s) {p:Nat} (h1:1<=p) (h16:p<=16) {a b:ByteArray}:raw (setD s p a b) p=a++b:=by
 have hn:=h.n;simp only [raw,setD,List.getElem?_set,List.length_set];simp;rw [if_pos (by omega),if_pos (by omega)];simp
theorem z6y {s:List ByteArray} {p q:Nat} (h1:1<=q) (hne:p≠q) {a b:ByteArray}:raw (setD s p a b) q=raw s q:=by
 simp only [raw,setD,List.getElem?_set,List.length_set];rw [if_neg (by omega),if_neg (by omega),if_neg (by omega),if_neg (by omega),if_neg (by omega),if_neg (by omega),if_neg (by omega),if_neg (by omega),if_neg (by omega),if_neg (by omega),if_neg (by omega),if_neg (by omega)]
end Go.Lk
