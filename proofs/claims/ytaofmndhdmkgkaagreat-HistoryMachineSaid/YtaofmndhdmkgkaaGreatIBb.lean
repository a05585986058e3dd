/-
  What is proved here: what functions of the program compute, and what follows; no condition beyond each theorem's own.
-/
import Derived.Test.YtaofmndhdmkgkaaGreatIAs
import Derived.Test.YtaofmndhdmkgkaaGreatIAz
import Derived.Test.YtaofmndhdmkgkaaGreatIBa
set_option linter.unusedSimpArgs false
set_option linter.unusedVariables false
set_option linter.unnecessarySimpa false
set_option linter.unusedSectionVars false
namespace Go.Lk
open Go Go.Proofs Go.RowKit
theorem FM.tl {f:FX} (h:FM f):f.tb.length<=1000000:=by have:=h.tb.len;omega
theorem FM.dl {f:FX} (h:FM f):f.dt.length<=1000000:=by have:=(Dt.rightB_out h.dt).1;omega
structure PS where
 f:FX
 d:DS
 now:Int
def zJz (p:PS):D:=.agg [.lst (p.f.fr.map encF),.int .i64 p.f.hand,zCe p.f.tb,.lst (p.f.pg.map encP),zCe p.f.dt,.lst (p.d.sec.map encB),.lst (p.d.ca.map encW),.int .i64 p.now]
def PS.box (p:PS):List AV:=[.d (.lst (p.f.fr.map encF)),.d (.int .i64 p.f.hand),.d (zCe p.f.tb),.d (.lst (p.f.pg.map encP)),.d (zCe p.f.dt),.d (.lst (p.d.sec.map encB)),.d (.lst (p.d.ca.map encW)),.d (.int .i64 p.now)]
def noPS:PS:=⟨noFS,⟨[],[]⟩,0⟩
noncomputable def zQy (d:DS) (n:Int):PS×Int:=if (getJ d 1).2≠0\/0<d.ca.length then (noPS,1) else if n<1\/8<n then (noPS,1) else (⟨zK n.toNat,recM d,0⟩,0)
theorem yJz (d:DS) (n:Int):zAi Tryz.prog 71 [zCm d,.int .i64 n] (.tup [zJz (zQy d n).1,.int .i64 (zQy d n).2]):=by
 refine zAe Tryz.func71 2 rfl (by kernel_rfl) (w0 ?_)
 have hmc:(d.ca.map encW).length=d.ca.length:=List.length_map ..
 rw [zQy];refine aA ?_;refine zAa (yIe d 1) (aW ?_)
 refine bcase_n (fun h1=>?_) (fun h1=>?_)<;>conv=>whnf
 ·refine aA ?_;rw [if_pos (.inl h1)];exact ret_of rfl rfl
 refine aA ?_
 refine bcase_p (fun h2=>?_) (fun h2=>?_)<;>conv=>whnf
 ·refine aA ?_;rw [if_pos (.inr (by omega))];exact ret_of rfl rfl
 rw [if_neg (fun q=>q.elim (fun q=>q h1) (fun q=>h2 (by omega)))];refine aA ?_;have hn:=new_ok n
 by_cases hc:n<1\/8<n
 ·rw [if_pos hc,if_pos hc] at hn;rw [if_pos hc];refine zAa hn (aW ?_);exact ret_of rfl rfl
 ·rw [if_neg hc,if_neg hc] at hn;rw [if_neg hc];refine zAa hn (aW ?_);refine zAa (yFa d) (aW ?_);exact ret_of rfl rfl
def zKd (p:PS) (n:Int):PS:=if n<=0 then p else if 2147483647-p.now<n then ⟨p.f,p.d,2147483647⟩ else ⟨p.f,p.d,p.now+n⟩
theorem yVy (p:PS) (n:Int) (h0:0<=p.now) (h1:p.now<=2147483647):zAi Tryz.prog 54 [zJz p,.int .i64 n] (zJz (zKd p n)):=by
 refine zAe Tryz.func54 2 rfl (by kernel_rfl) (w0 ?_);rw [zKd];refine aA ?_
 refine bcase_p (fun h2=>?_) (fun h2=>?_)<;>conv=>whnf
 ·refine aA ?_;rw [if_pos h2];exact ret_of rfl rfl
 rw [if_neg h2];refine aA ?_
 refine bcase_p (fun h3=>?_) (fun h3=>?_)<;>conv=>whnf
 ·refine aA ?_;rw [if_pos h3];exact ret_of rfl rfl
 rw [if_neg h3];refine aA ?_;exact ret_of rfl rfl
abbrev PAct:=Int×Int×ByteArray
def encPA (a:PAct):List D:=[.int .i64 a.1,.int .i64 a.2.1,.str a.2.2]
noncomputable def zCu (p:PS) (a:PAct):PS×Pg×Int:=
 if (zFh p.f a.2.1).2=false\/ (atF p.f.fr (zFh p.f a.2.1).1.toNat).2.1=0 then (p,zP,12)
 else if a.1=4 then (if (zBr p.f a.2.1 a.2.2 p.now).2≠0 then (p,zP,(zBr p.f a.2.1 a.2.2 p.now).2) else (⟨(zBr p.f a.2.1 a.2.2 p.now).1,p.d,p.now⟩,atP (zBr p.f a.2.1 a.2.2 p.now).1.pg (zFh p.f a.2.1).1.toNat,0))
 else if a.1=5 then (if (zEg p.f a.2.1).2≠0 then (p,zP,(zEg p.f a.2.1).2) else (⟨(zEg p.f a.2.1).1,p.d,p.now⟩,zP,0))
 else (p,atP p.f.pg (zFh p.f a.2.1).1.toNat,0)
theorem yLy {f:FX} {q:Int} {b:ByteArray} {n:Int} (h:(zBr f q b n).2=0):(zBr f q b n).1.pg.length=f.pg.length:=by
 rw [zBr] at h⊢
 repeat' split
 all_goals first|rfl|simp
theorem yKi (p:PS) (a:PAct) (hF:FM p.f) (h1:1<=a.2.1) (h16:a.2.1<=16):
  zAi Tryz.prog 107 [zJz p,.agg (encPA a)] (.tup [zJz (zCu p a).1,.agg (encP (zCu p a).2.1),.int .i64 (zCu p a).2.2]):=by
 have hfind:=zGu p.f a.2.1 hF.tl hF.dl
 have hmf:(p.f.fr.map encF).length=p.f.fr.length:=List.length_map ..
 have hmp:(p.f.pg.map encP).length=p.f.pg.length:=List.length_map ..
 refine zAe Tryz.func107 2 rfl (by kernel_rfl) (w0 ?_);rw [zCu];refine aA ?_
 rcases hF.find_cases (show a.2.1≠0 by omega) with ⟨_,hno⟩|⟨i,_,hA⟩
 ·rw [zCp hF hno (by omega)] at hfind⊢;refine zAa hfind (aW ?_);rw [if_pos (.inl rfl)];exact ret_of rfl rfl
 rw [findF_at hA] at hfind⊢;have hi:=hA.hi;have hip:=hA.hp;refine zAa hfind (aW ?_);rw [Int.toNat_natCast,zCg hi];refine zAd (by omega) (w0 ?_);refine zAc (x:=encF p.f.fr[i]) (by simp [hi]) (aW ?_)
 refine bcase_p (fun h2=>?_) (fun h2=>?_)<;>conv=>whnf
 ·refine aA ?_;rw [if_pos (.inr h2)];exact ret_of rfl rfl
 rw [if_neg (fun q=>q.elim (fun q=>by cases q) h2)];refine aA ?_
 refine bcase_p (fun h3=>?_) (fun h3=>?_)<;>conv=>whnf
 ·rw [if_pos h3];refine aA ?_;refine zAa (yQf p.f a.2.1 a.2.2 p.now hF.tl hF.dl) (aW ?_);have hpg:=@yLy p.f a.2.1 a.2.2 p.now;obtain ⟨r,hr⟩:∃ r,zBr p.f a.2.1 a.2.2 p.now=r:=⟨_,rfl⟩;rw [hr] at hpg⊢
  refine bcase_n (fun h4=>?_) (fun h4=>?_)<;>conv=>whnf
  ·refine aA ?_;rw [if_pos h4];exact ret_of rfl rfl
  rw [if_neg (fun q=>q h4)];refine aA ?_
  refine bcase_p (fun h5=>?_) (fun h5=>?_)<;>conv=>whnf
  ·omega
  have hmr:(r.1.pg.map encP).length=r.1.pg.length:=List.length_map ..
  have hir:i<r.1.pg.length:=by have:=hpg (by omega);omega
  refine aA ?_;refine zAd (by omega) (w0 ?_);refine zAc (x:=encP r.1.pg[i]) (by simp [hir]) (aW ?_);rw [zDq hir];exact ret_of rfl rfl
 ·rw [if_neg h3];refine aA ?_
  refine bcase_p (fun h4=>?_) (fun h4=>?_)<;>conv=>whnf
  ·rw [if_pos h4];refine aA ?_;refine zAa (yPu p.f a.2.1 hF.tl hF.dl) (aW ?_);obtain ⟨r,hr⟩:∃ r,zEg p.f a.2.1=r:=⟨_,rfl⟩;rw [hr]
   refine bcase_n (fun h5=>?_) (fun h5=>?_)<;>conv=>whnf
   ·refine aA ?_;rw [if_pos h5];exact ret_of rfl rfl
   rw [if_neg (fun q=>q h5)];refine aA ?_;refine zDr (decide_eq_true h4) (aW ?_);exact ret_of rfl rfl
  ·rw [if_neg h4];refine aA ?_;refine zAd (by omega) (w0 ?_);refine zAc (x:=encP p.f.pg[i]) (by simp [hip]) (aW ?_);rw [zDq hip];exact ret_of rfl rfl
noncomputable def wbM (p:PS) (id:Int):PS×List Jo×Int:=
 if (zFh p.f id).2=false then (p,[],3)
 else if (zFj p.f id).2≠0 then (p,[],(zFj p.f id).2)
 else if (setS p.d (atP p.f.pg (zFh p.f id).1.toNat)).2≠0 then (p,[],(setS p.d (atP p.f.pg (zFh p.f id).1.toNat)).2)
 else (⟨(zFj p.f id).1,(setS p.d (atP p.f.pg (zFh p.f id).1.toNat)).1,p.now⟩,zHq p.d (atP p.f.pg (zFh p.f id).1.toNat),0)
theorem zLn (p:PS) (id:Int) (hF:FM p.f) (h0:id≠0):
  zAi Tryz.prog 174 [zJz p,.int .i64 id] (.tup [zJz (wbM p id).1,.lst ((wbM p id).2.1.map encJ),.int .i64 (wbM p id).2.2]):=by
 have hfind:=zGu p.f id hF.tl hF.dl
 have hmp:(p.f.pg.map encP).length=p.f.pg.length:=List.length_map ..
 refine zAe Tryz.func174 2 rfl (by kernel_rfl) (w0 ?_);rw [wbM];refine aA ?_
 rcases hF.find_cases h0 with ⟨_,hno⟩|⟨i,_,hA⟩
 ·rw [zCp hF hno h0] at hfind⊢;refine zAa hfind (aW ?_);rw [if_pos rfl];exact ret_of rfl rfl
 rw [findF_at hA] at hfind⊢;have hip:=hA.hp;refine zAa hfind (aW ?_);rw [if_neg (show ¬true=false by decide),Int.toNat_natCast,zDq hip];obtain ⟨x,hx⟩:∃ x,p.f.pg[i]=x:=⟨_,rfl⟩;rw [hx];refine zAd (by omega) (w0 ?_);refine zAc (x:=encP x) (by simp [hip,hx]) (aW ?_);refine zAa (clean_ok p.f id hF.tl hF.dl) (aW ?_)
 refine bcase_n (fun h2=>?_) (fun h2=>?_)<;>conv=>whnf
 ·refine aA ?_;rw [if_pos h2];exact ret_of rfl rfl
 rw [if_neg (fun q=>q h2)];refine aA ?_;refine zAa (yVg p.d x) (aW ?_)
 refine bcase_n (fun h3=>?_) (fun h3=>?_)<;>conv=>whnf
 ·refine aA ?_;rw [if_pos h3];exact ret_of rfl rfl
 rw [if_neg (fun q=>q h3)];refine aA ?_;refine zAa (zWf p.d x) (aW ?_);exact ret_of rfl rfl
def zJu (f:FX) (id:Int):FX:=⟨f.fr,f.hand,f.tb,f.pg,f.dt.filter fun x=>x.1 !=id⟩
theorem zHg {l:List (Int×Int)} {n:Int} (h:(Dt.sinceG l n).2=true):0<=Dt.placeG l n 0:=by
 rw [Dt.sinceG] at h
 split at h
 ·cases h
 ·omega
theorem cleanF_at {f:FX} {p:Int} {i:Nat} (hA:AtF f p i):zFj f p=if 0<=Dt.placeG f.dt p 0 then (zJu f p,0) else (f,12):=by
 have hR:=hA.right
 have e:zCc f p=((i:Int),0):=by
  rw [zCc,if_pos (zGg.2 hR),(zCa hR.tb).2 ⟨hA.p1,hA.mem⟩];rfl
 rw [zFj,e,if_neg (fun q=>q rfl),Dt.clean_right hR.dt]
 by_cases h:0<=Dt.placeG f.dt p 0
 ·rw [if_pos h,if_pos h];rfl
 ·rw [if_neg h,if_neg h];rfl
theorem zNr {f:FX} (h:FM f) (p:Int):FM (zJu f p):=by
 obtain ⟨c1,c2⟩:=zJd (p:=p) h.dt
 by_cases hp:0<=Dt.placeG f.dt p 0
 ·rw [Dt.clean_right h.dt,if_pos hp] at c1 c2
  exact h.dirt c1 fun y hy=>((c2 y).1 hy).1
 ·have e:f.dt.filter (fun x=>x.1 !=p)=f.dt:=by
   rw [List.filter_eq_self];intro x hx;simp only [bne_iff_ne,ne_eq];intro q;exact hp (Dt.placeG_mem.2 ⟨x,hx,q⟩)
  rw [zJu,e];exact h
theorem z2t {f:FX} {p:Int} (h:0<=Dt.placeG f.dt p 0):(zJu f p).dt.length<f.dt.length:=by
 obtain ⟨x,hx,e⟩:=Dt.placeG_mem.1 h;show (f.dt.filter _).length<_;rw [List.length_filter_lt_length_iff_exists];exact ⟨x,hx,by simp [e]⟩
theorem zRj (d:DS) (x:Pg):(zHq d x).length<=10:=by
 rw [zHq];split
 ·split
  ·exact zVn _ _ _
  ·simp
 ·exact zVn _ _ _
theorem yWg {p:PS} {id:Int} {i:Nat} (hA:AtF p.f id i):wbM p id=if 0<=Dt.placeG p.f.dt id 0 then (if (setS p.d (p.f.pg[i]'hA.hp)).2≠0 then (p,[],(setS p.d (p.f.pg[i]'hA.hp)).2) else (⟨zJu p.f id,(setS p.d (p.f.pg[i]'hA.hp)).1,p.now⟩,zHq p.d (p.f.pg[i]'hA.hp),0)) else (p,[],12):=by
 rw [wbM,findF_at hA,if_neg (show ¬true=false by decide),Int.toNat_natCast,zDq hA.hp,cleanF_at hA]
 by_cases h:0<=Dt.placeG p.f.dt id 0
 ·rw [if_pos h,if_pos h,if_neg (fun q=>q rfl)]
 ·rw [if_neg h,if_neg h,if_pos (show (12:Int)≠0 by decide)]
noncomputable def mrM:Nat->PS->List Jo->PS×List Jo×Int
 |0,p,l=>(p,l,99)
 |n+1,p,l=>
  if (zBy p.f).2.2.2≠0 then (p,l,(zBy p.f).2.2.2)
  else if (zBy p.f).2.2.1=false then (⟨(zBy p.f).1,p.d,p.now⟩,l,0)
  else if (wbM ⟨(zBy p.f).1,p.d,p.now⟩ (zBy p.f).2.1.1).2.2≠0 then (⟨(zBy p.f).1,p.d,p.now⟩,l,(wbM ⟨(zBy p.f).1,p.d,p.now⟩ (zBy p.f).2.1.1).2.2)
  else mrM n (wbM ⟨(zBy p.f).1,p.d,p.now⟩ (zBy p.f).2.1.1).1 (l++(wbM ⟨(zBy p.f).1,p.d,p.now⟩ (zBy p.f).2.1.1).2.1)
noncomputable def zFi (p:PS):PS×List Jo×Int:=mrM 17 p []
theorem yFc {f:FX} (h:FM f) (he:(zBy f).2.2.2=0) (hd:(zBy f).2.2.1=true):
  ∃ i,AtF (zBy f).1 (zBy f).2.1.1 i/\0<=Dt.placeG (zBy f).1.dt (zBy f).2.1.1 0/\ (zBy f).1.dt=f.dt:=by
 rcases zDy h with ⟨i,hi,_,e⟩|⟨_,_,e⟩|⟨_,l,a,p,hA,hs,hA2,_,e⟩
 ·rw [e] at hd;cases hd
 ·rw [e] at hd;cases hd
 ·by_cases hq:(Dt.sinceG f.dt p).2=true
  ·rw [if_pos hq] at e;rw [e];have hpg:(f.pg[a]'hA.hp).1=p:=hA.pg;exact ⟨a,by simp only [];rw [hpg];exact hA2,by simp only [];rw [hpg];exact zHg hq,rfl⟩
  ·rw [if_neg hq] at e;rw [e] at hd;cases hd
structure MRI (p0:PS) (s:Nat×PS×List Jo):Prop where
 fm:FM s.2.1.f
 lt:s.2.1.f.dt.length<s.1
 n:s.1<=17
 len:s.2.2.length+10*s.1<=170
 eq:zFi p0=mrM s.1 s.2.1 s.2.2
set_option maxHeartbeats 4000000 in
theorem z8f (p:PS) (hF:FM p.f):zAi Tryz.prog 237 [zJz p] (.tup [zJz (zFi p).1,.lst ((zFi p).2.1.map encJ),.int .i64 (zFi p).2.2]):=by
 refine zAe Tryz.func237 1 rfl (by kernel_rfl) (w0 ?_);refine zAq (ι:=Nat×PS×List Jo) (fun s=>[(1,.ptr 1 0 0),(2,.ptr 2 0 0),(5,.own 47)]) (fun s=>[(1,.box s.2.1.box false),(2,.box [.nil,.d (.int .i64 0),.nil,.nil,.nil,.nil,.nil,.d (.int .i64 0)] false),(47,.row (s.2.2.map encJ) 3 false)])
  (MRI p) (fun s=>s.1) (17,p,[]) ⟨hF,by have:=hF.dl;have:=(Dt.rightB_out hF.dt).1;simp only [];omega,by simp only [];omega,by simp,rfl⟩ (le1 (.row 5 47 3) ⟨rfl,rfl⟩ (zAb ⟨rfl,rfl,rfl,trivial⟩ ⟨rfl,rfl,rfl,trivial⟩ ⟨rfl,rfl,rfl,rfl⟩)) ?_
 rintro ⟨n,q,l⟩ ⟨hq,hlt,hn,hlen,he⟩;simp only at hq hlt hn hlen he⊢;rw [he];obtain ⟨k,rfl⟩:∃ k,n=k+1:=⟨n-1,by omega⟩;rw [mrM]
 conv=>whnf
 refine aA ?_;refine zAa (yVb q.f hq.tl hq.dl) (aW ?_);have hrd:=@yFc q.f hq;obtain ⟨r,hr⟩:∃ r,zBy q.f=r:=⟨_,rfl⟩;rw [hr] at hrd⊢
 refine bcase_n (fun h1=>?_) (fun h1=>?_)<;>conv=>whnf
 ·refine aA ?_;rw [if_pos h1];exact ret_of rfl rfl
 rw [if_neg (fun q=>q h1)];refine aA ?_
 refine zAf (fun h2=>?_) (fun h2=>?_)<;>conv=>whnf
 ·refine aA ?_;rw [if_pos (by simpa using h2)];exact ret_of rfl rfl
 have h2:r.2.2.1=true:=by simpa using h2
 rw [if_neg (by rw [h2];decide)];obtain ⟨i,hA,hd,hdt⟩:=hrd h1 h2
 have hid:r.2.1.1≠0:=by have:=hA.p1;omega
 refine aA ?_;refine zAa (zLn ⟨r.1,q.d,q.now⟩ r.2.1.1 hA.right hid) (aW ?_);have hw:=@yWg ⟨r.1,q.d,q.now⟩ r.2.1.1 i hA;obtain ⟨w,hwd⟩:∃ w,wbM ⟨r.1,q.d,q.now⟩ r.2.1.1=w:=⟨_,rfl⟩;rw [hwd] at hw⊢
 refine bcase_n (fun h3=>?_) (fun h3=>?_)<;>conv=>whnf
 ·refine aA ?_;rw [if_pos h3];exact ret_of rfl rfl
 rw [if_neg (fun q=>q h3)];have hd':0<=Dt.placeG (PS.mk r.1 q.d q.now).f.dt r.2.1.1 0:=hd;rw [if_pos hd'] at hw
 have hg:w.1.f=zJu r.1 r.2.1.1/\w.2.1.length<=10:=by
  split at hw
  ·rename_i g;rw [hw] at h3;exact absurd h3 g
  ·rw [hw];exact ⟨rfl,zRj _ _⟩
 have hfm:=zNr hA.right r.2.1.1;have hln:=z2t hd
 have hmw:(w.2.1.map encJ).length=w.2.1.length:=List.length_map ..
 have hml:(l.map encJ).length=l.length:=List.length_map ..
 refine aA ?_;refine zAg (z7c _) (w0 ?_);refine zAj 1000 1000 (by omega) (by decide) (by decide) (by decide) (w0 ?_);refine ⟨(k,w.1,l++w.2.1),⟨by simp only [];rw [hg.1];exact hfm,by simp only [];rw [hg.1];rw [hdt] at hln;omega,by simp only [];omega,by simp only [List.length_append];omega,?_⟩,by simp only [];omega,le0 (zAb ⟨?_,?_,?_,trivial⟩ ⟨?_,?_,?_,trivial⟩ ⟨?_,?_,?_,?_⟩)⟩
 ·simp only [];rw [he,mrM,hr,if_neg (fun q=>q h1),if_neg (by rw [h2];decide),hwd,if_neg (fun q=>q h3)]
 rotate_left 5
 ·rw [List.map_append];kernel_rfl
 all_goals kernel_rfl
theorem z1i {f:FX} (h:FM f):FM (zBy f).1:=by
 rcases zDy h with ⟨i,hi,_,e⟩|⟨_,_,e⟩|⟨_,l,a,p,hA,hs,hA2,_,e⟩
 ·rw [e];exact h
 ·rw [e];exact h
 ·rw [e];split
  ·exact hA2.right
  ·exact FM.rel hA2
theorem yMq {f:FX} (h:FM f) (id:Int):FM (zFj f id).1:=by
 rcases zCy f id with e|⟨i,e,hA⟩
 ·rw [zFj,if_pos e];exact h
 ·rw [cleanF_at hA];split
  ·exact zNr h id
  ·exact h
theorem yWh {p:PS} (h:FM p.f) (id:Int):FM (wbM p id).1.f:=by
 rw [wbM]
 split
 ·exact h
 split
 ·exact h
 split
 ·exact h
 ·exact yMq h id
theorem mr_fm:∀ (n:Nat) (p:PS) (l:List Jo),FM p.f->FM (mrM n p l).1.f
 |0,p,l,h=>h
 |n+1,p,l,h=>by
  rw [mrM]
  split
  ·exact h
  split
  ·exact z1i h
  split
  ·exact z1i h
  ·exact mr_fm n _ _ (yWh (p:=⟨(zBy p.f).1,p.d,p.now⟩) (z1i h) _)
theorem yUd {p:PS} (h:FM p.f):FM (zFi p).1.f:=mr_fm 17 p [] h
abbrev R4:=PS×Pg×List Jo×Int
def z7e (r:R4):D:=.tup [zJz r.1,.agg (encP r.2.1),.lst (r.2.2.1.map encJ),.int .i64 r.2.2.2]
noncomputable def zDf (p:PS) (x:Pg) (fresh:Bool):R4:=
 if (zFi p).2.2≠0 then ((zFi p).1,zP,[],(zFi p).2.2)
 else if (zGn (zFi p).1.f x (zFi p).1.now fresh).2≠0 then ((zFi p).1,zP,[],(zGn (zFi p).1.f x (zFi p).1.now fresh).2)
 else (⟨(zGn (zFi p).1.f x (zFi p).1.now fresh).1,(zFi p).1.d,(zFi p).1.now⟩,x,(zFi p).2.1,0)
theorem zVo (p:PS) (x:Pg) (fresh:Bool) (hF:FM p.f):zAi Tryz.prog 169 [zJz p,.agg (encP x),.bool fresh] (z7e (zDf p x fresh)):=by
 have hfm:=yUd hF;refine zAe Tryz.func169 3 rfl (by kernel_rfl) (w0 ?_);rw [zDf];refine aA ?_;refine zAa (z8f p hF) (aW ?_);obtain ⟨r,hr⟩:∃ r,zFi p=r:=⟨_,rfl⟩;rw [hr] at hfm⊢
 refine bcase_n (fun h1=>?_) (fun h1=>?_)<;>conv=>whnf
 ·refine aA ?_;rw [if_pos h1];exact ret_of rfl rfl
 rw [if_neg (fun q=>q h1)];refine aA ?_;refine zAa (yTy r.1.f x r.1.now fresh hfm.tl hfm.dl) (aW ?_);obtain ⟨g,hg⟩:∃ g,zGn r.1.f x r.1.now fresh=g:=⟨_,rfl⟩;rw [hg]
 refine bcase_n (fun h2=>?_) (fun h2=>?_)<;>conv=>whnf
 ·refine aA ?_;rw [if_pos h2];exact ret_of rfl rfl
 rw [if_neg (fun q=>q h2)];refine aA ?_;exact ret_of rfl rfl
noncomputable def zDh (p:PS) (id:Int):R4:=
 if (zFh p.f id).2=true then (if (pinS p.f id).2≠0 then (p,zP,[],(pinS p.f id).2) else (⟨(pinS p.f id).1,p.d,p.now⟩,atP (pinS p.f id).1.pg (zFh p.f id).1.toNat,[],0))
 else if (getS p.d id).2≠0 then (p,zP,[],(getS p.d id).2) else zDf p (getS p.d id).1 false
theorem yUu {f:FX} {q:Int}:(pinS f q).1.pg=f.pg:=by
 rw [pinS]
 repeat' split
 all_goals rfl
theorem z5g (p:PS) (id:Int) (hF:FM p.f) (h0:id≠0):zAi Tryz.prog 102 [zJz p,.int .i64 id] (z7e (zDh p id)):=by
 have hfind:=zGu p.f id hF.tl hF.dl;refine zAe Tryz.func102 2 rfl (by kernel_rfl) (w0 ?_);rw [zDh];refine aA ?_
 rcases hF.find_cases h0 with ⟨_,hno⟩|⟨i,_,hA⟩
 ·rw [zCp hF hno h0] at hfind⊢;refine zAa hfind (aW ?_);rw [if_neg (show ¬false=true by decide)];refine zAa (zQk p.d id) (aW ?_);obtain ⟨g,hg⟩:∃ g,getS p.d id=g:=⟨_,rfl⟩;rw [hg]
  refine bcase_n (fun h1=>?_) (fun h1=>?_)<;>conv=>whnf
  ·refine aA ?_;rw [if_pos h1];exact ret_of rfl rfl
  rw [if_neg (fun q=>q h1)];refine aA ?_;refine zAa (zVo p g.1 false hF) (aW ?_);exact ret_of rfl rfl
 ·rw [findF_at hA] at hfind⊢;have hip:=hA.hp;refine zAa hfind (aW ?_);rw [if_pos rfl];refine zAa (pin_ok p.f id hF.tl hF.dl) (aW ?_);have hpg:=@yUu p.f id;obtain ⟨r,hr⟩:∃ r,pinS p.f id=r:=⟨_,rfl⟩;rw [hr] at hpg⊢
  refine bcase_n (fun h1=>?_) (fun h1=>?_)<;>conv=>whnf
  ·refine aA ?_;rw [if_pos h1];exact ret_of rfl rfl
  rw [if_neg (fun q=>q h1)]
  have hir:i<r.1.pg.length:=by rw [hpg];exact hip
  have hmr:(r.1.pg.map encP).length=r.1.pg.length:=List.length_map ..
  refine aA ?_;refine zAd (by omega) (w0 ?_);refine zAc (x:=encP r.1.pg[i]) (by simp [hir]) (aW ?_);rw [Int.toNat_natCast,zDq hir];exact ret_of rfl rfl
noncomputable def zBs (p:PS) (id:Int):R4:=
 if (zFh p.f id).2=true then (p,zP,[],4)
 else if (getS p.d id).2=3 then zDf p (id,1,ByteArray.empty) true
 else if (getS p.d id).2=0 then (p,zP,[],4) else (p,zP,[],(getS p.d id).2)
theorem z0y (p:PS) (id:Int) (hF:FM p.f) (h0:id≠0):zAi Tryz.prog 103 [zJz p,.int .i64 id] (z7e (zBs p id)):=by
 have hfind:=zGu p.f id hF.tl hF.dl;refine zAe Tryz.func103 2 rfl (by kernel_rfl) (w0 ?_);rw [zBs];refine aA ?_
 rcases hF.find_cases h0 with ⟨_,hno⟩|⟨i,_,hA⟩
 ·rw [zCp hF hno h0] at hfind⊢;refine zAa hfind (aW ?_);rw [if_neg (show ¬false=true by decide)];refine zAa (zQk p.d id) (aW ?_);obtain ⟨g,hg⟩:∃ g,getS p.d id=g:=⟨_,rfl⟩;rw [hg]
  refine bcase_p (fun h1=>?_) (fun h1=>?_)<;>conv=>whnf
  ·refine aA ?_;rw [if_pos h1];refine zAa (zVo p (id,1,ByteArray.empty) true hF) (aW ?_);exact ret_of rfl rfl
  rw [if_neg h1];refine aA ?_
  refine bcase_p (fun h2=>?_) (fun h2=>?_)<;>conv=>whnf
  ·refine aA ?_;rw [if_pos h2];exact ret_of rfl rfl
  rw [if_neg h2];refine aA ?_;exact ret_of rfl rfl
 ·rw [findF_at hA] at hfind⊢;refine zAa hfind (aW ?_);rw [if_pos rfl];exact ret_of rfl rfl
noncomputable def zHv (p next:PS) (id:Int):R4:=
 if (getS p.d id).2=3 then (next,zP,[],0)
 else if (delD p.d id).2≠0 then (p,zP,[],(delD p.d id).2)
 else (⟨next.f,(delD p.d id).1,next.now⟩,zP,zHq p.d (id,0,ByteArray.empty),0)
noncomputable def zDx (p : PS) (id : Int) : R4 :=
  if (zFh p.f id).2 = true then
    (if 0 < (atF p.f.fr (zFh p.f id).1.toNat).2.1 then (p, zP, [], 6)
     else if (zJh p.f id).2 ≠ 0 then (p, zP, [], (zJh p.f id).2) else zHv p ⟨(zJh p.f id).1, p.d, p.now⟩ id)
  else if (getS p.d id).2 ≠ 0 then (p, zP, [], 3) else zHv p p id
set_option maxHeartbeats 4000000 in
theorem z0z (p:PS) (id:Int) (hF:FM p.f) (h0:id≠0):zAi Tryz.prog 104 [zJz p,.int .i64 id] (z7e (zDx p id)):=by
 have hfind:=zGu p.f id hF.tl hF.dl
 have hmf:(p.f.fr.map encF).length=p.f.fr.length:=List.length_map ..
 refine zAe Tryz.func104 2 rfl (by kernel_rfl) (w0 ?_);rw [zDx];refine aA ?_;obtain ⟨g,hg⟩:∃ g,getS p.d id=g:=⟨_,rfl⟩
 rcases hF.find_cases h0 with ⟨_,hno⟩|⟨i,_,hA⟩
 ·rw [zCp hF hno h0] at hfind⊢;refine zAa hfind (aW ?_);rw [if_neg (show ¬false=true by decide)];refine zAa (zQk p.d id) (aW ?_);rw [hg]
  refine bcase_n (fun h1=>?_) (fun h1=>?_)<;>conv=>whnf
  ·refine aA ?_;rw [if_pos h1];exact ret_of rfl rfl
  rw [if_neg (fun q=>q h1)];refine aA ?_;rw [zHv,hg]
  refine bcase_p (fun k1=>?_) (fun k1=>?_)<;>conv=>whnf
  ·refine aA ?_;rw [if_pos k1];exact ret_of rfl rfl
  rw [if_neg k1];refine aA ?_;refine zAa (yHh p.d id) (aW ?_);obtain ⟨e,he⟩:∃ e,delD p.d id=e:=⟨_,rfl⟩;rw [he]
  refine bcase_n (fun k2=>?_) (fun k2=>?_)<;>conv=>whnf
  ·refine aA ?_;rw [if_pos k2];exact ret_of rfl rfl
  rw [if_neg (fun q=>q k2)];refine aA ?_;refine zAa (zWf p.d (id,0,ByteArray.empty)) (aW ?_);exact ret_of rfl rfl
 ·rw [findF_at hA] at hfind⊢;have hi:=hA.hi;refine zAa hfind (aW ?_);rw [if_pos rfl,Int.toNat_natCast,zCg hi];refine zAd (by omega) (w0 ?_);refine zAc (x:=encF p.f.fr[i]) (by simp [hi]) (aW ?_)
  refine bcase_p (fun h1=>?_) (fun h1=>?_)<;>conv=>whnf
  ·refine aA ?_;rw [if_pos h1];exact ret_of rfl rfl
  rw [if_neg h1];refine aA ?_;refine zAa (zQk p.d id) (aW ?_);rw [hg];refine aA ?_;refine zAa (ySy p.f id hF.tl hF.dl) (aW ?_);obtain ⟨r,hr⟩:∃ r,zJh p.f id=r:=⟨_,rfl⟩;rw [hr]
  refine bcase_n (fun h2=>?_) (fun h2=>?_)<;>conv=>whnf
  ·refine aA ?_;rw [if_pos h2];exact ret_of rfl rfl
  rw [if_neg (fun q=>q h2)];refine aA ?_;rw [zHv,hg]
  refine bcase_p (fun k1=>?_) (fun k1=>?_)<;>conv=>whnf
  ·refine aA ?_;rw [if_pos k1];exact ret_of rfl rfl
  rw [if_neg k1];refine aA ?_;refine zAa (yHh p.d id) (aW ?_);obtain ⟨e,he⟩:∃ e,delD p.d id=e:=⟨_,rfl⟩;rw [he]
  refine bcase_n (fun k2=>?_) (fun k2=>?_)<;>conv=>whnf
  ·refine aA ?_;rw [if_pos k2];exact ret_of rfl rfl
  rw [if_neg (fun q=>q k2)];refine aA ?_;refine zAa (zWf p.d (id,0,ByteArray.empty)) (aW ?_);exact ret_of rfl rfl
noncomputable def zFa (p:PS) (id:Int):R4:=
 if (zFh p.f id).2=false then (if (getS p.d id).2≠0 then (p,zP,[],3) else (p,zP,[],0))
 else if (Dt.sinceG p.f.dt id).2=false then (p,zP,[],0)
 else if (wbM p id).2.2≠0 then (p,zP,[],(wbM p id).2.2) else ((wbM p id).1,zP,(wbM p id).2.1,0)
theorem z5h (p:PS) (id:Int) (hF:FM p.f) (h0:id≠0):zAi Tryz.prog 105 [zJz p,.int .i64 id] (z7e (zFa p id)):=by
 refine zAe Tryz.func105 2 rfl (by kernel_rfl) (w0 ?_);rw [zFa];refine aA ?_;refine zAa (zGu p.f id hF.tl hF.dl) (aW ?_)
 refine zAf (fun h1=>?_) (fun h1=>?_)<;>conv=>whnf
 ·rw [if_pos (by simpa using h1)];refine aA ?_;refine zAa (zQk p.d id) (aW ?_);obtain ⟨g,hg⟩:∃ g,getS p.d id=g:=⟨_,rfl⟩;rw [hg]
  refine bcase_n (fun h2=>?_) (fun h2=>?_)<;>conv=>whnf
  ·refine aA ?_;rw [if_pos h2];exact ret_of rfl rfl
  rw [if_neg (fun q=>q h2)];refine aA ?_;exact ret_of rfl rfl
 rw [if_neg (by simpa using h1)];refine aA ?_;refine zAa (Dt.since_ok p.f.dt id hF.dl) (aW ?_)
 refine zAf (fun h3=>?_) (fun h3=>?_)<;>conv=>whnf
 ·rw [if_pos (by simpa using h3)];refine aA ?_;exact ret_of rfl rfl
 rw [if_neg (by simpa using h3)];refine aA ?_;refine zAa (zLn p id hF h0) (aW ?_);obtain ⟨w,hw⟩:∃ w,wbM p id=w:=⟨_,rfl⟩;rw [hw]
 refine bcase_n (fun h4=>?_) (fun h4=>?_)<;>conv=>whnf
 ·refine aA ?_;rw [if_pos h4];exact ret_of rfl rfl
 rw [if_neg (fun q=>q h4)];refine aA ?_;exact ret_of rfl rfl
noncomputable def ageL (p:PS):List Int->PS->List Jo->R4
 | [],q,l=>(q,zP,l,0)
 |id::r,q,l=>if (wbM q id).2.2≠0 then (p,zP,[],(wbM q id).2.2) else ageL p r (wbM q id).1 (l++(wbM q id).2.1)
noncomputable def zJn (p:PS) (least:Int):R4:=ageL p (Dt.dueG p.f.dt p.now least) p []
theorem yDj (p:PS) (id:Int):(wbM p id).2.1.length<=10:=by
 rw [wbM]
 repeat' split
 all_goals first|exact zRj _ _|simp
theorem z7a {l:List (Int×Int)} {now age id:Int} (h:id∈Dt.dueG l now age):Dt.rightB l=true/\ ∃ t,(id,t)∈l/\age<=now-t:=by
 rw [Dt.dueG] at h
 split at h
 ·cases h
 ·rename_i q;obtain ⟨x,hx,e⟩:=List.mem_filterMap.1 h;rw [Dt.dueF] at e
  split at e
  ·rename_i g
   cases e
   refine ⟨?_,x.2,hx,g⟩
   cases hb:Dt.rightB l with
   |true=>rfl
   |false=>exact absurd (.inr (.inr hb)) q
  ·cases e
theorem due_len {l:List (Int×Int)} {now age:Int} (h:Dt.rightB l=true):(Dt.dueG l now age).length<=16:=by
 have h16:=(Dt.rightB_out h).1;rw [Dt.dueG]
 split
 ·simp
 ·exact Nat.le_trans (List.length_filterMap_le _ _) h16
theorem yCi {l:List (Int×Int)} (h:Dt.rightB l=true) {x:Int×Int} (hx:x∈l):1<=x.1/\x.1<=16/\0<=x.2:=by
 obtain ⟨i,hi,rfl⟩:=List.mem_iff_getElem.1 hx;have:=(Dt.rightB_out h).2 i hi;exact ⟨this.2.1,this.2.2.1,this.2.2.2.1⟩
structure AGI (p:PS) (ids:List Int) (s:Nat×PS×List Jo):Prop where
 le:s.1<=ids.length
 fm:FM s.2.1.f
 len:s.2.2.length<=10*s.1
 eq:ageL p ids p []=ageL p (ids.drop s.1) s.2.1 s.2.2
set_option maxHeartbeats 4000000 in
theorem yEy (p:PS) (least:Int) (hF:FM p.f) (hn:p.now<=2147483647):zAi Tryz.prog 106 [zJz p,.int .i64 least] (z7e (zJn p least)):=by
 have hne:∀ id∈Dt.dueG p.f.dt p.now least,id≠0:=fun id h=>by
  obtain ⟨h1,t,h2,_⟩:=z7a h;have:=yCi h1 h2;omega
 have hl16:=due_len (now:=p.now) (age:=least) hF.dt;refine zAe Tryz.func106 2 rfl (by kernel_rfl) (aW ?_);refine zAa (Dt.due_ok p.f.dt p.now least hF.dl (by omega)) (aW ?_);rw [zJn];obtain ⟨ids,hids⟩:∃ ids,Dt.dueG p.f.dt p.now least=ids:=⟨_,rfl⟩;rw [hids] at hne hl16⊢
 have hmi:(ids.map enc1).length=ids.length:=List.length_map ..
 refine zAq (ι:=Nat×PS×List Jo) (fun s=>[(2,.ptr 2 0 0),(4,.ptr 4 0 0),(5,.ptr 5 0 0),(8,.ptr 8 0 0),(9,.own 43),(22,.d (yDz ids)),(23,.d (.int .i64 (ids.map enc1).length)),(24,.d (.int .i64 s.1))])
  (fun s=>[(2,.box p.box false),(4,.box [.nil,.d (.int .i64 0),.nil,.nil,.nil,.nil,.nil,.d (.int .i64 0)] false),(5,.box [.d (.int .i64 0),.d (.int .i64 0),.d (.str ByteArray.empty)] false),(8,.box s.2.1.box false),(43,.row (s.2.2.map encJ) 3 false)])
  (AGI p ids) (fun s=>ids.length-s.1) (0,p,[]) ⟨by simp,hF,by simp,rfl⟩ (le1 (.row 9 43 3) ⟨rfl,rfl⟩ (zAb ⟨rfl,rfl,rfl,rfl,rfl,rfl,rfl,rfl,trivial⟩ ⟨rfl,rfl,rfl,rfl,rfl,trivial⟩ ⟨rfl,rfl,rfl,rfl⟩)) ?_
 rintro ⟨k,q,l⟩ ⟨hk,hq,hlen,he⟩;simp only at hk hq hlen he⊢;rw [he]
 conv=>whnf
 refine bcase_p (fun h5=>?_) (fun h5=>?_)<;>conv=>whnf
 ·have hk2:k<ids.length:=by omega
  rw [List.drop_eq_getElem_cons hk2,ageL];have hid:=hne ids[k] (List.getElem_mem hk2);have hwf:=yWh hq ids[k];have hwl:=yDj q ids[k];refine zAd (by omega) (w0 ?_);refine zAc (x:=enc1 ids[k]) (by simp [hk2]) (aW ?_);refine zAa (zLn q ids[k] hq hid) (aW ?_);obtain ⟨w,hw⟩:∃ w,wbM q ids[k]=w:=⟨_,rfl⟩;rw [hw] at hwf hwl⊢
  refine bcase_n (fun h6=>?_) (fun h6=>?_)<;>conv=>whnf
  ·refine aA ?_;rw [if_pos h6];exact ret_of rfl rfl
  rw [if_neg (fun q=>q h6)]
  have hmw:(w.2.1.map encJ).length=w.2.1.length:=List.length_map ..
  have hml:(l.map encJ).length=l.length:=List.length_map ..
  refine aA ?_;refine zAg (z7c _) (w0 ?_);refine zAj 1000 1000 (by omega) (by decide) (by decide) (by decide) (aW ?_);refine ⟨(k+1,w.1,l++w.2.1),⟨by simp only [];omega,hwf,by simp only [List.length_append];omega,?_⟩,by simp only [];omega,le0 (zAb ⟨?_,?_,?_,?_,?_,?_,?_,?_,trivial⟩ ⟨?_,?_,?_,?_,?_,trivial⟩ ⟨?_,?_,?_,?_⟩)⟩
  ·simp only [];rw [he,List.drop_eq_getElem_cons hk2,ageL,hw,if_neg (fun q=>q h6)]
  rotate_left 12
  ·rw [List.map_append];kernel_rfl
  all_goals kernel_rfl
 ·refine aA ?_;rw [List.drop_of_length_le (by omega),ageL];exact ret_of rfl rfl
noncomputable def zBb (p:PS) (a:PAct):R4:=
 if a.1<1\/8<a.1 then (p,zP,[],1)
 else if a.1≠8/\ (a.2.1<1\/16<a.2.1) then (p,zP,[],1)
 else if a.1=1 then zDh p a.2.1
 else if a.1=2 then zBs p a.2.1
 else if a.1=6 then zDx p a.2.1
 else if a.1=7 then zFa p a.2.1
 else if a.1=8 then zJn p a.2.1
 else ((zCu p a).1,(zCu p a).2.1,[],(zCu p a).2.2)
set_option maxHeartbeats 4000000 in
theorem zPa (p:PS) (a:PAct) (hF:FM p.f) (hn:p.now<=2147483647):zAi Tryz.prog 53 [zJz p,.agg (encPA a)] (z7e (zBb p a)):=by
 refine zAe Tryz.func53 2 rfl (by kernel_rfl) (w0 ?_);rw [zBb];refine aA ?_
 refine bcase_p (fun h1=>?_) (fun h1=>?_)<;>conv=>whnf
 ·refine aA ?_;rw [if_pos (.inl h1)];exact ret_of rfl rfl
 refine aA ?_
 refine bcase_p (fun h2=>?_) (fun h2=>?_)<;>conv=>whnf
 ·refine aA ?_;rw [if_pos (.inr h2)];exact ret_of rfl rfl
 rw [if_neg (by omega)];refine aA ?_
 refine bcase_n (fun h3=>?_) (fun h3=>?_)<;>conv=>whnf
 ·refine aA ?_
  refine bcase_p (fun h4=>?_) (fun h4=>?_)<;>conv=>whnf
  ·refine aA ?_;rw [if_pos ⟨h3,.inl h4⟩];exact ret_of rfl rfl
  refine aA ?_
  refine bcase_p (fun h5=>?_) (fun h5=>?_)<;>conv=>whnf
  ·refine aA ?_;rw [if_pos ⟨h3,.inr h5⟩];exact ret_of rfl rfl
  rw [if_neg (fun q=>by omega)]
  have h0:a.2.1≠0:=by omega
  refine aA ?_
  refine bcase_p (fun k1=>?_) (fun k1=>?_)<;>conv=>whnf
  ·refine aA ?_;rw [if_pos k1];refine zAa (z5g p a.2.1 hF h0) (aW ?_);exact ret_of rfl rfl
  rw [if_neg k1];refine aA ?_
  refine bcase_p (fun k2=>?_) (fun k2=>?_)<;>conv=>whnf
  ·refine aA ?_;rw [if_pos k2];refine zAa (z0y p a.2.1 hF h0) (aW ?_);exact ret_of rfl rfl
  rw [if_neg k2];refine aA ?_
  refine bcase_p (fun k3=>?_) (fun k3=>?_)<;>conv=>whnf
  ·refine aA ?_;rw [if_pos k3];refine zAa (z0z p a.2.1 hF h0) (aW ?_);exact ret_of rfl rfl
  rw [if_neg k3];refine aA ?_
  refine bcase_p (fun k4=>?_) (fun k4=>?_)<;>conv=>whnf
  ·refine aA ?_;rw [if_pos k4];refine zAa (z5h p a.2.1 hF h0) (aW ?_);exact ret_of rfl rfl
  rw [if_neg k4,if_neg h3];refine aA ?_;refine zEu (decide_eq_false h3) (aW ?_);refine zAa (yKi p a hF (by omega) (by omega)) (aW ?_);exact ret_of rfl rfl
 ·refine aA ?_;rw [if_neg (fun q=>q.1 h3),if_neg (by omega),if_neg (by omega),if_neg (by omega),if_neg (by omega),if_pos h3];refine zEu (decide_eq_false (by omega)) (aW ?_);refine zEu (decide_eq_false (by omega)) (aW ?_);refine zEu (decide_eq_false (by omega)) (aW ?_);refine zEu (decide_eq_false (by omega)) (aW ?_);refine zDr (decide_eq_true h3) (aW ?_);refine zAa (yEy p a.2.1 hF hn) (aW ?_);exact ret_of rfl rfl
structure HA where
 n:Nat
 cl:List (Nat×Bool)
 q:List Nat
def zB (c:Nat×Bool):List D:=[.int .i64 c.1,.int .i64 1,.int .i64 (if c.2=true then 1 else 0)]
def zCk (w:Nat):List D:=[.int .i64 w,.int .i64 1]
def HA.cells (h:HA):List D:=[.int .i64 h.n,.int .i64 1,.lst (h.cl.map zB),.lst (h.q.map zCk)]
def zMb (h:HA):D:=.agg h.cells
def zCl (l:List (Nat×Bool)):Nat:=l.countP (·.2)
structure HOk (h:HA):Prop where
 n1:1<=h.n
 n8:h.n<=8
 len:h.cl.length+h.q.length<=4
 nd:(h.cl.map (·.1)++h.q).Nodup
 lt:∀ w∈h.cl.map (·.1)++h.q,w<4
 held:zCl h.cl<=h.n
 shut:h.q=[] \/2*h.n<=h.cl.length
def zBe (n:Nat):List (Nat×Bool)->List Nat->List (Nat×Bool)×List Nat
 |cl,[]=>(cl,[])
 |cl,w::q=>if cl.length<2*n then zBe n (cl++[(w,false)]) q else (cl,w::q)
def mkH (n:Nat) (r:List (Nat×Bool)×List Nat):HA:=⟨n,r.1,r.2⟩
def zNm (h:HA) (w:Nat):HA:=mkH h.n (zBe h.n h.cl (h.q++[w]))
def isCl (h:HA) (w:Nat):Bool:=h.cl.any fun c=>c.1==w
def zFm (h:HA) (w:Nat):Bool:=h.cl.any fun c=>c.1==w&&c.2
def setH (l:List (Nat×Bool)) (w:Nat) (b:Bool):List (Nat×Bool):=l.map fun c=>if c.1=w then (c.1,b) else c
def pinH (h:HA) (w:Nat):HA:=⟨h.n,setH h.cl w true,h.q⟩
def zJy (h:HA) (w:Nat):HA:=⟨h.n,setH h.cl w false,h.q⟩
def endH (h:HA) (w:Nat):HA:=mkH h.n (zBe h.n (h.cl.filter fun c=>c.1 !=w) (h.q.filter fun x=>x !=w))
structure LA where
 hs:List Nat
 ex:Bool
 q:List (Nat×Bool)
def encN (w:Nat):List D:=[.int .i64 w]
def zC (w:Nat×Bool):List D:=[.int .i64 w.1,.bool w.2]
def LA.cells (l:LA):List D:=[.lst (l.hs.map encN),.bool l.ex,.lst (l.q.map zC)]
def zWt (l:LA):D:=.agg l.cells
def noLA:LA:=⟨[],false,[]⟩
structure LOk (l:LA):Prop where
 len:l.hs.length+l.q.length<=4
 lt:∀ w∈l.hs++l.q.map (·.1),w<4
 up:l.hs.Pairwise (·<·)
 nd:(l.hs++l.q.map (·.1)).Nodup
 one:l.ex=true->l.hs.length=1
 shut:l.q=[] \/ (l.hs≠[] /\ (l.ex=true\/ ∀ x,l.q.head? =some x->x.2=true))
def insN (w:Nat) (l:List Nat):List Nat:=l.takeWhile (fun x=>decide (x<w))++w::l.dropWhile (fun x=>decide (x<w))
def zIm:List Nat->Bool->List (Nat×Bool)->LA
 |hs,ex,[]=>⟨hs,ex,[]⟩
 |hs,ex,(w,x)::q=>if hs=[] \/ (ex=false/\x=false) then zIm (insN w hs) (ex||x) q else ⟨hs,ex,(w,x)::q⟩
def askL (l:LA) (w:Nat) (x:Bool):LA:=zIm l.hs l.ex (l.q++[(w,x)])
def zMr (l:LA) (w:Nat):LA:=zIm (l.hs.filter fun x=>x !=w) (if (l.hs.filter fun x=>x !=w)=[] then false else l.ex) (l.q.filter fun x=>x.1 !=w)
def zMj (l:LA) (w:Nat):Bool:=l.hs.contains w
structure Fly where
 tk:Nat
 who:Nat
 pg:Int
 tr:Nat
structure SA where
 at':Nat
 giv:Bool
 jobs:List (Option Int)
 next:Nat
 out:List Fly
def yQo (j:Option Int):D:=.lst (match j with|none=>[]|some _=>[[.int .i64 2]])
def zAv (j:Option Int):List D:=[.int .i64 1,.int .i64 0,yQo j]
def zRq (w:Nat) (p:Int) (t:Nat):List D:=[.int .i64 w,.int .i64 1,.int .i64 p,.str ByteArray.empty,.int .i64 t]
def z3z (w:Nat) (j:Option Int):List D:=[.lst (match j with|none=>[]|some p=>[zRq w p 0])]
def zDm (f:Fly):List D:=[.int .i64 f.tk,.int .i64 1,.int .i64 f.pg,.str ByteArray.empty]
def zBv (f:Fly):List D:=zRq f.who f.pg f.tr
def SA.cells (s:SA) (d:DS):List D:=
 [.lst (s.jobs.map zAv),.int .i64 s.at',.bool s.giv,.lst (s.jobs.mapIdx z3z),.lst (d.sec.map encB),.lst (d.ca.map encW),.int .i64 s.next,.lst (s.out.map zDm),.lst (s.out.map zBv)]
structure SOk (s:SA):Prop where
 n1:1<=s.jobs.length
 n4:s.jobs.length<=4
 at1:s.at'<s.jobs.length
 pg:∀ p,some p∈s.jobs->1<=p/\p<=16
 nx:s.next<=2147483647
 fl:s.out.length<=4
 up:(s.out.map (·.tk)).Pairwise (·<·)
 lt:∀ f∈s.out,f.tk<s.next/\f.who<s.jobs.length/\ (1<=f.pg/\f.pg<=16) /\1<=f.tr/\f.tr<=3
def zCb (jobs:List (Option Int)):Nat->Nat->Option Nat
 |0,_=>none
 |m+1,k=>if (jobs[k%jobs.length]?.getD none).isSome=true then some (k%jobs.length) else zCb jobs m (k+1)
def yEs (s:SA):Option Nat:=zCb s.jobs s.jobs.length (if s.giv=true then s.at'+1 else s.at')
def zLc:Nat->SA->SA
 |0,s=>s
 |m+1,s=>if s.out.length<4/\s.next<2147483647 then
   match yEs s with
   |none=>s
   |some k=>zLc m ⟨k,true,s.jobs.set k none,s.next+1,s.out++[⟨s.next,k,(s.jobs[k]?.getD none).getD 0,1⟩]⟩
  else s
def yF (s:SA):SA:=zLc 5 s
def askS (s:SA) (w:Nat) (p:Int):SA:={s with jobs:=s.jobs.set w (some p)}
def ySv (s:SA) (i:Nat) (fault:Bool):SA×Option (Nat×Bool):=
 match s.out[i]? with
 |none=>(s,none)
 |some j=>if fault=true/\j.tr<3/\s.next<2147483647 then ({s with next:=s.next+1,out:=s.out.eraseIdx i++[⟨s.next,j.who,j.pg,j.tr+1⟩]},none)
  else ({s with out:=s.out.eraseIdx i},some (j.who,fault))
abbrev MOp:=Int×Int×ByteArray
abbrev MRes:=Int×Pg
def zGl (o:MOp):List D:=[.int .i64 o.1,.int .i64 o.2.1,.str o.2.2]
def yNb (r:MRes):List D:=[.int .i64 r.1,.int .i64 r.2.1,.int .i64 r.2.2.1,.str r.2.2.2]
structure WA where
 todo:List MOp
 ended:Nat
 st:Nat
 asked:Bool
 pinned:Bool
 began:Int
 done:Int
 res:MRes
def zDn (w:WA):List D:=[.lst (w.todo.map zGl),.int .i64 w.ended,.int .i64 w.st,.bool w.asked,.bool w.pinned,.int .i64 w.began,.int .i64 w.done]++yNb w.res
def zN (l:List MOp):WA:=⟨l,0,0,false,false,0,0,(0,zP)⟩
def noMO:MOp:=(0,0,ByteArray.empty)
def WA.op (w:WA):MOp:=w.todo[w.ended]?.getD noMO
structure EvA where
 who:Nat
 op:MOp
 res:MRes
 began:Int
 done:Int
 ended:Int
def zAw (e:EvA):List D:=[D.int .i64 e.who]++zGl e.op++yNb e.res++[.int .i64 e.began,.int .i64 e.done,.int .i64 e.ended]
structure MS where
 ws:List WA
 p:PS
 h:HA
 lat:List LA
 s:SA
 clk:Int
 ev:List EvA
def refB (o:MOp):Bool:=decide (o.1<1)||decide (4<o.1)||decide (o.2.1<1)||decide (16<o.2.1)
def zWx (l:List LA) (k:Int) (x:LA):List LA:=l.set k.toNat x
def latM (m:MS) (k:Int):LA:=m.lat[k.toNat]?.getD noLA
def zKc (w:WA) (r:MRes) (now:Int):WA:={w with res:=r,done:=now,st:=6}
noncomputable def hasF (p:PS) (id:Int):Bool:=(zFh p.f id).2
noncomputable def zEx (p:PS) (id:Int):Bool:=(zFh p.f id).2&&decide (0<(atF p.f.fr (zFh p.f id).1.toNat).2.1)
def zFv (k:Int):List Int:=if k=1 then [2] else if k=2 then [1,3] else if k=3 then [1,4] else if k=4 then [6] else []
noncomputable def actG (o:MOp):List Int->PS->MRes->PS×MRes
 | [],p,r=>(p,r)
 |k::ks,p,r=>let t:=zBb p (k,o.2.1,o.2.2);if t.2.2.2≠0 then (t.1,(t.2.2.2,zP)) else actG o ks t.1 (r.1,t.2.1)
noncomputable def zWr (o:MOp) (q:PS×MRes):PS×MRes:=
 if zEx q.1 o.2.1=true then
  let t:=zBb q.1 (5,o.2.1,ByteArray.empty)
  (t.1,if q.2.1=0/\t.2.2.2≠0 then (t.2.2.2,zP) else q.2)
 else q
noncomputable def workP (p:PS) (o:MOp):PS×MRes:=zWr o (actG o (zFv o.1) p (0,zP))
def zMe (m:MS) (k:Nat) (w:WA):MS:={m with ws:=m.ws.set k w}
noncomputable def stepW (m:MS) (k:Nat) (w:WA) (now:Int):MS×Bool:=
 match w.st with
 |0=>if w.todo.length<=w.ended then (m,false) else ({zMe m k {w with began:=now,st:=1} with h:=zNm m.h k},true)
 |1=>if isCl m.h k=false then (m,false) else
   if refB w.op=true then (zMe m k (zKc w (1,zP) now),true) else
   ({zMe m k {w with asked:=true,st:=2} with lat:=zWx m.lat w.op.2.1 (askL (latM m w.op.2.1) k (decide (w.op.1≠2)))},true)
 |2=>if zMj (latM m w.op.2.1) k=false then (m,false) else (zMe m k {w with st:=3},true)
 |3=>if m.h.n<=zCl m.h.cl then (m,false) else
   if hasF m.p w.op.2.1=false/\ (w.op.1=2\/w.op.1=3) then ({zMe m k {w with pinned:=true,st:=4} with h:=pinH m.h k,s:=askS m.s k w.op.2.1},true)
   else ({zMe m k {w with pinned:=true,st:=5} with h:=pinH m.h k},true)
 |5=>({zMe m k (zKc w (workP m.p w.op).2 now) with p:=(workP m.p w.op).1},true)
 |6=>({m with
   ws:=m.ws.set k ⟨w.todo,w.ended+1,0,false,false,0,0,(0,zP)⟩
   h:=endH (if w.pinned=true then zJy m.h k else m.h) k
   lat:=if w.asked=true then zWx m.lat w.op.2.1 (zMr (latM m w.op.2.1) k) else m.lat
   ev:=m.ev++[⟨k,w.op,w.res,w.began,w.done,now⟩]},true)
 |_=>(m,false)
noncomputable def zBt (m:MS) (k:Int):MS×Bool:=
 if k<0 then (m,false) else
 match m.ws[k.toNat]? with
 |none=>(m,false)
 |some w=>stepW {m with clk:=m.clk+1} k.toNat w m.clk
def yKl (m:MS):MS:={m with s:=yF m.s}
def yFo (m:MS) (w:WA) (bad:Bool):WA:=if bad=true then zKc w (8,zP) (m.clk-1) else {w with st:=5}
def finM (m:MS) (i:Int) (fault:Bool):MS×Bool:=
 if i<0\/ (m.s.out.length:Int) <=i then (m,false) else
 match ySv m.s i.toNat fault with
 |(s,none)=>({m with s:=s},true)
 |(s,some (k,bad))=>match m.ws[k]? with
  |none=>({m with s:=s},true)
  |some w=>if w.st≠4 then ({m with s:=s},true) else ({m with s:=s,ws:=m.ws.set k (yFo m w bad)},true)
noncomputable def ageM (m:MS) (age:Int):MS:={m with p:=(zBb (zKd m.p 1) (8,age,ByteArray.empty)).1}
noncomputable def zSi (p:PS) (n:Nat) (todo:List (List MOp)):MS:=
 ⟨todo.map zN,p,⟨n,[],[]⟩,List.replicate 17 noLA,⟨0,false,List.replicate todo.length none,0,[]⟩,0,[]⟩
noncomputable def doMS (m:MS) (a:Int×Int):MS×Bool:=
 if a.1=6 then (yKl m,true) else
 if a.1=7\/a.1=8 then finM m a.2 (decide (a.1=8)) else
 if a.1=9 then (ageM m a.2,true) else zBt m ((if a.2<0 then 0 else a.2)%5)
end Go.Lk
namespace Go.Lk
theorem zGq (n:Nat):∀ (q:List Nat) (cl:List (Nat×Bool)),(zBe n cl q).1.map (·.1)++(zBe n cl q).2=cl.map (·.1)++q
 | [],cl=>rfl
 |w::q,cl=>by
  rw [zBe]
  split
  ·rw [zGq n q];simp
  ·rfl
theorem zLq (n:Nat):∀ (q:List Nat) (cl:List (Nat×Bool)),∃ t,(zBe n cl q).1=cl++t/\ ∀ c∈t,c.2=false
 | [],cl=>⟨[],by simp [zBe],by simp⟩
 |w::q,cl=>by
  rw [zBe]
  split
  ·obtain ⟨t,h1,h2⟩:=zLq n q (cl++[(w,false)]);refine ⟨(w,false)::t,by rw [h1];simp,fun c hc=>?_⟩
   rcases List.mem_cons.1 hc with rfl|hc
   ·rfl
   ·exact h2 c hc
  ·exact ⟨[],by simp,by simp⟩
theorem zU (n:Nat):∀ (q:List Nat) (cl:List (Nat×Bool)),(zBe n cl q).2=[] \/2*n<= (zBe n cl q).1.length
 | [],cl=>.inl rfl
 |w::q,cl=>by
  rw [zBe]
  split
  ·exact zU n q _
  ·exact .inr (by show 2*n<=cl.length;omega)
theorem z7g (n:Nat) (q:List Nat) (cl:List (Nat×Bool)):zCl (zBe n cl q).1=zCl cl:=by
 obtain ⟨t,h1,h2⟩:=zLq n q cl;rw [zCl,zCl,h1,List.countP_append,(List.countP_eq_zero (l:=t) (p:=(·.2))).2 (fun c hc=>by rw [h2 c hc];decide)];omega
theorem yE (n:Nat) (q:List Nat) (cl:List (Nat×Bool)):(zBe n cl q).1.length+(zBe n cl q).2.length=cl.length+q.length:=by
 have:=congrArg List.length (zGq n q cl)
 simpa using this
theorem z3u {n:Nat} {cl:List (Nat×Bool)} {q:List Nat} (n1:1<=n) (n8:n<=8) (hl:cl.length+q.length<=4) (hd:(cl.map (·.1)++q).Nodup) (ht:∀ w∈cl.map (·.1)++q,w<4) (hh:zCl cl<=n):HOk (mkH n (zBe n cl q)):=
 ⟨n1,n8,by have:=yE n q cl;show (zBe n cl q).1.length+(zBe n cl q).2.length<=4;omega,
  by show ((zBe n cl q).1.map (·.1)++(zBe n cl q).2).Nodup;rw [zGq];exact hd,
  by show ∀ w∈(zBe n cl q).1.map (·.1)++(zBe n cl q).2,w<4;rw [zGq];exact ht,
  by show zCl (zBe n cl q).1<=n;rw [z7g];exact hh,zU n q cl⟩
def HA.all (h:HA):List Nat:=h.cl.map (·.1)++h.q
theorem zTk (h:HA) (w:Nat):(zNm h w).all=h.all++[w]:=by
 show (zBe h.n h.cl (h.q++[w])).1.map (·.1)++(zBe h.n h.cl (h.q++[w])).2=_;rw [zGq,HA.all];simp
theorem yMm {h:HA} {w:Nat} (hO:HOk h) (hw:w<4) (hn:w∉h.all) (hl:h.cl.length+h.q.length<4):HOk (zNm h w):=by
 refine z3u hO.n1 hO.n8 (by simp;omega) ?_ ?_ hO.held
 ·rw [<-List.append_assoc,List.nodup_append];exact ⟨hO.nd,by simp,fun a ha b hb=>by rw [List.mem_singleton.1 hb];exact fun q=>hn (q▸ha)⟩
 ·intro x hx;rw [<-List.append_assoc] at hx
  rcases List.mem_append.1 hx with hx|hx
  ·exact hO.lt x hx
  ·rw [List.mem_singleton.1 hx];exact hw
theorem zXk {n:Nat} {cl:List (Nat×Bool)} {q:List Nat} {w:Nat} (h:cl.any (fun c=>c.1==w)=true):isCl (mkH n (zBe n cl q)) w=true:=by
 obtain ⟨t,h1,h2⟩:=zLq n q cl;show (zBe n cl q).1.any _=true;rw [h1,List.any_append,h];rfl
theorem zMs {n:Nat} {cl:List (Nat×Bool)} {q:List Nat} {w:Nat}:zFm (mkH n (zBe n cl q)) w=cl.any fun c=>c.1==w&&c.2:=by
 obtain ⟨t,h1,h2⟩:=zLq n q cl;show (zBe n cl q).1.any _=_;rw [h1,List.any_append]
 have:(t.any fun c=>c.1==w&&c.2)=false:=by
  rw [List.any_eq_false];intro c hc;rw [h2 c hc];simp
 rw [this,Bool.or_false]
theorem zLz (l:List (Nat×Bool)) (w:Nat) (b:Bool):(setH l w b).map (·.1)=l.map (·.1):=by
 rw [setH,List.map_map]
 refine List.map_congr_left fun c _=>?_
 show (if c.1=w then (c.1,b) else c).1=c.1
 split<;>rfl
theorem yVf {l:List (Nat×Bool)} {w:Nat} {b:Bool} (h:w∉l.map (·.1)):setH l w b=l:=by
 rw [setH]
 conv=>rhs;rw [<-List.map_id l]
 refine List.map_congr_left fun c hc=>?_
 have hne:c.1≠w:=fun q=>h (q▸List.mem_map_of_mem (f:=(·.1)) hc)
 rw [if_neg hne];rfl
theorem zZy {w:Nat} {b c:Bool}:∀ {l:List (Nat×Bool)},(l.map (·.1)).Nodup->(w,c)∈l->zCl (setH l w b)+(if c=true then 1 else 0)=zCl l+(if b=true then 1 else 0)
 | [],_,h=>by cases h
 |x::r,hd,h=>by
  have hd':=List.nodup_cons.1 (by simpa using hd:(x.1::r.map (·.1)).Nodup);show zCl ((if x.1=w then (x.1,b) else x)::setH r w b)+_=_
  rcases List.mem_cons.1 h with rfl|h
  ·rw [yVf hd'.1,if_pos rfl];simp only [zCl,List.countP_cons]
   cases b<;>cases c<;>simp<;>omega
  ·have hne:x.1≠w:=fun q=>hd'.1 (q▸List.mem_map_of_mem (f:=(·.1)) h)
   have ih:=zZy (b:=b) hd'.2 h;rw [if_neg hne];simp only [zCl,List.countP_cons] at ih⊢;omega
theorem zUs {h:HA} {w:Nat}:isCl h w=true↔w∈h.cl.map (·.1):=by
 rw [isCl,List.any_eq_true,List.mem_map];exact ⟨fun ⟨c,h1,h2⟩=>⟨c,h1,by simpa using h2⟩,fun ⟨c,h1,h2⟩=>⟨c,h1,by simpa using h2⟩⟩
theorem zUo {h:HA} {w:Nat}:zFm h w=true↔(w,true)∈h.cl:=by
 rw [zFm,List.any_eq_true]
 constructor
 ·rintro ⟨⟨a,b⟩,h1,h2⟩;simp at h2;rw [h2.1,h2.2] at h1;exact h1
 ·exact fun h1=>⟨_,h1,by simp⟩
end Go.Lk
namespace Go.Lk
theorem zUr (w x:Nat) (r:List Nat):insN w (x::r)=if x<w then x::insN w r else w::x::r:=by
 by_cases h:x<w
 ·simp [insN,List.takeWhile_cons,List.dropWhile_cons,h]
 ·simp [insN,List.takeWhile_cons,List.dropWhile_cons,h]
theorem mem_insN {w y:Nat}:∀ {l:List Nat},y∈insN w l↔y=w\/y∈l
 | []=>by simp [insN]
 |x::r=>by
  rw [zUr]
  split
  ·rw [List.mem_cons,mem_insN,List.mem_cons];exact ⟨fun h=>h.elim (fun q=>.inr (.inl q)) fun q=>q.elim .inl fun q=>.inr (.inr q),fun h=>h.elim (fun q=>.inr (.inl q)) fun q=>q.elim .inl fun q=>.inr (.inr q)⟩
  ·rw [List.mem_cons]
theorem zSw (w:Nat):∀ l:List Nat,(insN w l).length=l.length+1
 | []=>rfl
 |x::r=>by
  rw [zUr]
  split
  ·simp [zSw w r]
  ·simp
theorem zZz {w:Nat}:∀ {l:List Nat},l.Pairwise (·<·)->w∉l->(insN w l).Pairwise (·<·)
 | [],_,_=>by simp [insN]
 |x::r,hp,hn=>by
  have h1:=List.pairwise_cons.1 hp
  have hx:w≠x:=fun q=>hn (q▸.head _)
  rw [zUr]
  split
  ·refine List.pairwise_cons.2 ⟨fun y hy=>?_,zZz h1.2 fun q=>hn (.tail _ q)⟩
   rcases mem_insN.1 hy with rfl|hy
   ·assumption
   ·exact h1.1 y hy
  ·refine List.pairwise_cons.2 ⟨fun y hy=>?_,hp⟩
   rcases List.mem_cons.1 hy with rfl|hy
   ·omega
   ·have:=h1.1 y hy;omega
structure LI (x:Nat->Bool) (hs:List Nat) (ex:Bool) (q:List (Nat×Bool)):Prop where
 up:hs.Pairwise (·<·)
 nd:(hs++q.map (·.1)).Nodup
 one:ex=true->hs.length=1
 fl:∀ p∈q,p.2=x p.1
 hd:∀ w∈hs,x w=ex
theorem li_ins {x:Nat->Bool} {hs:List Nat} {ex:Bool} {w:Nat} {b:Bool} {q:List (Nat×Bool)} (h:LI x hs ex ((w,b)::q)) (ho:hs=[] \/ (ex=false/\b=false)):LI x (insN w hs) (ex||b) q:=by
 have hn:w∉hs:=fun hw=>(List.nodup_append.1 h.nd).2.2 w hw w (by simp) rfl
 have hb:b=x w:=h.fl (w,b) (.head _)
 have he:ex=false:=by
  rcases ho with ho|ho
  ·cases hx:ex with
   |false=>rfl
   |true=>have:=h.one hx;rw [ho] at this;cases this
  ·exact ho.1
 have hd1:=List.nodup_append.1 h.nd;refine ⟨zZz h.up hn,List.nodup_append.2 ⟨(zZz h.up hn).imp (fun q=>by omega),?_,fun a ha c hc=>?_⟩,fun hx=>?_,fun p hp=>h.fl p (.tail _ hp),fun v hv=>?_⟩
 ·exact (List.nodup_cons.1 (by simpa using hd1.2.1:(w::q.map (·.1)).Nodup)).2
 ·rcases mem_insN.1 ha with rfl|ha
  ·exact fun e=>(List.nodup_cons.1 (by simpa using hd1.2.1:(a::q.map (·.1)).Nodup)).1 (e▸hc)
  ·exact hd1.2.2 a ha c (by simp;exact .inr (by simpa using hc))
 ·rw [zSw];rw [he] at hx
  rcases ho with ho|ho
  ·rw [ho];rfl
  ·rw [ho.2] at hx;cases hx
 ·rw [he,Bool.false_or]
  rcases mem_insN.1 hv with rfl|hv
  ·exact hb.symm
  ·rcases ho with ho|ho
   ·rw [ho] at hv;cases hv
   ·rw [ho.2,h.hd v hv,ho.1]
structure LO (x:Nat->Bool) (hs:List Nat) (q:List (Nat×Bool)) (r:LA):Prop where
 li:LI x r.hs r.ex r.q
 mem:∀ w,(w∈r.hs\/w∈r.q.map (·.1))↔(w∈hs\/w∈q.map (·.1))
 sub:∀ w∈hs,w∈r.hs
 len:r.hs.length+r.q.length=hs.length+q.length
 shut:r.q=[] \/ (r.hs≠[] /\ (r.ex=true\/ ∀ y,r.q.head? =some y->y.2=true))
theorem zUa {x:Nat->Bool}:∀ {q:List (Nat×Bool)} {hs:List Nat} {ex:Bool},LI x hs ex q->LO x hs q (zIm hs ex q)
 | [],hs,ex,h=>⟨h,fun w=>Iff.rfl,fun w hw=>hw,rfl,.inl rfl⟩
 |(w,b)::q,hs,ex,h=>by
  rw [zIm]
  split
  ·rename_i ho;obtain ⟨a1,a2,a3,a4,a5⟩:=zUa (li_ins h ho);refine ⟨a1,fun v=>?_,fun v hv=>a3 v (mem_insN.2 (.inr hv)),by rw [a4,zSw];simp;omega,a5⟩;rw [a2,mem_insN];simp only [List.map_cons,List.mem_cons];exact ⟨fun q=>q.elim (fun q=>q.elim (fun q=>.inr (.inl q)) .inl) fun q=>.inr (.inr q),fun q=>q.elim (fun q=>.inl (.inr q)) fun q=>q.elim (fun q=>.inl (.inl q)) .inr⟩
  ·rename_i ho;refine ⟨h,fun w=>Iff.rfl,fun w hw=>hw,rfl,.inr ⟨fun q=>ho (.inl q),?_⟩⟩
   cases hx:ex with
   |true=>exact .inl rfl
   |false=>
    refine .inr fun y hy=>?_
    cases hy
    cases hb:b with
    |true=>rfl
    |false=>exact absurd (.inr ⟨hx,hb⟩) ho
end Go.Lk
namespace Go.Lk
theorem zEz {jobs:List (Option Int)} (hj:jobs≠[]):∀ {m k r:Nat},zCb jobs m k=some r->r<jobs.length/\ ∃ p,jobs[r]?=some (some p)
 |0,_,_,h=>by cases h
 |m+1,k,r,h=>by
  rw [zCb] at h
  split at h
  ·rename_i hs
   cases h
   have hlt:k%jobs.length<jobs.length:=Nat.mod_lt _ (List.length_pos_iff.2 hj);refine ⟨hlt,?_⟩;rw [List.getElem?_eq_getElem hlt] at hs⊢;obtain ⟨p,hp⟩:=Option.isSome_iff_exists.1 hs;exact ⟨p,congrArg some hp⟩
  ·exact zEz hj h
theorem zOl {jobs:List (Option Int)} (hj:jobs≠[]):∀ {m k:Nat},zCb jobs m k=none->∀ j,k<=j->j<k+m->jobs[j%jobs.length]?=some none
 |0,_,_,j,h1,h2=>by omega
 |m+1,k,h,j,h1,h2=>by
  rw [zCb] at h
  split at h
  ·cases h
  ·rename_i hs
   by_cases he:j=k
   ·subst he;have hlt:j%jobs.length<jobs.length:=Nat.mod_lt _ (List.length_pos_iff.2 hj);rw [List.getElem?_eq_getElem hlt] at hs⊢
    cases hq:jobs[j%jobs.length] with
    |none=>rfl
    |some p=>rw [hq] at hs;exact absurd rfl hs
   ·exact zOl hj h j (by omega) (by omega)
theorem yJl {n k i:Nat} (hi:i<n):∃ j,k<=j/\j<k+n/\j%n=i:=by
 have hn:0<n:=by omega
 by_cases h:k%n<=i
 ·refine ⟨k-k%n+i,?_,?_,?_⟩
  ·have:=Nat.mod_le k n;omega
  ·have:=Nat.mod_le k n
   have:=Nat.mod_lt k hn;omega
  ·have h1:k-k%n=n*(k/n):=by have:=Nat.div_add_mod k n;omega
   rw [h1,Nat.mul_add_mod,Nat.mod_eq_of_lt hi]
 ·refine ⟨k-k%n+n+i,?_,?_,?_⟩
  ·have:=Nat.mod_le k n
   have:=Nat.mod_lt k hn;omega
  ·have:=Nat.mod_le k n;omega
  ·have h1:k-k%n+n=n*(k/n+1):=by have:=Nat.div_add_mod k n;rw [Nat.mul_add];omega
   rw [h1,Nat.mul_add_mod,Nat.mod_eq_of_lt hi]
theorem zRv {jobs:List (Option Int)} (hj:jobs≠[]) {k:Nat} (h:zCb jobs jobs.length k=none):∀ i,i<jobs.length->jobs[i]?=some none:=by
 intro i hi;obtain ⟨j,h1,h2,h3⟩:=yJl (k:=k) hi;rw [<-h3];exact zOl hj h j h1 h2
def WJ (s:SA) (k:Nat) (p:Int):Prop:=s.jobs[k]?=some (some p) \/ ∃ f∈s.out,f.who=k/\f.pg=p
structure SU (s:SA):Prop extends SOk s where
 nd:(s.out.map (·.who)).Nodup
 ex:∀ f∈s.out,s.jobs[f.who]?=some none
theorem SOk.ne {s:SA} (h:SOk s):s.jobs≠[]:=fun q=>by have:=h.n1;rw [q] at this;exact absurd this (by decide)
theorem z9j {s:SA} (h:SU s) {k:Nat} {p:Int} {g:Bool} (hk:k<s.jobs.length) (hj:s.jobs[k]?=some (some p)) (hl:s.out.length<4) (hn:s.next<2147483647):SU ⟨k,g,s.jobs.set k none,s.next+1,s.out++[⟨s.next,k,p,1⟩]⟩:=by
 have hp:=h.pg p (List.mem_of_getElem? hj);refine ⟨⟨by simpa using h.n1,by simpa using h.n4,by simpa using hk,?_,by show s.next+1<=_;omega,by simp;omega,?_,?_⟩,?_,?_⟩
 ·intro q hq
  rcases List.mem_or_eq_of_mem_set hq with hq|hq
  ·exact h.pg q hq
  ·cases hq
 ·simp only [List.map_append,List.map_cons,List.map_nil];refine List.pairwise_append.2 ⟨h.up,by simp,fun a ha b hb=>?_⟩;rw [List.mem_singleton.1 hb];obtain ⟨f,hf,rfl⟩:=List.mem_map.1 ha;exact (h.lt f hf).1
 ·intro f hf
  rcases List.mem_append.1 hf with hf|hf
  ·have:=h.lt f hf;exact ⟨by show f.tk<s.next+1;omega,by simpa using this.2.1,this.2.2⟩
  ·rw [List.mem_singleton.1 hf];exact ⟨Nat.lt_succ_self _,by simpa using hk,hp,Nat.le_refl 1,by show 1<=3;decide⟩
 ·simp only [List.map_append,List.map_cons,List.map_nil];refine List.nodup_append.2 ⟨h.nd,by simp,fun a ha b hb=>?_⟩;rw [List.mem_singleton.1 hb];obtain ⟨f,hf,rfl⟩:=List.mem_map.1 ha;intro e;have:=h.ex f hf;rw [e,hj] at this
  cases this
 ·intro f hf;show (s.jobs.set k none)[f.who]?=_;rw [List.getElem?_set]
  rcases List.mem_append.1 hf with hf|hf
  ·have:=h.ex f hf
   by_cases e:k=f.who
   ·rw [<-e,hj] at this;cases this
   ·rw [if_neg e];exact this
  ·rw [List.mem_singleton.1 hf];simp [hk]
theorem yWj {s:SA} (h:SU s) {k:Nat} {p:Int} {g:Bool} (hk:k<s.jobs.length) (hj:s.jobs[k]?=some (some p)) (w:Nat) (q:Int):WJ ⟨k,g,s.jobs.set k none,s.next+1,s.out++[⟨s.next,k,p,1⟩]⟩ w q↔WJ s w q:=by
 unfold WJ;show ((s.jobs.set k none)[w]?=_\/ ∃ f∈s.out++_,_)↔_;rw [List.getElem?_set]
 constructor
 ·rintro (h1|⟨f,hf,h1,h2⟩)
  ·split at h1
   ·first|cases h1|(split at h1<;>cases h1)
   ·exact .inl h1
  ·rcases List.mem_append.1 hf with hf|hf
   ·exact .inr ⟨f,hf,h1,h2⟩
   ·rw [List.mem_singleton.1 hf] at h1 h2
    subst h1;subst h2
    exact .inl hj
 ·rintro (h1|⟨f,hf,h1,h2⟩)
  ·by_cases e:k=w
   ·subst e;rw [hj] at h1
    cases h1
    exact .inr ⟨_,List.mem_append.2 (.inr (.head _)),rfl,rfl⟩
   ·rw [if_neg e];exact .inl h1
  ·exact .inr ⟨f,List.mem_append.2 (.inl hf),h1,h2⟩
end Go.Lk
namespace Go.Lk
structure yQi (s r:SA):Prop where
 su:SU r
 wj:∀ w q,WJ r w q↔WJ s w q
 len:r.jobs.length=s.jobs.length
 nx:r.next<=s.next+(r.out.length-s.out.length)
 ol:s.out.length<=r.out.length
theorem z1b:∀ (m:Nat) {s:SA},SU s->yQi s (zLc m s)
 |0,s,h=>⟨h,fun _ _=>Iff.rfl,rfl,by show s.next<=_;omega,Nat.le_refl _⟩
 |m+1,s,h=>by
  have h0:yQi s s:=⟨h,fun _ _=>Iff.rfl,rfl,by omega,Nat.le_refl _⟩;rw [zLc]
  split
  ·rename_i hc
   split
   ·exact h0
   ·rename_i k hk;obtain ⟨h1,p,h2⟩:=zEz h.ne hk
    have h3:(s.jobs[k]?.getD none).getD 0=p:=by rw [h2];rfl
    rw [h3];have ih:=z1b m (z9j (g:=true) h h1 h2 hc.1 hc.2)
    have hl:(s.out++[(⟨s.next,k,p,1⟩:Fly)]).length=s.out.length+1:=by simp
    refine ⟨ih.su,fun w q=>(ih.wj w q).trans (yWj h h1 h2 w q),by rw [ih.len];simp,?_,?_⟩
    ·have:=ih.nx;have:=ih.ol;simp only [hl] at*;omega
    ·have:=ih.ol;simp only [hl] at this;omega
  ·exact h0
theorem full4 {l:List Nat} (hl:l.length=4) (hn:l.Nodup) (h4:∀ x∈l,x<4) {k:Nat} (hk:k<4):k∈l:=by
 match l,hl with
 | [a,b,c,d],_=>
  simp only [List.nodup_cons,List.mem_cons,List.not_mem_nil,or_false,not_or,List.nodup_nil,and_true,not_false_eq_true] at hn;have ha:=h4 a (by simp);have hb:=h4 b (by simp);have hc:=h4 c (by simp);have hd:=h4 d (by simp);simp only [List.mem_cons,List.not_mem_nil,or_false];obtain ⟨⟨n1,n2,n3⟩,⟨n4,n5⟩,n6⟩:=hn;omega
theorem ySc {s:SA} (h:SU s) {k:Nat} {p:Int} (hk:k<s.jobs.length) (hp:1<=p/\p<=16) (hn:∀ q,¬WJ s k q):SU (askS s k p):=by
 refine ⟨⟨by simpa [askS] using h.n1,by simpa [askS] using h.n4,by simpa [askS] using h.at1,?_,h.nx,h.fl,h.up,fun f hf=>?_⟩,h.nd,fun f hf=>?_⟩
 ·intro q hq
  rcases List.mem_or_eq_of_mem_set hq with hq|hq
  ·exact h.pg q hq
  ·cases hq;exact hp
 ·simpa [askS] using h.lt f hf
 ·show (s.jobs.set k (some p))[f.who]?=_;rw [List.getElem?_set,if_neg (fun e=>hn f.pg (.inr ⟨f,hf,e.symm,rfl⟩))];exact h.ex f hf
theorem yGg {s:SA} {k:Nat} {p:Int} (hk:k<s.jobs.length) (hn:∀ q,¬WJ s k q) (w:Nat) (q:Int):WJ (askS s k p) w q↔WJ s w q\/ (w=k/\q=p):=by
 unfold WJ;show ((s.jobs.set k (some p))[w]?=_\/ ∃ f∈s.out,_)↔_;rw [List.getElem?_set]
 by_cases e:k=w
 ·subst e;rw [if_pos rfl,if_pos hk]
  constructor
  ·rintro (h|h)
   ·cases h;exact .inr ⟨rfl,rfl⟩
   ·exact .inl (.inr h)
  ·rintro (h|⟨_,rfl⟩)
   ·exact absurd h (hn q)
   ·exact .inl rfl
 ·rw [if_neg e];exact ⟨.inl,fun h=>h.elim id fun h=>absurd h.1.symm e⟩
end Go.Lk
namespace Go.Lk
theorem cut_at {α:Type} {l:List α} {i:Nat} {j:α} (h:l[i]?=some j):∃ A B,l=A++j::B/\l.eraseIdx i=A++B:=by
 have hi:=(List.getElem?_eq_some_iff.1 h).1;have hj:=(List.getElem?_eq_some_iff.1 h).2;refine ⟨l.take i,l.drop (i+1),?_,List.eraseIdx_eq_take_drop_succ l i⟩;rw [<-hj,<-List.drop_eq_getElem_cons hi,List.take_append_drop]
structure Cut (s:SA) (i:Nat) (j:Fly) (A B:List Fly):Prop where
 o:s.out=A++j::B
 e:s.out.eraseIdx i=A++B
 w:∀ f∈A++B,f.who≠j.who
theorem cut_ok {s:SA} (h:SU s) {i:Nat} {j:Fly} (hj:s.out[i]?=some j):∃ A B,Cut s i j A B:=by
 obtain ⟨A,B,h1,h2⟩:=cut_at hj;refine ⟨A,B,h1,h2,fun f hf=>?_⟩;have hn:=h.nd;rw [h1,List.map_append,List.map_cons] at hn;obtain ⟨n1,n2,n3⟩:=List.nodup_append.1 hn;have n4:=(List.nodup_cons.1 n2).1
 rcases List.mem_append.1 hf with hf|hf
 ·exact n3 f.who (List.mem_map_of_mem (f:=(·.who)) hf) j.who (.head _)
 ·exact fun e=>n4 (e▸List.mem_map_of_mem (f:=(·.who)) hf)
theorem Cut.mem {s:SA} {i:Nat} {j:Fly} {A B:List Fly} (c:Cut s i j A B) (f:Fly):f∈s.out↔f=j\/f∈A++B:=by
 rw [c.o];simp only [List.mem_append,List.mem_cons];exact ⟨fun h=>h.elim (fun q=>.inr (.inl q)) fun h=>h.elim .inl fun q=>.inr (.inr q),fun h=>h.elim (fun q=>.inr (.inl q)) fun h=>h.elim .inl fun q=>.inr (.inr q)⟩
theorem yLn {s:SA} (h:SU s) {i:Nat} {j:Fly} {A B:List Fly} (c:Cut s i j A B):SU {s with out:=A++B}:=by
 have hsub:(A++B).Sublist s.out:=by rw [c.o];exact List.Sublist.append (List.Sublist.refl A) (List.sublist_cons_self _ _)
 exact ⟨⟨h.n1,h.n4,h.at1,h.pg,h.nx,Nat.le_trans hsub.length_le h.fl,h.up.sublist (hsub.map _),fun f hf=>h.lt f (hsub.mem hf)⟩,h.nd.sublist (hsub.map _),fun f hf=>h.ex f (hsub.mem hf)⟩
theorem yWi {s:SA} (h:SU s) {i:Nat} {j:Fly} {A B:List Fly} (c:Cut s i j A B) (w:Nat) (q:Int):WJ {s with out:=A++B} w q↔WJ s w q/\w≠j.who:=by
 unfold WJ;show (s.jobs[w]?=_\/ ∃ f∈A++B,_)↔_
 constructor
 ·rintro (h1|⟨f,hf,h1,h2⟩)
  ·refine ⟨.inl h1,fun e=>?_⟩;have:=h.ex j ((c.mem j).2 (.inl rfl));rw [<-e,h1] at this
   cases this
  ·exact ⟨.inr ⟨f,(c.mem f).2 (.inr hf),h1,h2⟩,fun e=>c.w f hf (h1.trans e)⟩
 ·rintro ⟨h1|⟨f,hf,h1,h2⟩,hw⟩
  ·exact .inl h1
  ·rcases (c.mem f).1 hf with rfl|hf
   ·exact absurd h1.symm hw
   ·exact .inr ⟨f,hf,h1,h2⟩
theorem yPl {s:SA} (h:SU s) {i:Nat} {j:Fly} {A B:List Fly} (c:Cut s i j A B) (ht:j.tr<3) (hn:s.next<2147483647):SU {s with next:=s.next+1,out:=(A++B)++[⟨s.next,j.who,j.pg,j.tr+1⟩]}:=by
 have h0:=yLn h c;have hj:=h.lt j ((c.mem j).2 (.inl rfl))
 have hl:(A++B).length+1=s.out.length:=by rw [c.o];simp;omega
 have hfl:=h.fl;refine ⟨⟨h.n1,h.n4,h.at1,h.pg,by show s.next+1<=_;omega,by show (A++B++_).length<=4;rw [List.length_append];show (A++B).length+1<=4;omega,?_,fun f hf=>?_⟩,?_,fun f hf=>?_⟩
 ·show (((A++B)++_).map (·.tk)).Pairwise _;rw [List.map_append];refine List.pairwise_append.2 ⟨h0.up,by simp,fun a ha b hb=>?_⟩;rw [List.mem_singleton.1 hb];obtain ⟨f,hf,rfl⟩:=List.mem_map.1 ha;exact (h0.lt f hf).1
 ·rcases List.mem_append.1 hf with hf|hf
  ·have:=h0.lt f hf;exact ⟨Nat.lt_succ_of_lt this.1,this.2⟩
  ·rw [List.mem_singleton.1 hf];exact ⟨Nat.lt_succ_self _,hj.2.1,hj.2.2.1,by show 1<=j.tr+1;omega,by show j.tr+1<=3;omega⟩
 ·show (((A++B)++_).map (·.who)).Nodup;rw [List.map_append];refine List.nodup_append.2 ⟨h0.nd,by simp,fun a ha b hb=>?_⟩;rw [List.mem_singleton.1 hb];obtain ⟨f,hf,rfl⟩:=List.mem_map.1 ha;exact c.w f hf
 ·rcases List.mem_append.1 hf with hf|hf
  ·exact h0.ex f hf
  ·rw [List.mem_singleton.1 hf];exact h.ex j ((c.mem j).2 (.inl rfl))
theorem yQa {s:SA} {i:Nat} {j:Fly} {A B:List Fly} (c:Cut s i j A B) (w:Nat) (q:Int):WJ {s with next:=s.next+1,out:=(A++B)++[⟨s.next,j.who,j.pg,j.tr+1⟩]} w q↔WJ s w q:=by
 unfold WJ;show (s.jobs[w]?=_\/ ∃ f∈A++B++_,_)↔_
 constructor
 ·rintro (h1|⟨f,hf,h1,h2⟩)
  ·exact .inl h1
  ·rcases List.mem_append.1 hf with hf|hf
   ·exact .inr ⟨f,(c.mem f).2 (.inr hf),h1,h2⟩
   ·rw [List.mem_singleton.1 hf] at h1 h2;exact .inr ⟨j,(c.mem j).2 (.inl rfl),h1,h2⟩
 ·rintro (h1|⟨f,hf,h1,h2⟩)
  ·exact .inl h1
  ·rcases (c.mem f).1 hf with rfl|hf
   ·exact .inr ⟨_,List.mem_append.2 (.inr (.head _)),h1,h2⟩
   ·exact .inr ⟨f,List.mem_append.2 (.inl hf),h1,h2⟩
end Go.Lk
