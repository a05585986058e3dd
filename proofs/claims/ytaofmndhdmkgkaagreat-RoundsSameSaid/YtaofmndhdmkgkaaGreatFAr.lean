/-
  What is proved here: what functions of the program compute, and what follows; no condition beyond each theorem's own.
-/
import Derived.Test.YtaofmndhdmkgkaaGreatFAm
import Derived.Test.YtaofmndhdmkgkaaGreatFAp
import Derived.Test.YtaofmndhdmkgkaaGreatFAq
set_option linter.unusedSimpArgs false
set_option linter.unusedVariables false
set_option linter.unnecessarySimpa false
set_option linter.unusedSectionVars false
namespace Go.Lk
open Go Go.Proofs Go.RowKit
theorem FM.tl {f:FX} (h:FM f):f.tb.length<=1000000:=by have:=h.tb.len;omega
theorem FM.dl {f:FX} (h:FM f):f.dt.length<=1000000:=by have:=(Dt.rightB_out h.dt).1;omega
structure PS where
 f:FX
 d:DS
 now:Int
def encPS (p:PS):D:=.agg [.lst (p.f.fr.map encF),.int .i64 p.f.hand,encIs p.f.tb,.lst (p.f.pg.map encP),encIs p.f.dt,.lst (p.d.sec.map encB),.lst (p.d.ca.map encW),.int .i64 p.now]
def PS.box (p:PS):List AV:=[.d (.lst (p.f.fr.map encF)),.d (.int .i64 p.f.hand),.d (encIs p.f.tb),.d (.lst (p.f.pg.map encP)),.d (encIs p.f.dt),.d (.lst (p.d.sec.map encB)),.d (.lst (p.d.ca.map encW)),.d (.int .i64 p.now)]
def noPS:PS:=⟨noFS,⟨[],[]⟩,0⟩
noncomputable def openM (d:DS) (n:Int):PS×Int:=if (getJ d 1).2≠0\/0<d.ca.length then (noPS,1) else if n<1\/8<n then (noPS,1) else (⟨newFS n.toNat,recM d,0⟩,0)
theorem open_ok (d:DS) (n:Int):ACall Tryz.prog 71 [encDS d,.int .i64 n] (.tup [encPS (openM d n).1,.int .i64 (openM d n).2]):=by
 refine acall_of Tryz.func71 2 rfl (by kernel_rfl) (w0 ?_)
 have hmc:(d.ca.map encW).length=d.ca.length:=List.length_map ..
 rw [openM];refine aA ?_;refine callX_pure (getJ_ok d 1) (aW ?_)
 refine bcase_n (fun h1=>?_) (fun h1=>?_)<;>conv=>whnf
 ·refine aA ?_;rw [if_pos (.inl h1)];exact ret_of rfl rfl
 refine aA ?_
 refine bcase_p (fun h2=>?_) (fun h2=>?_)<;>conv=>whnf
 ·refine aA ?_;rw [if_pos (.inr (by omega))];exact ret_of rfl rfl
 rw [if_neg (fun q=>q.elim (fun q=>q h1) (fun q=>h2 (by omega)))];refine aA ?_;have hn:=new_ok n
 by_cases hc:n<1\/8<n
 ·rw [if_pos hc,if_pos hc] at hn;rw [if_pos hc];refine callX_pure hn (aW ?_);exact ret_of rfl rfl
 ·rw [if_neg hc,if_neg hc] at hn;rw [if_neg hc];refine callX_pure hn (aW ?_);refine callX_pure (recover_ok d) (aW ?_);exact ret_of rfl rfl
def tickP (p:PS) (n:Int):PS:=if n<=0 then p else if 2147483647-p.now<n then ⟨p.f,p.d,2147483647⟩ else ⟨p.f,p.d,p.now+n⟩
theorem tick_ok (p:PS) (n:Int) (h0:0<=p.now) (h1:p.now<=2147483647):ACall Tryz.prog 54 [encPS p,.int .i64 n] (encPS (tickP p n)):=by
 refine acall_of Tryz.func54 2 rfl (by kernel_rfl) (w0 ?_);rw [tickP];refine aA ?_
 refine bcase_p (fun h2=>?_) (fun h2=>?_)<;>conv=>whnf
 ·refine aA ?_;rw [if_pos h2];exact ret_of rfl rfl
 rw [if_neg h2];refine aA ?_
 refine bcase_p (fun h3=>?_) (fun h3=>?_)<;>conv=>whnf
 ·refine aA ?_;rw [if_pos h3];exact ret_of rfl rfl
 rw [if_neg h3];refine aA ?_;exact ret_of rfl rfl
abbrev PAct:=Int×Int×ByteArray
def encPA (a:PAct):List D:=[.int .i64 a.1,.int .i64 a.2.1,.str a.2.2]
noncomputable def pinnedM (p:PS) (a:PAct):PS×Pg×Int:=
 if (findF p.f a.2.1).2=false\/ (atF p.f.fr (findF p.f a.2.1).1.toNat).2.1=0 then (p,zP,12)
 else if a.1=4 then (if (writeS p.f a.2.1 a.2.2 p.now).2≠0 then (p,zP,(writeS p.f a.2.1 a.2.2 p.now).2) else (⟨(writeS p.f a.2.1 a.2.2 p.now).1,p.d,p.now⟩,atP (writeS p.f a.2.1 a.2.2 p.now).1.pg (findF p.f a.2.1).1.toNat,0))
 else if a.1=5 then (if (unpinS p.f a.2.1).2≠0 then (p,zP,(unpinS p.f a.2.1).2) else (⟨(unpinS p.f a.2.1).1,p.d,p.now⟩,zP,0))
 else (p,atP p.f.pg (findF p.f a.2.1).1.toNat,0)
theorem writeS_pg {f:FX} {q:Int} {b:ByteArray} {n:Int} (h:(writeS f q b n).2=0):(writeS f q b n).1.pg.length=f.pg.length:=by
 rw [writeS] at h⊢
 repeat' split
 all_goals first|rfl|simp
theorem pinned_ok (p:PS) (a:PAct) (hF:FM p.f) (h1:1<=a.2.1) (h16:a.2.1<=16):
  ACall Tryz.prog 107 [encPS p,.agg (encPA a)] (.tup [encPS (pinnedM p a).1,.agg (encP (pinnedM p a).2.1),.int .i64 (pinnedM p a).2.2]):=by
 have hfind:=Find_ok p.f a.2.1 hF.tl hF.dl
 have hmf:(p.f.fr.map encF).length=p.f.fr.length:=List.length_map ..
 have hmp:(p.f.pg.map encP).length=p.f.pg.length:=List.length_map ..
 refine acall_of Tryz.func107 2 rfl (by kernel_rfl) (w0 ?_);rw [pinnedM];refine aA ?_
 rcases hF.find_cases (show a.2.1≠0 by omega) with ⟨_,hno⟩|⟨i,_,hA⟩
 ·rw [findF_no hF hno (by omega)] at hfind⊢;refine callX_pure hfind (aW ?_);rw [if_pos (.inl rfl)];exact ret_of rfl rfl
 rw [findF_at hA] at hfind⊢;have hi:=hA.hi;have hip:=hA.hp;refine callX_pure hfind (aW ?_);rw [Int.toNat_natCast,atF_eq hi];refine idxK_nat (by omega) (w0 ?_);refine getRow_of (x:=encF p.f.fr[i]) (by simp [hi]) (aW ?_)
 refine bcase_p (fun h2=>?_) (fun h2=>?_)<;>conv=>whnf
 ·refine aA ?_;rw [if_pos (.inr h2)];exact ret_of rfl rfl
 rw [if_neg (fun q=>q.elim (fun q=>by cases q) h2)];refine aA ?_
 refine bcase_p (fun h3=>?_) (fun h3=>?_)<;>conv=>whnf
 ·rw [if_pos h3];refine aA ?_;refine callX_pure (write_ok p.f a.2.1 a.2.2 p.now hF.tl hF.dl) (aW ?_);have hpg:=@writeS_pg p.f a.2.1 a.2.2 p.now;obtain ⟨r,hr⟩:∃ r,writeS p.f a.2.1 a.2.2 p.now=r:=⟨_,rfl⟩;rw [hr] at hpg⊢
  refine bcase_n (fun h4=>?_) (fun h4=>?_)<;>conv=>whnf
  ·refine aA ?_;rw [if_pos h4];exact ret_of rfl rfl
  rw [if_neg (fun q=>q h4)];refine aA ?_
  refine bcase_p (fun h5=>?_) (fun h5=>?_)<;>conv=>whnf
  ·omega
  have hmr:(r.1.pg.map encP).length=r.1.pg.length:=List.length_map ..
  have hir:i<r.1.pg.length:=by have:=hpg (by omega);omega
  refine aA ?_;refine idxK_nat (by omega) (w0 ?_);refine getRow_of (x:=encP r.1.pg[i]) (by simp [hir]) (aW ?_);rw [atP_eq hir];exact ret_of rfl rfl
 ·rw [if_neg h3];refine aA ?_
  refine bcase_p (fun h4=>?_) (fun h4=>?_)<;>conv=>whnf
  ·rw [if_pos h4];refine aA ?_;refine callX_pure (unpin_ok p.f a.2.1 hF.tl hF.dl) (aW ?_);obtain ⟨r,hr⟩:∃ r,unpinS p.f a.2.1=r:=⟨_,rfl⟩;rw [hr]
   refine bcase_n (fun h5=>?_) (fun h5=>?_)<;>conv=>whnf
   ·refine aA ?_;rw [if_pos h5];exact ret_of rfl rfl
   rw [if_neg (fun q=>q h5)];refine aA ?_;refine bcase_t (decide_eq_true h4) (aW ?_);exact ret_of rfl rfl
  ·rw [if_neg h4];refine aA ?_;refine idxK_nat (by omega) (w0 ?_);refine getRow_of (x:=encP p.f.pg[i]) (by simp [hip]) (aW ?_);rw [atP_eq hip];exact ret_of rfl rfl
noncomputable def wbM (p:PS) (id:Int):PS×List Jo×Int:=
 if (findF p.f id).2=false then (p,[],3)
 else if (cleanF p.f id).2≠0 then (p,[],(cleanF p.f id).2)
 else if (setS p.d (atP p.f.pg (findF p.f id).1.toNat)).2≠0 then (p,[],(setS p.d (atP p.f.pg (findF p.f id).1.toNat)).2)
 else (⟨(cleanF p.f id).1,(setS p.d (atP p.f.pg (findF p.f id).1.toNat)).1,p.now⟩,stepsS p.d (atP p.f.pg (findF p.f id).1.toNat),0)
theorem writeBack_ok (p:PS) (id:Int) (hF:FM p.f) (h0:id≠0):
  ACall Tryz.prog 174 [encPS p,.int .i64 id] (.tup [encPS (wbM p id).1,.lst ((wbM p id).2.1.map encJ),.int .i64 (wbM p id).2.2]):=by
 have hfind:=Find_ok p.f id hF.tl hF.dl
 have hmp:(p.f.pg.map encP).length=p.f.pg.length:=List.length_map ..
 refine acall_of Tryz.func174 2 rfl (by kernel_rfl) (w0 ?_);rw [wbM];refine aA ?_
 rcases hF.find_cases h0 with ⟨_,hno⟩|⟨i,_,hA⟩
 ·rw [findF_no hF hno h0] at hfind⊢;refine callX_pure hfind (aW ?_);rw [if_pos rfl];exact ret_of rfl rfl
 rw [findF_at hA] at hfind⊢;have hip:=hA.hp;refine callX_pure hfind (aW ?_);rw [if_neg (show ¬true=false by decide),Int.toNat_natCast,atP_eq hip];obtain ⟨x,hx⟩:∃ x,p.f.pg[i]=x:=⟨_,rfl⟩;rw [hx];refine idxK_nat (by omega) (w0 ?_);refine getRow_of (x:=encP x) (by simp [hip,hx]) (aW ?_);refine callX_pure (clean_ok p.f id hF.tl hF.dl) (aW ?_)
 refine bcase_n (fun h2=>?_) (fun h2=>?_)<;>conv=>whnf
 ·refine aA ?_;rw [if_pos h2];exact ret_of rfl rfl
 rw [if_neg (fun q=>q h2)];refine aA ?_;refine callX_pure (setS_ok p.d x) (aW ?_)
 refine bcase_n (fun h3=>?_) (fun h3=>?_)<;>conv=>whnf
 ·refine aA ?_;rw [if_pos h3];exact ret_of rfl rfl
 rw [if_neg (fun q=>q h3)];refine aA ?_;refine callX_pure (stepsS_ok p.d x) (aW ?_);exact ret_of rfl rfl
def cleanD (f:FX) (id:Int):FX:=⟨f.fr,f.hand,f.tb,f.pg,f.dt.filter fun x=>x.1 !=id⟩
theorem since_place {l:List (Int×Int)} {n:Int} (h:(Dt.sinceG l n).2=true):0<=Dt.placeG l n 0:=by
 rw [Dt.sinceG] at h
 split at h
 ·cases h
 ·omega
theorem cleanF_at {f:FX} {p:Int} {i:Nat} (hA:AtF f p i):cleanF f p=if 0<=Dt.placeG f.dt p 0 then (cleanD f p,0) else (f,12):=by
 have hR:=hA.right
 have e:lookS f p=((i:Int),0):=by
  rw [lookS,if_pos (fm_iff.2 hR),(find_mem hR.tb).2 ⟨hA.p1,hA.mem⟩];rfl
 rw [cleanF,e,if_neg (fun q=>q rfl),Dt.clean_right hR.dt]
 by_cases h:0<=Dt.placeG f.dt p 0
 ·rw [if_pos h,if_pos h];rfl
 ·rw [if_neg h,if_neg h];rfl
theorem cleanD_fm {f:FX} (h:FM f) (p:Int):FM (cleanD f p):=by
 obtain ⟨c1,c2⟩:=clean_cases (p:=p) h.dt
 by_cases hp:0<=Dt.placeG f.dt p 0
 ·rw [Dt.clean_right h.dt,if_pos hp] at c1 c2
  exact h.dirt c1 fun y hy=>((c2 y).1 hy).1
 ·have e:f.dt.filter (fun x=>x.1 !=p)=f.dt:=by
   rw [List.filter_eq_self];intro x hx;simp only [bne_iff_ne,ne_eq];intro q;exact hp (Dt.placeG_mem.2 ⟨x,hx,q⟩)
  rw [cleanD,e];exact h
theorem cleanD_lt {f:FX} {p:Int} (h:0<=Dt.placeG f.dt p 0):(cleanD f p).dt.length<f.dt.length:=by
 obtain ⟨x,hx,e⟩:=Dt.placeG_mem.1 h;show (f.dt.filter _).length<_;rw [List.length_filter_lt_length_iff_exists];exact ⟨x,hx,by simp [e]⟩
theorem stepsS_len (d:DS) (x:Pg):(stepsS d x).length<=10:=by
 rw [stepsS];split
 ·split
  ·exact planM_len _ _ _
  ·simp
 ·exact planM_len _ _ _
theorem wb_at {p:PS} {id:Int} {i:Nat} (hA:AtF p.f id i):wbM p id=if 0<=Dt.placeG p.f.dt id 0 then (if (setS p.d (p.f.pg[i]'hA.hp)).2≠0 then (p,[],(setS p.d (p.f.pg[i]'hA.hp)).2) else (⟨cleanD p.f id,(setS p.d (p.f.pg[i]'hA.hp)).1,p.now⟩,stepsS p.d (p.f.pg[i]'hA.hp),0)) else (p,[],12):=by
 rw [wbM,findF_at hA,if_neg (show ¬true=false by decide),Int.toNat_natCast,atP_eq hA.hp,cleanF_at hA]
 by_cases h:0<=Dt.placeG p.f.dt id 0
 ·rw [if_pos h,if_pos h,if_neg (fun q=>q rfl)]
 ·rw [if_neg h,if_neg h,if_pos (show (12:Int)≠0 by decide)]
noncomputable def mrM:Nat->PS->List Jo->PS×List Jo×Int
 |0,p,l=>(p,l,99)
 |n+1,p,l=>
  if (roomS p.f).2.2.2≠0 then (p,l,(roomS p.f).2.2.2)
  else if (roomS p.f).2.2.1=false then (⟨(roomS p.f).1,p.d,p.now⟩,l,0)
  else if (wbM ⟨(roomS p.f).1,p.d,p.now⟩ (roomS p.f).2.1.1).2.2≠0 then (⟨(roomS p.f).1,p.d,p.now⟩,l,(wbM ⟨(roomS p.f).1,p.d,p.now⟩ (roomS p.f).2.1.1).2.2)
  else mrM n (wbM ⟨(roomS p.f).1,p.d,p.now⟩ (roomS p.f).2.1.1).1 (l++(wbM ⟨(roomS p.f).1,p.d,p.now⟩ (roomS p.f).2.1.1).2.1)
noncomputable def makeM (p:PS):PS×List Jo×Int:=mrM 17 p []
theorem room_dirty {f:FX} (h:FM f) (he:(roomS f).2.2.2=0) (hd:(roomS f).2.2.1=true):
  ∃ i,AtF (roomS f).1 (roomS f).2.1.1 i/\0<=Dt.placeG (roomS f).1.dt (roomS f).2.1.1 0/\ (roomS f).1.dt=f.dt:=by
 rcases room_cases h with ⟨i,hi,_,e⟩|⟨_,_,e⟩|⟨_,l,a,p,hA,hs,hA2,_,e⟩
 ·rw [e] at hd;cases hd
 ·rw [e] at hd;cases hd
 ·by_cases hq:(Dt.sinceG f.dt p).2=true
  ·rw [if_pos hq] at e;rw [e];have hpg:(f.pg[a]'hA.hp).1=p:=hA.pg;exact ⟨a,by simp only [];rw [hpg];exact hA2,by simp only [];rw [hpg];exact since_place hq,rfl⟩
  ·rw [if_neg hq] at e;rw [e] at hd;cases hd
structure MRI (p0:PS) (s:Nat×PS×List Jo):Prop where
 fm:FM s.2.1.f
 lt:s.2.1.f.dt.length<s.1
 n:s.1<=17
 len:s.2.2.length+10*s.1<=170
 eq:makeM p0=mrM s.1 s.2.1 s.2.2
set_option maxHeartbeats 4000000 in
theorem makeRoom_ok (p:PS) (hF:FM p.f):ACall Tryz.prog 237 [encPS p] (.tup [encPS (makeM p).1,.lst ((makeM p).2.1.map encJ),.int .i64 (makeM p).2.2]):=by
 refine acall_of Tryz.func237 1 rfl (by kernel_rfl) (w0 ?_);refine aloop (ι:=Nat×PS×List Jo) (fun s=>[(1,.ptr 1 0 0),(2,.ptr 2 0 0),(5,.own 47)]) (fun s=>[(1,.box s.2.1.box false),(2,.box [.nil,.d (.int .i64 0),.nil,.nil,.nil,.nil,.nil,.d (.int .i64 0)] false),(47,.row (s.2.2.map encJ) 3 false)])
  (MRI p) (fun s=>s.1) (17,p,[]) ⟨hF,by have:=hF.dl;have:=(Dt.rightB_out hF.dt).1;simp only [];omega,by simp only [];omega,by simp,rfl⟩ (le1 (.row 5 47 3) ⟨rfl,rfl⟩ (le_of_cov ⟨rfl,rfl,rfl,trivial⟩ ⟨rfl,rfl,rfl,trivial⟩ ⟨rfl,rfl,rfl,rfl⟩)) ?_
 rintro ⟨n,q,l⟩ ⟨hq,hlt,hn,hlen,he⟩;simp only at hq hlt hn hlen he⊢;rw [he];obtain ⟨k,rfl⟩:∃ k,n=k+1:=⟨n-1,by omega⟩;rw [mrM]
 conv=>whnf
 refine aA ?_;refine callX_pure (room_ok q.f hq.tl hq.dl) (aW ?_);have hrd:=@room_dirty q.f hq;obtain ⟨r,hr⟩:∃ r,roomS q.f=r:=⟨_,rfl⟩;rw [hr] at hrd⊢
 refine bcase_n (fun h1=>?_) (fun h1=>?_)<;>conv=>whnf
 ·refine aA ?_;rw [if_pos h1];exact ret_of rfl rfl
 rw [if_neg (fun q=>q h1)];refine aA ?_
 refine bcase_intro (fun h2=>?_) (fun h2=>?_)<;>conv=>whnf
 ·refine aA ?_;rw [if_pos (by simpa using h2)];exact ret_of rfl rfl
 have h2:r.2.2.1=true:=by simpa using h2
 rw [if_neg (by rw [h2];decide)];obtain ⟨i,hA,hd,hdt⟩:=hrd h1 h2
 have hid:r.2.1.1≠0:=by have:=hA.p1;omega
 refine aA ?_;refine callX_pure (writeBack_ok ⟨r.1,q.d,q.now⟩ r.2.1.1 hA.right hid) (aW ?_);have hw:=@wb_at ⟨r.1,q.d,q.now⟩ r.2.1.1 i hA;obtain ⟨w,hwd⟩:∃ w,wbM ⟨r.1,q.d,q.now⟩ r.2.1.1=w:=⟨_,rfl⟩;rw [hwd] at hw⊢
 refine bcase_n (fun h3=>?_) (fun h3=>?_)<;>conv=>whnf
 ·refine aA ?_;rw [if_pos h3];exact ret_of rfl rfl
 rw [if_neg (fun q=>q h3)];have hd':0<=Dt.placeG (PS.mk r.1 q.d q.now).f.dt r.2.1.1 0:=hd;rw [if_pos hd'] at hw
 have hg:w.1.f=cleanD r.1 r.2.1.1/\w.2.1.length<=10:=by
  split at hw
  ·rename_i g;rw [hw] at h3;exact absurd h3 g
  ·rw [hw];exact ⟨rfl,stepsS_len _ _⟩
 have hfm:=cleanD_fm hA.right r.2.1.1;have hln:=cleanD_lt hd
 have hmw:(w.2.1.map encJ).length=w.2.1.length:=List.length_map ..
 have hml:(l.map encJ).length=l.length:=List.length_map ..
 refine aA ?_;refine condK_of (encJ_ok _) (w0 ?_);refine roomK_le 1000 1000 (by omega) (by decide) (by decide) (by decide) (w0 ?_);refine ⟨(k,w.1,l++w.2.1),⟨by simp only [];rw [hg.1];exact hfm,by simp only [];rw [hg.1];rw [hdt] at hln;omega,by simp only [];omega,by simp only [List.length_append];omega,?_⟩,by simp only [];omega,le0 (le_of_cov ⟨?_,?_,?_,trivial⟩ ⟨?_,?_,?_,trivial⟩ ⟨?_,?_,?_,?_⟩)⟩
 ·simp only [];rw [he,mrM,hr,if_neg (fun q=>q h1),if_neg (by rw [h2];decide),hwd,if_neg (fun q=>q h3)]
 rotate_left 5
 ·rw [List.map_append];kernel_rfl
 all_goals kernel_rfl
theorem room_fm {f:FX} (h:FM f):FM (roomS f).1:=by
 rcases room_cases h with ⟨i,hi,_,e⟩|⟨_,_,e⟩|⟨_,l,a,p,hA,hs,hA2,_,e⟩
 ·rw [e];exact h
 ·rw [e];exact h
 ·rw [e];split
  ·exact hA2.right
  ·exact FM.rel hA2
theorem clean_fm {f:FX} (h:FM f) (id:Int):FM (cleanF f id).1:=by
 rcases look_split f id with e|⟨i,e,hA⟩
 ·rw [cleanF,if_pos e];exact h
 ·rw [cleanF_at hA];split
  ·exact cleanD_fm h id
  ·exact h
theorem wb_fm {p:PS} (h:FM p.f) (id:Int):FM (wbM p id).1.f:=by
 rw [wbM]
 split
 ·exact h
 split
 ·exact h
 split
 ·exact h
 ·exact clean_fm h id
theorem mr_fm:∀ (n:Nat) (p:PS) (l:List Jo),FM p.f->FM (mrM n p l).1.f
 |0,p,l,h=>h
 |n+1,p,l,h=>by
  rw [mrM]
  split
  ·exact h
  split
  ·exact room_fm h
  split
  ·exact room_fm h
  ·exact mr_fm n _ _ (wb_fm (p:=⟨(roomS p.f).1,p.d,p.now⟩) (room_fm h) _)
theorem make_fm {p:PS} (h:FM p.f):FM (makeM p).1.f:=mr_fm 17 p [] h
abbrev R4:=PS×Pg×List Jo×Int
def encR4 (r:R4):D:=.tup [encPS r.1,.agg (encP r.2.1),.lst (r.2.2.1.map encJ),.int .i64 r.2.2.2]
noncomputable def poolLoad (p:PS) (x:Pg) (fresh:Bool):R4:=
 if (makeM p).2.2≠0 then ((makeM p).1,zP,[],(makeM p).2.2)
 else if (loadS (makeM p).1.f x (makeM p).1.now fresh).2≠0 then ((makeM p).1,zP,[],(loadS (makeM p).1.f x (makeM p).1.now fresh).2)
 else (⟨(loadS (makeM p).1.f x (makeM p).1.now fresh).1,(makeM p).1.d,(makeM p).1.now⟩,x,(makeM p).2.1,0)
theorem poolLoad_ok (p:PS) (x:Pg) (fresh:Bool) (hF:FM p.f):ACall Tryz.prog 169 [encPS p,.agg (encP x),.bool fresh] (encR4 (poolLoad p x fresh)):=by
 have hfm:=make_fm hF;refine acall_of Tryz.func169 3 rfl (by kernel_rfl) (w0 ?_);rw [poolLoad];refine aA ?_;refine callX_pure (makeRoom_ok p hF) (aW ?_);obtain ⟨r,hr⟩:∃ r,makeM p=r:=⟨_,rfl⟩;rw [hr] at hfm⊢
 refine bcase_n (fun h1=>?_) (fun h1=>?_)<;>conv=>whnf
 ·refine aA ?_;rw [if_pos h1];exact ret_of rfl rfl
 rw [if_neg (fun q=>q h1)];refine aA ?_;refine callX_pure (load_ok r.1.f x r.1.now fresh hfm.tl hfm.dl) (aW ?_);obtain ⟨g,hg⟩:∃ g,loadS r.1.f x r.1.now fresh=g:=⟨_,rfl⟩;rw [hg]
 refine bcase_n (fun h2=>?_) (fun h2=>?_)<;>conv=>whnf
 ·refine aA ?_;rw [if_pos h2];exact ret_of rfl rfl
 rw [if_neg (fun q=>q h2)];refine aA ?_;exact ret_of rfl rfl
noncomputable def poolFetch (p:PS) (id:Int):R4:=
 if (findF p.f id).2=true then (if (pinS p.f id).2≠0 then (p,zP,[],(pinS p.f id).2) else (⟨(pinS p.f id).1,p.d,p.now⟩,atP (pinS p.f id).1.pg (findF p.f id).1.toNat,[],0))
 else if (getS p.d id).2≠0 then (p,zP,[],(getS p.d id).2) else poolLoad p (getS p.d id).1 false
theorem pinS_pg {f:FX} {q:Int}:(pinS f q).1.pg=f.pg:=by
 rw [pinS]
 repeat' split
 all_goals rfl
theorem poolFetch_ok (p:PS) (id:Int) (hF:FM p.f) (h0:id≠0):ACall Tryz.prog 102 [encPS p,.int .i64 id] (encR4 (poolFetch p id)):=by
 have hfind:=Find_ok p.f id hF.tl hF.dl;refine acall_of Tryz.func102 2 rfl (by kernel_rfl) (w0 ?_);rw [poolFetch];refine aA ?_
 rcases hF.find_cases h0 with ⟨_,hno⟩|⟨i,_,hA⟩
 ·rw [findF_no hF hno h0] at hfind⊢;refine callX_pure hfind (aW ?_);rw [if_neg (show ¬false=true by decide)];refine callX_pure (getS_ok p.d id) (aW ?_);obtain ⟨g,hg⟩:∃ g,getS p.d id=g:=⟨_,rfl⟩;rw [hg]
  refine bcase_n (fun h1=>?_) (fun h1=>?_)<;>conv=>whnf
  ·refine aA ?_;rw [if_pos h1];exact ret_of rfl rfl
  rw [if_neg (fun q=>q h1)];refine aA ?_;refine callX_pure (poolLoad_ok p g.1 false hF) (aW ?_);exact ret_of rfl rfl
 ·rw [findF_at hA] at hfind⊢;have hip:=hA.hp;refine callX_pure hfind (aW ?_);rw [if_pos rfl];refine callX_pure (pin_ok p.f id hF.tl hF.dl) (aW ?_);have hpg:=@pinS_pg p.f id;obtain ⟨r,hr⟩:∃ r,pinS p.f id=r:=⟨_,rfl⟩;rw [hr] at hpg⊢
  refine bcase_n (fun h1=>?_) (fun h1=>?_)<;>conv=>whnf
  ·refine aA ?_;rw [if_pos h1];exact ret_of rfl rfl
  rw [if_neg (fun q=>q h1)]
  have hir:i<r.1.pg.length:=by rw [hpg];exact hip
  have hmr:(r.1.pg.map encP).length=r.1.pg.length:=List.length_map ..
  refine aA ?_;refine idxK_nat (by omega) (w0 ?_);refine getRow_of (x:=encP r.1.pg[i]) (by simp [hir]) (aW ?_);rw [Int.toNat_natCast,atP_eq hir];exact ret_of rfl rfl
noncomputable def poolCreate (p:PS) (id:Int):R4:=
 if (findF p.f id).2=true then (p,zP,[],4)
 else if (getS p.d id).2=3 then poolLoad p (id,1,ByteArray.empty) true
 else if (getS p.d id).2=0 then (p,zP,[],4) else (p,zP,[],(getS p.d id).2)
theorem poolCreate_ok (p:PS) (id:Int) (hF:FM p.f) (h0:id≠0):ACall Tryz.prog 103 [encPS p,.int .i64 id] (encR4 (poolCreate p id)):=by
 have hfind:=Find_ok p.f id hF.tl hF.dl;refine acall_of Tryz.func103 2 rfl (by kernel_rfl) (w0 ?_);rw [poolCreate];refine aA ?_
 rcases hF.find_cases h0 with ⟨_,hno⟩|⟨i,_,hA⟩
 ·rw [findF_no hF hno h0] at hfind⊢;refine callX_pure hfind (aW ?_);rw [if_neg (show ¬false=true by decide)];refine callX_pure (getS_ok p.d id) (aW ?_);obtain ⟨g,hg⟩:∃ g,getS p.d id=g:=⟨_,rfl⟩;rw [hg]
  refine bcase_p (fun h1=>?_) (fun h1=>?_)<;>conv=>whnf
  ·refine aA ?_;rw [if_pos h1];refine callX_pure (poolLoad_ok p (id,1,ByteArray.empty) true hF) (aW ?_);exact ret_of rfl rfl
  rw [if_neg h1];refine aA ?_
  refine bcase_p (fun h2=>?_) (fun h2=>?_)<;>conv=>whnf
  ·refine aA ?_;rw [if_pos h2];exact ret_of rfl rfl
  rw [if_neg h2];refine aA ?_;exact ret_of rfl rfl
 ·rw [findF_at hA] at hfind⊢;refine callX_pure hfind (aW ?_);rw [if_pos rfl];exact ret_of rfl rfl
noncomputable def delTail (p next:PS) (id:Int):R4:=
 if (getS p.d id).2=3 then (next,zP,[],0)
 else if (delD p.d id).2≠0 then (p,zP,[],(delD p.d id).2)
 else (⟨next.f,(delD p.d id).1,next.now⟩,zP,stepsS p.d (id,0,ByteArray.empty),0)
noncomputable def poolRemove (p : PS) (id : Int) : R4 :=
  if (findF p.f id).2 = true then
    (if 0 < (atF p.f.fr (findF p.f id).1.toNat).2.1 then (p, zP, [], 6)
     else if (dropS p.f id).2 ≠ 0 then (p, zP, [], (dropS p.f id).2) else delTail p ⟨(dropS p.f id).1, p.d, p.now⟩ id)
  else if (getS p.d id).2 ≠ 0 then (p, zP, [], 3) else delTail p p id
set_option maxHeartbeats 4000000 in
theorem poolRemove_ok (p:PS) (id:Int) (hF:FM p.f) (h0:id≠0):ACall Tryz.prog 104 [encPS p,.int .i64 id] (encR4 (poolRemove p id)):=by
 have hfind:=Find_ok p.f id hF.tl hF.dl
 have hmf:(p.f.fr.map encF).length=p.f.fr.length:=List.length_map ..
 refine acall_of Tryz.func104 2 rfl (by kernel_rfl) (w0 ?_);rw [poolRemove];refine aA ?_;obtain ⟨g,hg⟩:∃ g,getS p.d id=g:=⟨_,rfl⟩
 rcases hF.find_cases h0 with ⟨_,hno⟩|⟨i,_,hA⟩
 ·rw [findF_no hF hno h0] at hfind⊢;refine callX_pure hfind (aW ?_);rw [if_neg (show ¬false=true by decide)];refine callX_pure (getS_ok p.d id) (aW ?_);rw [hg]
  refine bcase_n (fun h1=>?_) (fun h1=>?_)<;>conv=>whnf
  ·refine aA ?_;rw [if_pos h1];exact ret_of rfl rfl
  rw [if_neg (fun q=>q h1)];refine aA ?_;rw [delTail,hg]
  refine bcase_p (fun k1=>?_) (fun k1=>?_)<;>conv=>whnf
  ·refine aA ?_;rw [if_pos k1];exact ret_of rfl rfl
  rw [if_neg k1];refine aA ?_;refine callX_pure (delD_ok p.d id) (aW ?_);obtain ⟨e,he⟩:∃ e,delD p.d id=e:=⟨_,rfl⟩;rw [he]
  refine bcase_n (fun k2=>?_) (fun k2=>?_)<;>conv=>whnf
  ·refine aA ?_;rw [if_pos k2];exact ret_of rfl rfl
  rw [if_neg (fun q=>q k2)];refine aA ?_;refine callX_pure (stepsS_ok p.d (id,0,ByteArray.empty)) (aW ?_);exact ret_of rfl rfl
 ·rw [findF_at hA] at hfind⊢;have hi:=hA.hi;refine callX_pure hfind (aW ?_);rw [if_pos rfl,Int.toNat_natCast,atF_eq hi];refine idxK_nat (by omega) (w0 ?_);refine getRow_of (x:=encF p.f.fr[i]) (by simp [hi]) (aW ?_)
  refine bcase_p (fun h1=>?_) (fun h1=>?_)<;>conv=>whnf
  ·refine aA ?_;rw [if_pos h1];exact ret_of rfl rfl
  rw [if_neg h1];refine aA ?_;refine callX_pure (getS_ok p.d id) (aW ?_);rw [hg];refine aA ?_;refine callX_pure (drop_ok p.f id hF.tl hF.dl) (aW ?_);obtain ⟨r,hr⟩:∃ r,dropS p.f id=r:=⟨_,rfl⟩;rw [hr]
  refine bcase_n (fun h2=>?_) (fun h2=>?_)<;>conv=>whnf
  ·refine aA ?_;rw [if_pos h2];exact ret_of rfl rfl
  rw [if_neg (fun q=>q h2)];refine aA ?_;rw [delTail,hg]
  refine bcase_p (fun k1=>?_) (fun k1=>?_)<;>conv=>whnf
  ·refine aA ?_;rw [if_pos k1];exact ret_of rfl rfl
  rw [if_neg k1];refine aA ?_;refine callX_pure (delD_ok p.d id) (aW ?_);obtain ⟨e,he⟩:∃ e,delD p.d id=e:=⟨_,rfl⟩;rw [he]
  refine bcase_n (fun k2=>?_) (fun k2=>?_)<;>conv=>whnf
  ·refine aA ?_;rw [if_pos k2];exact ret_of rfl rfl
  rw [if_neg (fun q=>q k2)];refine aA ?_;refine callX_pure (stepsS_ok p.d (id,0,ByteArray.empty)) (aW ?_);exact ret_of rfl rfl
noncomputable def poolFlush (p:PS) (id:Int):R4:=
 if (findF p.f id).2=false then (if (getS p.d id).2≠0 then (p,zP,[],3) else (p,zP,[],0))
 else if (Dt.sinceG p.f.dt id).2=false then (p,zP,[],0)
 else if (wbM p id).2.2≠0 then (p,zP,[],(wbM p id).2.2) else ((wbM p id).1,zP,(wbM p id).2.1,0)
theorem poolFlush_ok (p:PS) (id:Int) (hF:FM p.f) (h0:id≠0):ACall Tryz.prog 105 [encPS p,.int .i64 id] (encR4 (poolFlush p id)):=by
 refine acall_of Tryz.func105 2 rfl (by kernel_rfl) (w0 ?_);rw [poolFlush];refine aA ?_;refine callX_pure (Find_ok p.f id hF.tl hF.dl) (aW ?_)
 refine bcase_intro (fun h1=>?_) (fun h1=>?_)<;>conv=>whnf
 ·rw [if_pos (by simpa using h1)];refine aA ?_;refine callX_pure (getS_ok p.d id) (aW ?_);obtain ⟨g,hg⟩:∃ g,getS p.d id=g:=⟨_,rfl⟩;rw [hg]
  refine bcase_n (fun h2=>?_) (fun h2=>?_)<;>conv=>whnf
  ·refine aA ?_;rw [if_pos h2];exact ret_of rfl rfl
  rw [if_neg (fun q=>q h2)];refine aA ?_;exact ret_of rfl rfl
 rw [if_neg (by simpa using h1)];refine aA ?_;refine callX_pure (Dt.since_ok p.f.dt id hF.dl) (aW ?_)
 refine bcase_intro (fun h3=>?_) (fun h3=>?_)<;>conv=>whnf
 ·rw [if_pos (by simpa using h3)];refine aA ?_;exact ret_of rfl rfl
 rw [if_neg (by simpa using h3)];refine aA ?_;refine callX_pure (writeBack_ok p id hF h0) (aW ?_);obtain ⟨w,hw⟩:∃ w,wbM p id=w:=⟨_,rfl⟩;rw [hw]
 refine bcase_n (fun h4=>?_) (fun h4=>?_)<;>conv=>whnf
 ·refine aA ?_;rw [if_pos h4];exact ret_of rfl rfl
 rw [if_neg (fun q=>q h4)];refine aA ?_;exact ret_of rfl rfl
noncomputable def ageL (p:PS):List Int->PS->List Jo->R4
 | [],q,l=>(q,zP,l,0)
 |id::r,q,l=>if (wbM q id).2.2≠0 then (p,zP,[],(wbM q id).2.2) else ageL p r (wbM q id).1 (l++(wbM q id).2.1)
noncomputable def poolAge (p:PS) (least:Int):R4:=ageL p (Dt.dueG p.f.dt p.now least) p []
theorem wb_len (p:PS) (id:Int):(wbM p id).2.1.length<=10:=by
 rw [wbM]
 repeat' split
 all_goals first|exact stepsS_len _ _|simp
theorem due_ids {l:List (Int×Int)} {now age id:Int} (h:id∈Dt.dueG l now age):Dt.rightB l=true/\ ∃ t,(id,t)∈l/\age<=now-t:=by
 rw [Dt.dueG] at h
 split at h
 ·cases h
 ·rename_i q;obtain ⟨x,hx,e⟩:=List.mem_filterMap.1 h;rw [Dt.dueF] at e
  split at e
  ·rename_i g
   cases e
   refine ⟨?_,x.2,hx,g⟩
   cases hb:Dt.rightB l with
   |true=>rfl
   |false=>exact absurd (.inr (.inr hb)) q
  ·cases e
theorem due_len {l:List (Int×Int)} {now age:Int} (h:Dt.rightB l=true):(Dt.dueG l now age).length<=16:=by
 have h16:=(Dt.rightB_out h).1;rw [Dt.dueG]
 split
 ·simp
 ·exact Nat.le_trans (List.length_filterMap_le _ _) h16
theorem right_id {l:List (Int×Int)} (h:Dt.rightB l=true) {x:Int×Int} (hx:x∈l):1<=x.1/\x.1<=16/\0<=x.2:=by
 obtain ⟨i,hi,rfl⟩:=List.mem_iff_getElem.1 hx;have:=(Dt.rightB_out h).2 i hi;exact ⟨this.2.1,this.2.2.1,this.2.2.2.1⟩
structure AGI (p:PS) (ids:List Int) (s:Nat×PS×List Jo):Prop where
 le:s.1<=ids.length
 fm:FM s.2.1.f
 len:s.2.2.length<=10*s.1
 eq:ageL p ids p []=ageL p (ids.drop s.1) s.2.1 s.2.2
set_option maxHeartbeats 4000000 in
theorem poolAge_ok (p:PS) (least:Int) (hF:FM p.f) (hn:p.now<=2147483647):ACall Tryz.prog 106 [encPS p,.int .i64 least] (encR4 (poolAge p least)):=by
 have hne:∀ id∈Dt.dueG p.f.dt p.now least,id≠0:=fun id h=>by
  obtain ⟨h1,t,h2,_⟩:=due_ids h;have:=right_id h1 h2;omega
 have hl16:=due_len (now:=p.now) (age:=least) hF.dt;refine acall_of Tryz.func106 2 rfl (by kernel_rfl) (aW ?_);refine callX_pure (Dt.due_ok p.f.dt p.now least hF.dl (by omega)) (aW ?_);rw [poolAge];obtain ⟨ids,hids⟩:∃ ids,Dt.dueG p.f.dt p.now least=ids:=⟨_,rfl⟩;rw [hids] at hne hl16⊢
 have hmi:(ids.map enc1).length=ids.length:=List.length_map ..
 refine aloop (ι:=Nat×PS×List Jo) (fun s=>[(2,.ptr 2 0 0),(4,.ptr 4 0 0),(5,.ptr 5 0 0),(8,.ptr 8 0 0),(9,.own 43),(22,.d (encNs ids)),(23,.d (.int .i64 (ids.map enc1).length)),(24,.d (.int .i64 s.1))])
  (fun s=>[(2,.box p.box false),(4,.box [.nil,.d (.int .i64 0),.nil,.nil,.nil,.nil,.nil,.d (.int .i64 0)] false),(5,.box [.d (.int .i64 0),.d (.int .i64 0),.d (.str ByteArray.empty)] false),(8,.box s.2.1.box false),(43,.row (s.2.2.map encJ) 3 false)])
  (AGI p ids) (fun s=>ids.length-s.1) (0,p,[]) ⟨by simp,hF,by simp,rfl⟩ (le1 (.row 9 43 3) ⟨rfl,rfl⟩ (le_of_cov ⟨rfl,rfl,rfl,rfl,rfl,rfl,rfl,rfl,trivial⟩ ⟨rfl,rfl,rfl,rfl,rfl,trivial⟩ ⟨rfl,rfl,rfl,rfl⟩)) ?_
 rintro ⟨k,q,l⟩ ⟨hk,hq,hlen,he⟩;simp only at hk hq hlen he⊢;rw [he]
 conv=>whnf
 refine bcase_p (fun h5=>?_) (fun h5=>?_)<;>conv=>whnf
 ·have hk2:k<ids.length:=by omega
  rw [List.drop_eq_getElem_cons hk2,ageL];have hid:=hne ids[k] (List.getElem_mem hk2);have hwf:=wb_fm hq ids[k];have hwl:=wb_len q ids[k];refine idxK_nat (by omega) (w0 ?_);refine getRow_of (x:=enc1 ids[k]) (by simp [hk2]) (aW ?_);refine callX_pure (writeBack_ok q ids[k] hq hid) (aW ?_);obtain ⟨w,hw⟩:∃ w,wbM q ids[k]=w:=⟨_,rfl⟩;rw [hw] at hwf hwl⊢
  refine bcase_n (fun h6=>?_) (fun h6=>?_)<;>conv=>whnf
  ·refine aA ?_;rw [if_pos h6];exact ret_of rfl rfl
  rw [if_neg (fun q=>q h6)]
  have hmw:(w.2.1.map encJ).length=w.2.1.length:=List.length_map ..
  have hml:(l.map encJ).length=l.length:=List.length_map ..
  refine aA ?_;refine condK_of (encJ_ok _) (w0 ?_);refine roomK_le 1000 1000 (by omega) (by decide) (by decide) (by decide) (aW ?_);refine ⟨(k+1,w.1,l++w.2.1),⟨by simp only [];omega,hwf,by simp only [List.length_append];omega,?_⟩,by simp only [];omega,le0 (le_of_cov ⟨?_,?_,?_,?_,?_,?_,?_,?_,trivial⟩ ⟨?_,?_,?_,?_,?_,trivial⟩ ⟨?_,?_,?_,?_⟩)⟩
  ·simp only [];rw [he,List.drop_eq_getElem_cons hk2,ageL,hw,if_neg (fun q=>q h6)]
  rotate_left 12
  ·rw [List.map_append];kernel_rfl
  all_goals kernel_rfl
 ·refine aA ?_;rw [List.drop_of_length_le (by omega),ageL];exact ret_of rfl rfl
noncomputable def poolDo (p:PS) (a:PAct):R4:=
 if a.1<1\/8<a.1 then (p,zP,[],1)
 else if a.1≠8/\ (a.2.1<1\/16<a.2.1) then (p,zP,[],1)
 else if a.1=1 then poolFetch p a.2.1
 else if a.1=2 then poolCreate p a.2.1
 else if a.1=6 then poolRemove p a.2.1
 else if a.1=7 then poolFlush p a.2.1
 else if a.1=8 then poolAge p a.2.1
 else ((pinnedM p a).1,(pinnedM p a).2.1,[],(pinnedM p a).2.2)
set_option maxHeartbeats 4000000 in
theorem poolDo_ok (p:PS) (a:PAct) (hF:FM p.f) (hn:p.now<=2147483647):ACall Tryz.prog 53 [encPS p,.agg (encPA a)] (encR4 (poolDo p a)):=by
 refine acall_of Tryz.func53 2 rfl (by kernel_rfl) (w0 ?_);rw [poolDo];refine aA ?_
 refine bcase_p (fun h1=>?_) (fun h1=>?_)<;>conv=>whnf
 ·refine aA ?_;rw [if_pos (.inl h1)];exact ret_of rfl rfl
 refine aA ?_
 refine bcase_p (fun h2=>?_) (fun h2=>?_)<;>conv=>whnf
 ·refine aA ?_;rw [if_pos (.inr h2)];exact ret_of rfl rfl
 rw [if_neg (by omega)];refine aA ?_
 refine bcase_n (fun h3=>?_) (fun h3=>?_)<;>conv=>whnf
 ·refine aA ?_
  refine bcase_p (fun h4=>?_) (fun h4=>?_)<;>conv=>whnf
  ·refine aA ?_;rw [if_pos ⟨h3,.inl h4⟩];exact ret_of rfl rfl
  refine aA ?_
  refine bcase_p (fun h5=>?_) (fun h5=>?_)<;>conv=>whnf
  ·refine aA ?_;rw [if_pos ⟨h3,.inr h5⟩];exact ret_of rfl rfl
  rw [if_neg (fun q=>by omega)]
  have h0:a.2.1≠0:=by omega
  refine aA ?_
  refine bcase_p (fun k1=>?_) (fun k1=>?_)<;>conv=>whnf
  ·refine aA ?_;rw [if_pos k1];refine callX_pure (poolFetch_ok p a.2.1 hF h0) (aW ?_);exact ret_of rfl rfl
  rw [if_neg k1];refine aA ?_
  refine bcase_p (fun k2=>?_) (fun k2=>?_)<;>conv=>whnf
  ·refine aA ?_;rw [if_pos k2];refine callX_pure (poolCreate_ok p a.2.1 hF h0) (aW ?_);exact ret_of rfl rfl
  rw [if_neg k2];refine aA ?_
  refine bcase_p (fun k3=>?_) (fun k3=>?_)<;>conv=>whnf
  ·refine aA ?_;rw [if_pos k3];refine callX_pure (poolRemove_ok p a.2.1 hF h0) (aW ?_);exact ret_of rfl rfl
  rw [if_neg k3];refine aA ?_
  refine bcase_p (fun k4=>?_) (fun k4=>?_)<;>conv=>whnf
  ·refine aA ?_;rw [if_pos k4];refine callX_pure (poolFlush_ok p a.2.1 hF h0) (aW ?_);exact ret_of rfl rfl
  rw [if_neg k4,if_neg h3];refine aA ?_;refine bcase_f (decide_eq_false h3) (aW ?_);refine callX_pure (pinned_ok p a hF (by omega) (by omega)) (aW ?_);exact ret_of rfl rfl
 ·refine aA ?_;rw [if_neg (fun q=>q.1 h3),if_neg (by omega),if_neg (by omega),if_neg (by omega),if_neg (by omega),if_pos h3];refine bcase_f (decide_eq_false (by omega)) (aW ?_);refine bcase_f (decide_eq_false (by omega)) (aW ?_);refine bcase_f (decide_eq_false (by omega)) (aW ?_);refine bcase_f (decide_eq_false (by omega)) (aW ?_);refine bcase_t (decide_eq_true h3) (aW ?_);refine callX_pure (poolAge_ok p a.2.1 hF hn) (aW ?_);exact ret_of rfl rfl
structure HA where
 n:Nat
 cl:List (Nat×Bool)
 q:List Nat
def encCl (c:Nat×Bool):List D:=[.int .i64 c.1,.int .i64 1,.int .i64 (if c.2=true then 1 else 0)]
def encTk (w:Nat):List D:=[.int .i64 w,.int .i64 1]
def HA.cells (h:HA):List D:=[.int .i64 h.n,.int .i64 1,.lst (h.cl.map encCl),.lst (h.q.map encTk)]
def encHA (h:HA):D:=.agg h.cells
def heldN (l:List (Nat×Bool)):Nat:=l.countP (·.2)
structure HOk (h:HA):Prop where
 n1:1<=h.n
 n8:h.n<=8
 len:h.cl.length+h.q.length<=4
 nd:(h.cl.map (·.1)++h.q).Nodup
 lt:∀ w∈h.cl.map (·.1)++h.q,w<4
 held:heldN h.cl<=h.n
 shut:h.q=[] \/2*h.n<=h.cl.length
def enterHA (n:Nat):List (Nat×Bool)->List Nat->List (Nat×Bool)×List Nat
 |cl,[]=>(cl,[])
 |cl,w::q=>if cl.length<2*n then enterHA n (cl++[(w,false)]) q else (cl,w::q)
def mkH (n:Nat) (r:List (Nat×Bool)×List Nat):HA:=⟨n,r.1,r.2⟩
def beginH (h:HA) (w:Nat):HA:=mkH h.n (enterHA h.n h.cl (h.q++[w]))
def isCl (h:HA) (w:Nat):Bool:=h.cl.any fun c=>c.1==w
def heldW (h:HA) (w:Nat):Bool:=h.cl.any fun c=>c.1==w&&c.2
def setH (l:List (Nat×Bool)) (w:Nat) (b:Bool):List (Nat×Bool):=l.map fun c=>if c.1=w then (c.1,b) else c
def pinH (h:HA) (w:Nat):HA:=⟨h.n,setH h.cl w true,h.q⟩
def unpinH (h:HA) (w:Nat):HA:=⟨h.n,setH h.cl w false,h.q⟩
def endH (h:HA) (w:Nat):HA:=mkH h.n (enterHA h.n (h.cl.filter fun c=>c.1 !=w) (h.q.filter fun x=>x !=w))
structure LA where
 hs:List Nat
 ex:Bool
 q:List (Nat×Bool)
def encN (w:Nat):List D:=[.int .i64 w]
def encWt (w:Nat×Bool):List D:=[.int .i64 w.1,.bool w.2]
def LA.cells (l:LA):List D:=[.lst (l.hs.map encN),.bool l.ex,.lst (l.q.map encWt)]
def encLA (l:LA):D:=.agg l.cells
def noLA:LA:=⟨[],false,[]⟩
structure LOk (l:LA):Prop where
 len:l.hs.length+l.q.length<=4
 lt:∀ w∈l.hs++l.q.map (·.1),w<4
 up:l.hs.Pairwise (·<·)
 nd:(l.hs++l.q.map (·.1)).Nodup
 one:l.ex=true->l.hs.length=1
 shut:l.q=[] \/ (l.hs≠[] /\ (l.ex=true\/ ∀ x,l.q.head? =some x->x.2=true))
def insN (w:Nat) (l:List Nat):List Nat:=l.takeWhile (fun x=>decide (x<w))++w::l.dropWhile (fun x=>decide (x<w))
def enterL:List Nat->Bool->List (Nat×Bool)->LA
 |hs,ex,[]=>⟨hs,ex,[]⟩
 |hs,ex,(w,x)::q=>if hs=[] \/ (ex=false/\x=false) then enterL (insN w hs) (ex||x) q else ⟨hs,ex,(w,x)::q⟩
def askL (l:LA) (w:Nat) (x:Bool):LA:=enterL l.hs l.ex (l.q++[(w,x)])
def dropL (l:LA) (w:Nat):LA:=enterL (l.hs.filter fun x=>x !=w) (if (l.hs.filter fun x=>x !=w)=[] then false else l.ex) (l.q.filter fun x=>x.1 !=w)
def holdsL (l:LA) (w:Nat):Bool:=l.hs.contains w
structure Fly where
 tk:Nat
 who:Nat
 pg:Int
 tr:Nat
structure SA where
 at':Nat
 giv:Bool
 jobs:List (Option Int)
 next:Nat
 out:List Fly
def costsJ (j:Option Int):D:=.lst (match j with|none=>[]|some _=>[[.int .i64 2]])
def encLane (j:Option Int):List D:=[.int .i64 1,.int .i64 0,costsJ j]
def encJob (w:Nat) (p:Int) (t:Nat):List D:=[.int .i64 w,.int .i64 1,.int .i64 p,.str ByteArray.empty,.int .i64 t]
def jobsJ (w:Nat) (j:Option Int):List D:=[.lst (match j with|none=>[]|some p=>[encJob w p 0])]
def encReq (f:Fly):List D:=[.int .i64 f.tk,.int .i64 1,.int .i64 f.pg,.str ByteArray.empty]
def encOut (f:Fly):List D:=encJob f.who f.pg f.tr
def SA.cells (s:SA) (d:DS):List D:=
 [.lst (s.jobs.map encLane),.int .i64 s.at',.bool s.giv,.lst (s.jobs.mapIdx jobsJ),.lst (d.sec.map encB),.lst (d.ca.map encW),.int .i64 s.next,.lst (s.out.map encReq),.lst (s.out.map encOut)]
structure SOk (s:SA):Prop where
 n1:1<=s.jobs.length
 n4:s.jobs.length<=4
 at1:s.at'<s.jobs.length
 pg:∀ p,some p∈s.jobs->1<=p/\p<=16
 nx:s.next<=2147483647
 fl:s.out.length<=4
 up:(s.out.map (·.tk)).Pairwise (·<·)
 lt:∀ f∈s.out,f.tk<s.next/\f.who<s.jobs.length/\ (1<=f.pg/\f.pg<=16) /\1<=f.tr/\f.tr<=3
def laneFrom (jobs:List (Option Int)):Nat->Nat->Option Nat
 |0,_=>none
 |m+1,k=>if (jobs[k%jobs.length]?.getD none).isSome=true then some (k%jobs.length) else laneFrom jobs m (k+1)
def nextL (s:SA):Option Nat:=laneFrom s.jobs s.jobs.length (if s.giv=true then s.at'+1 else s.at')
def pumpG:Nat->SA->SA
 |0,s=>s
 |m+1,s=>if s.out.length<4/\s.next<2147483647 then
   match nextL s with
   |none=>s
   |some k=>pumpG m ⟨k,true,s.jobs.set k none,s.next+1,s.out++[⟨s.next,k,(s.jobs[k]?.getD none).getD 0,1⟩]⟩
  else s
def pumpS (s:SA):SA:=pumpG 5 s
def askS (s:SA) (w:Nat) (p:Int):SA:={s with jobs:=s.jobs.set w (some p)}
def doneS (s:SA) (i:Nat) (fault:Bool):SA×Option (Nat×Bool):=
 match s.out[i]? with
 |none=>(s,none)
 |some j=>if fault=true/\j.tr<3/\s.next<2147483647 then ({s with next:=s.next+1,out:=s.out.eraseIdx i++[⟨s.next,j.who,j.pg,j.tr+1⟩]},none)
  else ({s with out:=s.out.eraseIdx i},some (j.who,fault))
abbrev MOp:=Int×Int×ByteArray
abbrev MRes:=Int×Pg
def encMO (o:MOp):List D:=[.int .i64 o.1,.int .i64 o.2.1,.str o.2.2]
def encMR (r:MRes):List D:=[.int .i64 r.1,.int .i64 r.2.1,.int .i64 r.2.2.1,.str r.2.2.2]
structure WA where
 todo:List MOp
 ended:Nat
 st:Nat
 asked:Bool
 pinned:Bool
 began:Int
 done:Int
 res:MRes
def encWA (w:WA):List D:=[.lst (w.todo.map encMO),.int .i64 w.ended,.int .i64 w.st,.bool w.asked,.bool w.pinned,.int .i64 w.began,.int .i64 w.done]++encMR w.res
def newWA (l:List MOp):WA:=⟨l,0,0,false,false,0,0,(0,zP)⟩
def noMO:MOp:=(0,0,ByteArray.empty)
def WA.op (w:WA):MOp:=w.todo[w.ended]?.getD noMO
structure EvA where
 who:Nat
 op:MOp
 res:MRes
 began:Int
 done:Int
 ended:Int
def encEvA (e:EvA):List D:=[D.int .i64 e.who]++encMO e.op++encMR e.res++[.int .i64 e.began,.int .i64 e.done,.int .i64 e.ended]
structure MS where
 ws:List WA
 p:PS
 h:HA
 lat:List LA
 s:SA
 clk:Int
 ev:List EvA
def refB (o:MOp):Bool:=decide (o.1<1)||decide (4<o.1)||decide (o.2.1<1)||decide (16<o.2.1)
def lsetM (l:List LA) (k:Int) (x:LA):List LA:=l.set k.toNat x
def latM (m:MS) (k:Int):LA:=m.lat[k.toNat]?.getD noLA
def tellW (w:WA) (r:MRes) (now:Int):WA:={w with res:=r,done:=now,st:=6}
noncomputable def hasF (p:PS) (id:Int):Bool:=(findF p.f id).2
noncomputable def hasPinsM (p:PS) (id:Int):Bool:=(findF p.f id).2&&decide (0<(atF p.f.fr (findF p.f id).1.toNat).2.1)
def actsK (k:Int):List Int:=if k=1 then [2] else if k=2 then [1,3] else if k=3 then [1,4] else if k=4 then [6] else []
noncomputable def actG (o:MOp):List Int->PS->MRes->PS×MRes
 | [],p,r=>(p,r)
 |k::ks,p,r=>let t:=poolDo p (k,o.2.1,o.2.2);if t.2.2.2≠0 then (t.1,(t.2.2.2,zP)) else actG o ks t.1 (r.1,t.2.1)
noncomputable def backP (o:MOp) (q:PS×MRes):PS×MRes:=
 if hasPinsM q.1 o.2.1=true then
  let t:=poolDo q.1 (5,o.2.1,ByteArray.empty)
  (t.1,if q.2.1=0/\t.2.2.2≠0 then (t.2.2.2,zP) else q.2)
 else q
noncomputable def workP (p:PS) (o:MOp):PS×MRes:=backP o (actG o (actsK o.1) p (0,zP))
def setW' (m:MS) (k:Nat) (w:WA):MS:={m with ws:=m.ws.set k w}
noncomputable def stepW (m:MS) (k:Nat) (w:WA) (now:Int):MS×Bool:=
 match w.st with
 |0=>if w.todo.length<=w.ended then (m,false) else ({setW' m k {w with began:=now,st:=1} with h:=beginH m.h k},true)
 |1=>if isCl m.h k=false then (m,false) else
   if refB w.op=true then (setW' m k (tellW w (1,zP) now),true) else
   ({setW' m k {w with asked:=true,st:=2} with lat:=lsetM m.lat w.op.2.1 (askL (latM m w.op.2.1) k (decide (w.op.1≠2)))},true)
 |2=>if holdsL (latM m w.op.2.1) k=false then (m,false) else (setW' m k {w with st:=3},true)
 |3=>if m.h.n<=heldN m.h.cl then (m,false) else
   if hasF m.p w.op.2.1=false/\ (w.op.1=2\/w.op.1=3) then ({setW' m k {w with pinned:=true,st:=4} with h:=pinH m.h k,s:=askS m.s k w.op.2.1},true)
   else ({setW' m k {w with pinned:=true,st:=5} with h:=pinH m.h k},true)
 |5=>({setW' m k (tellW w (workP m.p w.op).2 now) with p:=(workP m.p w.op).1},true)
 |6=>({m with
   ws:=m.ws.set k ⟨w.todo,w.ended+1,0,false,false,0,0,(0,zP)⟩
   h:=endH (if w.pinned=true then unpinH m.h k else m.h) k
   lat:=if w.asked=true then lsetM m.lat w.op.2.1 (dropL (latM m w.op.2.1) k) else m.lat
   ev:=m.ev++[⟨k,w.op,w.res,w.began,w.done,now⟩]},true)
 |_=>(m,false)
noncomputable def stepM (m:MS) (k:Int):MS×Bool:=
 if k<0 then (m,false) else
 match m.ws[k.toNat]? with
 |none=>(m,false)
 |some w=>stepW {m with clk:=m.clk+1} k.toNat w m.clk
def pumpM (m:MS):MS:={m with s:=pumpS m.s}
def toldW (m:MS) (w:WA) (bad:Bool):WA:=if bad=true then tellW w (8,zP) (m.clk-1) else {w with st:=5}
def finM (m:MS) (i:Int) (fault:Bool):MS×Bool:=
 if i<0\/ (m.s.out.length:Int) <=i then (m,false) else
 match doneS m.s i.toNat fault with
 |(s,none)=>({m with s:=s},true)
 |(s,some (k,bad))=>match m.ws[k]? with
  |none=>({m with s:=s},true)
  |some w=>if w.st≠4 then ({m with s:=s},true) else ({m with s:=s,ws:=m.ws.set k (toldW m w bad)},true)
noncomputable def ageM (m:MS) (age:Int):MS:={m with p:=(poolDo (tickP m.p 1) (8,age,ByteArray.empty)).1}
noncomputable def newMS (p:PS) (n:Nat) (todo:List (List MOp)):MS:=
 ⟨todo.map newWA,p,⟨n,[],[]⟩,List.replicate 17 noLA,⟨0,false,List.replicate todo.length none,0,[]⟩,0,[]⟩
noncomputable def doMS (m:MS) (a:Int×Int):MS×Bool:=
 if a.1=6 then (pumpM m,true) else
 if a.1=7\/a.1=8 then finM m a.2 (decide (a.1=8)) else
 if a.1=9 then (ageM m a.2,true) else stepM m ((if a.2<0 then 0 else a.2)%5)
end Go.Lk
namespace Go.Lk
theorem enterH_all (n:Nat):∀ (q:List Nat) (cl:List (Nat×Bool)),(enterHA n cl q).1.map (·.1)++(enterHA n cl q).2=cl.map (·.1)++q
 | [],cl=>rfl
 |w::q,cl=>by
  rw [enterHA]
  split
  ·rw [enterH_all n q];simp
  ·rfl
theorem enterH_pre (n:Nat):∀ (q:List Nat) (cl:List (Nat×Bool)),∃ t,(enterHA n cl q).1=cl++t/\ ∀ c∈t,c.2=false
 | [],cl=>⟨[],by simp [enterHA],by simp⟩
 |w::q,cl=>by
  rw [enterHA]
  split
  ·obtain ⟨t,h1,h2⟩:=enterH_pre n q (cl++[(w,false)]);refine ⟨(w,false)::t,by rw [h1];simp,fun c hc=>?_⟩
   rcases List.mem_cons.1 hc with rfl|hc
   ·rfl
   ·exact h2 c hc
  ·exact ⟨[],by simp,by simp⟩
theorem enterH_shut (n:Nat):∀ (q:List Nat) (cl:List (Nat×Bool)),(enterHA n cl q).2=[] \/2*n<= (enterHA n cl q).1.length
 | [],cl=>.inl rfl
 |w::q,cl=>by
  rw [enterHA]
  split
  ·exact enterH_shut n q _
  ·exact .inr (by show 2*n<=cl.length;omega)
theorem enterH_held (n:Nat) (q:List Nat) (cl:List (Nat×Bool)):heldN (enterHA n cl q).1=heldN cl:=by
 obtain ⟨t,h1,h2⟩:=enterH_pre n q cl;rw [heldN,heldN,h1,List.countP_append,(List.countP_eq_zero (l:=t) (p:=(·.2))).2 (fun c hc=>by rw [h2 c hc];decide)];omega
theorem enterH_len (n:Nat) (q:List Nat) (cl:List (Nat×Bool)):(enterHA n cl q).1.length+(enterHA n cl q).2.length=cl.length+q.length:=by
 have:=congrArg List.length (enterH_all n q cl)
 simpa using this
theorem hok_enter {n:Nat} {cl:List (Nat×Bool)} {q:List Nat} (n1:1<=n) (n8:n<=8) (hl:cl.length+q.length<=4) (hd:(cl.map (·.1)++q).Nodup) (ht:∀ w∈cl.map (·.1)++q,w<4) (hh:heldN cl<=n):HOk (mkH n (enterHA n cl q)):=
 ⟨n1,n8,by have:=enterH_len n q cl;show (enterHA n cl q).1.length+(enterHA n cl q).2.length<=4;omega,
  by show ((enterHA n cl q).1.map (·.1)++(enterHA n cl q).2).Nodup;rw [enterH_all];exact hd,
  by show ∀ w∈(enterHA n cl q).1.map (·.1)++(enterHA n cl q).2,w<4;rw [enterH_all];exact ht,
  by show heldN (enterHA n cl q).1<=n;rw [enterH_held];exact hh,enterH_shut n q cl⟩
def HA.all (h:HA):List Nat:=h.cl.map (·.1)++h.q
theorem begin_all (h:HA) (w:Nat):(beginH h w).all=h.all++[w]:=by
 show (enterHA h.n h.cl (h.q++[w])).1.map (·.1)++(enterHA h.n h.cl (h.q++[w])).2=_;rw [enterH_all,HA.all];simp
theorem begin_ok {h:HA} {w:Nat} (hO:HOk h) (hw:w<4) (hn:w∉h.all) (hl:h.cl.length+h.q.length<4):HOk (beginH h w):=by
 refine hok_enter hO.n1 hO.n8 (by simp;omega) ?_ ?_ hO.held
 ·rw [<-List.append_assoc,List.nodup_append];exact ⟨hO.nd,by simp,fun a ha b hb=>by rw [List.mem_singleton.1 hb];exact fun q=>hn (q▸ha)⟩
 ·intro x hx;rw [<-List.append_assoc] at hx
  rcases List.mem_append.1 hx with hx|hx
  ·exact hO.lt x hx
  ·rw [List.mem_singleton.1 hx];exact hw
theorem enter_isCl {n:Nat} {cl:List (Nat×Bool)} {q:List Nat} {w:Nat} (h:cl.any (fun c=>c.1==w)=true):isCl (mkH n (enterHA n cl q)) w=true:=by
 obtain ⟨t,h1,h2⟩:=enterH_pre n q cl;show (enterHA n cl q).1.any _=true;rw [h1,List.any_append,h];rfl
theorem enter_heldW {n:Nat} {cl:List (Nat×Bool)} {q:List Nat} {w:Nat}:heldW (mkH n (enterHA n cl q)) w=cl.any fun c=>c.1==w&&c.2:=by
 obtain ⟨t,h1,h2⟩:=enterH_pre n q cl;show (enterHA n cl q).1.any _=_;rw [h1,List.any_append]
 have:(t.any fun c=>c.1==w&&c.2)=false:=by
  rw [List.any_eq_false];intro c hc;rw [h2 c hc];simp
 rw [this,Bool.or_false]
theorem setH_fst (l:List (Nat×Bool)) (w:Nat) (b:Bool):(setH l w b).map (·.1)=l.map (·.1):=by
 rw [setH,List.map_map]
 refine List.map_congr_left fun c _=>?_
 show (if c.1=w then (c.1,b) else c).1=c.1
 split<;>rfl
theorem setH_no {l:List (Nat×Bool)} {w:Nat} {b:Bool} (h:w∉l.map (·.1)):setH l w b=l:=by
 rw [setH]
 conv=>rhs;rw [<-List.map_id l]
 refine List.map_congr_left fun c hc=>?_
 have hne:c.1≠w:=fun q=>h (q▸List.mem_map_of_mem (f:=(·.1)) hc)
 rw [if_neg hne];rfl
theorem held_set {w:Nat} {b c:Bool}:∀ {l:List (Nat×Bool)},(l.map (·.1)).Nodup->(w,c)∈l->heldN (setH l w b)+(if c=true then 1 else 0)=heldN l+(if b=true then 1 else 0)
 | [],_,h=>by cases h
 |x::r,hd,h=>by
  have hd':=List.nodup_cons.1 (by simpa using hd:(x.1::r.map (·.1)).Nodup);show heldN ((if x.1=w then (x.1,b) else x)::setH r w b)+_=_
  rcases List.mem_cons.1 h with rfl|h
  ·rw [setH_no hd'.1,if_pos rfl];simp only [heldN,List.countP_cons]
   cases b<;>cases c<;>simp<;>omega
  ·have hne:x.1≠w:=fun q=>hd'.1 (q▸List.mem_map_of_mem (f:=(·.1)) h)
   have ih:=held_set (b:=b) hd'.2 h;rw [if_neg hne];simp only [heldN,List.countP_cons] at ih⊢;omega
theorem isCl_t {h:HA} {w:Nat}:isCl h w=true↔w∈h.cl.map (·.1):=by
 rw [isCl,List.any_eq_true,List.mem_map];exact ⟨fun ⟨c,h1,h2⟩=>⟨c,h1,by simpa using h2⟩,fun ⟨c,h1,h2⟩=>⟨c,h1,by simpa using h2⟩⟩
theorem heldW_t {h:HA} {w:Nat}:heldW h w=true↔(w,true)∈h.cl:=by
 rw [heldW,List.any_eq_true]
 constructor
 ·rintro ⟨⟨a,b⟩,h1,h2⟩;simp at h2;rw [h2.1,h2.2] at h1;exact h1
 ·exact fun h1=>⟨_,h1,by simp⟩
end Go.Lk
namespace Go.Lk
theorem insN_cons (w x:Nat) (r:List Nat):insN w (x::r)=if x<w then x::insN w r else w::x::r:=by
 by_cases h:x<w
 ·simp [insN,List.takeWhile_cons,List.dropWhile_cons,h]
 ·simp [insN,List.takeWhile_cons,List.dropWhile_cons,h]
theorem mem_insN {w y:Nat}:∀ {l:List Nat},y∈insN w l↔y=w\/y∈l
 | []=>by simp [insN]
 |x::r=>by
  rw [insN_cons]
  split
  ·rw [List.mem_cons,mem_insN,List.mem_cons];exact ⟨fun h=>h.elim (fun q=>.inr (.inl q)) fun q=>q.elim .inl fun q=>.inr (.inr q),fun h=>h.elim (fun q=>.inr (.inl q)) fun q=>q.elim .inl fun q=>.inr (.inr q)⟩
  ·rw [List.mem_cons]
theorem insN_len (w:Nat):∀ l:List Nat,(insN w l).length=l.length+1
 | []=>rfl
 |x::r=>by
  rw [insN_cons]
  split
  ·simp [insN_len w r]
  ·simp
theorem insN_up {w:Nat}:∀ {l:List Nat},l.Pairwise (·<·)->w∉l->(insN w l).Pairwise (·<·)
 | [],_,_=>by simp [insN]
 |x::r,hp,hn=>by
  have h1:=List.pairwise_cons.1 hp
  have hx:w≠x:=fun q=>hn (q▸.head _)
  rw [insN_cons]
  split
  ·refine List.pairwise_cons.2 ⟨fun y hy=>?_,insN_up h1.2 fun q=>hn (.tail _ q)⟩
   rcases mem_insN.1 hy with rfl|hy
   ·assumption
   ·exact h1.1 y hy
  ·refine List.pairwise_cons.2 ⟨fun y hy=>?_,hp⟩
   rcases List.mem_cons.1 hy with rfl|hy
   ·omega
   ·have:=h1.1 y hy;omega
structure LI (x:Nat->Bool) (hs:List Nat) (ex:Bool) (q:List (Nat×Bool)):Prop where
 up:hs.Pairwise (·<·)
 nd:(hs++q.map (·.1)).Nodup
 one:ex=true->hs.length=1
 fl:∀ p∈q,p.2=x p.1
 hd:∀ w∈hs,x w=ex
theorem li_ins {x:Nat->Bool} {hs:List Nat} {ex:Bool} {w:Nat} {b:Bool} {q:List (Nat×Bool)} (h:LI x hs ex ((w,b)::q)) (ho:hs=[] \/ (ex=false/\b=false)):LI x (insN w hs) (ex||b) q:=by
 have hn:w∉hs:=fun hw=>(List.nodup_append.1 h.nd).2.2 w hw w (by simp) rfl
 have hb:b=x w:=h.fl (w,b) (.head _)
 have he:ex=false:=by
  rcases ho with ho|ho
  ·cases hx:ex with
   |false=>rfl
   |true=>have:=h.one hx;rw [ho] at this;cases this
  ·exact ho.1
 have hd1:=List.nodup_append.1 h.nd;refine ⟨insN_up h.up hn,List.nodup_append.2 ⟨(insN_up h.up hn).imp (fun q=>by omega),?_,fun a ha c hc=>?_⟩,fun hx=>?_,fun p hp=>h.fl p (.tail _ hp),fun v hv=>?_⟩
 ·exact (List.nodup_cons.1 (by simpa using hd1.2.1:(w::q.map (·.1)).Nodup)).2
 ·rcases mem_insN.1 ha with rfl|ha
  ·exact fun e=>(List.nodup_cons.1 (by simpa using hd1.2.1:(a::q.map (·.1)).Nodup)).1 (e▸hc)
  ·exact hd1.2.2 a ha c (by simp;exact .inr (by simpa using hc))
 ·rw [insN_len];rw [he] at hx
  rcases ho with ho|ho
  ·rw [ho];rfl
  ·rw [ho.2] at hx;cases hx
 ·rw [he,Bool.false_or]
  rcases mem_insN.1 hv with rfl|hv
  ·exact hb.symm
  ·rcases ho with ho|ho
   ·rw [ho] at hv;cases hv
   ·rw [ho.2,h.hd v hv,ho.1]
structure LO (x:Nat->Bool) (hs:List Nat) (q:List (Nat×Bool)) (r:LA):Prop where
 li:LI x r.hs r.ex r.q
 mem:∀ w,(w∈r.hs\/w∈r.q.map (·.1))↔(w∈hs\/w∈q.map (·.1))
 sub:∀ w∈hs,w∈r.hs
 len:r.hs.length+r.q.length=hs.length+q.length
 shut:r.q=[] \/ (r.hs≠[] /\ (r.ex=true\/ ∀ y,r.q.head? =some y->y.2=true))
theorem enterL_ok {x:Nat->Bool}:∀ {q:List (Nat×Bool)} {hs:List Nat} {ex:Bool},LI x hs ex q->LO x hs q (enterL hs ex q)
 | [],hs,ex,h=>⟨h,fun w=>Iff.rfl,fun w hw=>hw,rfl,.inl rfl⟩
 |(w,b)::q,hs,ex,h=>by
  rw [enterL]
  split
  ·rename_i ho;obtain ⟨a1,a2,a3,a4,a5⟩:=enterL_ok (li_ins h ho);refine ⟨a1,fun v=>?_,fun v hv=>a3 v (mem_insN.2 (.inr hv)),by rw [a4,insN_len];simp;omega,a5⟩;rw [a2,mem_insN];simp only [List.map_cons,List.mem_cons];exact ⟨fun q=>q.elim (fun q=>q.elim (fun q=>.inr (.inl q)) .inl) fun q=>.inr (.inr q),fun q=>q.elim (fun q=>.inl (.inr q)) fun q=>q.elim (fun q=>.inl (.inl q)) .inr⟩
  ·rename_i ho;refine ⟨h,fun w=>Iff.rfl,fun w hw=>hw,rfl,.inr ⟨fun q=>ho (.inl q),?_⟩⟩
   cases hx:ex with
   |true=>exact .inl rfl
   |false=>
    refine .inr fun y hy=>?_
    cases hy
    cases hb:b with
    |true=>rfl
    |false=>exact absurd (.inr ⟨hx,hb⟩) ho
end Go.Lk
namespace Go.Lk
theorem laneFrom_some {jobs:List (Option Int)} (hj:jobs≠[]):∀ {m k r:Nat},laneFrom jobs m k=some r->r<jobs.length/\ ∃ p,jobs[r]?=some (some p)
 |0,_,_,h=>by cases h
 |m+1,k,r,h=>by
  rw [laneFrom] at h
  split at h
  ·rename_i hs
   cases h
   have hlt:k%jobs.length<jobs.length:=Nat.mod_lt _ (List.length_pos_iff.2 hj);refine ⟨hlt,?_⟩;rw [List.getElem?_eq_getElem hlt] at hs⊢;obtain ⟨p,hp⟩:=Option.isSome_iff_exists.1 hs;exact ⟨p,congrArg some hp⟩
  ·exact laneFrom_some hj h
theorem laneFrom_none {jobs:List (Option Int)} (hj:jobs≠[]):∀ {m k:Nat},laneFrom jobs m k=none->∀ j,k<=j->j<k+m->jobs[j%jobs.length]?=some none
 |0,_,_,j,h1,h2=>by omega
 |m+1,k,h,j,h1,h2=>by
  rw [laneFrom] at h
  split at h
  ·cases h
  ·rename_i hs
   by_cases he:j=k
   ·subst he;have hlt:j%jobs.length<jobs.length:=Nat.mod_lt _ (List.length_pos_iff.2 hj);rw [List.getElem?_eq_getElem hlt] at hs⊢
    cases hq:jobs[j%jobs.length] with
    |none=>rfl
    |some p=>rw [hq] at hs;exact absurd rfl hs
   ·exact laneFrom_none hj h j (by omega) (by omega)
theorem mod_cover {n k i:Nat} (hi:i<n):∃ j,k<=j/\j<k+n/\j%n=i:=by
 have hn:0<n:=by omega
 by_cases h:k%n<=i
 ·refine ⟨k-k%n+i,?_,?_,?_⟩
  ·have:=Nat.mod_le k n;omega
  ·have:=Nat.mod_le k n
   have:=Nat.mod_lt k hn;omega
  ·have h1:k-k%n=n*(k/n):=by have:=Nat.div_add_mod k n;omega
   rw [h1,Nat.mul_add_mod,Nat.mod_eq_of_lt hi]
 ·refine ⟨k-k%n+n+i,?_,?_,?_⟩
  ·have:=Nat.mod_le k n
   have:=Nat.mod_lt k hn;omega
  ·have:=Nat.mod_le k n;omega
  ·have h1:k-k%n+n=n*(k/n+1):=by have:=Nat.div_add_mod k n;rw [Nat.mul_add];omega
   rw [h1,Nat.mul_add_mod,Nat.mod_eq_of_lt hi]
theorem laneFrom_all {jobs:List (Option Int)} (hj:jobs≠[]) {k:Nat} (h:laneFrom jobs jobs.length k=none):∀ i,i<jobs.length->jobs[i]?=some none:=by
 intro i hi;obtain ⟨j,h1,h2,h3⟩:=mod_cover (k:=k) hi;rw [<-h3];exact laneFrom_none hj h j h1 h2
def WJ (s:SA) (k:Nat) (p:Int):Prop:=s.jobs[k]?=some (some p) \/ ∃ f∈s.out,f.who=k/\f.pg=p
structure SU (s:SA):Prop extends SOk s where
 nd:(s.out.map (·.who)).Nodup
 ex:∀ f∈s.out,s.jobs[f.who]?=some none
theorem SOk.ne {s:SA} (h:SOk s):s.jobs≠[]:=fun q=>by have:=h.n1;rw [q] at this;exact absurd this (by decide)
theorem su_push {s:SA} (h:SU s) {k:Nat} {p:Int} {g:Bool} (hk:k<s.jobs.length) (hj:s.jobs[k]?=some (some p)) (hl:s.out.length<4) (hn:s.next<2147483647):SU ⟨k,g,s.jobs.set k none,s.next+1,s.out++[⟨s.next,k,p,1⟩]⟩:=by
 have hp:=h.pg p (List.mem_of_getElem? hj);refine ⟨⟨by simpa using h.n1,by simpa using h.n4,by simpa using hk,?_,by show s.next+1<=_;omega,by simp;omega,?_,?_⟩,?_,?_⟩
 ·intro q hq
  rcases List.mem_or_eq_of_mem_set hq with hq|hq
  ·exact h.pg q hq
  ·cases hq
 ·simp only [List.map_append,List.map_cons,List.map_nil];refine List.pairwise_append.2 ⟨h.up,by simp,fun a ha b hb=>?_⟩;rw [List.mem_singleton.1 hb];obtain ⟨f,hf,rfl⟩:=List.mem_map.1 ha;exact (h.lt f hf).1
 ·intro f hf
  rcases List.mem_append.1 hf with hf|hf
  ·have:=h.lt f hf;exact ⟨by show f.tk<s.next+1;omega,by simpa using this.2.1,this.2.2⟩
  ·rw [List.mem_singleton.1 hf];exact ⟨Nat.lt_succ_self _,by simpa using hk,hp,Nat.le_refl 1,by show 1<=3;decide⟩
 ·simp only [List.map_append,List.map_cons,List.map_nil];refine List.nodup_append.2 ⟨h.nd,by simp,fun a ha b hb=>?_⟩;rw [List.mem_singleton.1 hb];obtain ⟨f,hf,rfl⟩:=List.mem_map.1 ha;intro e;have:=h.ex f hf;rw [e,hj] at this
  cases this
 ·intro f hf;show (s.jobs.set k none)[f.who]?=_;rw [List.getElem?_set]
  rcases List.mem_append.1 hf with hf|hf
  ·have:=h.ex f hf
   by_cases e:k=f.who
   ·rw [<-e,hj] at this;cases this
   ·rw [if_neg e];exact this
  ·rw [List.mem_singleton.1 hf];simp [hk]
theorem wj_push {s:SA} (h:SU s) {k:Nat} {p:Int} {g:Bool} (hk:k<s.jobs.length) (hj:s.jobs[k]?=some (some p)) (w:Nat) (q:Int):WJ ⟨k,g,s.jobs.set k none,s.next+1,s.out++[⟨s.next,k,p,1⟩]⟩ w q↔WJ s w q:=by
 unfold WJ;show ((s.jobs.set k none)[w]?=_\/ ∃ f∈s.out++_,_)↔_;rw [List.getElem?_set]
 constructor
 ·rintro (h1|⟨f,hf,h1,h2⟩)
  ·split at h1
   ·first|cases h1|(split at h1<;>cases h1)
   ·exact .inl h1
  ·rcases List.mem_append.1 hf with hf|hf
   ·exact .inr ⟨f,hf,h1,h2⟩
   ·rw [List.mem_singleton.1 hf] at h1 h2
    subst h1;subst h2
    exact .inl hj
 ·rintro (h1|⟨f,hf,h1,h2⟩)
  ·by_cases e:k=w
   ·subst e;rw [hj] at h1
    cases h1
    exact .inr ⟨_,List.mem_append.2 (.inr (.head _)),rfl,rfl⟩
   ·rw [if_neg e];exact .inl h1
  ·exact .inr ⟨f,List.mem_append.2 (.inl hf),h1,h2⟩
end Go.Lk
namespace Go.Lk
structure PumpOk (s r:SA):Prop where
 su:SU r
 wj:∀ w q,WJ r w q↔WJ s w q
 len:r.jobs.length=s.jobs.length
 nx:r.next<=s.next+(r.out.length-s.out.length)
 ol:s.out.length<=r.out.length
theorem pumpG_ok:∀ (m:Nat) {s:SA},SU s->PumpOk s (pumpG m s)
 |0,s,h=>⟨h,fun _ _=>Iff.rfl,rfl,by show s.next<=_;omega,Nat.le_refl _⟩
 |m+1,s,h=>by
  have h0:PumpOk s s:=⟨h,fun _ _=>Iff.rfl,rfl,by omega,Nat.le_refl _⟩;rw [pumpG]
  split
  ·rename_i hc
   split
   ·exact h0
   ·rename_i k hk;obtain ⟨h1,p,h2⟩:=laneFrom_some h.ne hk
    have h3:(s.jobs[k]?.getD none).getD 0=p:=by rw [h2];rfl
    rw [h3];have ih:=pumpG_ok m (su_push (g:=true) h h1 h2 hc.1 hc.2)
    have hl:(s.out++[(⟨s.next,k,p,1⟩:Fly)]).length=s.out.length+1:=by simp
    refine ⟨ih.su,fun w q=>(ih.wj w q).trans (wj_push h h1 h2 w q),by rw [ih.len];simp,?_,?_⟩
    ·have:=ih.nx;have:=ih.ol;simp only [hl] at*;omega
    ·have:=ih.ol;simp only [hl] at this;omega
  ·exact h0
theorem full4 {l:List Nat} (hl:l.length=4) (hn:l.Nodup) (h4:∀ x∈l,x<4) {k:Nat} (hk:k<4):k∈l:=by
 match l,hl with
 | [a,b,c,d],_=>
  simp only [List.nodup_cons,List.mem_cons,List.not_mem_nil,or_false,not_or,List.nodup_nil,and_true,not_false_eq_true] at hn;have ha:=h4 a (by simp);have hb:=h4 b (by simp);have hc:=h4 c (by simp);have hd:=h4 d (by simp);simp only [List.mem_cons,List.not_mem_nil,or_false];obtain ⟨⟨n1,n2,n3⟩,⟨n4,n5⟩,n6⟩:=hn;omega
theorem pumpG_stop:∀ (m:Nat) {s:SA},SU s->4<s.out.length+m->¬((pumpG m s).out.length<4/\ (pumpG m s).next<2147483647/\ ∃ k,nextL (pumpG m s)=some k)
 |0,s,h,hm=>by rintro ⟨h1,_⟩;simp only [pumpG] at h1;omega
 |m+1,s,h,hm=>by
  rw [pumpG]
  split
  ·rename_i hc
   split
   ·rename_i hn;rintro ⟨_,_,k,hk⟩;rw [hn] at hk
    cases hk
   ·rename_i k hk;obtain ⟨h1,p,h2⟩:=laneFrom_some h.ne hk
    have h3:(s.jobs[k]?.getD none).getD 0=p:=by rw [h2];rfl
    rw [h3];exact pumpG_stop m (su_push (g:=true) h h1 h2 hc.1 hc.2) (by simp;omega)
  ·rename_i hc;rintro ⟨h1,h2,_⟩;exact hc ⟨h1,h2⟩
theorem pumpS_all {s:SA} (h:SU s) (hn:s.next+4<2147483647):∀ k,k<s.jobs.length->(pumpS s).jobs[k]?=some none:=by
 intro k hk;have h1:=pumpG_ok 5 h;have h2:=pumpG_stop 5 h (by omega)
 have hlen:k<(pumpG 5 s).jobs.length:=by rw [h1.len];exact hk
 have hfl:=h1.su.fl;have hnx:=h1.nx
 by_cases h4:(pumpG 5 s).out.length<4
 ·cases hq:nextL (pumpG 5 s) with
  |some j=>exact absurd ⟨h4,by omega,j,hq⟩ h2
  |none=>exact laneFrom_all h1.su.ne hq k hlen
 ·have h5:(pumpG 5 s).out.length=4:=by omega
  have hmem:k∈(pumpG 5 s).out.map (·.who):=full4 (by simpa using h5) h1.su.nd (fun x hx=>by
   obtain ⟨f,hf,rfl⟩:=List.mem_map.1 hx;have:=(h1.su.lt f hf).2.1;have:=h1.su.n4
   omega) (by have:=h1.su.n4;omega)
  obtain ⟨f,hf,rfl⟩:=List.mem_map.1 hmem;exact h1.su.ex f hf
theorem askS_ok {s:SA} (h:SU s) {k:Nat} {p:Int} (hk:k<s.jobs.length) (hp:1<=p/\p<=16) (hn:∀ q,¬WJ s k q):SU (askS s k p):=by
 refine ⟨⟨by simpa [askS] using h.n1,by simpa [askS] using h.n4,by simpa [askS] using h.at1,?_,h.nx,h.fl,h.up,fun f hf=>?_⟩,h.nd,fun f hf=>?_⟩
 ·intro q hq
  rcases List.mem_or_eq_of_mem_set hq with hq|hq
  ·exact h.pg q hq
  ·cases hq;exact hp
 ·simpa [askS] using h.lt f hf
 ·show (s.jobs.set k (some p))[f.who]?=_;rw [List.getElem?_set,if_neg (fun e=>hn f.pg (.inr ⟨f,hf,e.symm,rfl⟩))];exact h.ex f hf
theorem askS_wj {s:SA} {k:Nat} {p:Int} (hk:k<s.jobs.length) (hn:∀ q,¬WJ s k q) (w:Nat) (q:Int):WJ (askS s k p) w q↔WJ s w q\/ (w=k/\q=p):=by
 unfold WJ;show ((s.jobs.set k (some p))[w]?=_\/ ∃ f∈s.out,_)↔_;rw [List.getElem?_set]
 by_cases e:k=w
 ·subst e;rw [if_pos rfl,if_pos hk]
  constructor
  ·rintro (h|h)
   ·cases h;exact .inr ⟨rfl,rfl⟩
   ·exact .inl (.inr h)
  ·rintro (h|⟨_,rfl⟩)
   ·exact absurd h (hn q)
   ·exact .inl rfl
 ·rw [if_neg e];exact ⟨.inl,fun h=>h.elim id fun h=>absurd h.1.symm e⟩
end Go.Lk
namespace Go.Lk
theorem cut_at {α:Type} {l:List α} {i:Nat} {j:α} (h:l[i]?=some j):∃ A B,l=A++j::B/\l.eraseIdx i=A++B:=by
 have hi:=(List.getElem?_eq_some_iff.1 h).1;have hj:=(List.getElem?_eq_some_iff.1 h).2;refine ⟨l.take i,l.drop (i+1),?_,List.eraseIdx_eq_take_drop_succ l i⟩;rw [<-hj,<-List.drop_eq_getElem_cons hi,List.take_append_drop]
structure Cut (s:SA) (i:Nat) (j:Fly) (A B:List Fly):Prop where
 o:s.out=A++j::B
 e:s.out.eraseIdx i=A++B
 w:∀ f∈A++B,f.who≠j.who
theorem cut_ok {s:SA} (h:SU s) {i:Nat} {j:Fly} (hj:s.out[i]?=some j):∃ A B,Cut s i j A B:=by
 obtain ⟨A,B,h1,h2⟩:=cut_at hj;refine ⟨A,B,h1,h2,fun f hf=>?_⟩;have hn:=h.nd;rw [h1,List.map_append,List.map_cons] at hn;obtain ⟨n1,n2,n3⟩:=List.nodup_append.1 hn;have n4:=(List.nodup_cons.1 n2).1
 rcases List.mem_append.1 hf with hf|hf
 ·exact n3 f.who (List.mem_map_of_mem (f:=(·.who)) hf) j.who (.head _)
 ·exact fun e=>n4 (e▸List.mem_map_of_mem (f:=(·.who)) hf)
theorem Cut.mem {s:SA} {i:Nat} {j:Fly} {A B:List Fly} (c:Cut s i j A B) (f:Fly):f∈s.out↔f=j\/f∈A++B:=by
 rw [c.o];simp only [List.mem_append,List.mem_cons];exact ⟨fun h=>h.elim (fun q=>.inr (.inl q)) fun h=>h.elim .inl fun q=>.inr (.inr q),fun h=>h.elim (fun q=>.inr (.inl q)) fun h=>h.elim .inl fun q=>.inr (.inr q)⟩
theorem su_drop {s:SA} (h:SU s) {i:Nat} {j:Fly} {A B:List Fly} (c:Cut s i j A B):SU {s with out:=A++B}:=by
 have hsub:(A++B).Sublist s.out:=by rw [c.o];exact List.Sublist.append (List.Sublist.refl A) (List.sublist_cons_self _ _)
 exact ⟨⟨h.n1,h.n4,h.at1,h.pg,h.nx,Nat.le_trans hsub.length_le h.fl,h.up.sublist (hsub.map _),fun f hf=>h.lt f (hsub.mem hf)⟩,h.nd.sublist (hsub.map _),fun f hf=>h.ex f (hsub.mem hf)⟩
theorem wj_drop {s:SA} (h:SU s) {i:Nat} {j:Fly} {A B:List Fly} (c:Cut s i j A B) (w:Nat) (q:Int):WJ {s with out:=A++B} w q↔WJ s w q/\w≠j.who:=by
 unfold WJ;show (s.jobs[w]?=_\/ ∃ f∈A++B,_)↔_
 constructor
 ·rintro (h1|⟨f,hf,h1,h2⟩)
  ·refine ⟨.inl h1,fun e=>?_⟩;have:=h.ex j ((c.mem j).2 (.inl rfl));rw [<-e,h1] at this
   cases this
  ·exact ⟨.inr ⟨f,(c.mem f).2 (.inr hf),h1,h2⟩,fun e=>c.w f hf (h1.trans e)⟩
 ·rintro ⟨h1|⟨f,hf,h1,h2⟩,hw⟩
  ·exact .inl h1
  ·rcases (c.mem f).1 hf with rfl|hf
   ·exact absurd h1.symm hw
   ·exact .inr ⟨f,hf,h1,h2⟩
theorem su_again {s:SA} (h:SU s) {i:Nat} {j:Fly} {A B:List Fly} (c:Cut s i j A B) (ht:j.tr<3) (hn:s.next<2147483647):SU {s with next:=s.next+1,out:=(A++B)++[⟨s.next,j.who,j.pg,j.tr+1⟩]}:=by
 have h0:=su_drop h c;have hj:=h.lt j ((c.mem j).2 (.inl rfl))
 have hl:(A++B).length+1=s.out.length:=by rw [c.o];simp;omega
 have hfl:=h.fl;refine ⟨⟨h.n1,h.n4,h.at1,h.pg,by show s.next+1<=_;omega,by show (A++B++_).length<=4;rw [List.length_append];show (A++B).length+1<=4;omega,?_,fun f hf=>?_⟩,?_,fun f hf=>?_⟩
 ·show (((A++B)++_).map (·.tk)).Pairwise _;rw [List.map_append];refine List.pairwise_append.2 ⟨h0.up,by simp,fun a ha b hb=>?_⟩;rw [List.mem_singleton.1 hb];obtain ⟨f,hf,rfl⟩:=List.mem_map.1 ha;exact (h0.lt f hf).1
 ·rcases List.mem_append.1 hf with hf|hf
  ·have:=h0.lt f hf;exact ⟨Nat.lt_succ_of_lt this.1,this.2⟩
  ·rw [List.mem_singleton.1 hf];exact ⟨Nat.lt_succ_self _,hj.2.1,hj.2.2.1,by show 1<=j.tr+1;omega,by show j.tr+1<=3;omega⟩
 ·show (((A++B)++_).map (·.who)).Nodup;rw [List.map_append];refine List.nodup_append.2 ⟨h0.nd,by simp,fun a ha b hb=>?_⟩;rw [List.mem_singleton.1 hb];obtain ⟨f,hf,rfl⟩:=List.mem_map.1 ha;exact c.w f hf
 ·rcases List.mem_append.1 hf with hf|hf
  ·exact h0.ex f hf
  ·rw [List.mem_singleton.1 hf];exact h.ex j ((c.mem j).2 (.inl rfl))
theorem wj_again {s:SA} {i:Nat} {j:Fly} {A B:List Fly} (c:Cut s i j A B) (w:Nat) (q:Int):WJ {s with next:=s.next+1,out:=(A++B)++[⟨s.next,j.who,j.pg,j.tr+1⟩]} w q↔WJ s w q:=by
 unfold WJ;show (s.jobs[w]?=_\/ ∃ f∈A++B++_,_)↔_
 constructor
 ·rintro (h1|⟨f,hf,h1,h2⟩)
  ·exact .inl h1
  ·rcases List.mem_append.1 hf with hf|hf
   ·exact .inr ⟨f,(c.mem f).2 (.inr hf),h1,h2⟩
   ·rw [List.mem_singleton.1 hf] at h1 h2;exact .inr ⟨j,(c.mem j).2 (.inl rfl),h1,h2⟩
 ·rintro (h1|⟨f,hf,h1,h2⟩)
  ·exact .inl h1
  ·rcases (c.mem f).1 hf with rfl|hf
   ·exact .inr ⟨_,List.mem_append.2 (.inr (.head _)),h1,h2⟩
   ·exact .inr ⟨f,List.mem_append.2 (.inl hf),h1,h2⟩
end Go.Lk
namespace Go.Lk
def LA.all (l:LA):List Nat:=l.hs++l.q.map (·.1)
structure WOk (h:HA) (lat:List LA) (s:SA) (k:Nat) (w:WA):Prop where
 st6:w.st<=6
 en:w.ended<=w.todo.length
 bu:w.st≠0->w.ended<w.todo.length
 hal:k∈h.all↔w.st≠0
 cl:2<=w.st->isCl h k=true
 held:heldW h k=w.pinned
 pin:w.st=4\/w.st=5->w.pinned=true
 npin:w.st<4->w.pinned=false
 ask:2<=w.st->w.st<=5->w.asked=true
 nask:w.st<2->w.asked=false
 val:w.asked=true->refB w.op=false
 lt:∀ (j:Nat) (l:LA),lat[j]?=some l->(k∈l.all↔w.asked=true/\w.op.2.1=j)
 hold:w.asked=true->3<=w.st->∀ (l:LA),lat[w.op.2.1.toNat]?=some l->k∈l.hs
 job:∀ p,WJ s k p↔w.st=4/\p=w.op.2.1
structure SmH (h h':HA) (k:Nat):Prop where
 hal:k∈h'.all↔k∈h.all
 cl:isCl h k=true->isCl h' k=true
 held:heldW h' k=heldW h k
def SmL (lat lat':List LA) (k:Nat):Prop:=∀ (j:Nat) (l':LA),lat'[j]?=some l'->∃ l,lat[j]?=some l/\ (k∈l'.all↔k∈l.all) /\ (k∈l.hs->k∈l'.hs)
def SmJ (s s':SA) (k:Nat):Prop:=∀ p,WJ s' k p↔WJ s k p
theorem SmH.rfl' (h:HA) (k:Nat):SmH h h k:=⟨Iff.rfl,id,rfl⟩
theorem SmL.rfl' (l:List LA) (k:Nat):SmL l l k:=fun j l' h=>⟨l',h,Iff.rfl,id⟩
theorem SmJ.rfl' (s:SA) (k:Nat):SmJ s s k:=fun _=>Iff.rfl
theorem WOk.frame {h h':HA} {lat lat':List LA} {s s':SA} {k:Nat} {w:WA} (o:WOk h lat s k w) (a:SmH h h' k) (b:SmL lat lat' k) (c:SmJ s s' k):WOk h' lat' s' k w:=
 ⟨o.st6,o.en,o.bu,a.hal.trans o.hal,fun q=>a.cl (o.cl q),a.held.trans o.held,o.pin,o.npin,o.ask,o.nask,o.val,
  fun j l hl=>by obtain ⟨l0,h0,h1,_⟩:=b j l hl;exact h1.trans (o.lt j l0 h0),
  fun q1 q2 l hl=>by obtain ⟨l0,h0,_,h2⟩:=b _ l hl;exact h2 (o.hold q1 q2 l0 h0),
  fun p=>(c p).trans (o.job p)⟩
theorem smH_begin {h:HA} {k j:Nat} (hj:j≠k):SmH h (beginH h k) j:=
 ⟨by rw [begin_all];simp [hj],fun q=>enter_isCl q,by show heldW (mkH _ _) j=_;rw [enter_heldW];rfl⟩
theorem all_pin (h:HA) (k:Nat) (b:Bool):(⟨h.n,setH h.cl k b,h.q⟩:HA).all=h.all:=by
 show (setH h.cl k b).map (·.1)++h.q=_
 rw [setH_fst];rfl
theorem isCl_set (h:HA) (k j:Nat) (b:Bool):isCl ⟨h.n,setH h.cl k b,h.q⟩ j=isCl h j:=by
 rw [Bool.eq_iff_iff,isCl_t,isCl_t];show j∈(setH h.cl k b).map (·.1)↔_;rw [setH_fst]
theorem heldW_set {h:HA} {k j:Nat} {b:Bool} (hj:j≠k):heldW ⟨h.n,setH h.cl k b,h.q⟩ j=heldW h j:=by
 show (setH h.cl k b).any _=h.cl.any _;rw [setH,List.any_map]
 congr 1
 funext c
 show ((if c.1=k then (c.1,b) else c).1==j&&(if c.1=k then (c.1,b) else c).2)=_
 split
 ·rename_i e
  have:(c.1==j)=false:=by rw [e];simpa using fun q=>hj q.symm
  rw [this];rfl
 ·rfl
theorem smH_set {h:HA} {k j:Nat} {b:Bool} (hj:j≠k):SmH h ⟨h.n,setH h.cl k b,h.q⟩ j:=
 ⟨by rw [all_pin],fun q=>(isCl_set h k j b).trans q,heldW_set hj⟩
theorem heldW_at {h:HA} {k:Nat} {b:Bool} (hc:isCl h k=true):heldW ⟨h.n,setH h.cl k b,h.q⟩ k=b:=by
 show (setH h.cl k b).any _=b;rw [setH,List.any_map]
 cases b with
 |true=>
  rw [List.any_eq_true];obtain ⟨c,h1,h2⟩:=List.any_eq_true.1 hc;refine ⟨c,h1,?_⟩
  have h2:c.1=k:=by simpa using h2
  simp [h2]
 |false=>
  rw [List.any_eq_false];intro c hc;show ¬((if c.1=k then (c.1,false) else c).1==k&&(if c.1=k then (c.1,false) else c).2)=true
  split
  ·simp
  ·rename_i e;simp [e]
theorem end_all (h:HA) (k:Nat):(endH h k).all=h.all.filter fun x=>x !=k:=by
 show (enterHA _ _ _).1.map (·.1)++(enterHA _ _ _).2=_;rw [enterH_all,HA.all,List.filter_append,List.filter_map];rfl
theorem smH_end {h:HA} {k j:Nat} (hj:j≠k):SmH h (endH h k) j:=by
 refine ⟨by rw [end_all];simp [hj],fun q=>enter_isCl ?_,?_⟩
 ·rw [List.any_filter];obtain ⟨c,h1,h2⟩:=List.any_eq_true.1 q;refine List.any_eq_true.2 ⟨c,h1,?_⟩
  have h2:c.1=j:=by simpa using h2
  simp [h2,hj]
 ·show heldW (mkH _ _) j=_;rw [enter_heldW,List.any_filter];show h.cl.any _=h.cl.any _
  congr 1
  funext c
  by_cases e:c.1=j
  ·simp [e,hj]
  ·simp [e]
end Go.Lk
namespace Go.Lk
theorem mem_all {l:LA} {w:Nat}:w∈l.all↔w∈l.hs\/w∈l.q.map (·.1):=List.mem_append
theorem LI.congr {x y:Nat->Bool} {hs:List Nat} {ex:Bool} {q:List (Nat×Bool)} (h:LI x hs ex q) (e:∀ w,w∈hs\/w∈q.map (·.1)->y w=x w):LI y hs ex q:=
 ⟨h.up,h.nd,h.one,fun p hp=>(h.fl p hp).trans (e p.1 (.inr (List.mem_map_of_mem (f:=(·.1)) hp))).symm,fun w hw=>(e w (.inl hw)).trans (h.hd w hw)⟩
theorem li_ask {x:Nat->Bool} {l:LA} {k:Nat} {b:Bool} (h:LI x l.hs l.ex l.q) (hn:k∉l.all) (hb:b=x k):LI x l.hs l.ex (l.q++[(k,b)]):=by
 refine ⟨h.up,?_,h.one,fun p hp=>?_,h.hd⟩
 ·rw [List.map_append,<-List.append_assoc];refine List.nodup_append.2 ⟨h.nd,by simp,fun a ha c hc=>?_⟩
  have:c=k:=by simpa using hc
  rw [this]
  exact fun e=>hn (e▸ha)
 ·rcases List.mem_append.1 hp with hp|hp
  ·exact h.fl p hp
  ·rw [List.mem_singleton.1 hp];exact hb
theorem li_cut {x:Nat->Bool} {l:LA} {k:Nat} (h:LI x l.hs l.ex l.q):LI x (l.hs.filter fun y=>y !=k) (if (l.hs.filter fun y=>y !=k)=[] then false else l.ex) (l.q.filter fun y=>y.1 !=k):=by
 have s1:(l.hs.filter fun y=>y !=k).Sublist l.hs:=List.filter_sublist;have s2:((l.q.filter fun y=>y.1 !=k).map (·.1)).Sublist (l.q.map (·.1)):=List.filter_sublist.map _;refine ⟨h.up.sublist s1,h.nd.sublist (s1.append s2),fun hx=>?_,fun p hp=>h.fl p (List.mem_filter.1 hp).1,fun w hw=>?_⟩
 ·split at hx
  ·cases hx
  ·rename_i hne;have h1:=h.one hx;have h2:=s1.length_le;have h3:0<(l.hs.filter fun y=>y !=k).length:=List.length_pos_iff.2 hne;omega
 ·rw [if_neg (fun e=>by rw [e] at hw;cases hw)];exact h.hd w (List.mem_filter.1 hw).1
theorem ask_lo {x:Nat->Bool} {l:LA} {k:Nat} {b:Bool} (h:LI x l.hs l.ex l.q) (hn:k∉l.all) (hb:b=x k):LO x l.hs (l.q++[(k,b)]) (askL l k b):=enterL_ok (li_ask h hn hb)
theorem drop_lo {x:Nat->Bool} {l:LA} {k:Nat} (h:LI x l.hs l.ex l.q):LO x (l.hs.filter fun y=>y !=k) (l.q.filter fun y=>y.1 !=k) (dropL l k):=enterL_ok (li_cut h)
theorem all_ask {x:Nat->Bool} {l:LA} {k:Nat} {b:Bool} (h:LI x l.hs l.ex l.q) (hn:k∉l.all) (hb:b=x k) (w:Nat):w∈(askL l k b).all↔w∈l.all\/w=k:=by
 rw [mem_all,(ask_lo h hn hb).mem,mem_all];simp only [List.map_append,List.map_cons,List.map_nil,List.mem_append,List.mem_singleton];exact ⟨fun q=>q.elim (fun q=>.inl (.inl q)) fun q=>q.elim (fun q=>.inl (.inr q)) .inr,fun q=>q.elim (fun q=>q.elim .inl fun q=>.inr (.inl q)) fun q=>.inr (.inr q)⟩
theorem all_drop {x:Nat->Bool} {l:LA} {k:Nat} (h:LI x l.hs l.ex l.q) (w:Nat):w∈(dropL l k).all↔w∈l.all/\w≠k:=by
 rw [mem_all,(drop_lo h).mem,mem_all]
 have:(w∈(l.q.filter fun y=>y.1 !=k).map (·.1))↔(w∈l.q.map (·.1) /\w≠k):=by
  simp only [List.mem_map,List.mem_filter,bne_iff_ne,ne_eq]
  constructor
  ·rintro ⟨p,⟨h1,h2⟩,rfl⟩;exact ⟨⟨p,h1,rfl⟩,h2⟩
  ·rintro ⟨⟨p,h1,rfl⟩,h2⟩;exact ⟨p,⟨h1,h2⟩,rfl⟩
 rw [this,List.mem_filter];simp only [bne_iff_ne,ne_eq];exact ⟨fun q=>q.elim (fun q=>⟨.inl q.1,q.2⟩) fun q=>⟨.inr q.1,q.2⟩,fun q=>q.1.elim (fun r=>.inl ⟨r,q.2⟩) fun r=>.inr ⟨r,q.2⟩⟩
theorem smL_set {lat:List LA} {i j:Nat} {l r:LA} (hl:lat[i]?=some l) (h1:j∈r.all↔j∈l.all) (h2:j∈l.hs->j∈r.hs):SmL lat (lat.set i r) j:=by
 intro i' l' h;rw [List.getElem?_set] at h
 split at h
 ·rename_i e;subst e
  split at h
  ·cases h;exact ⟨l,hl,h1,h2⟩
  ·cases h
 ·exact ⟨l',h,Iff.rfl,id⟩
theorem smL_ask {x:Nat->Bool} {lat:List LA} {i j k:Nat} {l:LA} {b:Bool} (hl:lat[i]?=some l) (h:LI x l.hs l.ex l.q) (hn:k∉l.all) (hb:b=x k) (hj:j≠k):SmL lat (lat.set i (askL l k b)) j:=
 smL_set hl ((all_ask h hn hb j).trans ⟨fun q=>q.resolve_right hj,.inl⟩) fun q=>(ask_lo h hn hb).sub j q
theorem smL_drop {x:Nat->Bool} {lat:List LA} {i j k:Nat} {l:LA} (hl:lat[i]?=some l) (h:LI x l.hs l.ex l.q) (hj:j≠k):SmL lat (lat.set i (dropL l k)) j:=
 smL_set hl ((all_drop h j).trans ⟨fun q=>q.1,fun q=>⟨q,hj⟩⟩) fun q=>(drop_lo h).sub j (List.mem_filter.2 ⟨q,by simpa using hj⟩)
end Go.Lk
namespace Go.Lk
def xk (ws:List WA) (k:Nat):Bool:=match ws[k]? with|some w=>decide (w.op.1≠2)|none=>false
structure LSh (x:Nat->Bool) (n:Nat) (l:LA):Prop where
 li:LI x l.hs l.ex l.q
 shut:l.q=[] \/ (l.hs≠[] /\ (l.ex=true\/ ∀ y,l.q.head? =some y->y.2=true))
 lt:∀ w∈l.all,w<n
structure MOk (m:MS):Prop where
 n1:1<=m.ws.length
 n4:m.ws.length<=4
 hall:HOk m.h
 hw:∀ k∈m.h.all,k<m.ws.length
 ll:m.lat.length=17
 li:∀ (j:Nat) (l:LA),m.lat[j]?=some l->LSh (xk m.ws) m.ws.length l
 su:SU m.s
 sj:m.s.jobs.length=m.ws.length
 fr:m.h.n=m.p.f.fr.length
 w:∀ (k:Nat) (w:WA),m.ws[k]?=some w->WOk m.h m.lat m.s k w
theorem xk_set {ws:List WA} {k j:Nat} {w:WA} (h:j≠k):xk (ws.set k w) j=xk ws j:=by
 rw [xk,xk,List.getElem?_set,if_neg (Ne.symm h)]
theorem xk_op {ws:List WA} {k:Nat} {w w':WA} (hk:ws[k]?=some w) (e:w'.op=w.op):∀ j,xk (ws.set k w') j=xk ws j:=by
 intro j
 by_cases h:j=k
 ·subst h;have hlt:=(List.getElem?_eq_some_iff.1 hk).1;rw [xk,xk,List.getElem?_set,if_pos rfl,if_pos hlt,hk];show decide (w'.op.1≠2)=decide (w.op.1≠2);rw [e]
 ·exact xk_set h
theorem LSh.same {ws:List WA} {k:Nat} {w w':WA} {n:Nat} {l:LA} (hk:ws[k]?=some w) (e:w'.op=w.op) (h:LSh (xk ws) n l):LSh (xk (ws.set k w')) n l:=
 ⟨h.li.congr fun j _=>xk_op hk e j,h.shut,h.lt⟩
structure Upd (m:MS) (k:Nat) (w':WA) (p':PS) (h':HA) (lat':List LA) (s':SA):Prop where
 hh:HOk h'
 ha:∀ j∈h'.all,j∈m.h.all\/j=k
 ll:lat'.length=m.lat.length
 hl:∀ (j:Nat) (l:LA),lat'[j]?=some l->LSh (xk (m.ws.set k w')) m.ws.length l
 su:SU s'
 sj:s'.jobs.length=m.s.jobs.length
 fr:h'.n=p'.f.fr.length
 self:WOk h' lat' s' k w'
 oth:∀ j,j≠k->SmH m.h h' j/\SmL m.lat lat' j/\SmJ m.s s' j
theorem MOk.upd {m:MS} (o:MOk m) {k:Nat} {w w':WA} {p':PS} {h':HA} {lat':List LA} {s':SA} {c':Int} {ev':List EvA} (hk:m.ws[k]?=some w) (u:Upd m k w' p' h' lat' s'):MOk ⟨m.ws.set k w',p',h',lat',s',c',ev'⟩:=by
 have hlt:=(List.getElem?_eq_some_iff.1 hk).1;have hlen:(m.ws.set k w').length=m.ws.length:=List.length_set;refine ⟨by show 1<= (m.ws.set k w').length;rw [hlen];exact o.n1,by show (m.ws.set k w').length<=4;rw [hlen];exact o.n4,u.hh,fun j hj=>?_,u.ll.trans o.ll,fun j l hl=>?_,u.su,?_,u.fr,fun j v hv=>?_⟩
 ·show j<(m.ws.set k w').length;rw [hlen]
  rcases u.ha j hj with h|rfl
  ·exact o.hw j h
  ·exact hlt
 ·have:=u.hl j l hl;show LSh _ (m.ws.set k w').length l
  rw [hlen];exact this
 ·show s'.jobs.length=(m.ws.set k w').length;rw [hlen,u.sj,o.sj]
 ·replace hv:(m.ws.set k w')[j]?=some v:=hv;rw [List.getElem?_set] at hv
  split at hv
  ·rename_i e;subst e
   cases hv
   exact u.self
  ·rename_i e;obtain ⟨a,b,c⟩:=u.oth j (Ne.symm e);exact (o.w j v hv).frame a b c
end Go.Lk
namespace Go.Lk
theorem oth0 (h:HA) (lat:List LA) (s:SA) (j:Nat):SmH h h j/\SmL lat lat j/\SmJ s s j:=⟨.rfl' _ _,.rfl' _ _,.rfl' _ _⟩
theorem up_begin {m:MS} (o:MOk m) {k:Nat} {w:WA} (hk:m.ws[k]?=some w) (hs:w.st=0) (hl:w.ended<w.todo.length) (now:Int):Upd m k {w with began:=now,st:=1} m.p (beginH m.h k) m.lat m.s:=by
 have hlt:=(List.getElem?_eq_some_iff.1 hk).1;have v:=o.w k w hk
 have hn:k∉m.h.all:=fun q=>v.hal.1 q hs
 have h4:k<4:=by have:=o.n4;omega
 have hlen:m.h.cl.length+m.h.q.length<4:=by
  have h1:=o.hall.len
  by_cases h:m.h.cl.length+m.h.q.length=4
  ·exact absurd (full4 (l:=m.h.all) (by simpa [HA.all] using h) o.hall.nd o.hall.lt h4) hn
  ·omega
 have hnp:w.pinned=false:=v.npin (by omega);have hna:w.asked=false:=v.nask (by omega);refine ⟨begin_ok o.hall h4 hn hlen,fun j hj=>by rw [begin_all] at hj;simpa using hj,rfl,fun j l hl=>(o.li j l hl).same hk rfl,o.su,rfl,o.fr,?_,fun j hj=>⟨smH_begin hj,.rfl' _ _,.rfl' _ _⟩⟩;refine ⟨by show 1<=6;decide,v.en,fun _=>hl,by rw [begin_all];simp,fun q=>absurd (show 2<=1 from q) (by decide),?_,fun q=>absurd q (by simp),fun _=>hnp,fun q=>absurd (show 2<=1 from q) (by decide),fun _=>hna,v.val,v.lt,fun q=>absurd (hna.symm.trans q) (by decide),fun p=>?_⟩
 ·show heldW (mkH _ _) k=w.pinned;rw [enter_heldW];exact v.held
 ·rw [v.job,hs];simp
theorem up_refuse {m:MS} (o:MOk m) {k:Nat} {w:WA} (hk:m.ws[k]?=some w) (hs:w.st=1) (hc:isCl m.h k=true) (r:MRes) (now:Int):Upd m k (tellW w r now) m.p m.h m.lat m.s:=by
 have v:=o.w k w hk;refine ⟨o.hall,fun j hj=>.inl hj,rfl,fun j l hl=>(o.li j l hl).same hk rfl,o.su,rfl,o.fr,?_,fun j hj=>oth0 ..⟩;refine ⟨Nat.le_refl 6,v.en,fun _=>v.bu (by omega),⟨fun _=>by show 6≠0;decide,fun _=>v.hal.2 (by omega)⟩,fun _=>hc,v.held,fun q=>absurd q (by show ¬(6=4\/6=5);decide),fun q=>absurd (show 6<4 from q) (by decide),fun _ q=>absurd (show 6<=5 from q) (by decide),fun q=>absurd (show 6<2 from q) (by decide),v.val,v.lt,fun q=>?_,fun p=>?_⟩
 ·exact absurd ((v.nask (by omega)).symm.trans q) (by decide)
 ·rw [v.job,hs];show _↔6=4/\_;simp
theorem up_pass {m:MS} (o:MOk m) {k:Nat} {w:WA} (hk:m.ws[k]?=some w) (hs:w.st=2) (hh:∀ l,m.lat[w.op.2.1.toNat]?=some l->k∈l.hs):Upd m k {w with st:=3} m.p m.h m.lat m.s:=by
 have v:=o.w k w hk;refine ⟨o.hall,fun j hj=>.inl hj,rfl,fun j l hl=>(o.li j l hl).same hk rfl,o.su,rfl,o.fr,?_,fun j hj=>oth0 ..⟩;refine ⟨by show 3<=6;decide,v.en,fun _=>v.bu (by omega),⟨fun _=>by show 3≠0;decide,fun _=>v.hal.2 (by omega)⟩,fun _=>v.cl (by omega),v.held,fun q=>absurd q (by show ¬(3=4\/3=5);decide),fun _=>v.npin (by omega),fun _ _=>v.ask (by omega) (by omega),fun q=>absurd (show 3<2 from q) (by decide),v.val,v.lt,fun _ _=>hh,fun p=>?_⟩
 rw [v.job,hs];show _↔3=4/\_;simp
end Go.Lk
namespace Go.Lk
theorem refB_f {o:MOp} (h:refB o=false):(1<=o.1/\o.1<=4) /\1<=o.2.1/\o.2.1<=16:=by
 simp only [refB,Bool.or_eq_false_iff,decide_eq_false_iff_not] at h;omega
theorem xk_at {ws:List WA} {k:Nat} {w:WA} (hk:ws[k]?=some w):xk ws k=decide (w.op.1≠2):=by
 rw [xk,hk]
theorem up_ask {m:MS} (o:MOk m) {k:Nat} {w:WA} (hk:m.ws[k]?=some w) (hs:w.st=1) (hc:isCl m.h k=true) (hr:refB w.op=false):Upd m k {w with asked:=true,st:=2} m.p m.h (lsetM m.lat w.op.2.1 (askL (latM m w.op.2.1) k (decide (w.op.1≠2)))) m.s:=by
 have v:=o.w k w hk;have hlt:=(List.getElem?_eq_some_iff.1 hk).1;obtain ⟨_,r1,r2⟩:=refB_f hr
 have hi:w.op.2.1.toNat<m.lat.length:=by rw [o.ll];omega
 obtain ⟨l,hl⟩:∃ l,m.lat[w.op.2.1.toNat]?=some l:=⟨_,List.getElem?_eq_getElem hi⟩
 have hlm:latM m w.op.2.1=l:=by rw [latM,hl];rfl
 have hna:w.asked=false:=v.nask (by omega)
 have hn:k∉l.all:=fun q=>by have:=(v.lt _ l hl).1 q;rw [hna] at this;exact absurd this.1 (by decide)
 have hL:=o.li _ l hl;have hx:=(xk_at hk).symm;rw [hlm];have hO:=ask_lo hL.li hn hx;refine ⟨o.hall,fun j hj=>.inl hj,List.length_set,fun j l' hl'=>?_,o.su,rfl,o.fr,?_,fun j hj=>⟨.rfl' _ _,smL_ask hl hL.li hn hx hj,.rfl' _ _⟩⟩
 ·rw [lsetM,List.getElem?_set] at hl'
  split at hl'
  ·rename_i e
   cases hl'
   refine LSh.same hk rfl ⟨hO.li,hO.shut,fun x hx'=>?_⟩
   rcases (all_ask hL.li hn hx x).1 hx' with h|rfl
   ·exact hL.lt x h
   ·exact hlt
  ·exact (o.li j l' hl').same hk rfl
 ·refine ⟨by show 2<=6;decide,v.en,fun _=>v.bu (by omega),⟨fun _=>by show 2≠0;decide,fun _=>v.hal.2 (by omega)⟩,fun _=>hc,v.held,fun q=>absurd q (by show ¬(2=4\/2=5);decide),fun _=>v.npin (by omega),fun _ _=>rfl,fun q=>absurd (show 2<2 from q) (by decide),fun _=>hr,fun j l' hl'=>?_,fun _ q=>absurd (show 3<=2 from q) (by decide),fun p=>?_⟩
  ·show _↔true=true/\w.op.2.1=j;rw [lsetM,List.getElem?_set] at hl'
   split at hl'
   ·rename_i e
    cases hl'
    exact ⟨fun _=>⟨rfl,by omega⟩,fun _=>(all_ask hL.li hn hx k).2 (.inr rfl)⟩
   ·rename_i e;rw [v.lt j l' hl',hna];exact ⟨fun q=>absurd q.1 (by decide),fun q=>absurd q.2 (by omega)⟩
  ·rw [v.job,hs];show _↔2=4/\_;simp
end Go.Lk
namespace Go.Lk
theorem hok_pin {h:HA} (o:HOk h) {k:Nat} (hc:isCl h k=true) (hh:heldW h k=false) (hf:heldN h.cl<h.n):HOk (pinH h k):=by
 have hm:(k,false)∈h.cl:=by
  obtain ⟨⟨a,b⟩,h1,h2⟩:=List.mem_map.1 (isCl_t.1 hc)
  cases h2
  cases b with
  |false=>exact h1
  |true=>rw [heldW_t.2 h1] at hh;cases hh
 have hd:=(List.nodup_append.1 o.nd).1;have:=held_set (b:=true) hd hm;simp only [if_pos,Bool.false_eq_true,if_false] at this;refine ⟨o.n1,o.n8,by show (setH h.cl k true).length+h.q.length<=4;rw [setH,List.length_map];exact o.len,?_,?_,by show heldN (setH h.cl k true) <=h.n;omega,?_⟩
 ·show ((setH h.cl k true).map (·.1)++h.q).Nodup;rw [setH_fst];exact o.nd
 ·show ∀ w∈(setH h.cl k true).map (·.1)++h.q,w<4;rw [setH_fst];exact o.lt
 ·show h.q=[] \/2*h.n<= (setH h.cl k true).length;rw [setH,List.length_map];exact o.shut
theorem up_pin5 {m:MS} (o:MOk m) {k:Nat} {w:WA} (hk:m.ws[k]?=some w) (hs:w.st=3) (hf:heldN m.h.cl<m.h.n):Upd m k {w with pinned:=true,st:=5} m.p (pinH m.h k) m.lat m.s:=by
 have v:=o.w k w hk;have hc:=v.cl (by omega)
 have hh:heldW m.h k=false:=by rw [v.held];exact v.npin (by omega)
 have ha:w.asked=true:=v.ask (by omega) (by omega);refine ⟨hok_pin o.hall hc hh hf,fun j hj=>.inl (by rw [pinH,all_pin] at hj;exact hj),rfl,fun j l hl=>(o.li j l hl).same hk rfl,o.su,rfl,o.fr,?_,fun j hj=>⟨smH_set hj,.rfl' _ _,.rfl' _ _⟩⟩;refine ⟨by show 5<=6;decide,v.en,fun _=>v.bu (by omega),⟨fun _=>by show 5≠0;decide,fun _=>by rw [pinH,all_pin];exact v.hal.2 (by omega)⟩,fun _=>(isCl_set ..).trans hc,heldW_at hc,fun _=>rfl,fun q=>absurd (show 5<4 from q) (by decide),fun _ _=>ha,fun q=>absurd (show 5<2 from q) (by decide),v.val,v.lt,fun q1 _=>v.hold ha (by omega),fun p=>?_⟩
 rw [v.job,hs];show _↔5=4/\_;simp
theorem up_pin4 {m:MS} (o:MOk m) {k:Nat} {w:WA} (hk:m.ws[k]?=some w) (hs:w.st=3) (hf:heldN m.h.cl<m.h.n):Upd m k {w with pinned:=true,st:=4} m.p (pinH m.h k) m.lat (askS m.s k w.op.2.1):=by
 have v:=o.w k w hk;have hlt:=(List.getElem?_eq_some_iff.1 hk).1;have hc:=v.cl (by omega)
 have hh:heldW m.h k=false:=by rw [v.held];exact v.npin (by omega)
 have ha:w.asked=true:=v.ask (by omega) (by omega);have hr:=(refB_f (v.val ha)).2
 have hnj:∀ q,¬WJ m.s k q:=fun q h=>by have:=(v.job q).1 h;omega
 have hkj:k<m.s.jobs.length:=by rw [o.sj];exact hlt
 refine ⟨hok_pin o.hall hc hh hf,fun j hj=>.inl (by rw [pinH,all_pin] at hj;exact hj),rfl,fun j l hl=>(o.li j l hl).same hk rfl,askS_ok o.su hkj hr hnj,List.length_set,o.fr,?_,fun j hj=>⟨smH_set hj,.rfl' _ _,fun q=>(askS_wj hkj hnj j q).trans ⟨fun h=>h.resolve_right fun e=>hj e.1,.inl⟩⟩⟩;refine ⟨by show 4<=6;decide,v.en,fun _=>v.bu (by omega),⟨fun _=>by show 4≠0;decide,fun _=>by rw [pinH,all_pin];exact v.hal.2 (by omega)⟩,fun _=>(isCl_set ..).trans hc,heldW_at hc,fun _=>rfl,fun q=>absurd (show 4<4 from q) (by decide),fun _ _=>ha,fun q=>absurd (show 4<2 from q) (by decide),v.val,v.lt,fun q1 _=>v.hold ha (by omega),fun p=>?_⟩;refine (askS_wj hkj hnj k p).trans ⟨fun h=>h.elim (fun h=>absurd h (hnj p)) fun h=>⟨rfl,h.2⟩,fun h=>.inr ⟨rfl,h.2⟩⟩
theorem up_work {m:MS} (o:MOk m) {k:Nat} {w:WA} (hk:m.ws[k]?=some w) (hs:w.st=5) (r:MRes) (now:Int) (p':PS) (hp:p'.f.fr.length=m.p.f.fr.length):Upd m k (tellW w r now) p' m.h m.lat m.s:=by
 have v:=o.w k w hk;refine ⟨o.hall,fun j hj=>.inl hj,rfl,fun j l hl=>(o.li j l hl).same hk rfl,o.su,rfl,o.fr.trans hp.symm,?_,fun j hj=>oth0 ..⟩;refine ⟨Nat.le_refl 6,v.en,fun _=>v.bu (by omega),⟨fun _=>by show 6≠0;decide,fun _=>v.hal.2 (by omega)⟩,fun _=>v.cl (by omega),v.held,fun q=>absurd q (by show ¬(6=4\/6=5);decide),fun q=>absurd (show 6<4 from q) (by decide),fun _ q=>absurd (show 6<=5 from q) (by decide),fun q=>absurd (show 6<2 from q) (by decide),v.val,v.lt,fun q _=>v.hold q (by omega),fun p=>?_⟩
 rw [v.job,hs];show _↔6=4/\_;simp
end Go.Lk
namespace Go.Lk
theorem hok_unpin {h:HA} (o:HOk h) (k:Nat):HOk (unpinH h k):=by
 have hle:heldN (setH h.cl k false) <=heldN h.cl:=by
  rw [heldN,heldN,setH,List.countP_map]
  refine List.countP_mono_left fun c _ hc=>?_
  show c.2=true;replace hc:(if c.1=k then (c.1,false) else c).2=true:=hc
  split at hc
  ·cases hc
  ·exact hc
 refine ⟨o.n1,o.n8,by show (setH h.cl k false).length+h.q.length<=4;rw [setH,List.length_map];exact o.len,?_,?_,Nat.le_trans hle o.held,?_⟩
 ·show ((setH h.cl k false).map (·.1)++h.q).Nodup;rw [setH_fst];exact o.nd
 ·show ∀ w∈(setH h.cl k false).map (·.1)++h.q,w<4;rw [setH_fst];exact o.lt
 ·show h.q=[] \/2*h.n<= (setH h.cl k false).length;rw [setH,List.length_map];exact o.shut
theorem hok_end {h:HA} (o:HOk h) (k:Nat):HOk (endH h k):=by
 have he:h.cl.filter (fun c=>c.1 !=k)=h.cl.filter (fun c=>c.1 !=k):=rfl
 have hall:(h.cl.filter fun c=>c.1 !=k).map (·.1)++(h.q.filter fun x=>x !=k)=h.all.filter fun x=>x !=k:=by
  rw [HA.all,List.filter_append,List.filter_map];rfl
 have l1:=List.length_filter_le (fun c:Nat×Bool=>c.1 !=k) h.cl;have l2:=List.length_filter_le (fun x=>x !=k) h.q;refine hok_enter o.n1 o.n8 (by have:=o.len;omega) ?_ ?_ (Nat.le_trans (List.Sublist.countP_le List.filter_sublist) o.held)
 ·rw [hall];exact (show h.all.Nodup from o.nd).sublist List.filter_sublist
 ·rw [hall];exact fun w hw=>o.lt w (List.mem_filter.1 hw).1
end Go.Lk
namespace Go.Lk
def leftW (w:WA):WA:=⟨w.todo,w.ended+1,0,false,false,0,0,(0,zP)⟩
noncomputable def leaveHA (m:MS) (k:Nat) (w:WA):HA:=endH (if w.pinned=true then unpinH m.h k else m.h) k
def leaveL (m:MS) (k:Nat) (w:WA):List LA:=if w.asked=true then lsetM m.lat w.op.2.1 (dropL (latM m w.op.2.1) k) else m.lat
theorem up_leave {m:MS} (o:MOk m) {k:Nat} {w:WA} (hk:m.ws[k]?=some w) (hs:w.st=6):Upd m k (leftW w) m.p (leaveHA m k w) (leaveL m k w) m.s:=by
 have v:=o.w k w hk;have hlt:=(List.getElem?_eq_some_iff.1 hk).1
 obtain ⟨h1,e1,hO1,hall1,hs1⟩:∃ h1,h1=(if w.pinned=true then unpinH m.h k else m.h) /\HOk h1/\h1.all=m.h.all/\ (h1.n=m.h.n/\ ∀ j,j≠k->SmH m.h h1 j):=by
  refine ⟨_,rfl,?_⟩
  split
  ·exact ⟨hok_unpin o.hall k,all_pin ..,rfl,fun j hj=>smH_set hj⟩
  ·exact ⟨o.hall,rfl,rfl,fun j hj=>.rfl' _ _⟩
 have eH:leaveHA m k w=endH h1 k:=by rw [leaveHA,<-e1]
 rw [eH]
 have hallE:(endH h1 k).all=m.h.all.filter fun x=>x !=k:=by rw [end_all,hall1]
 have hx:∀ j,j≠k->xk (m.ws.set k (leftW w)) j=xk m.ws j:=fun j hj=>xk_set hj
 have key:(leaveL m k w).length=m.lat.length/\ (∀ (j:Nat) (l:LA),(leaveL m k w)[j]?=some l->LSh (xk (m.ws.set k (leftW w))) m.ws.length l/\k∉l.all) /\ ∀ j,j≠k->SmL m.lat (leaveL m k w) j:=by
  unfold leaveL
  split
  ·rename_i ha;obtain ⟨_,r1,r2⟩:=refB_f (v.val ha)
   have hi:w.op.2.1.toNat<m.lat.length:=by rw [o.ll];omega
   obtain ⟨l,hl⟩:∃ l,m.lat[w.op.2.1.toNat]?=some l:=⟨_,List.getElem?_eq_getElem hi⟩
   have hlm:latM m w.op.2.1=l:=by rw [latM,hl];rfl
   have hL:=o.li _ l hl;rw [hlm];have hD:=drop_lo (k:=k) hL.li;refine ⟨List.length_set,fun j l' hl'=>?_,fun j hj=>smL_drop hl hL.li hj⟩;rw [lsetM,List.getElem?_set] at hl'
   split at hl'
   ·cases hl'
    refine ⟨⟨hD.li.congr fun j hj=>hx j fun e=>?_,hD.shut,fun x hx'=>hL.lt x ((all_drop hL.li x).1 hx').1⟩,fun q=>((all_drop hL.li k).1 q).2 rfl⟩;exact ((all_drop hL.li j).1 (mem_all.2 hj)).2 e
   ·rename_i e
    have hn:k∉l'.all:=fun q=>e (by have:=((v.lt j l' hl').1 q).2;omega)
    have hL':=o.li j l' hl';exact ⟨⟨hL'.li.congr fun i hi'=>hx i fun e'=>hn (e'▸mem_all.2 hi'),hL'.shut,hL'.lt⟩,hn⟩
  ·rename_i ha;refine ⟨rfl,fun j l' hl'=>?_,fun j hj=>.rfl' _ _⟩
   have hn:k∉l'.all:=fun q=>ha ((v.lt j l' hl').1 q).1
   have hL':=o.li j l' hl';exact ⟨⟨hL'.li.congr fun i hi'=>hx i fun e'=>hn (e'▸mem_all.2 hi'),hL'.shut,hL'.lt⟩,hn⟩
 have hkn:k∉(endH h1 k).all:=by rw [hallE];simp
 refine ⟨hok_end hO1 k,fun j hj=>.inl (by rw [hallE] at hj;exact (List.mem_filter.1 hj).1),key.1,fun j l hl=>(key.2.1 j l hl).1,o.su,rfl,hs1.1.trans o.fr,?_,fun j hj=>⟨?_,key.2.2 j hj,.rfl' _ _⟩⟩
 ·refine ⟨Nat.zero_le 6,v.bu (by omega),fun q=>absurd rfl q,⟨fun q=>absurd q hkn,fun q=>absurd rfl q⟩,fun q=>absurd (show 2<=0 from q) (by decide),?_,fun q=>absurd q (by show ¬(0=4\/0=5);decide),fun _=>rfl,fun q=>absurd (show 2<=0 from q) (by decide),fun _=>rfl,fun q=>absurd (show false=true from q) (by decide),fun j l hl=>⟨fun q=>absurd q (key.2.1 j l hl).2,fun q=>absurd (show false=true from q.1) (by decide)⟩,fun q=>absurd (show false=true from q) (by decide),fun p=>?_⟩
  ·show heldW (endH h1 k) k=false
   cases hq:heldW (endH h1 k) k with
   |false=>rfl
   |true=>exact absurd (List.mem_append.2 (.inl (List.mem_map_of_mem (f:=(·.1)) (heldW_t.1 hq)))) hkn
  ·rw [v.job,hs];show _↔0=4/\_;simp
 ·have a:=hs1.2 j hj;have b:=smH_end (h:=h1) hj;exact ⟨b.hal.trans a.hal,fun q=>b.cl (a.cl q),b.held.trans a.held⟩
end Go.Lk
namespace Go.Lk
theorem MOk.sched {m:MS} (o:MOk m) {s':SA} (su:SU s') (hl:s'.jobs.length=m.s.jobs.length) (hj:∀ k q,WJ s' k q↔WJ m.s k q):MOk {m with s:=s'}:=
 ⟨o.n1,o.n4,o.hall,o.hw,o.ll,o.li,su,hl.trans o.sj,o.fr,fun k w hk=>(o.w k w hk).frame (.rfl' _ _) (.rfl' _ _) (hj k)⟩
theorem MOk.pump {m:MS} (o:MOk m):MOk (pumpM m):=
 have h:=pumpG_ok 5 o.su
 o.sched h.su h.len h.wj
theorem up_wait {m:MS} (o:MOk m) {k:Nat} {w w':WA} {s':SA} (hk:m.ws[k]?=some w) (hs:w.st=4) (su:SU s') (hl:s'.jobs.length=m.s.jobs.length) (hj:∀ j q,WJ s' j q↔WJ m.s j q/\j≠k)
  (e1:w'.todo=w.todo) (e2:w'.ended=w.ended) (e3:w'.asked=w.asked) (e4:w'.pinned=w.pinned) (e5:w'.st=5\/w'.st=6):Upd m k w' m.p m.h m.lat s':=by
 have v:=o.w k w hk
 have eo:w'.op=w.op:=by rw [WA.op,WA.op,e1,e2]
 have ha:w.asked=true:=v.ask (by omega) (by omega);refine ⟨o.hall,fun j hj=>.inl hj,rfl,fun j l hl=>(o.li j l hl).same hk eo,su,hl,o.fr,?_,fun j hj'=>⟨.rfl' _ _,.rfl' _ _,fun q=>(hj j q).trans ⟨fun h=>h.1,fun h=>⟨h,hj'⟩⟩⟩⟩;refine ⟨by omega,by rw [e1,e2];exact v.en,fun _=>by rw [e1,e2];exact v.bu (by omega),⟨fun _=>by omega,fun _=>v.hal.2 (by omega)⟩,fun _=>v.cl (by omega),by rw [e4];exact v.held,fun _=>by rw [e4];exact v.pin (by omega),fun q=>absurd q (by omega),fun _ _=>by rw [e3];exact ha,fun q=>absurd q (by omega),fun _=>by rw [eo];exact v.val ha,by rw [e3,eo];exact v.lt,fun _ _=>by rw [eo];exact v.hold ha (by omega),fun p=>?_⟩;rw [hj];exact ⟨fun h=>absurd rfl h.2,fun h=>absurd h.1 (by omega)⟩
end Go.Lk
namespace Go.Lk
theorem MOk.fin {m:MS} (o:MOk m) (i:Int) (fault:Bool):MOk (finM m i fault).1:=by
 rw [finM]
 split
 ·exact o
 ·rename_i hi;obtain ⟨j,hj⟩:∃ j,m.s.out[i.toNat]?=some j:=⟨_,List.getElem?_eq_getElem (by omega)⟩;obtain ⟨A,B,c⟩:=cut_ok o.su hj;rw [doneS,hj];simp only [];rw [c.e]
  split
  ·rename_i s hd
   split at hd
   ·rename_i hc
    cases hd
    exact o.sched (su_again o.su c hc.2.1 hc.2.2) rfl (wj_again c)
   ·cases hd
  ·rename_i s k bad hd
   split at hd
   ·cases hd
   ·cases hd
    have hw:=wj_drop o.su c;have hsu:=su_drop o.su c;have hjo:=(c.mem j).2 (.inl rfl);have hwj:WJ m.s j.who j.pg:=.inr ⟨j,hjo,rfl,rfl⟩
    have hlt:j.who<m.ws.length:=by have:=(o.su.lt j hjo).2.1;rw [o.sj] at this;exact this
    obtain ⟨w,hk⟩:∃ w,m.ws[j.who]?=some w:=⟨_,List.getElem?_eq_getElem hlt⟩;have h4:=((o.w _ w hk).job _).1 hwj;rw [hk];simp only [];rw [if_neg (fun q=>q h4.1)];refine o.upd hk (up_wait o hk h4.1 hsu rfl hw ?_ ?_ ?_ ?_ ?_)
    all_goals (unfold toldW;split<;>first|rfl|exact .inr rfl|exact .inl rfl)
end Go.Lk
namespace Go.Lk
theorem new_mok {p:PS} {n:Nat} {todo:List (List MOp)} (n1:1<=n) (n8:n<=8) (hp:p.f.fr.length=n) (t1:1<=todo.length) (t4:todo.length<=4):MOk (newMS p n todo):=by
 have hnoall:(noLA).all=[]:=rfl
 have hlat:∀ (j:Nat) (l:LA),(List.replicate 17 noLA)[j]?=some l->l=noLA:=fun j l h=>List.eq_of_mem_replicate (List.mem_of_getElem? h)
 have hjob:∀ (k:Nat) (q:Int),¬WJ (newMS p n todo).s k q:=by
  rintro k q (h|⟨f,hf,_⟩)
  ·cases List.eq_of_mem_replicate (List.mem_of_getElem? (show (List.replicate todo.length (none:Option Int))[k]?=_ from h))
  ·cases hf
 have hl:(newMS p n todo).ws.length=todo.length:=by simp [newMS]
 refine ⟨by rw [hl];exact t1,by rw [hl];exact t4,⟨n1,n8,by show 0+0<=4;decide,List.nodup_nil,fun w hw=>(by cases hw),Nat.zero_le _,.inl rfl⟩,fun k hk=>(by cases hk),rfl,fun j l h=>?_,?_,by simp [newMS],hp.symm,fun k w hk=>?_⟩
 ·rw [hlat j l h];exact ⟨⟨List.Pairwise.nil,List.nodup_nil,fun q=>(by cases q),fun _ q=>(by cases q),fun _ q=>(by cases q)⟩,.inl rfl,fun _ q=>(by cases q)⟩
 ·refine ⟨⟨by simpa [newMS] using t1,by simpa [newMS] using t4,by show 0<(List.replicate todo.length none).length;rw [List.length_replicate];exact t1,fun q hq=>?_,by show 0<=_;decide,by show 0<=4;decide,List.Pairwise.nil,fun f hf=>(by cases hf)⟩,List.nodup_nil,fun f hf=>by cases hf⟩
  cases List.eq_of_mem_replicate (show some q∈List.replicate todo.length (none:Option Int) from hq)
 ·replace hk:(todo.map newWA)[k]?=some w:=hk;rw [List.getElem?_map] at hk;obtain ⟨l,hl1,rfl⟩:=Option.map_eq_some_iff.1 hk;exact ⟨Nat.zero_le 6,Nat.zero_le _,fun q=>absurd rfl q,⟨fun q=>(by cases q),fun q=>absurd rfl q⟩,fun q=>absurd (show 2<=0 from q) (by decide),rfl,fun q=>absurd q (by show ¬(0=4\/0=5);decide),fun _=>rfl,fun q=>absurd (show 2<=0 from q) (by decide),fun _=>rfl,fun q=>absurd (show false=true from q) (by decide),fun j l h=>by rw [hlat j l h];exact ⟨fun q=>(by cases q),fun q=>absurd (show false=true from q.1) (by decide)⟩,fun q=>absurd (show false=true from q) (by decide),fun p=>⟨fun q=>absurd q (hjob k p),fun q=>absurd (show 0=4 from q.1) (by decide)⟩⟩
end Go.Lk
namespace Go.Lk
theorem MOk.clk {m:MS} (o:MOk m) (c:Int):MOk {m with clk:=c}:=⟨o.n1,o.n4,o.hall,o.hw,o.ll,o.li,o.su,o.sj,o.fr,o.w⟩
theorem MOk.stepW {m:MS} (o:MOk m) {k:Nat} {w:WA} (hk:m.ws[k]?=some w) (now:Int) (hp:(workP m.p w.op).1.f.fr.length=m.p.f.fr.length):MOk (stepW m k w now).1:=by
 have v:=o.w k w hk;unfold Go.Lk.stepW
 split
 ·rename_i hs
  split
  ·exact o
  ·exact o.upd hk (up_begin o hk hs (by omega) now)
 ·rename_i hs
  split
  ·exact o
  ·rename_i hc
   replace hc:isCl m.h k=true:=by simpa using hc
   split
   ·exact o.upd hk (up_refuse o hk hs hc _ now)
   ·rename_i hr;exact o.upd hk (up_ask o hk hs hc (by simpa using hr))
 ·rename_i hs
  split
  ·exact o
  ·rename_i hc;refine o.upd hk (up_pass o hk hs fun l hl=>?_)
   have hlm:latM m w.op.2.1=l:=by rw [latM,hl];rfl
   rw [hlm] at hc
   simpa [holdsL] using hc
 ·rename_i hs
  split
  ·exact o
  ·split
   ·exact o.upd hk (up_pin4 o hk hs (by omega))
   ·exact o.upd hk (up_pin5 o hk hs (by omega))
 ·rename_i hs;exact o.upd hk (up_work o hk hs _ now _ hp)
 ·rename_i hs;exact o.upd hk (up_leave o hk hs)
 ·exact o
end Go.Lk
namespace Go.Lk
open Go Go.Proofs Go.RowKit
def ixF {α:Type} (p:α->Bool):List α->Nat->Int
 | [],_=>-1
 |x::r,k=>if p x=true then (k:Int) else ixF p r (k+1)
theorem ixF_no {α:Type} {p:α->Bool}:∀ {l:List α} {k:Nat},(∀ x∈l,p x=false)->ixF p l k=-1
 | [],_,_=>rfl
 |x::r,k,h=>by
  rw [ixF,h x (.head _),if_neg (by decide)]
  exact ixF_no fun y hy=>h y (.tail _ hy)
theorem ixF_yes {α:Type} {p:α->Bool}:∀ {l:List α} {k:Nat},(∃ x∈l,p x=true)->∃ i,∃ hi:i<l.length,ixF p l k=((k+i:Nat):Int) /\p l[i]=true
 | [],_,h=>by obtain ⟨x,hx,_⟩:=h;cases hx
 |x::r,k,h=>by
  rw [ixF]
  by_cases e:p x=true
  ·rw [if_pos e];exact ⟨0,Nat.zero_lt_succ _,rfl,e⟩
  ·rw [if_neg e];obtain ⟨y,hy,hp⟩:=h
   cases hy with
   |head=>exact absurd hp e
   |tail _ hy=>
    obtain ⟨i,hi,h1,h2⟩:=ixF_yes (k:=k+1) ⟨y,hy,hp⟩;exact ⟨i+1,by simpa using hi,by rw [h1];omega,h2⟩
theorem ixF_ge {α:Type} (p:α->Bool) (l:List α) (k:Nat):0<=ixF p l k↔l.any p=true:=by
 rw [List.any_eq_true]
 constructor
 ·intro h
  refine Classical.byContradiction fun g=>?_
  rw [ixF_no fun x hx=>?_] at h
  ·exact absurd h (by decide)
  ·cases e:p x with
   |false=>rfl
   |true=>exact absurd ⟨x,hx,e⟩ g
 ·intro h;obtain ⟨i,_,e,_⟩:=ixF_yes (k:=k) h
  rw [e];exact Int.natCast_nonneg _
theorem encCl_ok:∀ (l:List (Nat×Bool)),okRows 3 (l.map encCl)=true
 | []=>rfl
 |_::r=>encCl_ok r
theorem encTk_ok:∀ (l:List Nat),okRows 2 (l.map encTk)=true
 | []=>rfl
 |_::r=>encTk_ok r
def isC (who:Int) (c:Nat×Bool):Bool:=decide ((c.1:Int)=who)
def isT (who:Int) (w:Nat):Bool:=decide ((w:Int)=who)
theorem isC_ok (who:Int) (c:Nat×Bool):ACall Tryz.prog 255 [.agg (encCl c),.dp [.int .i64 who] 0] (.bool (isC who c)):=by
 refine acall_of Tryz.func255 2 rfl (by kernel_rfl) (aO ?_);exact ret_of rfl rfl
theorem isT_ok (who:Int) (c:Nat):ACall Tryz.prog 257 [.agg (encTk c),.dp [.int .i64 who] 0] (.bool (isT who c)):=by
 refine acall_of Tryz.func257 2 rfl (by kernel_rfl) (aO ?_);exact ret_of rfl rfl
theorem ixCl_ok (g:FuncId) (cs:List D) (p:Nat×Bool->Bool) (hg:∀ c,ACall Tryz.prog g (.agg (encCl c)::cs) (.bool (p c))) (l:List (Nat×Bool)) (hl:l.length<=1000000):ACall Tryz.prog 254 [.lst (l.map encCl),.fn g cs] (.int .i64 (ixF p l 0)):=by
 refine acall_of Tryz.func254 2 rfl (by kernel_rfl) (w0 ?_);refine aloop (ι:=Nat) (fun k=>[(0,.d (.lst (l.map encCl))),(1,.d (.fn g cs)),(7,.d (.int .i64 (l.map encCl).length)),(8,.d (.int .i64 k))]) (fun _=>[])
  (fun k=>k<=l.length/\ixF p (l.drop k) k=ixF p l 0) (fun k=>l.length-k) 0 ⟨Nat.zero_le _,rfl⟩ (le0 (le_of_cov ⟨rfl,rfl,rfl,rfl,trivial⟩ trivial ⟨rfl,rfl,rfl,rfl⟩)) ?_
 rintro k ⟨hk,hR⟩
 conv=>whnf
 refine bcase_p (fun h=>?_) (fun h=>?_)<;>conv=>whnf
 ·have hk2:k<l.length:=by simpa using h
  refine idxK_nat (by omega) (w0 ?_);refine getRow_of (x:=encCl l[k]) (by simp [hk2]) (aW ?_);rw [drop_cons hk2,ixF] at hR;refine callX_pure (hg l[k]) (w0 ?_)
  refine bcase_intro (fun h2=>?_) (fun h2=>?_)<;>conv=>whnf
  ·rw [if_pos h2] at hR;exact ret_of rfl (by rw [<-hR];rfl)
  ·rw [if_neg (by rw [h2];decide)] at hR;refine aA ?_;exact ⟨k+1,⟨by omega,hR⟩,by omega,(le0 (le_of_cov ⟨rfl,rfl,rfl,rfl,trivial⟩ trivial ⟨rfl,rfl,rfl,rfl⟩))⟩
 ·have:k=l.length:=by simp at h;omega
  subst this;simp [ixF] at hR;exact ret_of rfl (by rw [<-hR];rfl)
theorem ixTk_ok (g:FuncId) (cs:List D) (p:Nat->Bool) (hg:∀ c,ACall Tryz.prog g (.agg (encTk c)::cs) (.bool (p c))) (l:List Nat) (hl:l.length<=1000000):ACall Tryz.prog 256 [.lst (l.map encTk),.fn g cs] (.int .i64 (ixF p l 0)):=by
 refine acall_of Tryz.func256 2 rfl (by kernel_rfl) (w0 ?_);refine aloop (ι:=Nat) (fun k=>[(0,.d (.lst (l.map encTk))),(1,.d (.fn g cs)),(7,.d (.int .i64 (l.map encTk).length)),(8,.d (.int .i64 k))]) (fun _=>[])
  (fun k=>k<=l.length/\ixF p (l.drop k) k=ixF p l 0) (fun k=>l.length-k) 0 ⟨Nat.zero_le _,rfl⟩ (le0 (le_of_cov ⟨rfl,rfl,rfl,rfl,trivial⟩ trivial ⟨rfl,rfl,rfl,rfl⟩)) ?_
 rintro k ⟨hk,hR⟩
 conv=>whnf
 refine bcase_p (fun h=>?_) (fun h=>?_)<;>conv=>whnf
 ·have hk2:k<l.length:=by simpa using h
  refine idxK_nat (by omega) (w0 ?_);refine getRow_of (x:=encTk l[k]) (by simp [hk2]) (aW ?_);rw [drop_cons hk2,ixF] at hR;refine callX_pure (hg l[k]) (w0 ?_)
  refine bcase_intro (fun h2=>?_) (fun h2=>?_)<;>conv=>whnf
  ·rw [if_pos h2] at hR;exact ret_of rfl (by rw [<-hR];rfl)
  ·rw [if_neg (by rw [h2];decide)] at hR;refine aA ?_;exact ⟨k+1,⟨by omega,hR⟩,by omega,(le0 (le_of_cov ⟨rfl,rfl,rfl,rfl,trivial⟩ trivial ⟨rfl,rfl,rfl,rfl⟩))⟩
 ·have:k=l.length:=by simp at h;omega
  subst this;simp [ixF] at hR;exact ret_of rfl (by rw [<-hR];rfl)
theorem client_ok (who:Int) (l:List (Nat×Bool)) (hl:l.length<=1000000):ACall Tryz.prog 194 [.lst (l.map encCl),.int .i64 who] (.int .i64 (ixF (isC who) l 0)):=by
 refine acall_of Tryz.func194 2 rfl (by kernel_rfl) (aO ?_);refine callX_pure (ixCl_ok 255 _ _ (isC_ok who) l hl) (aW ?_);exact ret_of rfl rfl
theorem ticket_ok (who:Int) (l:List Nat) (hl:l.length<=1000000):ACall Tryz.prog 195 [.lst (l.map encTk),.int .i64 who] (.int .i64 (ixF (isT who) l 0)):=by
 refine acall_of Tryz.func195 2 rfl (by kernel_rfl) (aO ?_);refine callX_pure (ixTk_ok 257 _ _ (isT_ok who) l hl) (aW ?_);exact ret_of rfl rfl
theorem ixN_ok (g:FuncId) (cs:List D) (p:Nat->Bool) (hg:∀ c:Nat,ACall Tryz.prog g (.int .i64 c::cs) (.bool (p c))) (l:List Nat) (hl:l.length<=1000000):ACall Tryz.prog 265 [.lst (l.map encN),.fn g cs] (.int .i64 (ixF p l 0)):=by
 refine acall_of Tryz.func265 2 rfl (by kernel_rfl) (w0 ?_);refine aloop (ι:=Nat) (fun k=>[(0,.d (.lst (l.map encN))),(1,.d (.fn g cs)),(7,.d (.int .i64 (l.map encN).length)),(8,.d (.int .i64 k))]) (fun _=>[])
  (fun k=>k<=l.length/\ixF p (l.drop k) k=ixF p l 0) (fun k=>l.length-k) 0 ⟨Nat.zero_le _,rfl⟩ (le0 (le_of_cov ⟨rfl,rfl,rfl,rfl,trivial⟩ trivial ⟨rfl,rfl,rfl,rfl⟩)) ?_
 rintro k ⟨hk,hR⟩
 conv=>whnf
 refine bcase_p (fun h=>?_) (fun h=>?_)<;>conv=>whnf
 ·have hk2:k<l.length:=by simpa using h
  refine idxK_nat (by omega) (w0 ?_);refine getRow_of (x:=encN l[k]) (by simp [hk2]) (aW ?_);rw [drop_cons hk2,ixF] at hR;refine callX_pure (hg l[k]) (w0 ?_)
  refine bcase_intro (fun h2=>?_) (fun h2=>?_)<;>conv=>whnf
  ·rw [if_pos h2] at hR;exact ret_of rfl (by rw [<-hR];rfl)
  ·rw [if_neg (by rw [h2];decide)] at hR;refine aA ?_;exact ⟨k+1,⟨by omega,hR⟩,by omega,(le0 (le_of_cov ⟨rfl,rfl,rfl,rfl,trivial⟩ trivial ⟨rfl,rfl,rfl,rfl⟩))⟩
 ·have:k=l.length:=by simp at h;omega
  subst this;simp [ixF] at hR;exact ret_of rfl (by rw [<-hR];rfl)
theorem ixWt_ok (g:FuncId) (cs:List D) (p:Nat×Bool->Bool) (hg:∀ c,ACall Tryz.prog g (.agg (encWt c)::cs) (.bool (p c))) (l:List (Nat×Bool)) (hl:l.length<=1000000):ACall Tryz.prog 266 [.lst (l.map encWt),.fn g cs] (.int .i64 (ixF p l 0)):=by
 refine acall_of Tryz.func266 2 rfl (by kernel_rfl) (w0 ?_);refine aloop (ι:=Nat) (fun k=>[(0,.d (.lst (l.map encWt))),(1,.d (.fn g cs)),(7,.d (.int .i64 (l.map encWt).length)),(8,.d (.int .i64 k))]) (fun _=>[])
  (fun k=>k<=l.length/\ixF p (l.drop k) k=ixF p l 0) (fun k=>l.length-k) 0 ⟨Nat.zero_le _,rfl⟩ (le0 (le_of_cov ⟨rfl,rfl,rfl,rfl,trivial⟩ trivial ⟨rfl,rfl,rfl,rfl⟩)) ?_
 rintro k ⟨hk,hR⟩
 conv=>whnf
 refine bcase_p (fun h=>?_) (fun h=>?_)<;>conv=>whnf
 ·have hk2:k<l.length:=by simpa using h
  refine idxK_nat (by omega) (w0 ?_);refine getRow_of (x:=encWt l[k]) (by simp [hk2]) (aW ?_);rw [drop_cons hk2,ixF] at hR;refine callX_pure (hg l[k]) (w0 ?_)
  refine bcase_intro (fun h2=>?_) (fun h2=>?_)<;>conv=>whnf
  ·rw [if_pos h2] at hR;exact ret_of rfl (by rw [<-hR];rfl)
  ·rw [if_neg (by rw [h2];decide)] at hR;refine aA ?_;exact ⟨k+1,⟨by omega,hR⟩,by omega,(le0 (le_of_cov ⟨rfl,rfl,rfl,rfl,trivial⟩ trivial ⟨rfl,rfl,rfl,rfl⟩))⟩
 ·have:k=l.length:=by simp at h;omega
  subst this;simp [ixF] at hR;exact ret_of rfl (by rw [<-hR];rfl)
theorem encCl_len {l:List (Nat×Bool)} {e:List D} (h:e∈l.map encCl):e.length=3:=by
 obtain ⟨x,_,rfl⟩:=List.mem_map.1 h;rfl
theorem encTk_len {l:List Nat} {e:List D} (h:e∈l.map encTk):e.length=2:=by
 obtain ⟨x,_,rfl⟩:=List.mem_map.1 h;rfl
theorem claimable_ok (h:HA) (h1:1<=h.n):ACall Tryz.prog 193 [encHA h,.int .i64 1] (.bool true):=by
 refine acall_of Tryz.func193 2 rfl (by kernel_rfl) (aO ?_);exact ret_of rfl (by simp;omega)
theorem heldN_snoc (l:List (Nat×Bool)) {k:Nat} (hk:k<l.length):heldN (l.take (k+1))=heldN (l.take k)+(if l[k].2=true then 1 else 0):=by
 rw [heldN,take_snoc hk,List.countP_append,List.countP_singleton];rfl
theorem heldN_le (l:List (Nat×Bool)):heldN l<=l.length:=List.countP_le_length
theorem left_ok (h:HA) (hl:h.cl.length<=1000) (hn:h.n<=1000):ACall Tryz.prog 202 [encHA h] (.int .i64 ((h.n:Int)-heldN h.cl)):=by
 have hm:(h.cl.map encCl).length=h.cl.length:=List.length_map ..
 refine acall_of Tryz.func202 1 rfl (by kernel_rfl) (aO ?_);refine aloop (ι:=Nat) (fun k=>[(3,.d (.int .i64 ((h.n:Int)-heldN (h.cl.take k)))),(9,.d (.lst (h.cl.map encCl))),(10,.d (.int .i64 (h.cl.map encCl).length)),(11,.d (.int .i64 k))]) (fun _=>[])
  (fun k=>k<=h.cl.length) (fun k=>h.cl.length-k) 0 (Nat.zero_le _) (le0 (le_of_cov ⟨by simp [heldN];kernel_rfl,rfl,rfl,rfl,trivial⟩ trivial ⟨rfl,rfl,rfl,rfl⟩)) ?_
 intro k hk
 conv=>whnf
 refine bcase_p (fun h5=>?_) (fun h5=>?_)<;>conv=>whnf
 ·have hk2:k<h.cl.length:=by omega
  refine idxK_nat (by omega) (w0 ?_);refine getRow_of (x:=encCl h.cl[k]) (by simp [hk2]) (aW ?_);have e:=heldN_snoc h.cl hk2;have e2:=heldN_le (h.cl.take k)
  have e3:(h.cl.take k).length=k:=by simp;omega
  have e4:((h.n:Int)-heldN (h.cl.take k))-(if h.cl[k].2=true then 1 else 0)=(h.n:Int)-heldN (h.cl.take (k+1)):=by rw [e];split<;>omega
  rw [e4];have e5:=heldN_le (h.cl.take (k+1))
  have e6:(h.cl.take (k+1)).length=k+1:=by simp;omega
  refine aA ?_;exact ⟨k+1,by omega,by omega,(le0 (le_of_cov ⟨rfl,rfl,rfl,rfl,trivial⟩ trivial ⟨rfl,rfl,rfl,rfl⟩))⟩
 ·have:k=h.cl.length:=by omega
  subst this;rw [List.take_length];refine aA ?_;exact ret_of rfl rfl
def openH (h:HA):Bool:=match h.q with
 | []=>false
 |_::_=>decide ((h.cl.length:Int)+1<=2*h.n)
theorem openH_ok (h:HA) (hl:h.cl.length<=7) (hn:h.n<=1000):ACall Tryz.prog 253 [encHA h] (.bool (openH h)):=by
 have hm:(h.cl.map encCl).length=h.cl.length:=List.length_map ..
 obtain ⟨n,cl,q⟩:=h;simp only [] at hl hn hm
 cases q with
 |nil=>
  refine acall_of Tryz.func253 1 rfl (by kernel_rfl) (aO ?_);exact ret_of rfl rfl
 |cons t q=>
  have hn2:(HA.mk n cl (t::q)).n<=1000:=hn;refine acall_of Tryz.func253 1 rfl (by kernel_rfl) (aO ?_)
  refine bcase_p (fun h1=>?_) (fun h1=>?_)<;>conv=>whnf
  ·simp at h1;omega
  refine aO ?_;refine idxK_nat (i:=0) (by simp) (w0 ?_);refine getRow_of (x:=encTk t) rfl (aO ?_);refine aloop (ι:=Nat) (fun k=>[(1,.ptr 1 0 0),(3,.d (.int .i64 ((k:Int)+1))),(22,.d (.lst (cl.map encCl))),(23,.d (.int .i64 (cl.map encCl).length)),(24,.d (.int .i64 k))]) (fun _=>[(1,.box ((HA.cells ⟨n,cl,t::q⟩).map AV.d) false)])
   (fun k=>k<=cl.length) (fun k=>cl.length-k) 0 (Nat.zero_le _) (le0 (le_of_cov ⟨rfl,rfl,rfl,rfl,rfl,trivial⟩ ⟨rfl,trivial⟩ ⟨rfl,rfl,rfl,rfl⟩)) ?_
  intro k hk
  conv=>whnf
  refine bcase_p (fun h5=>?_) (fun h5=>?_)<;>conv=>whnf
  ·have hk2:k<cl.length:=by omega
   refine idxK_nat (by omega) (w0 ?_);refine getRow_of (x:=encCl cl[k]) (by simp [hk2]) (aW ?_);rw [show (k:Int)+1+1=((k+1:Nat):Int)+1 by omega];exact ⟨k+1,by omega,by omega,(le0 (le_of_cov ⟨rfl,rfl,rfl,rfl,rfl,trivial⟩ ⟨rfl,trivial⟩ ⟨rfl,rfl,rfl,rfl⟩))⟩
  ·have:k=cl.length:=by omega
   subst this;refine aA ?_;exact ret_of rfl rfl
structure ClOk (l:List (Nat×Bool)):Prop where
 len:l.length<=8
 lt:∀ c∈l,c.1<4
 nd:(l.map (·.1)).Nodup
theorem nd_ne {α:Type} {l:List α} (h:l.Nodup) {i j:Nat} (hi:i<j) (hj:j<l.length):l[i]≠l[j]:=by
 intro e;have:=(List.nodup_iff_pairwise_ne.1 h);exact (List.pairwise_iff_getElem.1 this) i j (by omega) hj hi e
theorem ClOk.ne {l:List (Nat×Bool)} (h:ClOk l) {i j:Nat} (hi:i<j) (hj:j<l.length):l[i].1≠l[j].1:=by
 have:=nd_ne h.nd hi (by rw [List.length_map];exact hj)
 simpa using this
theorem bankR_ok (l:List (Nat×Bool)) (h:ClOk l):ACall Tryz.prog 252 [.lst (l.map encCl)] (.bool true):=by
 have hm:(l.map encCl).length=l.length:=List.length_map ..
 have h8:=h.len;refine acall_of Tryz.func252 1 rfl (by kernel_rfl) (aO ?_);refine aloop (ι:=Nat) (fun k=>[(0,.d (.lst (l.map encCl))),(10,.d (.lst (l.map encCl))),(11,.d (.int .i64 (l.map encCl).length)),(12,.d (.int .i64 k))]) (fun _=>[])
  (fun k=>k<=l.length) (fun k=>l.length-k) 0 (Nat.zero_le _) (le0 (le_of_cov ⟨rfl,rfl,rfl,rfl,trivial⟩ trivial ⟨rfl,rfl,rfl,rfl⟩)) ?_
 intro k hk
 conv=>whnf
 refine bcase_p (fun h5=>?_) (fun h5=>?_)<;>conv=>whnf
 ·have hk2:k<l.length:=by omega
  have hlt:=h.lt _ (List.getElem_mem hk2)
  have hb:(0:Int) <= (if l[k].2=true then 1 else 0) /\ (if l[k].2=true then 1 else 0) <= (1:Int):=by split<;>omega
  refine idxK_nat (by omega) (w0 ?_);refine getRow_of (x:=encCl l[k]) (by simp [hk2]) (aW ?_);refine aO ?_;refine condK_of (fun e he=>encCl_len he) (w0 ?_);refine sliceK_hi (by omega) (aW ?_)
  have hl2:((l.map encCl).take k).length=k:=by rw [List.length_take];omega
  refine aloop (ι:=Nat) (fun q=>[(0,.d (.lst (l.map encCl))),(4,.ptr 4 0 0),(10,.d (.lst (l.map encCl))),(11,.d (.int .i64 (l.map encCl).length)),(12,.d (.int .i64 k)),(47,.d (.lst (((l.map encCl).take k).drop 0))),(48,.d (.int .i64 (((l.map encCl).take k).drop 0).length)),(49,.d (.int .i64 q))]) (fun _=>[(4,.box ((encCl l[k]).map AV.d) false)])
   (fun q=>q<=k) (fun q=>k-q) 0 (Nat.zero_le _) (le0 (le_of_cov ⟨rfl,rfl,rfl,rfl,rfl,rfl,rfl,rfl,trivial⟩ ⟨rfl,trivial⟩ ⟨rfl,rfl,rfl,rfl⟩)) ?_
  intro q hq;rw [List.drop_zero]
  conv=>whnf
  refine bcase_p (fun h6=>?_) (fun h6=>?_)<;>conv=>whnf
  ·have hq2:q<k:=by omega
   have hq3:q<l.length:=by omega
   have hne:=h.ne hq2 hk2;refine idxK_nat (by omega) (w0 ?_);refine getRow_of (x:=encCl l[q]) (by simp [hq2,hq3]) (aW ?_);refine aO ?_;exact ⟨q+1,by omega,by omega,(le0 (le_of_cov ⟨rfl,rfl,rfl,rfl,rfl,rfl,rfl,rfl,trivial⟩ ⟨rfl,trivial⟩ ⟨rfl,rfl,rfl,rfl⟩))⟩
  ·refine aA ?_;exact ⟨k+1,by omega,by omega,(le0 (le_of_cov ⟨rfl,rfl,rfl,rfl,trivial⟩ trivial ⟨rfl,rfl,rfl,rfl⟩))⟩
 ·refine aA ?_;exact ret_of rfl rfl
end Go.Lk
