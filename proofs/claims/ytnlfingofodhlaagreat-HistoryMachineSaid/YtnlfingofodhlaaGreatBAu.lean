/-
  What is proved here: what functions of the program compute, and what follows; no condition beyond each theorem's own.
-/
import Derived.Test.YtnlfingofodhlaaGreatBAk
import Derived.Test.YtnlfingofodhlaaGreatBAt
set_option linter.unusedSimpArgs false
set_option linter.unusedVariables false
set_option linter.unnecessarySimpa false
set_option linter.unusedSectionVars false
namespace Go.Lk
open Go Go.Proofs Go.RowKit
theorem yEp (n:Int) (s:ByteArray):zAk Tryz.prog 183 [.int .i64 n,.str s] (.agg (encJ (wJ n s))):=by
 refine zAf Tryz.func183 2 rfl (by kernel_rfl) (aW ?_);exact ret_of rfl rfl
theorem z4n (s:ByteArray) (hs:s.size<=16):zAk Tryz.prog 184 [.str s] (.str (s++nulB (16-s.size))):=by
 refine zAf Tryz.func184 1 rfl (by kernel_rfl) (w0 ?_);refine zAr (ι:=Nat) (fun k=>[(0,.d (.str (s++nulB k)))]) (fun _=>[])
  (fun k=>s.size+k<=16) (fun k=>16-k) 0 (by omega) (le0 (zAb ⟨?_,trivial⟩ trivial ⟨rfl,rfl,rfl,rfl⟩)) ?_
 ·show AV.d (.str s)=_;rw [yPb]
  congr 2
  apply bl_ext;rw [zIa];exact (List.append_nil _).symm
 intro k hk
 have hsz:(s++nulB k).size=s.size+k:=by rw [ByteArray.size_append,zCr]
 conv=>whnf
 refine bcase_p (fun h5=>?_) (fun h5=>?_)<;>conv=>whnf
 ·have hk2:s.size+k<16:=by omega
  refine aA ?_;refine zAh (by rw [hsz,zGh];simp;omega) (aW ?_)
  have e:s++nulB k++bstr [0]=s++nulB (k+1):=by
   rw [<-z1k];apply bl_ext;simp only [zIa,List.append_assoc]
  rw [e];exact ⟨k+1,by omega,by omega,(le0 (zAb ⟨rfl,trivial⟩ trivial ⟨rfl,rfl,rfl,rfl⟩))⟩
 ·refine aA ?_
  have ek:k=16-s.size:=by omega
  subst ek;exact ret_of rfl rfl
theorem z9u:zAk Tryz.prog 107 [] (.str (nulB 32)):=by
 refine zAf Tryz.func107 0 rfl (by kernel_rfl) (aW ?_);refine zAr (ι:=Nat) (fun k=>[(1,.d (.str (nulB k))),(2,.d (.int .i64 k))]) (fun _=>[])
  (fun k=>k<=32) (fun k=>32-k) 0 (by omega) (le0 (zAb ⟨?_,rfl,trivial⟩ trivial ⟨rfl,rfl,rfl,rfl⟩)) ?_
 ·show AV.d (.str ByteArray.empty)=_;rw [yPb]
 intro k hk
 conv=>whnf
 refine bcase_p (fun h5=>?_) (fun h5=>?_)<;>conv=>whnf
 ·refine aA ?_;refine zAh (by rw [zCr,zGh];simp;omega) (aW ?_);rw [z1k];exact ⟨k+1,by omega,by omega,(le0 (zAb ⟨rfl,rfl,trivial⟩ trivial ⟨rfl,rfl,rfl,rfl⟩))⟩
 ·refine aA ?_
  have ek:k=32:=by omega
  subst ek;exact ret_of rfl rfl
theorem yPc (s:ByteArray):ByteArray.empty++s=s:=by
 apply bl_ext;rw [zIa];rfl
theorem by_eps {α:Type} [Nonempty α] (P:α->Prop) (h:P (Classical.epsilon fun a=>¬P a)) (a:α):P a:=
 Classical.byContradiction fun g=>(Classical.epsilon_spec (p:=fun a=>¬P a) ⟨a,g⟩) h
def yAu (a:Nat×ByteArray):Prop:=a.1<=16->a.2.size=32->zDy Tryz.prog 106 [.int .i64 a.1,.str a.2] ((zGq a.1 a.2).map encJ) 3
noncomputable def zP1:Nat×ByteArray:=Classical.epsilon fun a=>¬yAu a
noncomputable def zp:Nat:=zP1.1
noncomputable def zs:ByteArray:=zP1.2
noncomputable def zx:ByteArray:=zs.extract 0 16
noncomputable def zy:ByteArray:=zs.extract 16 32
noncomputable def zh:ByteArray:=zHp zp
def zn:ByteArray:=zDp
theorem yVv (hp:zp<=16) (hs:zs.size=32):zDy Tryz.prog 106 [.int .i64 zp,.str zs] (([wJ 1 zx,wJ 2 zy,syJ]++[wJ 0 zh,syJ]++[wJ (2*(zp:Int)+1) zx,wJ (2*(zp:Int)+1+1) zy,syJ]++[wJ 0 zn,syJ]).map encJ) 3:=by
 refine zBn Tryz.func106 2 rfl (by kernel_rfl) (aW ?_);refine zCz (h:=16) (by omega) (aW ?_);refine zDi (l:=16) (by omega) (aW ?_);rw [show zs.extract 0 16=zx from rfl,show zs.extract 16 zs.size=zy from by rw [hs];rfl];refine zAa (yEp 1 zx) (aW ?_);refine zAa (yEp 2 zy) (aW ?_);refine zCk (u8in (by omega) (by omega)) (aW ?_);refine zAa (z4n (bstr [74,(zp:Int)]) (by rw [zGh];exact (show 2<=16 by decide))) (aW ?_);rw [show bstr [74,(zp:Int)]++nulB (16-(bstr [74,(zp:Int)]).size)=zh from by rw [zGh];rfl];refine zAa (yEp 0 zh) (aW ?_);refine zAa (yEp (2*(zp:Int)+1) zx) (aW ?_);refine zAa (yEp (2*(zp:Int)+1+1) zy) (aW ?_);refine zAa (z4n ByteArray.empty (by decide)) (aW ?_);rw [show ByteArray.empty++nulB (16-ByteArray.empty.size)=zn from yPc _];refine zAa (yEp 0 zn) (aW ?_);exact ⟨4,rfl,.inl ⟨38,rfl,rfl⟩⟩
theorem z2i (p:Nat) (s:ByteArray) (hp:p<=16) (hs:s.size=32):zDy Tryz.prog 106 [.int .i64 p,.str s] ((zGq p s).map encJ) 3:=
 by_eps yAu (fun hp hs=>yVv hp hs) (p,s) hp hs
open Classical in
noncomputable def zKm (d:DS) (x:Pg):List Jo:=
 if ¬(Us d/\1<=x.1/\x.1<=16) then [] else if x.2.1=0/\x.2.2=ByteArray.empty then zGq x.1.toNat (nulB 32) else if pgR x=true then zGq x.1.toNat (putB x) else []
theorem yLo (d:DS) (x:Pg):zAk Tryz.prog 48 [zCt d,.agg (encP x)] (.lst ((zKm d x).map encJ)):=by
 refine zAf Tryz.func48 2 rfl (by kernel_rfl) (aW ?_);refine zAa (yRs d) (aW ?_);rw [zKm]
 refine zAe (fun h1=>?_) (fun h1=>?_)<;>conv=>whnf
 ·refine aA ?_;rw [if_pos (fun q=>by rw [zTd.2 q.1] at h1;exact absurd h1 (by decide))];exact ret_of rfl rfl
 have hU:Us d:=zTd.1 (by simpa using h1);refine aA ?_
 refine bcase_p (fun h2=>?_) (fun h2=>?_)<;>conv=>whnf
 ·refine aA ?_;rw [if_pos (fun q=>by omega)];exact ret_of rfl rfl
 refine aA ?_
 refine bcase_p (fun h3=>?_) (fun h3=>?_)<;>conv=>whnf
 ·refine aA ?_;rw [if_pos (fun q=>by omega)];exact ret_of rfl rfl
 rw [if_neg (fun q=>q ⟨hU,by omega,by omega⟩)];obtain ⟨a,v,b⟩:=x;simp only at h2 h3⊢;obtain ⟨k,rfl⟩:∃ k:Nat,a=k:=⟨a.toNat,by omega⟩;rw [Int.toNat_natCast];refine aA ?_
 refine bcase_p (fun h4=>?_) (fun h4=>?_)<;>conv=>whnf
 ·refine aA ?_
  refine bcase_p (fun h5=>?_) (fun h5=>?_)<;>conv=>whnf
  ·rw [if_pos ⟨h4,h5⟩];refine aA ?_;refine zAa z9u (aW ?_);refine zAl (z2i k (nulB 32) (by omega) (zCr 32)) (aW ?_);exact ret_of rfl rfl
  rw [if_neg (fun q=>h5 q.2)];refine aA ?_;refine zAa (zKd ((k:Int),v,b)) (aW ?_)
  refine zAe (fun h6=>?_) (fun h6=>?_)<;>conv=>whnf
  ·refine aA ?_;rw [if_neg (fun q=>by rw [q] at h6;cases h6)];exact ret_of rfl rfl
  have h6:pgR ((k:Int),v,b)=true:=by simpa using h6
  rw [if_pos h6];refine aA ?_;refine zAa (z9w _ h6) (aW ?_);refine zAl (z2i k (putB ((k:Int),v,b)) (by omega) (zEc (pgR_out.1 h6).2.2.2.2)) (aW ?_);exact ret_of rfl rfl
 rw [if_neg (fun q=>h4 q.1)];refine aA ?_;refine zAa (zKd ((k:Int),v,b)) (aW ?_)
 refine zAe (fun h6=>?_) (fun h6=>?_)<;>conv=>whnf
 ·refine aA ?_;rw [if_neg (fun q=>by rw [q] at h6;cases h6)];exact ret_of rfl rfl
 have h6:pgR ((k:Int),v,b)=true:=by simpa using h6
 rw [if_pos h6];refine aA ?_;refine zAa (z9w _ h6) (aW ?_);refine zAl (z2i k (putB ((k:Int),v,b)) (by omega) (zEc (pgR_out.1 h6).2.2.2.2)) (aW ?_);exact ret_of rfl rfl
def pL (P:Nat->Pg):List D:=(List.range 17).flatMap fun q=>encP (P q)
theorem szs:(T 3).size=1/\ (T 57).size=3:=⟨rfl,rfl⟩
theorem yQb {e:DS} {o:Jo} (h:o.1≠true) (h2:¬(DR e/\okW e.sec.length o.2=true/\e.ca.length<200)):zEj e o=e:=by
 rw [zEj,if_neg h,putM]
 split
 ·rename_i g
  have h3:¬e.ca.length<200:=fun q=>h2 ⟨g.1,g.2,q⟩
  rw [if_pos (by omega)]
 ·rfl
set_option maxRecDepth 100000 in
theorem yVw (d:DS) (l:List Jo) (most:Int) (hl:l.length<=1000000):zAk Tryz.prog 49 [zCt d,.lst (l.map encJ),.int .i64 most] (zCt (runM d l most)):=by
 refine zAf Tryz.func49 3 rfl (by kernel_rfl) (w0 ?_)
 have hm:(l.map encJ).length=l.length:=List.length_map ..
 refine aA ?_;refine zAr (ι:=Nat×DS) (fun k=>[(1,.d (.lst (l.map encJ))),(2,.d (.int .i64 most)),(3,.ptr 3 0 0),(6,.ptr 6 0 0),(7,.d (.int .i64 k.1))])
  (fun k=>[(3,.box [.d (.lst (k.2.sec.map encB)),.d (.lst (k.2.ca.map encW))] false),(6,.box [.nil,.nil] false)])
  (fun k=>k.1<=l.length/\ ((k.1:Int) <=most\/k.1=0) /\k.2=(l.take k.1).foldl zEj d) (fun k=>l.length-k.1) (0,d) ⟨by omega,.inr rfl,rfl⟩ (le0 (zAb ⟨rfl,rfl,rfl,rfl,rfl,trivial⟩ ⟨rfl,rfl,trivial⟩ ⟨rfl,rfl,rfl,rfl⟩)) ?_
 rintro ⟨k,e⟩ ⟨hk,hc,he⟩;simp only at hk hc he⊢
 have tk:∀ j,most.toNat=j->(l.take j).foldl zEj d=runM d l most:=fun j h=>by rw [runM,h]
 conv=>whnf
 refine bcase_p (fun h5=>?_) (fun h5=>?_)<;>conv=>whnf
 rotate_left
 ·refine aA ?_
  have:e=runM d l most:=by
   rw [he,runM]
   rcases hc with h|h
   ·rw [List.take_of_length_le (by omega),List.take_of_length_le (by omega)]
   ·have:l=[]:=List.length_eq_zero_iff.1 (by omega);subst this;simp
  rw [<-this];exact ret_of rfl rfl
 have hk2:k<l.length:=by omega
 have en:∀ x,zEj e l[k]=x->(l.take (k+1)).foldl zEj d=x:=fun x hx=>by rw [zAs hk2,List.foldl_append,<-he];exact hx
 refine bcase_p (fun h6=>?_) (fun h6=>?_)<;>conv=>whnf
 rotate_left
 ·refine aA ?_
  have:e=runM d l most:=by
   rcases hc with h|h
   ·rw [he];exact tk k (by omega)
   ·subst h;rw [he];exact tk 0 (by omega)
  rw [<-this];exact ret_of rfl rfl
 refine aA ?_;refine zAd (by omega) (w0 ?_);refine zAc (x:=encJ l[k]) (by simp [hk2]) (aW ?_);refine aA ?_;refine zAd (by omega) (w0 ?_);refine zAc (x:=encJ l[k]) (by simp [hk2]) (aW ?_);refine aA ?_
 refine zAe (fun h7=>?_) (fun h7=>?_)<;>conv=>whnf
 ·refine aA ?_;refine zAa (zRw e) (aW ?_)
  refine zAe (fun h8=>?_) (fun h8=>?_)<;>conv=>whnf
  ·have hR:DR e:=zQz.1 h8;refine aA ?_;refine zAa (yPp e hR) (aW ?_)
   have hs:zEj e l[k]=⟨wrS e.sec e.ca,[]⟩:=by rw [zEj,if_pos h7,zXg,if_pos hR]
   exact ⟨(k+1,⟨wrS e.sec e.ca,[]⟩),⟨by simp only [];omega,.inl (by simp only [];omega),(en _ hs).symm⟩,by simp only [];omega,(le0 (zAb ⟨rfl,rfl,rfl,rfl,rfl,trivial⟩ ⟨rfl,rfl,trivial⟩ ⟨rfl,rfl,rfl,rfl⟩))⟩
  ·have hR:¬DR e:=zJt.1 h8;refine aA ?_
   have hs:zEj e l[k]=e:=by rw [zEj,if_pos h7,zXg,if_neg hR]
   exact ⟨(k+1,e),⟨by simp only [];omega,.inl (by simp only [];omega),(en _ hs).symm⟩,by simp only [];omega,(le0 (zAb ⟨rfl,rfl,rfl,rfl,rfl,trivial⟩ ⟨rfl,rfl,trivial⟩ ⟨rfl,rfl,rfl,rfl⟩))⟩
 have h7':l[k].1≠true:=by rw [h7];decide
 have bad:¬(DR e/\okW e.sec.length l[k].2=true/\e.ca.length<200)->(l.take (k+1)).foldl zEj d=e:=fun g=>en e (yQb h7' g)
 have m1:(e.sec.map encB).length=e.sec.length:=List.length_map ..
 have m2:(e.ca.map encW).length=e.ca.length:=List.length_map ..
 refine aA ?_;refine zAa (zRw e) (aW ?_)
 refine zAe (fun h8=>?_) (fun h8=>?_)<;>conv=>whnf
 rotate_left
 ·refine aA ?_;exact ⟨(k+1,e),⟨by simp only [];omega,.inl (by simp only [];omega),(bad (fun g=>zJt.1 h8 g.1)).symm⟩,by simp only [];omega,(le0 (zAb ⟨rfl,rfl,rfl,rfl,rfl,trivial⟩ ⟨rfl,rfl,trivial⟩ ⟨rfl,rfl,rfl,rfl⟩))⟩
 have hR:DR e:=zQz.1 h8;refine aA ?_
 refine bcase_p (fun g1=>?_) (fun g1=>?_)<;>conv=>whnf
 rotate_left
 ·refine aA ?_;exact ⟨(k+1,e),⟨by simp only [];omega,.inl (by simp only [];omega),(bad (fun g=>g1 (zDt.1 g.2.1).1)).symm⟩,by simp only [];omega,(le0 (zAb ⟨rfl,rfl,rfl,rfl,rfl,trivial⟩ ⟨rfl,rfl,trivial⟩ ⟨rfl,rfl,rfl,rfl⟩))⟩
 refine aA ?_
 refine bcase_p (fun g2=>?_) (fun g2=>?_)<;>conv=>whnf
 rotate_left
 ·refine aA ?_;exact ⟨(k+1,e),⟨by simp only [];omega,.inl (by simp only [];omega),(bad (fun g=>g2 (by rw [m1];exact (zDt.1 g.2.1).2.1))).symm⟩,by simp only [];omega,(le0 (zAb ⟨rfl,rfl,rfl,rfl,rfl,trivial⟩ ⟨rfl,rfl,trivial⟩ ⟨rfl,rfl,rfl,rfl⟩))⟩
 refine aA ?_
 refine bcase_p (fun g3=>?_) (fun g3=>?_)<;>conv=>whnf
 rotate_left
 ·refine aA ?_;exact ⟨(k+1,e),⟨by simp only [];omega,.inl (by simp only [];omega),(bad (fun g=>g3 (by rw [(zDt.1 g.2.1).2.2];rfl))).symm⟩,by simp only [];omega,(le0 (zAb ⟨rfl,rfl,rfl,rfl,rfl,trivial⟩ ⟨rfl,rfl,trivial⟩ ⟨rfl,rfl,rfl,rfl⟩))⟩
 refine aA ?_
 refine bcase_p (fun g4=>?_) (fun g4=>?_)<;>conv=>whnf
 rotate_left
 ·refine aA ?_;exact ⟨(k+1,e),⟨by simp only [];omega,.inl (by simp only [];omega),(bad (fun g=>g4 (by rw [m2];omega))).symm⟩,by simp only [];omega,(le0 (zAb ⟨rfl,rfl,rfl,rfl,rfl,trivial⟩ ⟨rfl,rfl,trivial⟩ ⟨rfl,rfl,rfl,rfl⟩))⟩
 have hok:okW e.sec.length l[k].2=true:=zDt.2 ⟨g1,by rw [<-m1];exact g2,by omega⟩
 have hs:zEj e l[k]=⟨e.sec,e.ca++[l[k].2]⟩:=by
  rw [zEj,if_neg h7',putM,if_pos ⟨hR,hok⟩,if_neg (by omega)]
 refine aA ?_;refine zAh (yFr (fun _=>rfl) _) (aW ?_);refine zAj 1000 1000 (by simp;omega) (by decide) (by decide) (by decide) (aW ?_);refine zAj 1000 1000 (by show (e.ca.map encW).length+1<=1000;omega) (by decide) (by decide) (by decide) (aW ?_)
 exact ⟨(k+1,⟨e.sec,e.ca++[l[k].2]⟩),⟨by simp only [];omega,.inl (by simp only [];omega),(en _ hs).symm⟩,by simp only [];omega,
  len [.frz 65 ((e.ca++[l[k].2]).map encW) 2,.cd 3 1 65 ((e.ca++[l[k].2]).map encW) 2] ⟨⟨false,by rw [List.map_append];rfl⟩,⟨rfl,rfl,rfl⟩,trivial⟩ (zAb ⟨rfl,rfl,rfl,rfl,rfl,trivial⟩ ⟨rfl,rfl,trivial⟩ ⟨rfl,rfl,rfl,rfl⟩)⟩
abbrev Nst:=List ByteArray×(Nat->Pg)
def new0:Nst:=(List.replicate 35 zDp,fun _=>zP)
end Go.Lk
