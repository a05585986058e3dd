/-
  What is proved here: what functions of the program compute, and what follows; no condition beyond each theorem's own.
-/
import Derived.Test.YtaofmndhdmkgkaaGreatIAs
import Derived.Test.YtaofmndhdmkgkaaGreatIBc
set_option linter.unusedSimpArgs false
set_option linter.unusedVariables false
set_option linter.unnecessarySimpa false
set_option linter.unusedSectionVars false
namespace Go.Lk
open Go Go.Proofs Go.RowKit
theorem zTr {l:List (List D)} (hok:okRows 3 l=true) (hl:l.length<=1000000):zDp Tryz.prog 89 [.lst l] l 3:=by
 refine zBj Tryz.func89 1 rfl (by kernel_rfl) (w0 ?_);refine zDi (w0 ?_);intro r hr
 conv=>whnf
 refine zAf (fun h=>?_) (fun h=>?_)<;>conv=>whnf
 ·have:=hr h;exact ⟨2,rfl,.inr ⟨rfl,this⟩⟩
 ·refine aA ?_;refine zAg hok (w0 ?_);refine zAj 1000100 100 (by show 0+List.length _<=1000100;omega) (by decide) (by decide) (by decide) (w0 ?_);exact ⟨2,rfl,.inl ⟨5,rfl,rfl⟩⟩
theorem z6r {l:List (List D)} (hok:okRows 2 l=true) (hl:l.length<=1000000):zDp Tryz.prog 90 [.lst l] l 2:=by
 refine zBj Tryz.func90 1 rfl (by kernel_rfl) (w0 ?_);refine zDi (w0 ?_);intro r hr
 conv=>whnf
 refine zAf (fun h=>?_) (fun h=>?_)<;>conv=>whnf
 ·have:=hr h;exact ⟨2,rfl,.inr ⟨rfl,this⟩⟩
 ·refine aA ?_;refine zAg hok (w0 ?_);refine zAj 1000100 100 (by show 0+List.length _<=1000100;omega) (by decide) (by decide) (by decide) (w0 ?_);exact ⟨2,rfl,.inl ⟨5,rfl,rfl⟩⟩
theorem z6s {l:List (List D)} (hok:okRows 2 l=true) (hl:l.length<=1000000):zDp Tryz.prog 200 [.lst l] l 2:=by
 refine zBj Tryz.func200 1 rfl (by kernel_rfl) (w0 ?_);refine zDi (w0 ?_);intro r hr
 conv=>whnf
 refine zAf (fun h=>?_) (fun h=>?_)<;>conv=>whnf
 ·have:=hr h;exact ⟨2,rfl,.inr ⟨rfl,this⟩⟩
 ·refine aA ?_;refine zAg hok (w0 ?_);refine zAj 1000100 100 (by show 0+List.length _<=1000100;omega) (by decide) (by decide) (by decide) (w0 ?_);exact ⟨2,rfl,.inl ⟨5,rfl,rfl⟩⟩
theorem z2w {l:List (List D)} (hok:okRows 1 l=true) (hl:l.length<=1000000):zDp Tryz.prog 208 [.lst l] l 1:=by
 refine zBj Tryz.func208 1 rfl (by kernel_rfl) (w0 ?_);refine zDi (w0 ?_);intro r hr
 conv=>whnf
 refine zAf (fun h=>?_) (fun h=>?_)<;>conv=>whnf
 ·have:=hr h;exact ⟨2,rfl,.inr ⟨rfl,this⟩⟩
 ·refine aA ?_;refine zAg hok (w0 ?_);refine zAj 1000100 100 (by show 0+List.length _<=1000100;omega) (by decide) (by decide) (by decide) (w0 ?_);exact ⟨2,rfl,.inl ⟨5,rfl,rfl⟩⟩
theorem yHa {l:List (List D)} (hok:okRows 3 l=true) (hl:l.length<=1000000):zDp Tryz.prog 218 [.lst l] l 3:=by
 refine zBj Tryz.func218 1 rfl (by kernel_rfl) (w0 ?_);refine zDi (w0 ?_);intro r hr
 conv=>whnf
 refine zAf (fun h=>?_) (fun h=>?_)<;>conv=>whnf
 ·have:=hr h;exact ⟨2,rfl,.inr ⟨rfl,this⟩⟩
 ·refine aA ?_;refine zAg hok (w0 ?_);refine zAj 1000100 100 (by show 0+List.length _<=1000100;omega) (by decide) (by decide) (by decide) (w0 ?_);exact ⟨2,rfl,.inl ⟨5,rfl,rfl⟩⟩
theorem ySo {l:List (List D)} (hok:okRows 4 l=true) (hl:l.length<=1000000):zDp Tryz.prog 219 [.lst l] l 4:=by
 refine zBj Tryz.func219 1 rfl (by kernel_rfl) (w0 ?_);refine zDi (w0 ?_);intro r hr
 conv=>whnf
 refine zAf (fun h=>?_) (fun h=>?_)<;>conv=>whnf
 ·have:=hr h;exact ⟨2,rfl,.inr ⟨rfl,this⟩⟩
 ·refine aA ?_;refine zAg hok (w0 ?_);refine zAj 1000100 100 (by show 0+List.length _<=1000100;omega) (by decide) (by decide) (by decide) (w0 ?_);exact ⟨2,rfl,.inl ⟨5,rfl,rfl⟩⟩
theorem yH {l:List (List D)} (hok:okRows 1 l=true) (hl:l.length<=1000000):zDp Tryz.prog 151 [.lst l] l 1:=by
 refine zBj Tryz.func151 1 rfl (by kernel_rfl) (w0 ?_);refine zDi (w0 ?_);intro r hr
 conv=>whnf
 refine zAf (fun h=>?_) (fun h=>?_)<;>conv=>whnf
 ·have:=hr h;exact ⟨2,rfl,.inr ⟨rfl,this⟩⟩
 ·refine aA ?_;refine zAg hok (w0 ?_);refine zAj 1000100 100 (by show 0+List.length _<=1000100;omega) (by decide) (by decide) (by decide) (w0 ?_);exact ⟨2,rfl,.inl ⟨5,rfl,rfl⟩⟩
theorem z6q {l:List (List D)} (hok:okRows 5 l=true) (hl:l.length<=1000000):zDp Tryz.prog 152 [.lst l] l 5:=by
 refine zBj Tryz.func152 1 rfl (by kernel_rfl) (w0 ?_);refine zDi (w0 ?_);intro r hr
 conv=>whnf
 refine zAf (fun h=>?_) (fun h=>?_)<;>conv=>whnf
 ·have:=hr h;exact ⟨2,rfl,.inr ⟨rfl,this⟩⟩
 ·refine aA ?_;refine zAg hok (w0 ?_);refine zAj 1000100 100 (by show 0+List.length _<=1000100;omega) (by decide) (by decide) (by decide) (w0 ?_);exact ⟨2,rfl,.inl ⟨5,rfl,rfl⟩⟩
theorem ySn {l:List (List D)} (hok:okRows 3 l=true) (hl:l.length<=1000000):zDp Tryz.prog 72 [.lst l] l 3:=by
 refine zBj Tryz.func72 1 rfl (by kernel_rfl) (w0 ?_);refine zDi (w0 ?_);intro r hr
 conv=>whnf
 refine zAf (fun h=>?_) (fun h=>?_)<;>conv=>whnf
 ·have:=hr h;exact ⟨2,rfl,.inr ⟨rfl,this⟩⟩
 ·refine aA ?_;refine zAg hok (w0 ?_);refine zAj 1000100 100 (by show 0+List.length _<=1000100;omega) (by decide) (by decide) (by decide) (w0 ?_);exact ⟨2,rfl,.inl ⟨5,rfl,rfl⟩⟩
structure DelI {α:Type} (enc:α->List D) (p:α->Bool) (sz:Nat) (l:List α) (F:List (List D)) (s:Nat×List (List D)):Prop where
 le:s.1<=l.length
 len:s.2.length=F.length
 fst:s.2.take ((l.take s.1).filter fun x=>!p x).length=((l.take s.1).filter fun x=>!p x).map enc
 rst:s.2.drop s.1=F.drop s.1
 lt:((l.take s.1).filter fun x=>!p x).length<s.1
 sz:∀ e∈s.2,e.length=sz
theorem zCt {α:Type} {p:α->Bool} {l:List α} {k:Nat} (hk:k<l.length) (h:p l[k]=true):(l.take (k+1)).filter (fun x=>!p x)=(l.take k).filter fun x=>!p x:=by
 rw [zAs hk,List.filter_append,List.filter_cons,h];simp
theorem zCx {α:Type} {p:α->Bool} {l:List α} {k:Nat} (hk:k<l.length) (h:p l[k]=false):(l.take (k+1)).filter (fun x=>!p x)=(l.take k).filter (fun x=>!p x)++[l[k]]:=by
 rw [zAs hk,List.filter_append,List.filter_cons,h];simp
theorem DelI.skip {α:Type} {enc:α->List D} {p:α->Bool} {sz:Nat} {l:List α} {F R:List (List D)} {j:Nat} (h:DelI enc p sz l F (j,R)) (hj:j<l.length) (hp:p l[j]=true):DelI enc p sz l F (j+1,R):=by
 obtain ⟨h1,h2,h3,h4,h5,h6⟩:=h;simp only [] at h1 h2 h3 h4 h5 h6;refine ⟨hj,h2,?_,?_,?_,h6⟩
 ·simp only [];rw [zCt hj hp];exact h3
 ·simp only [];rw [<-List.drop_drop,h4,List.drop_drop]
 ·simp only [];rw [zCt hj hp];omega
theorem DelI.put {α:Type} {enc:α->List D} {p:α->Bool} {sz:Nat} {l:List α} {F R:List (List D)} {j:Nat} (h:DelI enc p sz l F (j,R)) (hj:j<l.length) (hF:l.length<=F.length) (hp:p l[j]=false) (he:∀ x,(enc x).length=sz):
  DelI enc p sz l F (j+1,R.set ((l.take j).filter fun x=>!p x).length (enc l[j])):=by
 obtain ⟨h1,h2,h3,h4,h5,h6⟩:=h;simp only [] at h1 h2 h3 h4 h5 h6;refine ⟨hj,by simp only [];rw [List.length_set];exact h2,?_,?_,?_,?_⟩
 ·simp only [];rw [zCx hj hp,List.length_append,List.length_singleton,List.map_append,<-h3]
  have hi:((l.take j).filter fun x=>!p x).length<(R.set ((l.take j).filter fun x=>!p x).length (enc l[j])).length:=by rw [List.length_set];omega
  rw [zAs hi,List.getElem_set_self,List.take_set_of_le (Nat.le_refl _)];rfl
 ·simp only [];rw [List.drop_set_of_lt (by omega),<-List.drop_drop,h4,List.drop_drop]
 ·simp only []
  rw [zCx hj hp,List.length_append,List.length_singleton];omega
 ·intro e hm;simp only [] at hm
  rcases List.mem_or_eq_of_mem_set hm with g|rfl
  ·exact h6 e g
  ·exact he _
theorem DelI.get {α:Type} {enc:α->List D} {p:α->Bool} {sz:Nat} {l:List α} {R:List (List D)} {j n:Nat} {u:List D} (h:DelI enc p sz l (l.map enc++List.replicate n u) (j,R)) (hj:j<l.length):R[j]?=some (enc l[j]):=by
 have h4:=h.rst;simp only [] at h4;have:=congrArg (fun x=>x[0]?) h4;simp only [List.getElem?_drop,Nat.add_zero] at this
 rw [this,List.getElem?_append_left (by rw [List.length_map];exact hj),List.getElem?_map,List.getElem?_eq_getElem hj];rfl
theorem DelI.init {α:Type} {enc:α->List D} {p:α->Bool} {sz:Nat} {l:List α} {n:Nat} {i:Nat} (hi:i<l.length) (hn:∀ j (hj:j<i),p (l[j]'(by omega))=false) (hp:p l[i]=true) (he:∀ x,(enc x).length=sz):
  DelI enc p sz l (l.map enc++List.replicate n (List.replicate sz D.unk)) (i+1,l.map enc++List.replicate n (List.replicate sz D.unk)) /\ ((l.take (i+1)).filter fun x=>!p x).length=i:=by
 have e:(l.take (i+1)).filter (fun x=>!p x)=l.take i:=by
  rw [zCt hi hp,List.filter_eq_self.2];intro a ha;obtain ⟨j,hj,rfl⟩:=List.mem_iff_getElem.1 ha
  rw [List.getElem_take,hn j (by rw [List.length_take] at hj;omega)];rfl
 have el:(l.take i).length=i:=by rw [List.length_take];omega
 refine ⟨⟨hi,rfl,?_,rfl,?_,?_⟩,by rw [e,el]⟩
 ·simp only [];rw [e,el,List.take_append_of_le_length (by rw [List.length_map];omega),List.map_take]
 ·simp only [];rw [e,el];omega
 ·intro x hx;simp only [] at hx
  rcases List.mem_append.1 hx with g|g
  ·obtain ⟨y,_,rfl⟩:=List.mem_map.1 g;exact he y
  ·rw [(List.mem_replicate.1 g).2,List.length_replicate]
theorem zKw {α:Type} {p:α->Bool}:∀ {l:List α} {k i:Nat},ixF p l k=((k+i:Nat):Int)->∃ hi:i<l.length,p l[i]=true/\ ∀ j (hj:j<i),p (l[j]'(by omega))=false
 | [],k,i,h=>by rw [ixF] at h;omega
 |x::r,k,i,h=>by
  rw [ixF] at h
  split at h
  ·rename_i e
   have:i=0:=by omega
   subst this;exact ⟨Nat.zero_lt_succ _,e,fun j hj=>absurd hj (Nat.not_lt_zero _)⟩
  ·rename_i e
   cases i with
   |zero=>
    exfalso
    by_cases g:0<=ixF p r (k+1)
    ·obtain ⟨j,_,e2,_⟩:=zMy (k:=k+1) (List.any_eq_true.1 ((yBf p r (k+1)).1 g));omega
    ·omega
   |succ i=>
    obtain ⟨hi,h1,h2⟩:=zKw (l:=r) (k:=k+1) (i:=i) (by rw [h];omega);refine ⟨Nat.succ_lt_succ hi,h1,fun j hj=>?_⟩
    cases j with
    |zero=>simpa using e
    |succ j=>exact h2 j (by omega)
theorem yBg {α:Type} {p:α->Bool} {l:List α} {k:Nat} (h:ixF p l k=-1):∀ x∈l,p x=false:=by
 intro x hx
 cases e:p x with
 |false=>rfl
 |true=>
  obtain ⟨i,_,e2,_⟩:=zMy (k:=k) ⟨x,hx,e⟩;omega
theorem zOj {α:Type} (p:α->Bool) (l:List α):ixF p l 0=-1\/ ∃ i:Nat,ixF p l 0=(i:Int):=by
 by_cases h:∃ x∈l,p x=true
 ·obtain ⟨i,_,e,_⟩:=zMy (k:=0) h;exact .inr ⟨0+i,e⟩
 ·left
  refine zOk fun x hx=>?_
  cases e:p x with
  |false=>rfl
  |true=>exact absurd ⟨x,hx,e⟩ h
theorem zJr {R:List (List D)} {j sz:Nat} {e v:List D} (h1:e.length=sz) (h2:v.length=sz):R.set (0+j) (zAx e 0 v)=R.set j v:=by
 rw [zMa (by omega) (by omega),Nat.zero_add]
theorem ixClW (g:FuncId) (cs:List D) (p:Nat×Bool->Bool) (hg:∀ c:Nat×Bool,zAi Tryz.prog g (.agg (zB c)::cs) (.bool (p c))) (l:List (Nat×Bool)) (R:List (List D)) (c:Nat) (hl:l.length<=1000000) (hRl:R.take l.length=l.map zB):
  zBa Tryz.prog 254 [.win 1000000 0 l.length (some c),.d (.fn g cs)] [(1000000,.row R 3 false)] [(1000000,.row R 3 false)] (.int .i64 (ixF p l 0)):=by
 refine zAr Tryz.func254 2 rfl (by kernel_rfl) (by rfl) (w0 ?_);refine zAq (ι:=Nat) (fun k=>[(0,.win 1000000 0 l.length (some c)),(1,.d (.fn g cs)),(7,.d (.int .i64 l.length)),(8,.d (.int .i64 k))]) (fun _=>[(1000000,.row R 3 false)])
  (fun k=>k<=l.length/\ixF p (l.drop k) k=ixF p l 0) (fun k=>l.length-k) 0 ⟨Nat.zero_le _,rfl⟩ (le0 (zAb ⟨rfl,rfl,rfl,rfl,trivial⟩ ⟨rfl,trivial⟩ ⟨rfl,rfl,rfl,rfl⟩)) ?_
 rintro k ⟨hk,hR⟩
 conv=>whnf
 refine bcase_p (fun h=>?_) (fun h=>?_)<;>conv=>whnf
 ·have hk2:k<l.length:=by omega
  have hg0:R[0+k]?=some (zB l[k]):=by
   rw [Nat.zero_add]
   have:(R.take l.length)[k]?=some (zB l[k]):=by rw [hRl,List.getElem?_map,List.getElem?_eq_getElem hk2];rfl
   rwa [List.getElem?_take_of_lt hk2] at this
  refine aO ?_;refine zAd (by omega) (w0 ?_);refine zAc hg0 (aW ?_);rw [zBf hk2,ixF] at hR;refine zAa (hg l[k]) (w0 ?_)
  refine zAf (fun h2=>?_) (fun h2=>?_)<;>conv=>whnf
  ·rw [if_pos h2] at hR;exact zAh rfl (by rw [<-hR];rfl) rfl ⟨rfl,trivial⟩
  ·rw [if_neg (by rw [h2];decide)] at hR;refine aA ?_;exact ⟨k+1,⟨by omega,hR⟩,by omega,(le0 (zAb ⟨rfl,rfl,rfl,rfl,trivial⟩ ⟨rfl,trivial⟩ ⟨rfl,rfl,rfl,rfl⟩))⟩
 ·have:k=l.length:=by omega
  subst this;simp [ixF] at hR;exact zAh rfl (by rw [<-hR];rfl) rfl ⟨rfl,trivial⟩
theorem delCl (g:FuncId) (cs:List D) (p:Nat×Bool->Bool) (hg:∀ c:Nat×Bool,zAi Tryz.prog g (.agg (zB c)::cs) (.bool (p c))) (l:List (Nat×Bool)) (hl:l.length<=1000000):zWo Tryz.prog 212 (l.map zB) 3 [.d (.fn g cs)] [] [] ((l.filter fun x=>!p x).map zB):=by
 refine zJs Tryz.func212 2 rfl (by kernel_rfl) (by rfl) ?_;refine ⟨fun cap hcap=>?_,fun h0=>?_⟩
 ·have hm:(l.map zB).length=l.length:=List.length_map ..
  rw [hm] at hcap⊢;obtain ⟨F,hF⟩:∃ F,F=l.map zB++List.replicate (cap-l.length) (List.replicate 3 D.unk):=⟨_,rfl⟩
  have hFl:F.length=cap:=by rw [hF];simp;omega
  have hFt:F.take l.length=l.map zB:=by rw [hF];exact List.take_left' hm
  rw [<-hF]
  conv=>whnf
  refine zAl (ixClW g cs p hg l F cap hl hFt) [(1000000,1000004)] rfl ⟨rfl,trivial⟩ rfl (w0 ?_)
  rcases zOj p l with e|⟨i,e⟩
  ·rw [e];refine aO ?_;refine zCs rfl rfl rfl (by omega) ?_ rfl trivial;rw [hFt,List.filter_eq_self.2];intro x hx
   rw [yBg e x hx];rfl
  ·rw [e];obtain ⟨hi,hp,hb⟩:=zKw (i:=i) (k:=0) (by rw [e];congr 1;omega);obtain ⟨hD,hDl⟩:=DelI.init (enc:=zB) (sz:=3) (n:=cap-l.length) hi hb hp (fun _=>rfl);rw [<-hF] at hD;refine aO ?_;refine zAq (ι:=Nat×List (List D)) (fun s=>[(0,.win 1000004 0 l.length (some cap)),(1,.d (.fn g cs)),(5,.d (.int .i64 ((l.take s.1).filter fun x=>!p x).length)),(6,.d (.int .i64 s.1))]) (fun s=>[(1000004,.row s.2 3 false)])
    (DelI zB p 3 l F) (fun s=>l.length-s.1) (i+1,F) hD (le0 (zAb ⟨rfl,rfl,by rw [hDl];rfl,rfl,trivial⟩ ⟨rfl,trivial⟩ ⟨rfl,rfl,rfl,rfl⟩)) ?_
   rintro ⟨j,R⟩ hI;have q1:=hI.le;have q2:=hI.len;have q3:=hI.fst;have q5:=hI.lt;simp only [] at q1 q2 q3 q5⊢
   conv=>whnf
   refine bcase_p (fun h5=>?_) (fun h5=>?_)<;>conv=>whnf
   ·have hj:j<l.length:=by omega
    have hq:R[0+j]?=some (zB l[j]):=by rw [Nat.zero_add];rw [hF] at hI;exact hI.get hj
    refine zAd (by omega) (w0 ?_);refine zAc hq (aO ?_);refine zAa (hg l[j]) (w0 ?_)
    cases h2:p l[j] with
    |true=>
     refine aO ?_;exact ⟨(j+1,R),hI.skip hj h2,by dsimp only;omega,le0 (zAb ⟨rfl,rfl,by rw [zCt hj h2];rfl,rfl,trivial⟩ ⟨rfl,trivial⟩ ⟨rfl,rfl,rfl,rfl⟩)⟩
    |false=>
     have hi3:((l.take j).filter fun x=>!p x).length<R.length:=by omega
     have hi4:((l.take j).filter fun x=>!p x).length<l.length:=by omega
     have hsz:=hI.sz _ (List.getElem_mem hi3);have hJ:=hI.put hj (by omega) h2 (fun _=>rfl);have es:=zJr (R:=R) (j:=((l.take j).filter fun x=>!p x).length) (e:=R[((l.take j).filter fun x=>!p x).length]) (v:=zB l[j]) hsz rfl;rw [<-es] at hJ
     have eN:((l.take (j+1)).filter fun x=>!p x).length=((l.take j).filter fun x=>!p x).length+1:=by rw [zCx hj h2,List.length_append];rfl
     refine aO ?_;refine zAd (by omega) (w0 ?_);refine zAc (x:=R[((l.take j).filter fun x=>!p x).length]) (by rw [Nat.zero_add,List.getElem?_eq_getElem hi3]) (w0 ?_);refine zDl (by rw [hsz];rfl) (aO ?_);refine ⟨(j+1,_),hJ,by dsimp only;omega,le0 (zAb ⟨rfl,rfl,by rw [eN];rfl,rfl,trivial⟩ ⟨rfl,trivial⟩ ⟨rfl,rfl,rfl,rfl⟩)⟩
   ·have hjl:j=l.length:=by omega
    subst hjl;rw [List.take_length] at q3 q5⊢;refine aO ?_;refine zCv (by omega) (by show l.length<=cap;omega) (w0 ?_)
    have hfl:(l.filter fun x=>!p x).length<=l.length:=List.length_filter_le ..
    refine zAg ⟨by omega,rfl⟩ (aO ?_);refine zHi (by show _<=cap;omega) (w0 ?_);refine zCs rfl rfl rfl ?_ ?_ rfl trivial
    ·simp;omega
    ·rw [Nat.zero_add,<-q3];exact List.take_left' (by rw [List.length_take];omega)
 ·have:l=[]:=List.map_eq_nil_iff.1 h0;subst this
  conv=>whnf
  refine zAa (yIw g cs p hg [] (by simp)) (aO ?_);exact zTh rfl rfl rfl trivial
theorem ixTkW (g:FuncId) (cs:List D) (p:Nat->Bool) (hg:∀ c:Nat,zAi Tryz.prog g (.agg (zCk c)::cs) (.bool (p c))) (l:List (Nat)) (R:List (List D)) (c:Nat) (hl:l.length<=1000000) (hRl:R.take l.length=l.map zCk):
  zBa Tryz.prog 256 [.win 1000000 0 l.length (some c),.d (.fn g cs)] [(1000000,.row R 2 false)] [(1000000,.row R 2 false)] (.int .i64 (ixF p l 0)):=by
 refine zAr Tryz.func256 2 rfl (by kernel_rfl) (by rfl) (w0 ?_);refine zAq (ι:=Nat) (fun k=>[(0,.win 1000000 0 l.length (some c)),(1,.d (.fn g cs)),(7,.d (.int .i64 l.length)),(8,.d (.int .i64 k))]) (fun _=>[(1000000,.row R 2 false)])
  (fun k=>k<=l.length/\ixF p (l.drop k) k=ixF p l 0) (fun k=>l.length-k) 0 ⟨Nat.zero_le _,rfl⟩ (le0 (zAb ⟨rfl,rfl,rfl,rfl,trivial⟩ ⟨rfl,trivial⟩ ⟨rfl,rfl,rfl,rfl⟩)) ?_
 rintro k ⟨hk,hR⟩
 conv=>whnf
 refine bcase_p (fun h=>?_) (fun h=>?_)<;>conv=>whnf
 ·have hk2:k<l.length:=by omega
  have hg0:R[0+k]?=some (zCk l[k]):=by
   rw [Nat.zero_add]
   have:(R.take l.length)[k]?=some (zCk l[k]):=by rw [hRl,List.getElem?_map,List.getElem?_eq_getElem hk2];rfl
   rwa [List.getElem?_take_of_lt hk2] at this
  refine aO ?_;refine zAd (by omega) (w0 ?_);refine zAc hg0 (aW ?_);rw [zBf hk2,ixF] at hR;refine zAa (hg l[k]) (w0 ?_)
  refine zAf (fun h2=>?_) (fun h2=>?_)<;>conv=>whnf
  ·rw [if_pos h2] at hR;exact zAh rfl (by rw [<-hR];rfl) rfl ⟨rfl,trivial⟩
  ·rw [if_neg (by rw [h2];decide)] at hR;refine aA ?_;exact ⟨k+1,⟨by omega,hR⟩,by omega,(le0 (zAb ⟨rfl,rfl,rfl,rfl,trivial⟩ ⟨rfl,trivial⟩ ⟨rfl,rfl,rfl,rfl⟩))⟩
 ·have:k=l.length:=by omega
  subst this;simp [ixF] at hR;exact zAh rfl (by rw [<-hR];rfl) rfl ⟨rfl,trivial⟩
theorem delTk (g:FuncId) (cs:List D) (p:Nat->Bool) (hg:∀ c:Nat,zAi Tryz.prog g (.agg (zCk c)::cs) (.bool (p c))) (l:List (Nat)) (hl:l.length<=1000000):zWo Tryz.prog 214 (l.map zCk) 2 [.d (.fn g cs)] [] [] ((l.filter fun x=>!p x).map zCk):=by
 refine zJs Tryz.func214 2 rfl (by kernel_rfl) (by rfl) ?_;refine ⟨fun cap hcap=>?_,fun h0=>?_⟩
 ·have hm:(l.map zCk).length=l.length:=List.length_map ..
  rw [hm] at hcap⊢;obtain ⟨F,hF⟩:∃ F,F=l.map zCk++List.replicate (cap-l.length) (List.replicate 2 D.unk):=⟨_,rfl⟩
  have hFl:F.length=cap:=by rw [hF];simp;omega
  have hFt:F.take l.length=l.map zCk:=by rw [hF];exact List.take_left' hm
  rw [<-hF]
  conv=>whnf
  refine zAl (ixTkW g cs p hg l F cap hl hFt) [(1000000,1000004)] rfl ⟨rfl,trivial⟩ rfl (w0 ?_)
  rcases zOj p l with e|⟨i,e⟩
  ·rw [e];refine aO ?_;refine zCs rfl rfl rfl (by omega) ?_ rfl trivial;rw [hFt,List.filter_eq_self.2];intro x hx
   rw [yBg e x hx];rfl
  ·rw [e];obtain ⟨hi,hp,hb⟩:=zKw (i:=i) (k:=0) (by rw [e];congr 1;omega);obtain ⟨hD,hDl⟩:=DelI.init (enc:=zCk) (sz:=2) (n:=cap-l.length) hi hb hp (fun _=>rfl);rw [<-hF] at hD;refine aO ?_;refine zAq (ι:=Nat×List (List D)) (fun s=>[(0,.win 1000004 0 l.length (some cap)),(1,.d (.fn g cs)),(5,.d (.int .i64 ((l.take s.1).filter fun x=>!p x).length)),(6,.d (.int .i64 s.1))]) (fun s=>[(1000004,.row s.2 2 false)])
    (DelI zCk p 2 l F) (fun s=>l.length-s.1) (i+1,F) hD (le0 (zAb ⟨rfl,rfl,by rw [hDl];rfl,rfl,trivial⟩ ⟨rfl,trivial⟩ ⟨rfl,rfl,rfl,rfl⟩)) ?_
   rintro ⟨j,R⟩ hI;have q1:=hI.le;have q2:=hI.len;have q3:=hI.fst;have q5:=hI.lt;simp only [] at q1 q2 q3 q5⊢
   conv=>whnf
   refine bcase_p (fun h5=>?_) (fun h5=>?_)<;>conv=>whnf
   ·have hj:j<l.length:=by omega
    have hq:R[0+j]?=some (zCk l[j]):=by rw [Nat.zero_add];rw [hF] at hI;exact hI.get hj
    refine zAd (by omega) (w0 ?_);refine zAc hq (aO ?_);refine zAa (hg l[j]) (w0 ?_)
    cases h2:p l[j] with
    |true=>
     refine aO ?_;exact ⟨(j+1,R),hI.skip hj h2,by dsimp only;omega,le0 (zAb ⟨rfl,rfl,by rw [zCt hj h2];rfl,rfl,trivial⟩ ⟨rfl,trivial⟩ ⟨rfl,rfl,rfl,rfl⟩)⟩
    |false=>
     have hi3:((l.take j).filter fun x=>!p x).length<R.length:=by omega
     have hi4:((l.take j).filter fun x=>!p x).length<l.length:=by omega
     have hsz:=hI.sz _ (List.getElem_mem hi3);have hJ:=hI.put hj (by omega) h2 (fun _=>rfl);have es:=zJr (R:=R) (j:=((l.take j).filter fun x=>!p x).length) (e:=R[((l.take j).filter fun x=>!p x).length]) (v:=zCk l[j]) hsz rfl;rw [<-es] at hJ
     have eN:((l.take (j+1)).filter fun x=>!p x).length=((l.take j).filter fun x=>!p x).length+1:=by rw [zCx hj h2,List.length_append];rfl
     refine aO ?_;refine zAd (by omega) (w0 ?_);refine zAc (x:=R[((l.take j).filter fun x=>!p x).length]) (by rw [Nat.zero_add,List.getElem?_eq_getElem hi3]) (w0 ?_);refine zDl (by rw [hsz];rfl) (aO ?_);refine ⟨(j+1,_),hJ,by dsimp only;omega,le0 (zAb ⟨rfl,rfl,by rw [eN];rfl,rfl,trivial⟩ ⟨rfl,trivial⟩ ⟨rfl,rfl,rfl,rfl⟩)⟩
   ·have hjl:j=l.length:=by omega
    subst hjl;rw [List.take_length] at q3 q5⊢;refine aO ?_;refine zCv (by omega) (by show l.length<=cap;omega) (w0 ?_)
    have hfl:(l.filter fun x=>!p x).length<=l.length:=List.length_filter_le ..
    refine zAg ⟨by omega,rfl⟩ (aO ?_);refine zHi (by show _<=cap;omega) (w0 ?_);refine zCs rfl rfl rfl ?_ ?_ rfl trivial
    ·simp;omega
    ·rw [Nat.zero_add,<-q3];exact List.take_left' (by rw [List.length_take];omega)
 ·have:l=[]:=List.map_eq_nil_iff.1 h0;subst this
  conv=>whnf
  refine zAa (yIx g cs p hg [] (by simp)) (aO ?_);exact zTh rfl rfl rfl trivial
theorem ixNW (g:FuncId) (cs:List D) (p:Nat->Bool) (hg:∀ c:Nat,zAi Tryz.prog g (.int .i64 c::cs) (.bool (p c))) (l:List (Nat)) (R:List (List D)) (c:Nat) (hl:l.length<=1000000) (hRl:R.take l.length=l.map encN):
  zBa Tryz.prog 265 [.win 1000000 0 l.length (some c),.d (.fn g cs)] [(1000000,.row R 1 false)] [(1000000,.row R 1 false)] (.int .i64 (ixF p l 0)):=by
 refine zAr Tryz.func265 2 rfl (by kernel_rfl) (by rfl) (w0 ?_);refine zAq (ι:=Nat) (fun k=>[(0,.win 1000000 0 l.length (some c)),(1,.d (.fn g cs)),(7,.d (.int .i64 l.length)),(8,.d (.int .i64 k))]) (fun _=>[(1000000,.row R 1 false)])
  (fun k=>k<=l.length/\ixF p (l.drop k) k=ixF p l 0) (fun k=>l.length-k) 0 ⟨Nat.zero_le _,rfl⟩ (le0 (zAb ⟨rfl,rfl,rfl,rfl,trivial⟩ ⟨rfl,trivial⟩ ⟨rfl,rfl,rfl,rfl⟩)) ?_
 rintro k ⟨hk,hR⟩
 conv=>whnf
 refine bcase_p (fun h=>?_) (fun h=>?_)<;>conv=>whnf
 ·have hk2:k<l.length:=by omega
  have hg0:R[0+k]?=some (encN l[k]):=by
   rw [Nat.zero_add]
   have:(R.take l.length)[k]?=some (encN l[k]):=by rw [hRl,List.getElem?_map,List.getElem?_eq_getElem hk2];rfl
   rwa [List.getElem?_take_of_lt hk2] at this
  refine aO ?_;refine zAd (by omega) (w0 ?_);refine zAc hg0 (aW ?_);rw [zBf hk2,ixF] at hR;refine zAa (hg l[k]) (w0 ?_)
  refine zAf (fun h2=>?_) (fun h2=>?_)<;>conv=>whnf
  ·rw [if_pos h2] at hR;exact zAh rfl (by rw [<-hR];rfl) rfl ⟨rfl,trivial⟩
  ·rw [if_neg (by rw [h2];decide)] at hR;refine aA ?_;exact ⟨k+1,⟨by omega,hR⟩,by omega,(le0 (zAb ⟨rfl,rfl,rfl,rfl,trivial⟩ ⟨rfl,trivial⟩ ⟨rfl,rfl,rfl,rfl⟩))⟩
 ·have:k=l.length:=by omega
  subst this;simp [ixF] at hR;exact zAh rfl (by rw [<-hR];rfl) rfl ⟨rfl,trivial⟩
theorem delN (g:FuncId) (cs:List D) (p:Nat->Bool) (hg:∀ c:Nat,zAi Tryz.prog g (.int .i64 c::cs) (.bool (p c))) (l:List (Nat)) (hl:l.length<=1000000):zWo Tryz.prog 207 (l.map encN) 1 [.d (.fn g cs)] [] [] ((l.filter fun x=>!p x).map encN):=by
 refine zJs Tryz.func207 2 rfl (by kernel_rfl) (by rfl) ?_;refine ⟨fun cap hcap=>?_,fun h0=>?_⟩
 ·have hm:(l.map encN).length=l.length:=List.length_map ..
  rw [hm] at hcap⊢;obtain ⟨F,hF⟩:∃ F,F=l.map encN++List.replicate (cap-l.length) (List.replicate 1 D.unk):=⟨_,rfl⟩
  have hFl:F.length=cap:=by rw [hF];simp;omega
  have hFt:F.take l.length=l.map encN:=by rw [hF];exact List.take_left' hm
  rw [<-hF]
  conv=>whnf
  refine zAl (ixNW g cs p hg l F cap hl hFt) [(1000000,1000004)] rfl ⟨rfl,trivial⟩ rfl (w0 ?_)
  rcases zOj p l with e|⟨i,e⟩
  ·rw [e];refine aO ?_;refine zCs rfl rfl rfl (by omega) ?_ rfl trivial;rw [hFt,List.filter_eq_self.2];intro x hx
   rw [yBg e x hx];rfl
  ·rw [e];obtain ⟨hi,hp,hb⟩:=zKw (i:=i) (k:=0) (by rw [e];congr 1;omega);obtain ⟨hD,hDl⟩:=DelI.init (enc:=encN) (sz:=1) (n:=cap-l.length) hi hb hp (fun _=>rfl);rw [<-hF] at hD;refine aO ?_;refine zAq (ι:=Nat×List (List D)) (fun s=>[(0,.win 1000004 0 l.length (some cap)),(1,.d (.fn g cs)),(5,.d (.int .i64 ((l.take s.1).filter fun x=>!p x).length)),(6,.d (.int .i64 s.1))]) (fun s=>[(1000004,.row s.2 1 false)])
    (DelI encN p 1 l F) (fun s=>l.length-s.1) (i+1,F) hD (le0 (zAb ⟨rfl,rfl,by rw [hDl];rfl,rfl,trivial⟩ ⟨rfl,trivial⟩ ⟨rfl,rfl,rfl,rfl⟩)) ?_
   rintro ⟨j,R⟩ hI;have q1:=hI.le;have q2:=hI.len;have q3:=hI.fst;have q5:=hI.lt;simp only [] at q1 q2 q3 q5⊢
   conv=>whnf
   refine bcase_p (fun h5=>?_) (fun h5=>?_)<;>conv=>whnf
   ·have hj:j<l.length:=by omega
    have hq:R[0+j]?=some (encN l[j]):=by rw [Nat.zero_add];rw [hF] at hI;exact hI.get hj
    refine zAd (by omega) (w0 ?_);refine zAc hq (aO ?_);refine zAa (hg l[j]) (w0 ?_)
    cases h2:p l[j] with
    |true=>
     refine aO ?_;exact ⟨(j+1,R),hI.skip hj h2,by dsimp only;omega,le0 (zAb ⟨rfl,rfl,by rw [zCt hj h2];rfl,rfl,trivial⟩ ⟨rfl,trivial⟩ ⟨rfl,rfl,rfl,rfl⟩)⟩
    |false=>
     have hi3:((l.take j).filter fun x=>!p x).length<R.length:=by omega
     have hi4:((l.take j).filter fun x=>!p x).length<l.length:=by omega
     have hsz:=hI.sz _ (List.getElem_mem hi3);have hJ:=hI.put hj (by omega) h2 (fun _=>rfl);have es:=zJr (R:=R) (j:=((l.take j).filter fun x=>!p x).length) (e:=R[((l.take j).filter fun x=>!p x).length]) (v:=encN l[j]) hsz rfl;rw [<-es] at hJ
     have eN:((l.take (j+1)).filter fun x=>!p x).length=((l.take j).filter fun x=>!p x).length+1:=by rw [zCx hj h2,List.length_append];rfl
     refine aO ?_;refine zAd (by omega) (w0 ?_);refine zAc (x:=R[((l.take j).filter fun x=>!p x).length]) (by rw [Nat.zero_add,List.getElem?_eq_getElem hi3]) (w0 ?_);refine zDl (by rw [hsz];rfl) (aO ?_);refine ⟨(j+1,_),hJ,by dsimp only;omega,le0 (zAb ⟨rfl,rfl,by rw [eN];rfl,rfl,trivial⟩ ⟨rfl,trivial⟩ ⟨rfl,rfl,rfl,rfl⟩)⟩
   ·have hjl:j=l.length:=by omega
    subst hjl;rw [List.take_length] at q3 q5⊢;refine aO ?_;refine zCv (by omega) (by show l.length<=cap;omega) (w0 ?_)
    have hfl:(l.filter fun x=>!p x).length<=l.length:=List.length_filter_le ..
    refine zAg ⟨by omega,rfl⟩ (aO ?_);refine zHi (by show _<=cap;omega) (w0 ?_);refine zCs rfl rfl rfl ?_ ?_ rfl trivial
    ·simp;omega
    ·rw [Nat.zero_add,<-q3];exact List.take_left' (by rw [List.length_take];omega)
 ·have:l=[]:=List.map_eq_nil_iff.1 h0;subst this
  conv=>whnf
  refine zAa (ixN_ok g cs p hg [] (by simp)) (aO ?_);exact zTh rfl rfl rfl trivial
theorem ixWtW (g:FuncId) (cs:List D) (p:Nat×Bool->Bool) (hg:∀ c:Nat×Bool,zAi Tryz.prog g (.agg (zC c)::cs) (.bool (p c))) (l:List (Nat×Bool)) (R:List (List D)) (c:Nat) (hl:l.length<=1000000) (hRl:R.take l.length=l.map zC):
  zBa Tryz.prog 266 [.win 1000000 0 l.length (some c),.d (.fn g cs)] [(1000000,.row R 2 false)] [(1000000,.row R 2 false)] (.int .i64 (ixF p l 0)):=by
 refine zAr Tryz.func266 2 rfl (by kernel_rfl) (by rfl) (w0 ?_);refine zAq (ι:=Nat) (fun k=>[(0,.win 1000000 0 l.length (some c)),(1,.d (.fn g cs)),(7,.d (.int .i64 l.length)),(8,.d (.int .i64 k))]) (fun _=>[(1000000,.row R 2 false)])
  (fun k=>k<=l.length/\ixF p (l.drop k) k=ixF p l 0) (fun k=>l.length-k) 0 ⟨Nat.zero_le _,rfl⟩ (le0 (zAb ⟨rfl,rfl,rfl,rfl,trivial⟩ ⟨rfl,trivial⟩ ⟨rfl,rfl,rfl,rfl⟩)) ?_
 rintro k ⟨hk,hR⟩
 conv=>whnf
 refine bcase_p (fun h=>?_) (fun h=>?_)<;>conv=>whnf
 ·have hk2:k<l.length:=by omega
  have hg0:R[0+k]?=some (zC l[k]):=by
   rw [Nat.zero_add]
   have:(R.take l.length)[k]?=some (zC l[k]):=by rw [hRl,List.getElem?_map,List.getElem?_eq_getElem hk2];rfl
   rwa [List.getElem?_take_of_lt hk2] at this
  refine aO ?_;refine zAd (by omega) (w0 ?_);refine zAc hg0 (aW ?_);rw [zBf hk2,ixF] at hR;refine zAa (hg l[k]) (w0 ?_)
  refine zAf (fun h2=>?_) (fun h2=>?_)<;>conv=>whnf
  ·rw [if_pos h2] at hR;exact zAh rfl (by rw [<-hR];rfl) rfl ⟨rfl,trivial⟩
  ·rw [if_neg (by rw [h2];decide)] at hR;refine aA ?_;exact ⟨k+1,⟨by omega,hR⟩,by omega,(le0 (zAb ⟨rfl,rfl,rfl,rfl,trivial⟩ ⟨rfl,trivial⟩ ⟨rfl,rfl,rfl,rfl⟩))⟩
 ·have:k=l.length:=by omega
  subst this;simp [ixF] at hR;exact zAh rfl (by rw [<-hR];rfl) rfl ⟨rfl,trivial⟩
theorem delWt (g:FuncId) (cs:List D) (p:Nat×Bool->Bool) (hg:∀ c:Nat×Bool,zAi Tryz.prog g (.agg (zC c)::cs) (.bool (p c))) (l:List (Nat×Bool)) (hl:l.length<=1000000):zWo Tryz.prog 210 (l.map zC) 2 [.d (.fn g cs)] [] [] ((l.filter fun x=>!p x).map zC):=by
 refine zJs Tryz.func210 2 rfl (by kernel_rfl) (by rfl) ?_;refine ⟨fun cap hcap=>?_,fun h0=>?_⟩
 ·have hm:(l.map zC).length=l.length:=List.length_map ..
  rw [hm] at hcap⊢;obtain ⟨F,hF⟩:∃ F,F=l.map zC++List.replicate (cap-l.length) (List.replicate 2 D.unk):=⟨_,rfl⟩
  have hFl:F.length=cap:=by rw [hF];simp;omega
  have hFt:F.take l.length=l.map zC:=by rw [hF];exact List.take_left' hm
  rw [<-hF]
  conv=>whnf
  refine zAl (ixWtW g cs p hg l F cap hl hFt) [(1000000,1000004)] rfl ⟨rfl,trivial⟩ rfl (w0 ?_)
  rcases zOj p l with e|⟨i,e⟩
  ·rw [e];refine aO ?_;refine zCs rfl rfl rfl (by omega) ?_ rfl trivial;rw [hFt,List.filter_eq_self.2];intro x hx
   rw [yBg e x hx];rfl
  ·rw [e];obtain ⟨hi,hp,hb⟩:=zKw (i:=i) (k:=0) (by rw [e];congr 1;omega);obtain ⟨hD,hDl⟩:=DelI.init (enc:=zC) (sz:=2) (n:=cap-l.length) hi hb hp (fun _=>rfl);rw [<-hF] at hD;refine aO ?_;refine zAq (ι:=Nat×List (List D)) (fun s=>[(0,.win 1000004 0 l.length (some cap)),(1,.d (.fn g cs)),(5,.d (.int .i64 ((l.take s.1).filter fun x=>!p x).length)),(6,.d (.int .i64 s.1))]) (fun s=>[(1000004,.row s.2 2 false)])
    (DelI zC p 2 l F) (fun s=>l.length-s.1) (i+1,F) hD (le0 (zAb ⟨rfl,rfl,by rw [hDl];rfl,rfl,trivial⟩ ⟨rfl,trivial⟩ ⟨rfl,rfl,rfl,rfl⟩)) ?_
   rintro ⟨j,R⟩ hI;have q1:=hI.le;have q2:=hI.len;have q3:=hI.fst;have q5:=hI.lt;simp only [] at q1 q2 q3 q5⊢
   conv=>whnf
   refine bcase_p (fun h5=>?_) (fun h5=>?_)<;>conv=>whnf
   ·have hj:j<l.length:=by omega
    have hq:R[0+j]?=some (zC l[j]):=by rw [Nat.zero_add];rw [hF] at hI;exact hI.get hj
    refine zAd (by omega) (w0 ?_);refine zAc hq (aO ?_);refine zAa (hg l[j]) (w0 ?_)
    cases h2:p l[j] with
    |true=>
     refine aO ?_;exact ⟨(j+1,R),hI.skip hj h2,by dsimp only;omega,le0 (zAb ⟨rfl,rfl,by rw [zCt hj h2];rfl,rfl,trivial⟩ ⟨rfl,trivial⟩ ⟨rfl,rfl,rfl,rfl⟩)⟩
    |false=>
     have hi3:((l.take j).filter fun x=>!p x).length<R.length:=by omega
     have hi4:((l.take j).filter fun x=>!p x).length<l.length:=by omega
     have hsz:=hI.sz _ (List.getElem_mem hi3);have hJ:=hI.put hj (by omega) h2 (fun _=>rfl);have es:=zJr (R:=R) (j:=((l.take j).filter fun x=>!p x).length) (e:=R[((l.take j).filter fun x=>!p x).length]) (v:=zC l[j]) hsz rfl;rw [<-es] at hJ
     have eN:((l.take (j+1)).filter fun x=>!p x).length=((l.take j).filter fun x=>!p x).length+1:=by rw [zCx hj h2,List.length_append];rfl
     refine aO ?_;refine zAd (by omega) (w0 ?_);refine zAc (x:=R[((l.take j).filter fun x=>!p x).length]) (by rw [Nat.zero_add,List.getElem?_eq_getElem hi3]) (w0 ?_);refine zDl (by rw [hsz];rfl) (aO ?_);refine ⟨(j+1,_),hJ,by dsimp only;omega,le0 (zAb ⟨rfl,rfl,by rw [eN];rfl,rfl,trivial⟩ ⟨rfl,trivial⟩ ⟨rfl,rfl,rfl,rfl⟩)⟩
   ·have hjl:j=l.length:=by omega
    subst hjl;rw [List.take_length] at q3 q5⊢;refine aO ?_;refine zCv (by omega) (by show l.length<=cap;omega) (w0 ?_)
    have hfl:(l.filter fun x=>!p x).length<=l.length:=List.length_filter_le ..
    refine zAg ⟨by omega,rfl⟩ (aO ?_);refine zHi (by show _<=cap;omega) (w0 ?_);refine zCs rfl rfl rfl ?_ ?_ rfl trivial
    ·simp;omega
    ·rw [Nat.zero_add,<-q3];exact List.take_left' (by rw [List.length_take];omega)
 ·have:l=[]:=List.map_eq_nil_iff.1 h0;subst this
  conv=>whnf
  refine zAa (yIy g cs p hg [] (by simp)) (aO ?_);exact zTh rfl rfl rfl trivial
theorem yNm (v:Int) (l:List Nat) (hl:l.length<=1000000):zAi Tryz.prog 258 [.lst (l.map encN),.int .i64 v] (.int .i64 (ixF (isT v) l 0)):=by
 refine zAe Tryz.func258 2 rfl (by kernel_rfl) (w0 ?_);refine zAq (ι:=Nat) (fun k=>[(0,.d (.lst (l.map encN))),(1,.d (.int .i64 v)),(7,.d (.int .i64 (l.map encN).length)),(8,.d (.int .i64 k))]) (fun _=>[])
  (fun k=>k<=l.length/\ixF (isT v) (l.drop k) k=ixF (isT v) l 0) (fun k=>l.length-k) 0 ⟨Nat.zero_le _,rfl⟩ (le0 (zAb ⟨rfl,rfl,rfl,rfl,trivial⟩ trivial ⟨rfl,rfl,rfl,rfl⟩)) ?_
 rintro k ⟨hk,hR⟩
 conv=>whnf
 refine bcase_p (fun h=>?_) (fun h=>?_)<;>conv=>whnf
 ·have hk2:k<l.length:=by simpa using h
  refine zAd (by omega) (w0 ?_);refine zAc (x:=encN l[k]) (by simp [hk2]) (aW ?_);rw [zBf hk2,ixF] at hR
  refine bcase_p (fun h2=>?_) (fun h2=>?_)<;>conv=>whnf
  ·rw [if_pos (by rw [isT,h2];simp)] at hR;exact ret_of rfl (by rw [<-hR];rfl)
  ·rw [if_neg (by rw [isT];simpa using fun e=>h2 e.symm)] at hR;refine aA ?_;exact ⟨k+1,⟨by omega,hR⟩,by omega,(le0 (zAb ⟨rfl,rfl,rfl,rfl,trivial⟩ trivial ⟨rfl,rfl,rfl,rfl⟩))⟩
 ·have:k=l.length:=by simp at h;omega
  subst this;simp [ixF] at hR;exact ret_of rfl (by rw [<-hR];rfl)
theorem zEn (v:Int) (l:List Nat) (hl:l.length<=1000000):zAi Tryz.prog 197 [.lst (l.map encN),.int .i64 v] (.bool (decide (0<=ixF (isT v) l 0))):=by
 refine zAe Tryz.func197 2 rfl (by kernel_rfl) (w0 ?_);refine zAa (yNm v l hl) (aW ?_);exact ret_of rfl rfl
theorem HOk.cls {h:HA} (o:HOk h):ClOk h.cl:=
 ⟨by have:=o.len;omega,fun c hc=>o.lt c.1 (List.mem_append_left _ (List.mem_map_of_mem hc)),(List.nodup_append.1 o.nd).1⟩
theorem HOk.qlt {h:HA} (o:HOk h) {k:Nat} (hk:k<h.q.length):h.q[k]<4:=o.lt _ (List.mem_append_right _ (List.getElem_mem hk))
theorem HOk.nocl {h:HA} (o:HOk h) {k:Nat} (hk:k<h.q.length):ixF (isC h.q[k]) h.cl 0=-1:=by
 refine zOk fun x hx=>?_
 have:=(List.nodup_append.1 o.nd).2.2 x.1 (List.mem_map_of_mem hx) h.q[k] (List.getElem_mem hk)
 rw [isC,decide_eq_false];omega
theorem HOk.notk {h:HA} (o:HOk h) {k:Nat} (hk:k<h.q.length):ixF (isT h.q[k]) (h.q.take k) 0=-1:=by
 refine zOk fun x hx=>?_
 obtain ⟨j,hj,rfl⟩:=List.mem_iff_getElem.1 hx;rw [List.length_take] at hj;have:=yOd (List.nodup_append.1 o.nd).2.1 (show j<k by omega) hk
 rw [List.getElem_take,isT,decide_eq_false];omega
theorem HOk.noopen {h:HA} (o:HOk h):yJy h=false:=by
 have:=o.shut;rw [yJy]
 split
 ·rfl
 ·rename_i e;rw [e] at this
  rcases this with g|g
  ·cases g
  ·rw [decide_eq_false];omega
theorem zNi (h:HA) (o:HOk h):zAi Tryz.prog 192 [zMb h] (.bool true):=by
 have n1:=o.n1;have n8:=o.n8;have hlen:=o.len;have hheld:=o.held
 have hml:(h.cl.map zB).length=h.cl.length:=List.length_map ..
 have hmq:(h.q.map zCk).length=h.q.length:=List.length_map ..
 refine zAe Tryz.func192 1 rfl (by kernel_rfl) (aO ?_);refine zAa (z9z h.cl o.cls) (aO ?_);refine zAq (ι:=Nat) (fun k=>[(1,.ptr 1 0 0),(41,.d (.lst (h.cl.map zB))),(42,.d (.int .i64 (h.cl.map zB).length)),(43,.d (.int .i64 k))]) (fun _=>[(1,.box (h.cells.map AV.d) false)])
  (fun k=>k<=h.cl.length) (fun k=>h.cl.length-k) 0 (Nat.zero_le _) (le0 (zAb ⟨rfl,rfl,rfl,rfl,trivial⟩ ⟨rfl,trivial⟩ ⟨rfl,rfl,rfl,rfl⟩)) ?_
 intro k hk
 conv=>whnf
 refine bcase_p (fun h5=>?_) (fun h5=>?_)<;>conv=>whnf
 ·have hk2:k<h.cl.length:=by omega
  refine zAd (by omega) (w0 ?_);refine zAc (x:=zB h.cl[k]) (by simp [hk2]) (aW ?_);refine zAa (zKi h n1) (aW ?_);exact ⟨k+1,by omega,by omega,(le0 (zAb ⟨rfl,rfl,rfl,rfl,trivial⟩ ⟨rfl,trivial⟩ ⟨rfl,rfl,rfl,rfl⟩))⟩
 refine aO ?_;refine zAq (ι:=Nat) (fun k=>[(1,.ptr 1 0 0),(54,.d (.lst (h.q.map zCk))),(55,.d (.int .i64 (h.q.map zCk).length)),(56,.d (.int .i64 k))]) (fun _=>[(1,.box (h.cells.map AV.d) false)])
  (fun k=>k<=h.q.length) (fun k=>h.q.length-k) 0 (Nat.zero_le _) (le0 (zAb ⟨rfl,rfl,rfl,rfl,trivial⟩ ⟨rfl,trivial⟩ ⟨rfl,rfl,rfl,rfl⟩)) ?_
 intro k hk
 conv=>whnf
 refine bcase_p (fun h5=>?_) (fun h5=>?_)<;>conv=>whnf
 ·have hk2:k<h.q.length:=by omega
  have hlt:=o.qlt hk2
  have ht:zAi Tryz.prog 195 [.lst (((h.q.map zCk).take k).drop 0),.int .i64 h.q[k]] (.int .i64 (ixF (isT h.q[k]) (h.q.take k) 0)):=by
   rw [List.drop_zero,<-List.map_take];exact z5x _ _ (by rw [List.length_take];omega)
  rw [o.notk hk2] at ht;have hc:=zKj (h.q[k]:Int) h.cl (by omega);rw [o.nocl hk2] at hc;refine zAd (by omega) (w0 ?_);refine zAc (x:=zCk h.q[k]) (by simp [hk2]) (aW ?_);refine aO ?_;refine zAa (zKi h n1) (aO ?_);refine zAa hc (aO ?_);refine zAg (fun e he=>z3k he) (w0 ?_);refine zCr (by omega) (aO ?_);refine zAa ht (aO ?_);exact ⟨k+1,by omega,by omega,(le0 (zAb ⟨rfl,rfl,rfl,rfl,trivial⟩ ⟨rfl,trivial⟩ ⟨rfl,rfl,rfl,rfl⟩))⟩
 refine aO ?_;refine zAa (yJc h (by omega) (by omega)) (aO ?_);refine zAa (yKx _ h.cl o.cls (by omega) (by omega) (by omega)) (aO ?_);refine zAa (yBw h (by omega) (by omega)) (w0 ?_);rw [o.noopen];refine aO ?_;exact ret_of rfl rfl
def inH (n:Nat):List (Nat×Bool)->List Nat->List Nat
 |_,[]=>[]
 |cl,w::q=>if cl.length<2*n then w::inH n (cl++[(w,false)]) q else []
theorem yIm (n:Nat):∀ (cl:List (Nat×Bool)) (q:List Nat),(inH n cl q).length<=q.length
 |_,[]=>Nat.le_refl _
 |cl,w::q=>by
  rw [inH];split
  ·have:=yIm n (cl++[(w,false)]) q
   simp;omega
  ·exact Nat.zero_le _
structure EntI (n:Nat) (cl0:List (Nat×Bool)) (q0:List Nat) (s:List (Nat×Bool)×List Nat×List Nat):Prop where
 len:s.1.length+s.2.1.length=cl0.length+q0.length
 ins:s.2.2.length+s.2.1.length=q0.length
 eq:zBe n s.1 s.2.1=zBe n cl0 q0
 inn:s.2.2++inH n s.1 s.2.1=inH n cl0 q0
theorem yAq (h:HA) (h8:h.n<=8) (hl:h.cl.length+h.q.length<=7):zAi Tryz.prog 196 [zMb h] (.tup [zMb (mkH h.n (zBe h.n h.cl h.q)),.lst ((inH h.n h.cl h.q).map encN)]):=by
 obtain ⟨n,cl0,q0⟩:=h;simp only [] at h8 hl⊢;refine zAe Tryz.func196 1 rfl (by kernel_rfl) (aO ?_);refine zAn (zTr (zLp cl0) (by rw [List.length_map];show cl0.length<=1000000;omega)) (aO ?_);refine zAq (ι:=List (Nat×Bool)×List Nat×List Nat) (fun s=>[(1,.ptr 1 0 0),(2,.ptr 2 0 0),(4,.own 34)]) (fun s=>[(1,.box [.d (.int .i64 n),.d (.int .i64 1),.own 8,.d (.lst (s.2.1.map zCk))] false),(2,.box [.d (.int .i64 0),.d (.int .i64 0),.nil,.nil] false),(8,.row (s.1.map zB) 3 false),(34,.row (s.2.2.map encN) 1 false)])
  (EntI n cl0 q0) (fun s=>s.2.1.length) (cl0,q0,[]) ⟨rfl,Nat.zero_add _,rfl,rfl⟩ (le1 (.row 4 34 1) ⟨rfl,rfl⟩ (zAb ⟨rfl,rfl,rfl,trivial⟩ ⟨rfl,rfl,rfl,rfl,trivial⟩ ⟨rfl,rfl,rfl,rfl⟩)) ?_
 rintro ⟨cl,q,ins⟩ hI;obtain ⟨i1,i2,i3,i4⟩:=hI;simp only [] at i1 i2 i3 i4⊢;refine aO ?_;refine zAa (yBw ⟨n,cl,q⟩ (by show cl.length<=7;omega) (by show n<=1000;omega)) (w0 ?_)
 cases q with
 |nil=>
  rw [yJy];refine aO ?_;rw [zBe] at i3;rw [inH,List.append_nil] at i4;rw [<-i3,<-i4];exact ret_of rfl rfl
 |cons w q=>
  rw [yJy]
  refine bcase_p (fun g=>?_) (fun g=>?_)<;>conv=>whnf
  ·replace g:(cl.length:Int)+1<=2*n:=g
   have es:((((w::q).map zCk).take ((w::q).map zCk).length).drop 1)=q.map zCk:=by rw [List.take_length];rfl
   refine aO ?_;refine zAd (i:=0) (by simp) (w0 ?_);refine zAc (x:=zCk w) rfl (aO ?_);refine zAg (fun e he=>z3k he) (w0 ?_);refine zD (l:=1) (by simp) (aO ?_);simp only [List.length_cons] at i1 i2
   have hmc:(cl.map zB).length=cl.length:=List.length_map ..
   have hmi:(ins.map encN).length=ins.length:=List.length_map ..
   refine zAj 1000 100 (by show (cl.map zB).length+1<=1000;omega) (by decide) (by decide) (by decide) (aO ?_);refine zAj 1000 100 (by show (ins.map encN).length+1<=1000;omega) (by decide) (by decide) (by decide) (w0 ?_);rw [zBe,if_pos (by omega)] at i3;rw [inH,if_pos (by omega)] at i4;refine ⟨(cl++[(w,false)],q,ins++[w]),⟨by simp;omega,by simp;omega,i3,by rw [<-i4];simp⟩,by simp,le0 (zAb ⟨rfl,rfl,rfl,trivial⟩ ⟨by rw [<-es];rfl,rfl,by rw [List.map_append];rfl,by rw [List.map_append];rfl,trivial⟩ ⟨rfl,rfl,rfl,rfl⟩)⟩
  ·replace g:¬(cl.length:Int)+1<=2*n:=g;refine aO ?_;rw [zBe,if_neg (by omega)] at i3;rw [inH,if_neg (by omega),List.append_nil] at i4;rw [<-i3,<-i4];exact ret_of rfl rfl
theorem no_cl {h:HA} {w:Nat} (hn:w∉h.all):ixF (isC w) h.cl 0=-1:=by
 refine zOk fun x hx=>?_
 rw [isC,decide_eq_false];intro e;exact hn (List.mem_append_left _ (List.mem_map.2 ⟨x,hx,by omega⟩))
theorem no_tk {h:HA} {w:Nat} (hn:w∉h.all):ixF (isT w) h.q 0=-1:=by
 refine zOk fun x hx=>?_
 rw [isT,decide_eq_false];intro e;exact hn (List.mem_append_right _ (by rw [<-show x=w by omega];exact hx))
theorem zYz (h:HA) (o:HOk h) (w:Nat) (hw:w<4) (hn:w∉h.all) (hl:h.cl.length+h.q.length<=3):
  zAi Tryz.prog 137 [zMb h,.int .i64 w,.int .i64 1] (.tup [zMb (zNm h w),.bool (decide (0<=ixF (isT w) (inH h.n h.cl (h.q++[w])) 0)),.int .i64 0]):=by
 have n1:=o.n1;have n8:=o.n8;have hc:=zKj (w:Int) h.cl (by omega);have ht:=z5x (w:Int) h.q (by omega);rw [no_cl hn] at hc;rw [no_tk hn] at ht
 have hml:(h.cl.map zB).length=h.cl.length:=List.length_map ..
 have hmq:(h.q.map zCk).length=h.q.length:=List.length_map ..
 have he:zAi Tryz.prog 196 [.agg [.int .i64 h.n,.int .i64 1,.lst (h.cl.map zB),.lst (h.q.map zCk++[zCk w])]] (.tup [zMb (zNm h w),.lst ((inH h.n h.cl (h.q++[w])).map encN)]):=by
  have:=yAq ⟨h.n,h.cl,h.q++[w]⟩ n8 (by show h.cl.length+(h.q++[w]).length<=7;simp;omega)
  have e:(h.q++[w]).map zCk=h.q.map zCk++[zCk w]:=by rw [List.map_append];rfl
  rw [<-e];exact this
 have hin:=yIm h.n h.cl (h.q++[w]);rw [List.length_append,List.length_singleton] at hin;refine zAe Tryz.func137 3 rfl (by kernel_rfl) (aO ?_);refine zAa (zNi h o) (aO ?_);refine zAa (zKi h n1) (aO ?_);refine zAa hc (aO ?_);refine zAa ht (aO ?_);refine zAn (z6r (zSs h.q) (by omega)) (aO ?_);refine zAj 1000 100 (by show (h.q.map zCk).length+1<=1000;omega) (by decide) (by decide) (by decide) (aO ?_);refine zAa he (aO ?_);refine zAa (zEn (w:Int) (inH h.n h.cl (h.q++[w])) (by omega)) (aO ?_);exact ret_of rfl rfl
theorem ySl {h:HA} (o:HOk h) {w:Nat} {b:Bool} (hm:(w,b)∈h.cl):∃ i,∃ hi:i<h.cl.length,ixF (isC w) h.cl 0=(i:Int) /\h.cl[i]=(w,b) /\ ∀ b',setH h.cl w b'=h.cl.set i (w,b'):=by
 obtain ⟨i,hi,e,hp⟩:=zMy (p:=isC w) (l:=h.cl) (k:=0) ⟨_,hm,by simp [isC]⟩
 have hp2:h.cl[i].1=w:=by rw [isC,decide_eq_true_eq] at hp;omega
 obtain ⟨j,hj,ej⟩:=List.mem_iff_getElem.1 hm
 have eij:i=j:=by
  have hnd:=o.cls.nd
  rcases Nat.lt_trichotomy i j with g|g|g
  ·exact absurd (hp2.trans (by rw [ej])) (o.cls.ne g hj)
  ·exact g
  ·exact absurd ((by rw [ej]:h.cl[j].1=w).trans hp2.symm) (o.cls.ne g hi)
 subst eij;refine ⟨i,hi,by rw [e,Nat.zero_add],ej,fun b'=>?_⟩
 refine List.ext_getElem (by rw [setH,List.length_map,List.length_set]) fun k h1 h2=>?_
 rw [List.length_set] at h2;simp only [setH,List.getElem_map,List.getElem_set]
 by_cases g:i=k
 ·subst g;rw [if_pos hp2,if_pos rfl,hp2]
 ·rw [if_neg g,if_neg];intro e
  rcases Nat.lt_or_gt_of_ne g with g|g
  ·exact o.cls.ne g h2 (hp2.trans e.symm)
  ·exact o.cls.ne g hi (e.trans hp2.symm)
theorem yGw {h:HA} {w:Nat} (hc:isCl h w=true):(w,zFm h w)∈h.cl:=by
 obtain ⟨⟨a,b⟩,h1,h2⟩:=List.mem_map.1 (zUs.1 hc)
 cases h2
 cases hb:zFm h a with
 |true=>exact zUo.1 hb
 |false=>
  cases b with
  |false=>exact h1
  |true=>rw [zUo.2 h1] at hb;cases hb
def pinR (h:HA) (w:Nat):HA×Int:=if h.n<=zCl h.cl then (h,6) else (pinH h w,0)
theorem zMo (h:HA) (o:HOk h) (w:Nat) (hc:isCl h w=true) (hh:zFm h w=false):
  zAi Tryz.prog 143 [zMb h,.int .i64 w] (.tup [zMb (pinR h w).1,.int .i64 (pinR h w).2]):=by
 have n1:=o.n1;have n8:=o.n8;have hlen:=o.len;have hheld:=o.held;have hm:=yGw hc;rw [hh] at hm;obtain ⟨i,hi,ei,ec,es⟩:=ySl o hm;have hcl:=zKj (w:Int) h.cl (by omega);rw [ei] at hcl
 have hml:(h.cl.map zB).length=h.cl.length:=List.length_map ..
 have hg:(h.cl.map zB)[i]?=some (zB (w,false)):=by rw [List.getElem?_map,List.getElem?_eq_getElem hi,ec];rfl
 refine zAe Tryz.func143 2 rfl (by kernel_rfl) (aO ?_);refine zAa (zNi h o) (aO ?_);refine zAa hcl (aO ?_);refine zAd (by omega) (w0 ?_);refine zAc hg (aO ?_);refine zAd (by omega) (w0 ?_);refine zAc hg (aO ?_);refine zAa (yJc h (by omega) (by omega)) (w0 ?_);rw [pinR];refine aO ?_
 refine bcase_p (fun g=>?_) (fun g=>?_)<;>conv=>whnf
 ·rw [if_pos (show h.n<=zCl h.cl by omega)];refine aO ?_;exact ret_of rfl rfl
 ·rw [if_neg (show ¬h.n<=zCl h.cl by omega)];have op:=z7t o hc hh (by omega)
  have es2:(h.cl.map zB).set i (zAx (zB (w,false)) 2 [D.int .i64 1])=(setH h.cl w true).map zB:=by rw [es,List.map_set];rfl
  have hhN:=zZy (b:=true) o.cls.nd hm;simp only [if_pos,Bool.false_eq_true,if_false] at hhN;have hsf:=yKx ((h.n:Int)-zCl h.cl-1) (setH h.cl w true) op.cls (by omega) (by omega) (by omega);rw [<-es2] at hsf;refine aO ?_;refine zAn (zTr (zLp h.cl) (by omega)) (aO ?_);refine zAd (by omega) (w0 ?_);refine zAc hg (aO ?_);refine zAd (by omega) (w0 ?_);refine zAc hg (aO ?_);refine zAa hsf (aO ?_);refine ret_of rfl ?_;show _=D.tup [D.agg [.int .i64 h.n,.int .i64 1,D.lst ((setH h.cl w true).map zB),.lst (h.q.map zCk)],.int .i64 0]
  rw [<-es2];rfl
theorem zNj (h:HA) (o:HOk h) (w:Nat) (hc:isCl h w=true) (hh:zFm h w=true):
  zAi Tryz.prog 147 [zMb h,.int .i64 w] (.tup [zMb (zJy h w),.int .i64 0]):=by
 have n1:=o.n1;have n8:=o.n8;have hlen:=o.len;have hm:=yGw hc;rw [hh] at hm;obtain ⟨i,hi,ei,ec,es⟩:=ySl o hm;have hcl:=zKj (w:Int) h.cl (by omega);rw [ei] at hcl
 have hml:(h.cl.map zB).length=h.cl.length:=List.length_map ..
 have hg:(h.cl.map zB)[i]?=some (zB (w,true)):=by rw [List.getElem?_map,List.getElem?_eq_getElem hi,ec];rfl
 have es2:(h.cl.map zB).set i (zAx (zB (w,true)) 2 [D.int .i64 0])=(setH h.cl w false).map zB:=by rw [es,List.map_set];rfl
 refine zAe Tryz.func147 2 rfl (by kernel_rfl) (aO ?_);refine zAa (zNi h o) (aO ?_);refine zAa hcl (aO ?_);refine zAd (by omega) (w0 ?_);refine zAc hg (aO ?_);refine zAn (zTr (zLp h.cl) (by omega)) (aO ?_);refine zAd (by omega) (w0 ?_);refine zAc hg (aO ?_);refine zAd (by omega) (w0 ?_);refine zAc hg (aO ?_);refine ret_of rfl ?_;show _=D.tup [D.agg [.int .i64 h.n,.int .i64 1,D.lst ((setH h.cl w false).map zB),.lst (h.q.map zCk)],.int .i64 0]
 rw [<-es2];rfl
theorem yTn (who:Int) (c:Nat×Bool):zAi Tryz.prog 213 [.agg (zB c),.dp [.int .i64 who] 0] (.bool (isC who c)):=by
 refine zAe Tryz.func213 2 rfl (by kernel_rfl) (aO ?_);exact ret_of rfl rfl
theorem yTo (who:Int) (c:Nat):zAi Tryz.prog 215 [.agg (zCk c),.dp [.int .i64 who] 0] (.bool (isT who c)):=by
 refine zAe Tryz.func215 2 rfl (by kernel_rfl) (aO ?_);exact ret_of rfl rfl
theorem fil_C (w:Nat) (l:List (Nat×Bool)):(l.filter fun x=>!isC w x)=l.filter fun c=>c.1 !=w:=by
 congr 1;funext c;rw [Bool.eq_iff_iff];simp [isC];omega
theorem fil_T (w:Nat) (l:List Nat):(l.filter fun x=>!isT w x)=l.filter fun x=>x !=w:=by
 congr 1;funext c;rw [Bool.eq_iff_iff];simp [isT];omega
theorem zJa (h:HA) (o:HOk h) (w:Nat) (hw:w<4) (hc:isCl h w=true):
  ∃ ins:List Nat,zAi Tryz.prog 149 [zMb h,.int .i64 w] (.tup [zMb (endH h w),.lst (ins.map encN),.int .i64 0]):=by
 have n1:=o.n1;have n8:=o.n8;have hlen:=o.len;obtain ⟨i,hi,ei,ec,es⟩:=ySl o (yGw hc);have hcl:=zKj (w:Int) h.cl (by omega);rw [ei] at hcl;have f1:=delCl 213 [.dp [.int .i64 w] 0] (isC w) (yTn w) h.cl (by omega);have f2:=delTk 215 [.dp [.int .i64 w] 0] (isT w) (yTo w) h.q (by omega);rw [fil_C] at f1;rw [fil_T] at f2;have l1:=List.length_filter_le (fun c:Nat×Bool=>c.1 !=w) h.cl;have l2:=List.length_filter_le (fun c:Nat=>c !=w) h.q;have he:=yAq ⟨h.n,h.cl.filter fun c=>c.1 !=w,h.q.filter fun x=>x !=w⟩ n8 (by show (h.cl.filter _).length+(h.q.filter _).length<=7;omega)
 have hml:(h.cl.map zB).length=h.cl.length:=List.length_map ..
 have hmq:(h.q.map zCk).length=h.q.length:=List.length_map ..
 refine ⟨inH h.n (h.cl.filter fun c=>c.1 !=w) (h.q.filter fun x=>x !=w),?_⟩;refine zAe Tryz.func149 2 rfl (by kernel_rfl) (aO ?_);refine zAa (zNi h o) (aO ?_);refine zAa hcl (aO ?_);refine zAn (zTr (zLp h.cl) (by omega)) (aO ?_);refine zEv f1 [] rfl ⟨rfl,trivial⟩ rfl (aO ?_);refine zAn (z6r (zSs h.q) (by omega)) (aO ?_);refine zEv f2 [] rfl ⟨rfl,trivial⟩ rfl (aO ?_);refine zAa he (aO ?_);exact ret_of rfl rfl
theorem zSt:∀ (l:List (Nat×Bool)),okRows 2 (l.map zC)=true
 | []=>rfl
 |_::r=>zSt r
theorem zTy:∀ (l:List Nat),okRows 1 (l.map encN)=true
 | []=>rfl
 |_::r=>zTy r
theorem zTz {l:List (Nat×Bool)} {e:List D} (h:e∈l.map zC):e.length=2:=by
 obtain ⟨x,_,rfl⟩:=List.mem_map.1 h;rfl
theorem isW_ok (who:Int) (c:Nat×Bool):zAi Tryz.prog 261 [.agg (zC c),.dp [.int .i64 who] 0] (.bool (isC who c)):=by
 refine zAe Tryz.func261 2 rfl (by kernel_rfl) (aO ?_);exact ret_of rfl rfl
theorem z2b (who:Int) (l:List (Nat×Bool)) (hl:l.length<=1000000):zAi Tryz.prog 199 [.lst (l.map zC),.int .i64 who] (.bool (decide (0<=ixF (isC who) l 0))):=by
 have h259:zAi Tryz.prog 260 [.lst (l.map zC),.fn 261 [.dp [.int .i64 who] 0]] (.bool (decide (0<=ixF (isC who) l 0))):=by
  refine zAe Tryz.func260 2 rfl (by kernel_rfl) (w0 ?_);refine zAa (yIy 261 _ _ (isW_ok who) l hl) (aW ?_);exact ret_of rfl rfl
 refine zAe Tryz.func199 2 rfl (by kernel_rfl) (aO ?_);refine zAa h259 (aW ?_);exact ret_of rfl rfl
def z8n (l:LA):Bool:=match l.q with
 | []=>false
 |x::_=>match l.hs with
  | []=>true
  |_::_=>!l.ex&&!x.2
theorem z0p (l:LA):zAi Tryz.prog 259 [zWt l] (.bool (z8n l)):=by
 obtain ⟨hs,ex,q⟩:=l
 cases q with
 |nil=>
  refine zAe Tryz.func259 1 rfl (by kernel_rfl) (aO ?_);exact ret_of rfl rfl
 |cons x q=>
  cases hs with
  |nil=>
   refine zAe Tryz.func259 1 rfl (by kernel_rfl) (aO ?_);exact ret_of rfl rfl
  |cons y hs=>
   cases ex with
   |true=>
    refine zAe Tryz.func259 1 rfl (by kernel_rfl) (aO ?_);exact ret_of rfl rfl
   |false=>
    refine zAe Tryz.func259 1 rfl (by kernel_rfl) (aO ?_);refine zAd (i:=0) (by simp) (w0 ?_);refine zAc (x:=zC x) rfl (aO ?_);exact ret_of rfl rfl
theorem LOk.noopen {l:LA} (o:LOk l):z8n l=false:=by
 have:=o.shut;rw [z8n]
 split
 ·rfl
 ·rename_i x _ e;rw [e] at this
  rcases this with g|⟨g1,g2⟩
  ·cases g
  ·split
   ·rename_i e2;exact absurd e2 g1
   ·rcases g2 with g2|g2
    ·rw [g2];rfl
    ·rw [g2 x rfl];cases l.ex<;>rfl
def z4c (l:List Nat):Nat->Int
 |0=>-1
 |k+1=>((l[k]?.getD 0:Nat):Int)
theorem z0d {l:List Nat} (h:l.Pairwise (·<·)) {k:Nat} (hk:k<l.length):z4c l k<(l[k]:Int):=by
 cases k with
 |zero=>rw [z4c];omega
 |succ k=>
  rw [z4c,List.getElem?_eq_getElem (by omega),Option.getD_some];have:=(List.pairwise_iff_getElem.1 h) k (k+1) (by omega) hk (by omega);omega
theorem zQu {l:List Nat} {k:Nat} (hk:k<l.length):z4c l (k+1)=(l[k]:Int):=by
 rw [z4c,List.getElem?_eq_getElem hk,Option.getD_some]
theorem yJs {l:List Nat} {w:Nat} (h:w∉l):ixF (isT w) l 0=-1:=by
 refine zOk fun x hx=>?_
 rw [isT,decide_eq_false];intro e;exact h (by rw [<-show x=w by omega];exact hx)
theorem yJt {l:List (Nat×Bool)} {w:Nat} (h:w∉l.map (·.1)):ixF (isC w) l 0=-1:=by
 refine zOk fun x hx=>?_
 rw [isC,decide_eq_false];intro e;exact h (List.mem_map.2 ⟨x,hx,by omega⟩)
theorem zOp (l:LA) (o:LOk l):zAi Tryz.prog 198 [zWt l] (.bool true):=by
 have hlen:=o.len;have h1:l.ex=true->l.hs.length=1:=o.one
 have hmh:(l.hs.map encN).length=l.hs.length:=List.length_map ..
 have hmq:(l.q.map zC).length=l.q.length:=List.length_map ..
 have hnd:=List.nodup_append.1 o.nd;refine zAe Tryz.func198 1 rfl (by kernel_rfl) (aO ?_)
 refine zAf (fun g=>?_) (fun g=>?_)<;>conv=>whnf
 ·have:=h1 g;refine aO ?_;refine zAq (ι:=Nat) (fun k=>[(1,.ptr 1 0 0),(3,.d (.int .i64 (z4c l.hs k))),(25,.d (.lst (l.hs.map encN))),(26,.d (.int .i64 (l.hs.map encN).length)),(27,.d (.int .i64 k))]) (fun _=>[(1,.box (l.cells.map AV.d) false)])
   (fun k=>k<=l.hs.length) (fun k=>l.hs.length-k) 0 (Nat.zero_le _) (le0 (zAb ⟨rfl,rfl,rfl,rfl,rfl,trivial⟩ ⟨rfl,trivial⟩ ⟨rfl,rfl,rfl,rfl⟩)) ?_
  intro k hk
  conv=>whnf
  refine bcase_p (fun h5=>?_) (fun h5=>?_)<;>conv=>whnf
  ·have hk2:k<l.hs.length:=by omega
   have hl1:=z0d o.up hk2;have hl2:=o.lt l.hs[k] (List.mem_append_left _ (List.getElem_mem hk2));refine zAd (by omega) (w0 ?_);refine zAc (x:=encN l.hs[k]) (by simp [hk2]) (aW ?_);refine aO ?_;exact ⟨k+1,by omega,by omega,le0 (zAb ⟨rfl,by rw [zQu hk2];rfl,rfl,rfl,rfl,trivial⟩ ⟨rfl,trivial⟩ ⟨rfl,rfl,rfl,rfl⟩)⟩
  refine aO ?_;refine zAq (ι:=Nat) (fun k=>[(1,.ptr 1 0 0),(41,.d (.lst (l.q.map zC))),(42,.d (.int .i64 (l.q.map zC).length)),(43,.d (.int .i64 k))]) (fun _=>[(1,.box (l.cells.map AV.d) false)])
   (fun k=>k<=l.q.length) (fun k=>l.q.length-k) 0 (Nat.zero_le _) (le0 (zAb ⟨rfl,rfl,rfl,rfl,trivial⟩ ⟨rfl,trivial⟩ ⟨rfl,rfl,rfl,rfl⟩)) ?_
  intro k hk
  conv=>whnf
  refine bcase_p (fun h5=>?_) (fun h5=>?_)<;>conv=>whnf
  ·have hk2:k<l.q.length:=by omega
   have hmq2:l.q[k].1∈l.q.map (·.1):=List.mem_map_of_mem (List.getElem_mem hk2);have hl2:=o.lt l.q[k].1 (List.mem_append_right _ hmq2);have hc:=zEn (l.q[k].1:Int) l.hs (by omega);rw [yJs fun g=>hnd.2.2 _ g _ hmq2 rfl] at hc
   have hwt:zAi Tryz.prog 199 [.lst (((l.q.map zC).take k).drop 0),.int .i64 l.q[k].1] (.bool (decide (0<=ixF (isC l.q[k].1) (l.q.take k) 0))):=by
    rw [List.drop_zero,<-List.map_take];exact z2b _ _ (by rw [List.length_take];omega)
   rw [yJt (w:=l.q[k].1) fun g=>by
    obtain ⟨x,hx,e⟩:=List.mem_map.1 g;obtain ⟨j,hj,rfl⟩:=List.mem_iff_getElem.1 hx;rw [List.length_take] at hj;rw [List.getElem_take] at e
    exact yOd hnd.2.1 (show j<k by omega) (by rw [List.length_map];exact hk2) (by simpa using e)] at hwt
   refine zAd (by omega) (w0 ?_);refine zAc (x:=zC l.q[k]) (by simp [hk2]) (aW ?_);refine aO ?_;refine zAa hc (aO ?_);refine zAg (fun e he=>zTz he) (w0 ?_);refine zCr (by omega) (aO ?_);refine zAa hwt (aO ?_);exact ⟨k+1,by omega,by omega,(le0 (zAb ⟨rfl,rfl,rfl,rfl,trivial⟩ ⟨rfl,trivial⟩ ⟨rfl,rfl,rfl,rfl⟩))⟩
  refine aO ?_;refine zAa (z0p l) (w0 ?_);rw [o.noopen];refine aO ?_;exact ret_of rfl rfl
 ·refine aO ?_;refine zAq (ι:=Nat) (fun k=>[(1,.ptr 1 0 0),(3,.d (.int .i64 (z4c l.hs k))),(25,.d (.lst (l.hs.map encN))),(26,.d (.int .i64 (l.hs.map encN).length)),(27,.d (.int .i64 k))]) (fun _=>[(1,.box (l.cells.map AV.d) false)])
   (fun k=>k<=l.hs.length) (fun k=>l.hs.length-k) 0 (Nat.zero_le _) (le0 (zAb ⟨rfl,rfl,rfl,rfl,rfl,trivial⟩ ⟨rfl,trivial⟩ ⟨rfl,rfl,rfl,rfl⟩)) ?_
  intro k hk
  conv=>whnf
  refine bcase_p (fun h5=>?_) (fun h5=>?_)<;>conv=>whnf
  ·have hk2:k<l.hs.length:=by omega
   have hl1:=z0d o.up hk2;have hl2:=o.lt l.hs[k] (List.mem_append_left _ (List.getElem_mem hk2));refine zAd (by omega) (w0 ?_);refine zAc (x:=encN l.hs[k]) (by simp [hk2]) (aW ?_);refine aO ?_;exact ⟨k+1,by omega,by omega,le0 (zAb ⟨rfl,by rw [zQu hk2];rfl,rfl,rfl,rfl,trivial⟩ ⟨rfl,trivial⟩ ⟨rfl,rfl,rfl,rfl⟩)⟩
  refine aO ?_;refine zAq (ι:=Nat) (fun k=>[(1,.ptr 1 0 0),(41,.d (.lst (l.q.map zC))),(42,.d (.int .i64 (l.q.map zC).length)),(43,.d (.int .i64 k))]) (fun _=>[(1,.box (l.cells.map AV.d) false)])
   (fun k=>k<=l.q.length) (fun k=>l.q.length-k) 0 (Nat.zero_le _) (le0 (zAb ⟨rfl,rfl,rfl,rfl,trivial⟩ ⟨rfl,trivial⟩ ⟨rfl,rfl,rfl,rfl⟩)) ?_
  intro k hk
  conv=>whnf
  refine bcase_p (fun h5=>?_) (fun h5=>?_)<;>conv=>whnf
  ·have hk2:k<l.q.length:=by omega
   have hmq2:l.q[k].1∈l.q.map (·.1):=List.mem_map_of_mem (List.getElem_mem hk2);have hl2:=o.lt l.q[k].1 (List.mem_append_right _ hmq2);have hc:=zEn (l.q[k].1:Int) l.hs (by omega);rw [yJs fun g=>hnd.2.2 _ g _ hmq2 rfl] at hc
   have hwt:zAi Tryz.prog 199 [.lst (((l.q.map zC).take k).drop 0),.int .i64 l.q[k].1] (.bool (decide (0<=ixF (isC l.q[k].1) (l.q.take k) 0))):=by
    rw [List.drop_zero,<-List.map_take];exact z2b _ _ (by rw [List.length_take];omega)
   rw [yJt (w:=l.q[k].1) fun g=>by
    obtain ⟨x,hx,e⟩:=List.mem_map.1 g;obtain ⟨j,hj,rfl⟩:=List.mem_iff_getElem.1 hx;rw [List.length_take] at hj;rw [List.getElem_take] at e
    exact yOd hnd.2.1 (show j<k by omega) (by rw [List.length_map];exact hk2) (by simpa using e)] at hwt
   refine zAd (by omega) (w0 ?_);refine zAc (x:=zC l.q[k]) (by simp [hk2]) (aW ?_);refine aO ?_;refine zAa hc (aO ?_);refine zAg (fun e he=>zTz he) (w0 ?_);refine zCr (by omega) (aO ?_);refine zAa hwt (aO ?_);exact ⟨k+1,by omega,by omega,(le0 (zAb ⟨rfl,rfl,rfl,rfl,trivial⟩ ⟨rfl,trivial⟩ ⟨rfl,rfl,rfl,rfl⟩))⟩
  refine aO ?_;refine zAa (z0p l) (w0 ?_);rw [o.noopen];refine aO ?_;exact ret_of rfl rfl
theorem yBa (l:LA) (o:LOk l) (w:Nat):zAi Tryz.prog 142 [zWt l,.int .i64 w] (.tup [.bool (zMj l w),.bool (zMj l w&&l.ex)]):=by
 have hlen:=o.len;have hc:=zEn (w:Int) l.hs (by omega)
 have e:decide (0<=ixF (isT w) l.hs 0)=zMj l w:=by
  rw [Bool.eq_iff_iff,decide_eq_true_eq,yBf,zMj];simp only [List.any_eq_true,List.contains_eq_any_beq]
  constructor
  ·rintro ⟨x,hx,g⟩;exact ⟨x,hx,by simp [isT] at g⊢;omega⟩
  ·rintro ⟨x,hx,g⟩;exact ⟨x,hx,by simp [isT] at g⊢;omega⟩
 rw [e] at hc;refine zAe Tryz.func142 2 rfl (by kernel_rfl) (aO ?_);refine zAa (zOp l o) (aO ?_);refine zAa hc (aO ?_)
 cases g:zMj l w with
 |false=>
  refine aO ?_;exact ret_of rfl rfl
 |true=>
  refine aO ?_;refine ret_of rfl ?_;rw [Bool.true_and];rfl
end Go.Lk
