/-
  What is proved here: what functions of the program compute, and what follows; no condition beyond each theorem's own.
-/
import Derived.Test.YtnlfingofodhlaaGreatBAm
import Derived.Test.YtnlfingofodhlaaGreatBAr
import Derived.Test.YtnlfingofodhlaaGreatBAs
set_option linter.unusedSimpArgs false
set_option linter.unusedVariables false
set_option linter.unnecessarySimpa false
set_option linter.unusedSectionVars false
namespace Go.Lk
open Go Go.Proofs Go.RowKit
theorem zUp {l:List (List D)} (hok:okRows 3 l=true) (hl:l.length<=1000000):zDy Tryz.prog 81 [.lst l] l 3:=by
 refine zBn Tryz.func81 1 rfl (by kernel_rfl) (w0 ?_);refine zDs (w0 ?_);intro r hr
 conv=>whnf
 refine zAe (fun h=>?_) (fun h=>?_)<;>conv=>whnf
 ·have:=hr h;exact ⟨2,rfl,.inr ⟨rfl,this⟩⟩
 ·refine aA ?_;refine zAh hok (w0 ?_);refine zAj 1000100 100 (by show 0+List.length _<=1000100;omega) (by decide) (by decide) (by decide) (w0 ?_);exact ⟨2,rfl,.inl ⟨5,rfl,rfl⟩⟩
theorem z7q {l:List (List D)} (hok:okRows 2 l=true) (hl:l.length<=1000000):zDy Tryz.prog 82 [.lst l] l 2:=by
 refine zBn Tryz.func82 1 rfl (by kernel_rfl) (w0 ?_);refine zDs (w0 ?_);intro r hr
 conv=>whnf
 refine zAe (fun h=>?_) (fun h=>?_)<;>conv=>whnf
 ·have:=hr h;exact ⟨2,rfl,.inr ⟨rfl,this⟩⟩
 ·refine aA ?_;refine zAh hok (w0 ?_);refine zAj 1000100 100 (by show 0+List.length _<=1000100;omega) (by decide) (by decide) (by decide) (w0 ?_);exact ⟨2,rfl,.inl ⟨5,rfl,rfl⟩⟩
theorem z7r {l:List (List D)} (hok:okRows 2 l=true) (hl:l.length<=1000000):zDy Tryz.prog 212 [.lst l] l 2:=by
 refine zBn Tryz.func212 1 rfl (by kernel_rfl) (w0 ?_);refine zDs (w0 ?_);intro r hr
 conv=>whnf
 refine zAe (fun h=>?_) (fun h=>?_)<;>conv=>whnf
 ·have:=hr h;exact ⟨2,rfl,.inr ⟨rfl,this⟩⟩
 ·refine aA ?_;refine zAh hok (w0 ?_);refine zAj 1000100 100 (by show 0+List.length _<=1000100;omega) (by decide) (by decide) (by decide) (w0 ?_);exact ⟨2,rfl,.inl ⟨5,rfl,rfl⟩⟩
theorem z3v {l:List (List D)} (hok:okRows 1 l=true) (hl:l.length<=1000000):zDy Tryz.prog 218 [.lst l] l 1:=by
 refine zBn Tryz.func218 1 rfl (by kernel_rfl) (w0 ?_);refine zDs (w0 ?_);intro r hr
 conv=>whnf
 refine zAe (fun h=>?_) (fun h=>?_)<;>conv=>whnf
 ·have:=hr h;exact ⟨2,rfl,.inr ⟨rfl,this⟩⟩
 ·refine aA ?_;refine zAh hok (w0 ?_);refine zAj 1000100 100 (by show 0+List.length _<=1000100;omega) (by decide) (by decide) (by decide) (w0 ?_);exact ⟨2,rfl,.inl ⟨5,rfl,rfl⟩⟩
theorem yHx {l:List (List D)} (hok:okRows 3 l=true) (hl:l.length<=1000000):zDy Tryz.prog 228 [.lst l] l 3:=by
 refine zBn Tryz.func228 1 rfl (by kernel_rfl) (w0 ?_);refine zDs (w0 ?_);intro r hr
 conv=>whnf
 refine zAe (fun h=>?_) (fun h=>?_)<;>conv=>whnf
 ·have:=hr h;exact ⟨2,rfl,.inr ⟨rfl,this⟩⟩
 ·refine aA ?_;refine zAh hok (w0 ?_);refine zAj 1000100 100 (by show 0+List.length _<=1000100;omega) (by decide) (by decide) (by decide) (w0 ?_);exact ⟨2,rfl,.inl ⟨5,rfl,rfl⟩⟩
theorem yTg {l:List (List D)} (hok:okRows 4 l=true) (hl:l.length<=1000000):zDy Tryz.prog 229 [.lst l] l 4:=by
 refine zBn Tryz.func229 1 rfl (by kernel_rfl) (w0 ?_);refine zDs (w0 ?_);intro r hr
 conv=>whnf
 refine zAe (fun h=>?_) (fun h=>?_)<;>conv=>whnf
 ·have:=hr h;exact ⟨2,rfl,.inr ⟨rfl,this⟩⟩
 ·refine aA ?_;refine zAh hok (w0 ?_);refine zAj 1000100 100 (by show 0+List.length _<=1000100;omega) (by decide) (by decide) (by decide) (w0 ?_);exact ⟨2,rfl,.inl ⟨5,rfl,rfl⟩⟩
theorem yHw {l:List (List D)} (hok:okRows 1 l=true) (hl:l.length<=1000000):zDy Tryz.prog 155 [.lst l] l 1:=by
 refine zBn Tryz.func155 1 rfl (by kernel_rfl) (w0 ?_);refine zDs (w0 ?_);intro r hr
 conv=>whnf
 refine zAe (fun h=>?_) (fun h=>?_)<;>conv=>whnf
 ·have:=hr h;exact ⟨2,rfl,.inr ⟨rfl,this⟩⟩
 ·refine aA ?_;refine zAh hok (w0 ?_);refine zAj 1000100 100 (by show 0+List.length _<=1000100;omega) (by decide) (by decide) (by decide) (w0 ?_);exact ⟨2,rfl,.inl ⟨5,rfl,rfl⟩⟩
theorem z7p {l:List (List D)} (hok:okRows 5 l=true) (hl:l.length<=1000000):zDy Tryz.prog 156 [.lst l] l 5:=by
 refine zBn Tryz.func156 1 rfl (by kernel_rfl) (w0 ?_);refine zDs (w0 ?_);intro r hr
 conv=>whnf
 refine zAe (fun h=>?_) (fun h=>?_)<;>conv=>whnf
 ·have:=hr h;exact ⟨2,rfl,.inr ⟨rfl,this⟩⟩
 ·refine aA ?_;refine zAh hok (w0 ?_);refine zAj 1000100 100 (by show 0+List.length _<=1000100;omega) (by decide) (by decide) (by decide) (w0 ?_);exact ⟨2,rfl,.inl ⟨5,rfl,rfl⟩⟩
theorem yTf {l:List (List D)} (hok:okRows 3 l=true) (hl:l.length<=1000000):zDy Tryz.prog 71 [.lst l] l 3:=by
 refine zBn Tryz.func71 1 rfl (by kernel_rfl) (w0 ?_);refine zDs (w0 ?_);intro r hr
 conv=>whnf
 refine zAe (fun h=>?_) (fun h=>?_)<;>conv=>whnf
 ·have:=hr h;exact ⟨2,rfl,.inr ⟨rfl,this⟩⟩
 ·refine aA ?_;refine zAh hok (w0 ?_);refine zAj 1000100 100 (by show 0+List.length _<=1000100;omega) (by decide) (by decide) (by decide) (w0 ?_);exact ⟨2,rfl,.inl ⟨5,rfl,rfl⟩⟩
structure DelI {α:Type} (enc:α->List D) (p:α->Bool) (sz:Nat) (l:List α) (F:List (List D)) (s:Nat×List (List D)):Prop where
 le:s.1<=l.length
 len:s.2.length=F.length
 fst:s.2.take ((l.take s.1).filter fun x=>!p x).length=((l.take s.1).filter fun x=>!p x).map enc
 rst:s.2.drop s.1=F.drop s.1
 lt:((l.take s.1).filter fun x=>!p x).length<s.1
 sz:∀ e∈s.2,e.length=sz
theorem zDa {α:Type} {p:α->Bool} {l:List α} {k:Nat} (hk:k<l.length) (h:p l[k]=true):(l.take (k+1)).filter (fun x=>!p x)=(l.take k).filter fun x=>!p x:=by
 rw [zAs hk,List.filter_append,List.filter_cons,h];simp
theorem zDe {α:Type} {p:α->Bool} {l:List α} {k:Nat} (hk:k<l.length) (h:p l[k]=false):(l.take (k+1)).filter (fun x=>!p x)=(l.take k).filter (fun x=>!p x)++[l[k]]:=by
 rw [zAs hk,List.filter_append,List.filter_cons,h];simp
theorem DelI.skip {α:Type} {enc:α->List D} {p:α->Bool} {sz:Nat} {l:List α} {F R:List (List D)} {j:Nat} (h:DelI enc p sz l F (j,R)) (hj:j<l.length) (hp:p l[j]=true):DelI enc p sz l F (j+1,R):=by
 obtain ⟨h1,h2,h3,h4,h5,h6⟩:=h;simp only [] at h1 h2 h3 h4 h5 h6;refine ⟨hj,h2,?_,?_,?_,h6⟩
 ·simp only [];rw [zDa hj hp];exact h3
 ·simp only [];rw [<-List.drop_drop,h4,List.drop_drop]
 ·simp only [];rw [zDa hj hp];omega
theorem DelI.put {α:Type} {enc:α->List D} {p:α->Bool} {sz:Nat} {l:List α} {F R:List (List D)} {j:Nat} (h:DelI enc p sz l F (j,R)) (hj:j<l.length) (hF:l.length<=F.length) (hp:p l[j]=false) (he:∀ x,(enc x).length=sz):
  DelI enc p sz l F (j+1,R.set ((l.take j).filter fun x=>!p x).length (enc l[j])):=by
 obtain ⟨h1,h2,h3,h4,h5,h6⟩:=h;simp only [] at h1 h2 h3 h4 h5 h6;refine ⟨hj,by simp only [];rw [List.length_set];exact h2,?_,?_,?_,?_⟩
 ·simp only [];rw [zDe hj hp,List.length_append,List.length_singleton,List.map_append,<-h3]
  have hi:((l.take j).filter fun x=>!p x).length<(R.set ((l.take j).filter fun x=>!p x).length (enc l[j])).length:=by rw [List.length_set];omega
  rw [zAs hi,List.getElem_set_self,List.take_set_of_le (Nat.le_refl _)];rfl
 ·simp only [];rw [List.drop_set_of_lt (by omega),<-List.drop_drop,h4,List.drop_drop]
 ·simp only []
  rw [zDe hj hp,List.length_append,List.length_singleton];omega
 ·intro e hm;simp only [] at hm
  rcases List.mem_or_eq_of_mem_set hm with g|rfl
  ·exact h6 e g
  ·exact he _
theorem DelI.get {α:Type} {enc:α->List D} {p:α->Bool} {sz:Nat} {l:List α} {R:List (List D)} {j n:Nat} {u:List D} (h:DelI enc p sz l (l.map enc++List.replicate n u) (j,R)) (hj:j<l.length):R[j]?=some (enc l[j]):=by
 have h4:=h.rst;simp only [] at h4;have:=congrArg (fun x=>x[0]?) h4;simp only [List.getElem?_drop,Nat.add_zero] at this
 rw [this,List.getElem?_append_left (by rw [List.length_map];exact hj),List.getElem?_map,List.getElem?_eq_getElem hj];rfl
theorem DelI.init {α:Type} {enc:α->List D} {p:α->Bool} {sz:Nat} {l:List α} {n:Nat} {i:Nat} (hi:i<l.length) (hn:∀ j (hj:j<i),p (l[j]'(by omega))=false) (hp:p l[i]=true) (he:∀ x,(enc x).length=sz):
  DelI enc p sz l (l.map enc++List.replicate n (List.replicate sz D.unk)) (i+1,l.map enc++List.replicate n (List.replicate sz D.unk)) /\ ((l.take (i+1)).filter fun x=>!p x).length=i:=by
 have e:(l.take (i+1)).filter (fun x=>!p x)=l.take i:=by
  rw [zDa hi hp,List.filter_eq_self.2];intro a ha;obtain ⟨j,hj,rfl⟩:=List.mem_iff_getElem.1 ha
  rw [List.getElem_take,hn j (by rw [List.length_take] at hj;omega)];rfl
 have el:(l.take i).length=i:=by rw [List.length_take];omega
 refine ⟨⟨hi,rfl,?_,rfl,?_,?_⟩,by rw [e,el]⟩
 ·simp only [];rw [e,el,List.take_append_of_le_length (by rw [List.length_map];omega),List.map_take]
 ·simp only [];rw [e,el];omega
 ·intro x hx;simp only [] at hx
  rcases List.mem_append.1 hx with g|g
  ·obtain ⟨y,_,rfl⟩:=List.mem_map.1 g;exact he y
  ·rw [(List.mem_replicate.1 g).2,List.length_replicate]
theorem zLn {α:Type} {p:α->Bool}:∀ {l:List α} {k i:Nat},ixF p l k=((k+i:Nat):Int)->∃ hi:i<l.length,p l[i]=true/\ ∀ j (hj:j<i),p (l[j]'(by omega))=false
 | [],k,i,h=>by rw [ixF] at h;omega
 |x::r,k,i,h=>by
  rw [ixF] at h
  split at h
  ·rename_i e
   have:i=0:=by omega
   subst this;exact ⟨Nat.zero_lt_succ _,e,fun j hj=>absurd hj (Nat.not_lt_zero _)⟩
  ·rename_i e
   cases i with
   |zero=>
    exfalso
    by_cases g:0<=ixF p r (k+1)
    ·obtain ⟨j,_,e2,_⟩:=zNs (k:=k+1) (List.any_eq_true.1 ((yCd p r (k+1)).1 g));omega
    ·omega
   |succ i=>
    obtain ⟨hi,h1,h2⟩:=zLn (l:=r) (k:=k+1) (i:=i) (by rw [h];omega);refine ⟨Nat.succ_lt_succ hi,h1,fun j hj=>?_⟩
    cases j with
    |zero=>simpa using e
    |succ j=>exact h2 j (by omega)
theorem yCe {α:Type} {p:α->Bool} {l:List α} {k:Nat} (h:ixF p l k=-1):∀ x∈l,p x=false:=by
 intro x hx
 cases e:p x with
 |false=>rfl
 |true=>
  obtain ⟨i,_,e2,_⟩:=zNs (k:=k) ⟨x,hx,e⟩;omega
theorem zPe {α:Type} (p:α->Bool) (l:List α):ixF p l 0=-1\/ ∃ i:Nat,ixF p l 0=(i:Int):=by
 by_cases h:∃ x∈l,p x=true
 ·obtain ⟨i,_,e,_⟩:=zNs (k:=0) h;exact .inr ⟨0+i,e⟩
 ·left
  refine zPf fun x hx=>?_
  cases e:p x with
  |false=>rfl
  |true=>exact absurd ⟨x,hx,e⟩ h
theorem zKf {R:List (List D)} {j sz:Nat} {e v:List D} (h1:e.length=sz) (h2:v.length=sz):R.set (0+j) (zAy e 0 v)=R.set j v:=by
 rw [zMt (by omega) (by omega),Nat.zero_add]
theorem ixClW (g:FuncId) (cs:List D) (p:Nat×Bool->Bool) (hg:∀ c:Nat×Bool,zAk Tryz.prog g (.agg (zBa c)::cs) (.bool (p c))) (l:List (Nat×Bool)) (R:List (List D)) (c:Nat) (hl:l.length<=1000000) (hRl:R.take l.length=l.map zBa):
  zBc Tryz.prog 162 [.win 1000000 0 l.length (some c),.d (.fn g cs)] [(1000000,.row R 3 false)] [(1000000,.row R 3 false)] (.int .i64 (ixF p l 0)):=by
 refine zAt Tryz.func162 2 rfl (by kernel_rfl) (by rfl) (w0 ?_);refine zAr (ι:=Nat) (fun k=>[(0,.win 1000000 0 l.length (some c)),(1,.d (.fn g cs)),(7,.d (.int .i64 l.length)),(8,.d (.int .i64 k))]) (fun _=>[(1000000,.row R 3 false)])
  (fun k=>k<=l.length/\ixF p (l.drop k) k=ixF p l 0) (fun k=>l.length-k) 0 ⟨Nat.zero_le _,rfl⟩ (le0 (zAb ⟨rfl,rfl,rfl,rfl,trivial⟩ ⟨rfl,trivial⟩ ⟨rfl,rfl,rfl,rfl⟩)) ?_
 rintro k ⟨hk,hR⟩
 conv=>whnf
 refine bcase_p (fun h=>?_) (fun h=>?_)<;>conv=>whnf
 ·have hk2:k<l.length:=by omega
  have hg0:R[0+k]?=some (zBa l[k]):=by
   rw [Nat.zero_add]
   have:(R.take l.length)[k]?=some (zBa l[k]):=by rw [hRl,List.getElem?_map,List.getElem?_eq_getElem hk2];rfl
   rwa [List.getElem?_take_of_lt hk2] at this
  refine aO ?_;refine zAd (by omega) (w0 ?_);refine zAc hg0 (aW ?_);rw [zBh hk2,ixF] at hR;refine zAa (hg l[k]) (w0 ?_)
  refine zAe (fun h2=>?_) (fun h2=>?_)<;>conv=>whnf
  ·rw [if_pos h2] at hR;exact zAi rfl (by rw [<-hR];rfl) rfl ⟨rfl,trivial⟩
  ·rw [if_neg (by rw [h2];decide)] at hR;refine aA ?_;exact ⟨k+1,⟨by omega,hR⟩,by omega,(le0 (zAb ⟨rfl,rfl,rfl,rfl,trivial⟩ ⟨rfl,trivial⟩ ⟨rfl,rfl,rfl,rfl⟩))⟩
 ·have:k=l.length:=by omega
  subst this;simp [ixF] at hR;exact zAi rfl (by rw [<-hR];rfl) rfl ⟨rfl,trivial⟩
theorem delCl (g:FuncId) (cs:List D) (p:Nat×Bool->Bool) (hg:∀ c:Nat×Bool,zAk Tryz.prog g (.agg (zBa c)::cs) (.bool (p c))) (l:List (Nat×Bool)) (hl:l.length<=1000000):zXo Tryz.prog 222 (l.map zBa) 3 [.d (.fn g cs)] [] [] ((l.filter fun x=>!p x).map zBa):=by
 refine zKg Tryz.func222 2 rfl (by kernel_rfl) (by rfl) ?_;refine ⟨fun cap hcap=>?_,fun h0=>?_⟩
 ·have hm:(l.map zBa).length=l.length:=List.length_map ..
  rw [hm] at hcap⊢;obtain ⟨F,hF⟩:∃ F,F=l.map zBa++List.replicate (cap-l.length) (List.replicate 3 D.unk):=⟨_,rfl⟩
  have hFl:F.length=cap:=by rw [hF];simp;omega
  have hFt:F.take l.length=l.map zBa:=by rw [hF];exact List.take_left' hm
  rw [<-hF]
  conv=>whnf
  refine zAg (ixClW g cs p hg l F cap hl hFt) [(1000000,1000004)] rfl ⟨rfl,trivial⟩ rfl (w0 ?_)
  rcases zPe p l with e|⟨i,e⟩
  ·rw [e];refine aO ?_;refine zD rfl rfl rfl (by omega) ?_ rfl trivial;rw [hFt,List.filter_eq_self.2];intro x hx
   rw [yCe e x hx];rfl
  ·rw [e];obtain ⟨hi,hp,hb⟩:=zLn (i:=i) (k:=0) (by rw [e];congr 1;omega);obtain ⟨hD,hDl⟩:=DelI.init (enc:=zBa) (sz:=3) (n:=cap-l.length) hi hb hp (fun _=>rfl);rw [<-hF] at hD;refine aO ?_;refine zAr (ι:=Nat×List (List D)) (fun s=>[(0,.win 1000004 0 l.length (some cap)),(1,.d (.fn g cs)),(5,.d (.int .i64 ((l.take s.1).filter fun x=>!p x).length)),(6,.d (.int .i64 s.1))]) (fun s=>[(1000004,.row s.2 3 false)])
    (DelI zBa p 3 l F) (fun s=>l.length-s.1) (i+1,F) hD (le0 (zAb ⟨rfl,rfl,by rw [hDl];rfl,rfl,trivial⟩ ⟨rfl,trivial⟩ ⟨rfl,rfl,rfl,rfl⟩)) ?_
   rintro ⟨j,R⟩ hI;have q1:=hI.le;have q2:=hI.len;have q3:=hI.fst;have q5:=hI.lt;simp only [] at q1 q2 q3 q5⊢
   conv=>whnf
   refine bcase_p (fun h5=>?_) (fun h5=>?_)<;>conv=>whnf
   ·have hj:j<l.length:=by omega
    have hq:R[0+j]?=some (zBa l[j]):=by rw [Nat.zero_add];rw [hF] at hI;exact hI.get hj
    refine zAd (by omega) (w0 ?_);refine zAc hq (aO ?_);refine zAa (hg l[j]) (w0 ?_)
    cases h2:p l[j] with
    |true=>
     refine aO ?_;exact ⟨(j+1,R),hI.skip hj h2,by dsimp only;omega,le0 (zAb ⟨rfl,rfl,by rw [zDa hj h2];rfl,rfl,trivial⟩ ⟨rfl,trivial⟩ ⟨rfl,rfl,rfl,rfl⟩)⟩
    |false=>
     have hi3:((l.take j).filter fun x=>!p x).length<R.length:=by omega
     have hi4:((l.take j).filter fun x=>!p x).length<l.length:=by omega
     have hsz:=hI.sz _ (List.getElem_mem hi3);have hJ:=hI.put hj (by omega) h2 (fun _=>rfl);have es:=zKf (R:=R) (j:=((l.take j).filter fun x=>!p x).length) (e:=R[((l.take j).filter fun x=>!p x).length]) (v:=zBa l[j]) hsz rfl;rw [<-es] at hJ
     have eN:((l.take (j+1)).filter fun x=>!p x).length=((l.take j).filter fun x=>!p x).length+1:=by rw [zDe hj h2,List.length_append];rfl
     refine aO ?_;refine zAd (by omega) (w0 ?_);refine zAc (x:=R[((l.take j).filter fun x=>!p x).length]) (by rw [Nat.zero_add,List.getElem?_eq_getElem hi3]) (w0 ?_);refine zDv (by rw [hsz];rfl) (aO ?_);refine ⟨(j+1,_),hJ,by dsimp only;omega,le0 (zAb ⟨rfl,rfl,by rw [eN];rfl,rfl,trivial⟩ ⟨rfl,trivial⟩ ⟨rfl,rfl,rfl,rfl⟩)⟩
   ·have hjl:j=l.length:=by omega
    subst hjl;rw [List.take_length] at q3 q5⊢;refine aO ?_;refine zDc (by omega) (by show l.length<=cap;omega) (w0 ?_)
    have hfl:(l.filter fun x=>!p x).length<=l.length:=List.length_filter_le ..
    refine zAh ⟨by omega,rfl⟩ (aO ?_);refine zHv (by show _<=cap;omega) (w0 ?_);refine zD rfl rfl rfl ?_ ?_ rfl trivial
    ·simp;omega
    ·rw [Nat.zero_add,<-q3];exact List.take_left' (by rw [List.length_take];omega)
 ·have:l=[]:=List.map_eq_nil_iff.1 h0;subst this
  conv=>whnf
  refine zAa (yJs g cs p hg [] (by simp)) (aO ?_);exact zUf rfl rfl rfl trivial
theorem ixTkW (g:FuncId) (cs:List D) (p:Nat->Bool) (hg:∀ c:Nat,zAk Tryz.prog g (.agg (zCs c)::cs) (.bool (p c))) (l:List (Nat)) (R:List (List D)) (c:Nat) (hl:l.length<=1000000) (hRl:R.take l.length=l.map zCs):
  zBc Tryz.prog 164 [.win 1000000 0 l.length (some c),.d (.fn g cs)] [(1000000,.row R 2 false)] [(1000000,.row R 2 false)] (.int .i64 (ixF p l 0)):=by
 refine zAt Tryz.func164 2 rfl (by kernel_rfl) (by rfl) (w0 ?_);refine zAr (ι:=Nat) (fun k=>[(0,.win 1000000 0 l.length (some c)),(1,.d (.fn g cs)),(7,.d (.int .i64 l.length)),(8,.d (.int .i64 k))]) (fun _=>[(1000000,.row R 2 false)])
  (fun k=>k<=l.length/\ixF p (l.drop k) k=ixF p l 0) (fun k=>l.length-k) 0 ⟨Nat.zero_le _,rfl⟩ (le0 (zAb ⟨rfl,rfl,rfl,rfl,trivial⟩ ⟨rfl,trivial⟩ ⟨rfl,rfl,rfl,rfl⟩)) ?_
 rintro k ⟨hk,hR⟩
 conv=>whnf
 refine bcase_p (fun h=>?_) (fun h=>?_)<;>conv=>whnf
 ·have hk2:k<l.length:=by omega
  have hg0:R[0+k]?=some (zCs l[k]):=by
   rw [Nat.zero_add]
   have:(R.take l.length)[k]?=some (zCs l[k]):=by rw [hRl,List.getElem?_map,List.getElem?_eq_getElem hk2];rfl
   rwa [List.getElem?_take_of_lt hk2] at this
  refine aO ?_;refine zAd (by omega) (w0 ?_);refine zAc hg0 (aW ?_);rw [zBh hk2,ixF] at hR;refine zAa (hg l[k]) (w0 ?_)
  refine zAe (fun h2=>?_) (fun h2=>?_)<;>conv=>whnf
  ·rw [if_pos h2] at hR;exact zAi rfl (by rw [<-hR];rfl) rfl ⟨rfl,trivial⟩
  ·rw [if_neg (by rw [h2];decide)] at hR;refine aA ?_;exact ⟨k+1,⟨by omega,hR⟩,by omega,(le0 (zAb ⟨rfl,rfl,rfl,rfl,trivial⟩ ⟨rfl,trivial⟩ ⟨rfl,rfl,rfl,rfl⟩))⟩
 ·have:k=l.length:=by omega
  subst this;simp [ixF] at hR;exact zAi rfl (by rw [<-hR];rfl) rfl ⟨rfl,trivial⟩
theorem delTk (g:FuncId) (cs:List D) (p:Nat->Bool) (hg:∀ c:Nat,zAk Tryz.prog g (.agg (zCs c)::cs) (.bool (p c))) (l:List (Nat)) (hl:l.length<=1000000):zXo Tryz.prog 224 (l.map zCs) 2 [.d (.fn g cs)] [] [] ((l.filter fun x=>!p x).map zCs):=by
 refine zKg Tryz.func224 2 rfl (by kernel_rfl) (by rfl) ?_;refine ⟨fun cap hcap=>?_,fun h0=>?_⟩
 ·have hm:(l.map zCs).length=l.length:=List.length_map ..
  rw [hm] at hcap⊢;obtain ⟨F,hF⟩:∃ F,F=l.map zCs++List.replicate (cap-l.length) (List.replicate 2 D.unk):=⟨_,rfl⟩
  have hFl:F.length=cap:=by rw [hF];simp;omega
  have hFt:F.take l.length=l.map zCs:=by rw [hF];exact List.take_left' hm
  rw [<-hF]
  conv=>whnf
  refine zAg (ixTkW g cs p hg l F cap hl hFt) [(1000000,1000004)] rfl ⟨rfl,trivial⟩ rfl (w0 ?_)
  rcases zPe p l with e|⟨i,e⟩
  ·rw [e];refine aO ?_;refine zD rfl rfl rfl (by omega) ?_ rfl trivial;rw [hFt,List.filter_eq_self.2];intro x hx
   rw [yCe e x hx];rfl
  ·rw [e];obtain ⟨hi,hp,hb⟩:=zLn (i:=i) (k:=0) (by rw [e];congr 1;omega);obtain ⟨hD,hDl⟩:=DelI.init (enc:=zCs) (sz:=2) (n:=cap-l.length) hi hb hp (fun _=>rfl);rw [<-hF] at hD;refine aO ?_;refine zAr (ι:=Nat×List (List D)) (fun s=>[(0,.win 1000004 0 l.length (some cap)),(1,.d (.fn g cs)),(5,.d (.int .i64 ((l.take s.1).filter fun x=>!p x).length)),(6,.d (.int .i64 s.1))]) (fun s=>[(1000004,.row s.2 2 false)])
    (DelI zCs p 2 l F) (fun s=>l.length-s.1) (i+1,F) hD (le0 (zAb ⟨rfl,rfl,by rw [hDl];rfl,rfl,trivial⟩ ⟨rfl,trivial⟩ ⟨rfl,rfl,rfl,rfl⟩)) ?_
   rintro ⟨j,R⟩ hI;have q1:=hI.le;have q2:=hI.len;have q3:=hI.fst;have q5:=hI.lt;simp only [] at q1 q2 q3 q5⊢
   conv=>whnf
   refine bcase_p (fun h5=>?_) (fun h5=>?_)<;>conv=>whnf
   ·have hj:j<l.length:=by omega
    have hq:R[0+j]?=some (zCs l[j]):=by rw [Nat.zero_add];rw [hF] at hI;exact hI.get hj
    refine zAd (by omega) (w0 ?_);refine zAc hq (aO ?_);refine zAa (hg l[j]) (w0 ?_)
    cases h2:p l[j] with
    |true=>
     refine aO ?_;exact ⟨(j+1,R),hI.skip hj h2,by dsimp only;omega,le0 (zAb ⟨rfl,rfl,by rw [zDa hj h2];rfl,rfl,trivial⟩ ⟨rfl,trivial⟩ ⟨rfl,rfl,rfl,rfl⟩)⟩
    |false=>
     have hi3:((l.take j).filter fun x=>!p x).length<R.length:=by omega
     have hi4:((l.take j).filter fun x=>!p x).length<l.length:=by omega
     have hsz:=hI.sz _ (List.getElem_mem hi3);have hJ:=hI.put hj (by omega) h2 (fun _=>rfl);have es:=zKf (R:=R) (j:=((l.take j).filter fun x=>!p x).length) (e:=R[((l.take j).filter fun x=>!p x).length]) (v:=zCs l[j]) hsz rfl;rw [<-es] at hJ
     have eN:((l.take (j+1)).filter fun x=>!p x).length=((l.take j).filter fun x=>!p x).length+1:=by rw [zDe hj h2,List.length_append];rfl
     refine aO ?_;refine zAd (by omega) (w0 ?_);refine zAc (x:=R[((l.take j).filter fun x=>!p x).length]) (by rw [Nat.zero_add,List.getElem?_eq_getElem hi3]) (w0 ?_);refine zDv (by rw [hsz];rfl) (aO ?_);refine ⟨(j+1,_),hJ,by dsimp only;omega,le0 (zAb ⟨rfl,rfl,by rw [eN];rfl,rfl,trivial⟩ ⟨rfl,trivial⟩ ⟨rfl,rfl,rfl,rfl⟩)⟩
   ·have hjl:j=l.length:=by omega
    subst hjl;rw [List.take_length] at q3 q5⊢;refine aO ?_;refine zDc (by omega) (by show l.length<=cap;omega) (w0 ?_)
    have hfl:(l.filter fun x=>!p x).length<=l.length:=List.length_filter_le ..
    refine zAh ⟨by omega,rfl⟩ (aO ?_);refine zHv (by show _<=cap;omega) (w0 ?_);refine zD rfl rfl rfl ?_ ?_ rfl trivial
    ·simp;omega
    ·rw [Nat.zero_add,<-q3];exact List.take_left' (by rw [List.length_take];omega)
 ·have:l=[]:=List.map_eq_nil_iff.1 h0;subst this
  conv=>whnf
  refine zAa (yJt g cs p hg [] (by simp)) (aO ?_);exact zUf rfl rfl rfl trivial
theorem ixNW (g:FuncId) (cs:List D) (p:Nat->Bool) (hg:∀ c:Nat,zAk Tryz.prog g (.int .i64 c::cs) (.bool (p c))) (l:List (Nat)) (R:List (List D)) (c:Nat) (hl:l.length<=1000000) (hRl:R.take l.length=l.map encN):
  zBc Tryz.prog 263 [.win 1000000 0 l.length (some c),.d (.fn g cs)] [(1000000,.row R 1 false)] [(1000000,.row R 1 false)] (.int .i64 (ixF p l 0)):=by
 refine zAt Tryz.func263 2 rfl (by kernel_rfl) (by rfl) (w0 ?_);refine zAr (ι:=Nat) (fun k=>[(0,.win 1000000 0 l.length (some c)),(1,.d (.fn g cs)),(7,.d (.int .i64 l.length)),(8,.d (.int .i64 k))]) (fun _=>[(1000000,.row R 1 false)])
  (fun k=>k<=l.length/\ixF p (l.drop k) k=ixF p l 0) (fun k=>l.length-k) 0 ⟨Nat.zero_le _,rfl⟩ (le0 (zAb ⟨rfl,rfl,rfl,rfl,trivial⟩ ⟨rfl,trivial⟩ ⟨rfl,rfl,rfl,rfl⟩)) ?_
 rintro k ⟨hk,hR⟩
 conv=>whnf
 refine bcase_p (fun h=>?_) (fun h=>?_)<;>conv=>whnf
 ·have hk2:k<l.length:=by omega
  have hg0:R[0+k]?=some (encN l[k]):=by
   rw [Nat.zero_add]
   have:(R.take l.length)[k]?=some (encN l[k]):=by rw [hRl,List.getElem?_map,List.getElem?_eq_getElem hk2];rfl
   rwa [List.getElem?_take_of_lt hk2] at this
  refine aO ?_;refine zAd (by omega) (w0 ?_);refine zAc hg0 (aW ?_);rw [zBh hk2,ixF] at hR;refine zAa (hg l[k]) (w0 ?_)
  refine zAe (fun h2=>?_) (fun h2=>?_)<;>conv=>whnf
  ·rw [if_pos h2] at hR;exact zAi rfl (by rw [<-hR];rfl) rfl ⟨rfl,trivial⟩
  ·rw [if_neg (by rw [h2];decide)] at hR;refine aA ?_;exact ⟨k+1,⟨by omega,hR⟩,by omega,(le0 (zAb ⟨rfl,rfl,rfl,rfl,trivial⟩ ⟨rfl,trivial⟩ ⟨rfl,rfl,rfl,rfl⟩))⟩
 ·have:k=l.length:=by omega
  subst this;simp [ixF] at hR;exact zAi rfl (by rw [<-hR];rfl) rfl ⟨rfl,trivial⟩
theorem delN (g:FuncId) (cs:List D) (p:Nat->Bool) (hg:∀ c:Nat,zAk Tryz.prog g (.int .i64 c::cs) (.bool (p c))) (l:List (Nat)) (hl:l.length<=1000000):zXo Tryz.prog 217 (l.map encN) 1 [.d (.fn g cs)] [] [] ((l.filter fun x=>!p x).map encN):=by
 refine zKg Tryz.func217 2 rfl (by kernel_rfl) (by rfl) ?_;refine ⟨fun cap hcap=>?_,fun h0=>?_⟩
 ·have hm:(l.map encN).length=l.length:=List.length_map ..
  rw [hm] at hcap⊢;obtain ⟨F,hF⟩:∃ F,F=l.map encN++List.replicate (cap-l.length) (List.replicate 1 D.unk):=⟨_,rfl⟩
  have hFl:F.length=cap:=by rw [hF];simp;omega
  have hFt:F.take l.length=l.map encN:=by rw [hF];exact List.take_left' hm
  rw [<-hF]
  conv=>whnf
  refine zAg (ixNW g cs p hg l F cap hl hFt) [(1000000,1000004)] rfl ⟨rfl,trivial⟩ rfl (w0 ?_)
  rcases zPe p l with e|⟨i,e⟩
  ·rw [e];refine aO ?_;refine zD rfl rfl rfl (by omega) ?_ rfl trivial;rw [hFt,List.filter_eq_self.2];intro x hx
   rw [yCe e x hx];rfl
  ·rw [e];obtain ⟨hi,hp,hb⟩:=zLn (i:=i) (k:=0) (by rw [e];congr 1;omega);obtain ⟨hD,hDl⟩:=DelI.init (enc:=encN) (sz:=1) (n:=cap-l.length) hi hb hp (fun _=>rfl);rw [<-hF] at hD;refine aO ?_;refine zAr (ι:=Nat×List (List D)) (fun s=>[(0,.win 1000004 0 l.length (some cap)),(1,.d (.fn g cs)),(5,.d (.int .i64 ((l.take s.1).filter fun x=>!p x).length)),(6,.d (.int .i64 s.1))]) (fun s=>[(1000004,.row s.2 1 false)])
    (DelI encN p 1 l F) (fun s=>l.length-s.1) (i+1,F) hD (le0 (zAb ⟨rfl,rfl,by rw [hDl];rfl,rfl,trivial⟩ ⟨rfl,trivial⟩ ⟨rfl,rfl,rfl,rfl⟩)) ?_
   rintro ⟨j,R⟩ hI;have q1:=hI.le;have q2:=hI.len;have q3:=hI.fst;have q5:=hI.lt;simp only [] at q1 q2 q3 q5⊢
   conv=>whnf
   refine bcase_p (fun h5=>?_) (fun h5=>?_)<;>conv=>whnf
   ·have hj:j<l.length:=by omega
    have hq:R[0+j]?=some (encN l[j]):=by rw [Nat.zero_add];rw [hF] at hI;exact hI.get hj
    refine zAd (by omega) (w0 ?_);refine zAc hq (aO ?_);refine zAa (hg l[j]) (w0 ?_)
    cases h2:p l[j] with
    |true=>
     refine aO ?_;exact ⟨(j+1,R),hI.skip hj h2,by dsimp only;omega,le0 (zAb ⟨rfl,rfl,by rw [zDa hj h2];rfl,rfl,trivial⟩ ⟨rfl,trivial⟩ ⟨rfl,rfl,rfl,rfl⟩)⟩
    |false=>
     have hi3:((l.take j).filter fun x=>!p x).length<R.length:=by omega
     have hi4:((l.take j).filter fun x=>!p x).length<l.length:=by omega
     have hsz:=hI.sz _ (List.getElem_mem hi3);have hJ:=hI.put hj (by omega) h2 (fun _=>rfl);have es:=zKf (R:=R) (j:=((l.take j).filter fun x=>!p x).length) (e:=R[((l.take j).filter fun x=>!p x).length]) (v:=encN l[j]) hsz rfl;rw [<-es] at hJ
     have eN:((l.take (j+1)).filter fun x=>!p x).length=((l.take j).filter fun x=>!p x).length+1:=by rw [zDe hj h2,List.length_append];rfl
     refine aO ?_;refine zAd (by omega) (w0 ?_);refine zAc (x:=R[((l.take j).filter fun x=>!p x).length]) (by rw [Nat.zero_add,List.getElem?_eq_getElem hi3]) (w0 ?_);refine zDv (by rw [hsz];rfl) (aO ?_);refine ⟨(j+1,_),hJ,by dsimp only;omega,le0 (zAb ⟨rfl,rfl,by rw [eN];rfl,rfl,trivial⟩ ⟨rfl,trivial⟩ ⟨rfl,rfl,rfl,rfl⟩)⟩
   ·have hjl:j=l.length:=by omega
    subst hjl;rw [List.take_length] at q3 q5⊢;refine aO ?_;refine zDc (by omega) (by show l.length<=cap;omega) (w0 ?_)
    have hfl:(l.filter fun x=>!p x).length<=l.length:=List.length_filter_le ..
    refine zAh ⟨by omega,rfl⟩ (aO ?_);refine zHv (by show _<=cap;omega) (w0 ?_);refine zD rfl rfl rfl ?_ ?_ rfl trivial
    ·simp;omega
    ·rw [Nat.zero_add,<-q3];exact List.take_left' (by rw [List.length_take];omega)
 ·have:l=[]:=List.map_eq_nil_iff.1 h0;subst this
  conv=>whnf
  refine zAa (ixN_ok g cs p hg [] (by simp)) (aO ?_);exact zUf rfl rfl rfl trivial
theorem ixWtW (g:FuncId) (cs:List D) (p:Nat×Bool->Bool) (hg:∀ c:Nat×Bool,zAk Tryz.prog g (.agg (zCg c)::cs) (.bool (p c))) (l:List (Nat×Bool)) (R:List (List D)) (c:Nat) (hl:l.length<=1000000) (hRl:R.take l.length=l.map zCg):
  zBc Tryz.prog 264 [.win 1000000 0 l.length (some c),.d (.fn g cs)] [(1000000,.row R 2 false)] [(1000000,.row R 2 false)] (.int .i64 (ixF p l 0)):=by
 refine zAt Tryz.func264 2 rfl (by kernel_rfl) (by rfl) (w0 ?_);refine zAr (ι:=Nat) (fun k=>[(0,.win 1000000 0 l.length (some c)),(1,.d (.fn g cs)),(7,.d (.int .i64 l.length)),(8,.d (.int .i64 k))]) (fun _=>[(1000000,.row R 2 false)])
  (fun k=>k<=l.length/\ixF p (l.drop k) k=ixF p l 0) (fun k=>l.length-k) 0 ⟨Nat.zero_le _,rfl⟩ (le0 (zAb ⟨rfl,rfl,rfl,rfl,trivial⟩ ⟨rfl,trivial⟩ ⟨rfl,rfl,rfl,rfl⟩)) ?_
 rintro k ⟨hk,hR⟩
 conv=>whnf
 refine bcase_p (fun h=>?_) (fun h=>?_)<;>conv=>whnf
 ·have hk2:k<l.length:=by omega
  have hg0:R[0+k]?=some (zCg l[k]):=by
   rw [Nat.zero_add]
   have:(R.take l.length)[k]?=some (zCg l[k]):=by rw [hRl,List.getElem?_map,List.getElem?_eq_getElem hk2];rfl
   rwa [List.getElem?_take_of_lt hk2] at this
  refine aO ?_;refine zAd (by omega) (w0 ?_);refine zAc hg0 (aW ?_);rw [zBh hk2,ixF] at hR;refine zAa (hg l[k]) (w0 ?_)
  refine zAe (fun h2=>?_) (fun h2=>?_)<;>conv=>whnf
  ·rw [if_pos h2] at hR;exact zAi rfl (by rw [<-hR];rfl) rfl ⟨rfl,trivial⟩
  ·rw [if_neg (by rw [h2];decide)] at hR;refine aA ?_;exact ⟨k+1,⟨by omega,hR⟩,by omega,(le0 (zAb ⟨rfl,rfl,rfl,rfl,trivial⟩ ⟨rfl,trivial⟩ ⟨rfl,rfl,rfl,rfl⟩))⟩
 ·have:k=l.length:=by omega
  subst this;simp [ixF] at hR;exact zAi rfl (by rw [<-hR];rfl) rfl ⟨rfl,trivial⟩
theorem delWt (g:FuncId) (cs:List D) (p:Nat×Bool->Bool) (hg:∀ c:Nat×Bool,zAk Tryz.prog g (.agg (zCg c)::cs) (.bool (p c))) (l:List (Nat×Bool)) (hl:l.length<=1000000):zXo Tryz.prog 220 (l.map zCg) 2 [.d (.fn g cs)] [] [] ((l.filter fun x=>!p x).map zCg):=by
 refine zKg Tryz.func220 2 rfl (by kernel_rfl) (by rfl) ?_;refine ⟨fun cap hcap=>?_,fun h0=>?_⟩
 ·have hm:(l.map zCg).length=l.length:=List.length_map ..
  rw [hm] at hcap⊢;obtain ⟨F,hF⟩:∃ F,F=l.map zCg++List.replicate (cap-l.length) (List.replicate 2 D.unk):=⟨_,rfl⟩
  have hFl:F.length=cap:=by rw [hF];simp;omega
  have hFt:F.take l.length=l.map zCg:=by rw [hF];exact List.take_left' hm
  rw [<-hF]
  conv=>whnf
  refine zAg (ixWtW g cs p hg l F cap hl hFt) [(1000000,1000004)] rfl ⟨rfl,trivial⟩ rfl (w0 ?_)
  rcases zPe p l with e|⟨i,e⟩
  ·rw [e];refine aO ?_;refine zD rfl rfl rfl (by omega) ?_ rfl trivial;rw [hFt,List.filter_eq_self.2];intro x hx
   rw [yCe e x hx];rfl
  ·rw [e];obtain ⟨hi,hp,hb⟩:=zLn (i:=i) (k:=0) (by rw [e];congr 1;omega);obtain ⟨hD,hDl⟩:=DelI.init (enc:=zCg) (sz:=2) (n:=cap-l.length) hi hb hp (fun _=>rfl);rw [<-hF] at hD;refine aO ?_;refine zAr (ι:=Nat×List (List D)) (fun s=>[(0,.win 1000004 0 l.length (some cap)),(1,.d (.fn g cs)),(5,.d (.int .i64 ((l.take s.1).filter fun x=>!p x).length)),(6,.d (.int .i64 s.1))]) (fun s=>[(1000004,.row s.2 2 false)])
    (DelI zCg p 2 l F) (fun s=>l.length-s.1) (i+1,F) hD (le0 (zAb ⟨rfl,rfl,by rw [hDl];rfl,rfl,trivial⟩ ⟨rfl,trivial⟩ ⟨rfl,rfl,rfl,rfl⟩)) ?_
   rintro ⟨j,R⟩ hI;have q1:=hI.le;have q2:=hI.len;have q3:=hI.fst;have q5:=hI.lt;simp only [] at q1 q2 q3 q5⊢
   conv=>whnf
   refine bcase_p (fun h5=>?_) (fun h5=>?_)<;>conv=>whnf
   ·have hj:j<l.length:=by omega
    have hq:R[0+j]?=some (zCg l[j]):=by rw [Nat.zero_add];rw [hF] at hI;exact hI.get hj
    refine zAd (by omega) (w0 ?_);refine zAc hq (aO ?_);refine zAa (hg l[j]) (w0 ?_)
    cases h2:p l[j] with
    |true=>
     refine aO ?_;exact ⟨(j+1,R),hI.skip hj h2,by dsimp only;omega,le0 (zAb ⟨rfl,rfl,by rw [zDa hj h2];rfl,rfl,trivial⟩ ⟨rfl,trivial⟩ ⟨rfl,rfl,rfl,rfl⟩)⟩
    |false=>
     have hi3:((l.take j).filter fun x=>!p x).length<R.length:=by omega
     have hi4:((l.take j).filter fun x=>!p x).length<l.length:=by omega
     have hsz:=hI.sz _ (List.getElem_mem hi3);have hJ:=hI.put hj (by omega) h2 (fun _=>rfl);have es:=zKf (R:=R) (j:=((l.take j).filter fun x=>!p x).length) (e:=R[((l.take j).filter fun x=>!p x).length]) (v:=zCg l[j]) hsz rfl;rw [<-es] at hJ
     have eN:((l.take (j+1)).filter fun x=>!p x).length=((l.take j).filter fun x=>!p x).length+1:=by rw [zDe hj h2,List.length_append];rfl
     refine aO ?_;refine zAd (by omega) (w0 ?_);refine zAc (x:=R[((l.take j).filter fun x=>!p x).length]) (by rw [Nat.zero_add,List.getElem?_eq_getElem hi3]) (w0 ?_);refine zDv (by rw [hsz];rfl) (aO ?_);refine ⟨(j+1,_),hJ,by dsimp only;omega,le0 (zAb ⟨rfl,rfl,by rw [eN];rfl,rfl,trivial⟩ ⟨rfl,trivial⟩ ⟨rfl,rfl,rfl,rfl⟩)⟩
   ·have hjl:j=l.length:=by omega
    subst hjl;rw [List.take_length] at q3 q5⊢;refine aO ?_;refine zDc (by omega) (by show l.length<=cap;omega) (w0 ?_)
    have hfl:(l.filter fun x=>!p x).length<=l.length:=List.length_filter_le ..
    refine zAh ⟨by omega,rfl⟩ (aO ?_);refine zHv (by show _<=cap;omega) (w0 ?_);refine zD rfl rfl rfl ?_ ?_ rfl trivial
    ·simp;omega
    ·rw [Nat.zero_add,<-q3];exact List.take_left' (by rw [List.length_take];omega)
 ·have:l=[]:=List.map_eq_nil_iff.1 h0;subst this
  conv=>whnf
  refine zAa (yJu g cs p hg [] (by simp)) (aO ?_);exact zUf rfl rfl rfl trivial
theorem yOj (v:Int) (l:List Nat) (hl:l.length<=1000000):zAk Tryz.prog 257 [.lst (l.map encN),.int .i64 v] (.int .i64 (ixF (isT v) l 0)):=by
 refine zAf Tryz.func257 2 rfl (by kernel_rfl) (w0 ?_);refine zAr (ι:=Nat) (fun k=>[(0,.d (.lst (l.map encN))),(1,.d (.int .i64 v)),(7,.d (.int .i64 (l.map encN).length)),(8,.d (.int .i64 k))]) (fun _=>[])
  (fun k=>k<=l.length/\ixF (isT v) (l.drop k) k=ixF (isT v) l 0) (fun k=>l.length-k) 0 ⟨Nat.zero_le _,rfl⟩ (le0 (zAb ⟨rfl,rfl,rfl,rfl,trivial⟩ trivial ⟨rfl,rfl,rfl,rfl⟩)) ?_
 rintro k ⟨hk,hR⟩
 conv=>whnf
 refine bcase_p (fun h=>?_) (fun h=>?_)<;>conv=>whnf
 ·have hk2:k<l.length:=by simpa using h
  refine zAd (by omega) (w0 ?_);refine zAc (x:=encN l[k]) (by simp [hk2]) (aW ?_);rw [zBh hk2,ixF] at hR
  refine bcase_p (fun h2=>?_) (fun h2=>?_)<;>conv=>whnf
  ·rw [if_pos (by rw [isT,h2];simp)] at hR;exact ret_of rfl (by rw [<-hR];rfl)
  ·rw [if_neg (by rw [isT];simpa using fun e=>h2 e.symm)] at hR;refine aA ?_;exact ⟨k+1,⟨by omega,hR⟩,by omega,(le0 (zAb ⟨rfl,rfl,rfl,rfl,trivial⟩ trivial ⟨rfl,rfl,rfl,rfl⟩))⟩
 ·have:k=l.length:=by simp at h;omega
  subst this;simp [ixF] at hR;exact ret_of rfl (by rw [<-hR];rfl)
theorem zEw (v:Int) (l:List Nat) (hl:l.length<=1000000):zAk Tryz.prog 209 [.lst (l.map encN),.int .i64 v] (.bool (decide (0<=ixF (isT v) l 0))):=by
 refine zAf Tryz.func209 2 rfl (by kernel_rfl) (w0 ?_);refine zAa (yOj v l hl) (aW ?_);exact ret_of rfl rfl
theorem HOk.cls {h:HA} (o:HOk h):ClOk h.cl:=
 ⟨by have:=o.len;omega,fun c hc=>o.lt c.1 (List.mem_append_left _ (List.mem_map_of_mem hc)),(List.nodup_append.1 o.nd).1⟩
theorem HOk.qlt {h:HA} (o:HOk h) {k:Nat} (hk:k<h.q.length):h.q[k]<4:=o.lt _ (List.mem_append_right _ (List.getElem_mem hk))
theorem HOk.nocl {h:HA} (o:HOk h) {k:Nat} (hk:k<h.q.length):ixF (isC h.q[k]) h.cl 0=-1:=by
 refine zPf fun x hx=>?_
 have:=(List.nodup_append.1 o.nd).2.2 x.1 (List.mem_map_of_mem hx) h.q[k] (List.getElem_mem hk)
 rw [isC,decide_eq_false];omega
theorem HOk.notk {h:HA} (o:HOk h) {k:Nat} (hk:k<h.q.length):ixF (isT h.q[k]) (h.q.take k) 0=-1:=by
 refine zPf fun x hx=>?_
 obtain ⟨j,hj,rfl⟩:=List.mem_iff_getElem.1 hx;rw [List.length_take] at hj;have:=yP (List.nodup_append.1 o.nd).2.1 (show j<k by omega) hk
 rw [List.getElem_take,isT,decide_eq_false];omega
theorem HOk.noopen {h:HA} (o:HOk h):yKt h=false:=by
 have:=o.shut;rw [yKt]
 split
 ·rfl
 ·rename_i e;rw [e] at this
  rcases this with g|g
  ·cases g
  ·rw [decide_eq_false];omega
theorem zKw (h:HA) (o:HOk h):zAk Tryz.prog 43 [zMu h] (.bool true):=by
 have n1:=o.n1;have n8:=o.n8;have hlen:=o.len;have hheld:=o.held
 have hml:(h.cl.map zBa).length=h.cl.length:=List.length_map ..
 have hmq:(h.q.map zCs).length=h.q.length:=List.length_map ..
 refine zAf Tryz.func43 1 rfl (by kernel_rfl) (aO ?_);refine zAa (yAx h.cl o.cls) (aO ?_);refine zAr (ι:=Nat) (fun k=>[(1,.ptr 1 0 0),(41,.d (.lst (h.cl.map zBa))),(42,.d (.int .i64 (h.cl.map zBa).length)),(43,.d (.int .i64 k))]) (fun _=>[(1,.box (h.cells.map AV.d) false)])
  (fun k=>k<=h.cl.length) (fun k=>h.cl.length-k) 0 (Nat.zero_le _) (le0 (zAb ⟨rfl,rfl,rfl,rfl,trivial⟩ ⟨rfl,trivial⟩ ⟨rfl,rfl,rfl,rfl⟩)) ?_
 intro k hk
 conv=>whnf
 refine bcase_p (fun h5=>?_) (fun h5=>?_)<;>conv=>whnf
 ·have hk2:k<h.cl.length:=by omega
  refine zAd (by omega) (w0 ?_);refine zAc (x:=zBa h.cl[k]) (by simp [hk2]) (aW ?_);refine zAa (zKz h n1) (aW ?_);exact ⟨k+1,by omega,by omega,(le0 (zAb ⟨rfl,rfl,rfl,rfl,trivial⟩ ⟨rfl,trivial⟩ ⟨rfl,rfl,rfl,rfl⟩))⟩
 refine aO ?_;refine zAr (ι:=Nat) (fun k=>[(1,.ptr 1 0 0),(54,.d (.lst (h.q.map zCs))),(55,.d (.int .i64 (h.q.map zCs).length)),(56,.d (.int .i64 k))]) (fun _=>[(1,.box (h.cells.map AV.d) false)])
  (fun k=>k<=h.q.length) (fun k=>h.q.length-k) 0 (Nat.zero_le _) (le0 (zAb ⟨rfl,rfl,rfl,rfl,trivial⟩ ⟨rfl,trivial⟩ ⟨rfl,rfl,rfl,rfl⟩)) ?_
 intro k hk
 conv=>whnf
 refine bcase_p (fun h5=>?_) (fun h5=>?_)<;>conv=>whnf
 ·have hk2:k<h.q.length:=by omega
  have hlt:=o.qlt hk2
  have ht:zAk Tryz.prog 91 [.lst (((h.q.map zCs).take k).drop 0),.int .i64 h.q[k]] (.int .i64 (ixF (isT h.q[k]) (h.q.take k) 0)):=by
   rw [List.drop_zero,<-List.map_take];exact z6v _ _ (by rw [List.length_take];omega)
  rw [o.notk hk2] at ht;have hc:=zL (h.q[k]:Int) h.cl (by omega);rw [o.nocl hk2] at hc;refine zAd (by omega) (w0 ?_);refine zAc (x:=zCs h.q[k]) (by simp [hk2]) (aW ?_);refine aO ?_;refine zAa (zKz h n1) (aO ?_);refine zAa hc (aO ?_);refine zAh (fun e he=>z4j he) (w0 ?_);refine zCz (by omega) (aO ?_);refine zAa ht (aO ?_);exact ⟨k+1,by omega,by omega,(le0 (zAb ⟨rfl,rfl,rfl,rfl,trivial⟩ ⟨rfl,trivial⟩ ⟨rfl,rfl,rfl,rfl⟩))⟩
 refine aO ?_;refine zAa (yJz h (by omega) (by omega)) (aO ?_);refine zAa (yLr _ h.cl o.cls (by omega) (by omega) (by omega)) (aO ?_);refine zAa (yCu h (by omega) (by omega)) (w0 ?_);rw [o.noopen];refine aO ?_;exact ret_of rfl rfl
def inH (n:Nat):List (Nat×Bool)->List Nat->List Nat
 |_,[]=>[]
 |cl,w::q=>if cl.length<2*n then w::inH n (cl++[(w,false)]) q else []
theorem yJi (n:Nat):∀ (cl:List (Nat×Bool)) (q:List Nat),(inH n cl q).length<=q.length
 |_,[]=>Nat.le_refl _
 |cl,w::q=>by
  rw [inH];split
  ·have:=yJi n (cl++[(w,false)]) q
   simp;omega
  ·exact Nat.zero_le _
structure EntI (n:Nat) (cl0:List (Nat×Bool)) (q0:List Nat) (s:List (Nat×Bool)×List Nat×List Nat):Prop where
 len:s.1.length+s.2.1.length=cl0.length+q0.length
 ins:s.2.2.length+s.2.1.length=q0.length
 eq:zBg n s.1 s.2.1=zBg n cl0 q0
 inn:s.2.2++inH n s.1 s.2.1=inH n cl0 q0
theorem yBp (h:HA) (h8:h.n<=8) (hl:h.cl.length+h.q.length<=7):zAk Tryz.prog 208 [zMu h] (.tup [zMu (mkH h.n (zBg h.n h.cl h.q)),.lst ((inH h.n h.cl h.q).map encN)]):=by
 obtain ⟨n,cl0,q0⟩:=h;simp only [] at h8 hl⊢;refine zAf Tryz.func208 1 rfl (by kernel_rfl) (aO ?_);refine zAl (zUp (zMg cl0) (by rw [List.length_map];show cl0.length<=1000000;omega)) (aO ?_);refine zAr (ι:=List (Nat×Bool)×List Nat×List Nat) (fun s=>[(1,.ptr 1 0 0),(2,.ptr 2 0 0),(4,.own 34)]) (fun s=>[(1,.box [.d (.int .i64 n),.d (.int .i64 1),.own 8,.d (.lst (s.2.1.map zCs))] false),(2,.box [.d (.int .i64 0),.d (.int .i64 0),.nil,.nil] false),(8,.row (s.1.map zBa) 3 false),(34,.row (s.2.2.map encN) 1 false)])
  (EntI n cl0 q0) (fun s=>s.2.1.length) (cl0,q0,[]) ⟨rfl,Nat.zero_add _,rfl,rfl⟩ (le1 (.row 4 34 1) ⟨rfl,rfl⟩ (zAb ⟨rfl,rfl,rfl,trivial⟩ ⟨rfl,rfl,rfl,rfl,trivial⟩ ⟨rfl,rfl,rfl,rfl⟩)) ?_
 rintro ⟨cl,q,ins⟩ hI;obtain ⟨i1,i2,i3,i4⟩:=hI;simp only [] at i1 i2 i3 i4⊢;refine aO ?_;refine zAa (yCu ⟨n,cl,q⟩ (by show cl.length<=7;omega) (by show n<=1000;omega)) (w0 ?_)
 cases q with
 |nil=>
  rw [yKt];refine aO ?_;rw [zBg] at i3;rw [inH,List.append_nil] at i4;rw [<-i3,<-i4];exact ret_of rfl rfl
 |cons w q=>
  rw [yKt]
  refine bcase_p (fun g=>?_) (fun g=>?_)<;>conv=>whnf
  ·replace g:(cl.length:Int)+1<=2*n:=g
   have es:((((w::q).map zCs).take ((w::q).map zCs).length).drop 1)=q.map zCs:=by rw [List.take_length];rfl
   refine aO ?_;refine zAd (i:=0) (by simp) (w0 ?_);refine zAc (x:=zCs w) rfl (aO ?_);refine zAh (fun e he=>z4j he) (w0 ?_);refine zDi (l:=1) (by simp) (aO ?_);simp only [List.length_cons] at i1 i2
   have hmc:(cl.map zBa).length=cl.length:=List.length_map ..
   have hmi:(ins.map encN).length=ins.length:=List.length_map ..
   refine zAj 1000 100 (by show (cl.map zBa).length+1<=1000;omega) (by decide) (by decide) (by decide) (aO ?_);refine zAj 1000 100 (by show (ins.map encN).length+1<=1000;omega) (by decide) (by decide) (by decide) (w0 ?_);rw [zBg,if_pos (by omega)] at i3;rw [inH,if_pos (by omega)] at i4;refine ⟨(cl++[(w,false)],q,ins++[w]),⟨by simp;omega,by simp;omega,i3,by rw [<-i4];simp⟩,by simp,le0 (zAb ⟨rfl,rfl,rfl,trivial⟩ ⟨by rw [<-es];rfl,rfl,by rw [List.map_append];rfl,by rw [List.map_append];rfl,trivial⟩ ⟨rfl,rfl,rfl,rfl⟩)⟩
  ·replace g:¬(cl.length:Int)+1<=2*n:=g;refine aO ?_;rw [zBg,if_neg (by omega)] at i3;rw [inH,if_neg (by omega),List.append_nil] at i4;rw [<-i3,<-i4];exact ret_of rfl rfl
theorem no_cl {h:HA} {w:Nat} (hn:w∉h.all):ixF (isC w) h.cl 0=-1:=by
 refine zPf fun x hx=>?_
 rw [isC,decide_eq_false];intro e;exact hn (List.mem_append_left _ (List.mem_map.2 ⟨x,hx,by omega⟩))
theorem no_tk {h:HA} {w:Nat} (hn:w∉h.all):ixF (isT w) h.q 0=-1:=by
 refine zPf fun x hx=>?_
 rw [isT,decide_eq_false];intro e;exact hn (List.mem_append_right _ (by rw [<-show x=w by omega];exact hx))
theorem zZy (h:HA) (o:HOk h) (w:Nat) (hw:w<4) (hn:w∉h.all) (hl:h.cl.length+h.q.length<=3):
  zAk Tryz.prog 141 [zMu h,.int .i64 w,.int .i64 1] (.tup [zMu (zOi h w),.bool (decide (0<=ixF (isT w) (inH h.n h.cl (h.q++[w])) 0)),.int .i64 0]):=by
 have n1:=o.n1;have n8:=o.n8;have hc:=zL (w:Int) h.cl (by omega);have ht:=z6v (w:Int) h.q (by omega);rw [no_cl hn] at hc;rw [no_tk hn] at ht
 have hml:(h.cl.map zBa).length=h.cl.length:=List.length_map ..
 have hmq:(h.q.map zCs).length=h.q.length:=List.length_map ..
 have he:zAk Tryz.prog 208 [.agg [.int .i64 h.n,.int .i64 1,.lst (h.cl.map zBa),.lst (h.q.map zCs++[zCs w])]] (.tup [zMu (zOi h w),.lst ((inH h.n h.cl (h.q++[w])).map encN)]):=by
  have:=yBp ⟨h.n,h.cl,h.q++[w]⟩ n8 (by show h.cl.length+(h.q++[w]).length<=7;simp;omega)
  have e:(h.q++[w]).map zCs=h.q.map zCs++[zCs w]:=by rw [List.map_append];rfl
  rw [<-e];exact this
 have hin:=yJi h.n h.cl (h.q++[w]);rw [List.length_append,List.length_singleton] at hin;refine zAf Tryz.func141 3 rfl (by kernel_rfl) (aO ?_);refine zAa (zKw h o) (aO ?_);refine zAa (zKz h n1) (aO ?_);refine zAa hc (aO ?_);refine zAa ht (aO ?_);refine zAl (z7q (zTl h.q) (by omega)) (aO ?_);refine zAj 1000 100 (by show (h.q.map zCs).length+1<=1000;omega) (by decide) (by decide) (by decide) (aO ?_);refine zAa he (aO ?_);refine zAa (zEw (w:Int) (inH h.n h.cl (h.q++[w])) (by omega)) (aO ?_);exact ret_of rfl rfl
theorem yTd {h:HA} (o:HOk h) {w:Nat} {b:Bool} (hm:(w,b)∈h.cl):∃ i,∃ hi:i<h.cl.length,ixF (isC w) h.cl 0=(i:Int) /\h.cl[i]=(w,b) /\ ∀ b',setH h.cl w b'=h.cl.set i (w,b'):=by
 obtain ⟨i,hi,e,hp⟩:=zNs (p:=isC w) (l:=h.cl) (k:=0) ⟨_,hm,by simp [isC]⟩
 have hp2:h.cl[i].1=w:=by rw [isC,decide_eq_true_eq] at hp;omega
 obtain ⟨j,hj,ej⟩:=List.mem_iff_getElem.1 hm
 have eij:i=j:=by
  have hnd:=o.cls.nd
  rcases Nat.lt_trichotomy i j with g|g|g
  ·exact absurd (hp2.trans (by rw [ej])) (o.cls.ne g hj)
  ·exact g
  ·exact absurd ((by rw [ej]:h.cl[j].1=w).trans hp2.symm) (o.cls.ne g hi)
 subst eij;refine ⟨i,hi,by rw [e,Nat.zero_add],ej,fun b'=>?_⟩
 refine List.ext_getElem (by rw [setH,List.length_map,List.length_set]) fun k h1 h2=>?_
 rw [List.length_set] at h2;simp only [setH,List.getElem_map,List.getElem_set]
 by_cases g:i=k
 ·subst g;rw [if_pos hp2,if_pos rfl,hp2]
 ·rw [if_neg g,if_neg];intro e
  rcases Nat.lt_or_gt_of_ne g with g|g
  ·exact o.cls.ne g h2 (hp2.trans e.symm)
  ·exact o.cls.ne g hi (e.trans hp2.symm)
theorem yHs {h:HA} {w:Nat} (hc:isCl h w=true):(w,zFy h w)∈h.cl:=by
 obtain ⟨⟨a,b⟩,h1,h2⟩:=List.mem_map.1 (zVs.1 hc)
 cases h2
 cases hb:zFy h a with
 |true=>exact zVo.1 hb
 |false=>
  cases b with
  |false=>exact h1
  |true=>rw [zVo.2 h1] at hb;cases hb
def pinR (h:HA) (w:Nat):HA×Int:=if h.n<=zCd h.cl then (h,6) else (pinH h w,0)
theorem zNi (h:HA) (o:HOk h) (w:Nat) (hc:isCl h w=true) (hh:zFy h w=false):
  zAk Tryz.prog 147 [zMu h,.int .i64 w] (.tup [zMu (pinR h w).1,.int .i64 (pinR h w).2]):=by
 have n1:=o.n1;have n8:=o.n8;have hlen:=o.len;have hheld:=o.held;have hm:=yHs hc;rw [hh] at hm;obtain ⟨i,hi,ei,ec,es⟩:=yTd o hm;have hcl:=zL (w:Int) h.cl (by omega);rw [ei] at hcl
 have hml:(h.cl.map zBa).length=h.cl.length:=List.length_map ..
 have hg:(h.cl.map zBa)[i]?=some (zBa (w,false)):=by rw [List.getElem?_map,List.getElem?_eq_getElem hi,ec];rfl
 refine zAf Tryz.func147 2 rfl (by kernel_rfl) (aO ?_);refine zAa (zKw h o) (aO ?_);refine zAa hcl (aO ?_);refine zAd (by omega) (w0 ?_);refine zAc hg (aO ?_);refine zAd (by omega) (w0 ?_);refine zAc hg (aO ?_);refine zAa (yJz h (by omega) (by omega)) (w0 ?_);rw [pinR];refine aO ?_
 refine bcase_p (fun g=>?_) (fun g=>?_)<;>conv=>whnf
 ·rw [if_pos (show h.n<=zCd h.cl by omega)];refine aO ?_;exact ret_of rfl rfl
 ·rw [if_neg (show ¬h.n<=zCd h.cl by omega)];have op:=z8s o hc hh (by omega)
  have es2:(h.cl.map zBa).set i (zAy (zBa (w,false)) 2 [D.int .i64 1])=(setH h.cl w true).map zBa:=by rw [es,List.map_set];rfl
  have hhN:=z0y (b:=true) o.cls.nd hm;simp only [if_pos,Bool.false_eq_true,if_false] at hhN;have hsf:=yLr ((h.n:Int)-zCd h.cl-1) (setH h.cl w true) op.cls (by omega) (by omega) (by omega);rw [<-es2] at hsf;refine aO ?_;refine zAl (zUp (zMg h.cl) (by omega)) (aO ?_);refine zAd (by omega) (w0 ?_);refine zAc hg (aO ?_);refine zAd (by omega) (w0 ?_);refine zAc hg (aO ?_);refine zAa hsf (aO ?_);refine ret_of rfl ?_;show _=D.tup [D.agg [.int .i64 h.n,.int .i64 1,D.lst ((setH h.cl w true).map zBa),.lst (h.q.map zCs)],.int .i64 0]
  rw [<-es2];rfl
theorem zOf (h:HA) (o:HOk h) (w:Nat) (hc:isCl h w=true) (hh:zFy h w=true):
  zAk Tryz.prog 151 [zMu h,.int .i64 w] (.tup [zMu (zKn h w),.int .i64 0]):=by
 have n1:=o.n1;have n8:=o.n8;have hlen:=o.len;have hm:=yHs hc;rw [hh] at hm;obtain ⟨i,hi,ei,ec,es⟩:=yTd o hm;have hcl:=zL (w:Int) h.cl (by omega);rw [ei] at hcl
 have hml:(h.cl.map zBa).length=h.cl.length:=List.length_map ..
 have hg:(h.cl.map zBa)[i]?=some (zBa (w,true)):=by rw [List.getElem?_map,List.getElem?_eq_getElem hi,ec];rfl
 have es2:(h.cl.map zBa).set i (zAy (zBa (w,true)) 2 [D.int .i64 0])=(setH h.cl w false).map zBa:=by rw [es,List.map_set];rfl
 refine zAf Tryz.func151 2 rfl (by kernel_rfl) (aO ?_);refine zAa (zKw h o) (aO ?_);refine zAa hcl (aO ?_);refine zAd (by omega) (w0 ?_);refine zAc hg (aO ?_);refine zAl (zUp (zMg h.cl) (by omega)) (aO ?_);refine zAd (by omega) (w0 ?_);refine zAc hg (aO ?_);refine zAd (by omega) (w0 ?_);refine zAc hg (aO ?_);refine ret_of rfl ?_;show _=D.tup [D.agg [.int .i64 h.n,.int .i64 1,D.lst ((setH h.cl w false).map zBa),.lst (h.q.map zCs)],.int .i64 0]
 rw [<-es2];rfl
theorem yUf (who:Int) (c:Nat×Bool):zAk Tryz.prog 223 [.agg (zBa c),.dp [.int .i64 who] 0] (.bool (isC who c)):=by
 refine zAf Tryz.func223 2 rfl (by kernel_rfl) (aO ?_);exact ret_of rfl rfl
theorem yUg (who:Int) (c:Nat):zAk Tryz.prog 225 [.agg (zCs c),.dp [.int .i64 who] 0] (.bool (isT who c)):=by
 refine zAf Tryz.func225 2 rfl (by kernel_rfl) (aO ?_);exact ret_of rfl rfl
theorem fil_C (w:Nat) (l:List (Nat×Bool)):(l.filter fun x=>!isC w x)=l.filter fun c=>c.1 !=w:=by
 congr 1;funext c;rw [Bool.eq_iff_iff];simp [isC];omega
theorem fil_T (w:Nat) (l:List Nat):(l.filter fun x=>!isT w x)=l.filter fun x=>x !=w:=by
 congr 1;funext c;rw [Bool.eq_iff_iff];simp [isT];omega
theorem zJo (h:HA) (o:HOk h) (w:Nat) (hw:w<4) (hc:isCl h w=true):
  ∃ ins:List Nat,zAk Tryz.prog 153 [zMu h,.int .i64 w] (.tup [zMu (endH h w),.lst (ins.map encN),.int .i64 0]):=by
 have n1:=o.n1;have n8:=o.n8;have hlen:=o.len;obtain ⟨i,hi,ei,ec,es⟩:=yTd o (yHs hc);have hcl:=zL (w:Int) h.cl (by omega);rw [ei] at hcl;have f1:=delCl 223 [.dp [.int .i64 w] 0] (isC w) (yUf w) h.cl (by omega);have f2:=delTk 225 [.dp [.int .i64 w] 0] (isT w) (yUg w) h.q (by omega);rw [fil_C] at f1;rw [fil_T] at f2;have l1:=List.length_filter_le (fun c:Nat×Bool=>c.1 !=w) h.cl;have l2:=List.length_filter_le (fun c:Nat=>c !=w) h.q;have he:=yBp ⟨h.n,h.cl.filter fun c=>c.1 !=w,h.q.filter fun x=>x !=w⟩ n8 (by show (h.cl.filter _).length+(h.q.filter _).length<=7;omega)
 have hml:(h.cl.map zBa).length=h.cl.length:=List.length_map ..
 have hmq:(h.q.map zCs).length=h.q.length:=List.length_map ..
 refine ⟨inH h.n (h.cl.filter fun c=>c.1 !=w) (h.q.filter fun x=>x !=w),?_⟩;refine zAf Tryz.func153 2 rfl (by kernel_rfl) (aO ?_);refine zAa (zKw h o) (aO ?_);refine zAa hcl (aO ?_);refine zAl (zUp (zMg h.cl) (by omega)) (aO ?_);refine zFd f1 [] rfl ⟨rfl,trivial⟩ rfl (aO ?_);refine zAl (z7q (zTl h.q) (by omega)) (aO ?_);refine zFd f2 [] rfl ⟨rfl,trivial⟩ rfl (aO ?_);refine zAa he (aO ?_);exact ret_of rfl rfl
theorem zTm:∀ (l:List (Nat×Bool)),okRows 2 (l.map zCg)=true
 | []=>rfl
 |_::r=>zTm r
theorem zUy:∀ (l:List Nat),okRows 1 (l.map encN)=true
 | []=>rfl
 |_::r=>zUy r
theorem zUz {l:List (Nat×Bool)} {e:List D} (h:e∈l.map zCg):e.length=2:=by
 obtain ⟨x,_,rfl⟩:=List.mem_map.1 h;rfl
theorem isW_ok (who:Int) (c:Nat×Bool):zAk Tryz.prog 260 [.agg (zCg c),.dp [.int .i64 who] 0] (.bool (isC who c)):=by
 refine zAf Tryz.func260 2 rfl (by kernel_rfl) (aO ?_);exact ret_of rfl rfl
theorem z3b (who:Int) (l:List (Nat×Bool)) (hl:l.length<=1000000):zAk Tryz.prog 211 [.lst (l.map zCg),.int .i64 who] (.bool (decide (0<=ixF (isC who) l 0))):=by
 have h259:zAk Tryz.prog 259 [.lst (l.map zCg),.fn 260 [.dp [.int .i64 who] 0]] (.bool (decide (0<=ixF (isC who) l 0))):=by
  refine zAf Tryz.func259 2 rfl (by kernel_rfl) (w0 ?_);refine zAa (yJu 260 _ _ (isW_ok who) l hl) (aW ?_);exact ret_of rfl rfl
 refine zAf Tryz.func211 2 rfl (by kernel_rfl) (aO ?_);refine zAa h259 (aW ?_);exact ret_of rfl rfl
def z9m (l:LA):Bool:=match l.q with
 | []=>false
 |x::_=>match l.hs with
  | []=>true
  |_::_=>!l.ex&&!x.2
theorem z1p (l:LA):zAk Tryz.prog 258 [zXt l] (.bool (z9m l)):=by
 obtain ⟨hs,ex,q⟩:=l
 cases q with
 |nil=>
  refine zAf Tryz.func258 1 rfl (by kernel_rfl) (aO ?_);exact ret_of rfl rfl
 |cons x q=>
  cases hs with
  |nil=>
   refine zAf Tryz.func258 1 rfl (by kernel_rfl) (aO ?_);exact ret_of rfl rfl
  |cons y hs=>
   cases ex with
   |true=>
    refine zAf Tryz.func258 1 rfl (by kernel_rfl) (aO ?_);exact ret_of rfl rfl
   |false=>
    refine zAf Tryz.func258 1 rfl (by kernel_rfl) (aO ?_);refine zAd (i:=0) (by simp) (w0 ?_);refine zAc (x:=zCg x) rfl (aO ?_);exact ret_of rfl rfl
theorem LOk.noopen {l:LA} (o:LOk l):z9m l=false:=by
 have:=o.shut;rw [z9m]
 split
 ·rfl
 ·rename_i x _ e;rw [e] at this
  rcases this with g|⟨g1,g2⟩
  ·cases g
  ·split
   ·rename_i e2;exact absurd e2 g1
   ·rcases g2 with g2|g2
    ·rw [g2];rfl
    ·rw [g2 x rfl];cases l.ex<;>rfl
def z5c (l:List Nat):Nat->Int
 |0=>-1
 |k+1=>((l[k]?.getD 0:Nat):Int)
theorem z1d {l:List Nat} (h:l.Pairwise (·<·)) {k:Nat} (hk:k<l.length):z5c l k<(l[k]:Int):=by
 cases k with
 |zero=>rw [z5c];omega
 |succ k=>
  rw [z5c,List.getElem?_eq_getElem (by omega),Option.getD_some];have:=(List.pairwise_iff_getElem.1 h) k (k+1) (by omega) hk (by omega);omega
theorem zRn {l:List Nat} {k:Nat} (hk:k<l.length):z5c l (k+1)=(l[k]:Int):=by
 rw [z5c,List.getElem?_eq_getElem hk,Option.getD_some]
theorem yKn {l:List Nat} {w:Nat} (h:w∉l):ixF (isT w) l 0=-1:=by
 refine zPf fun x hx=>?_
 rw [isT,decide_eq_false];intro e;exact h (by rw [<-show x=w by omega];exact hx)
theorem yKo {l:List (Nat×Bool)} {w:Nat} (h:w∉l.map (·.1)):ixF (isC w) l 0=-1:=by
 refine zPf fun x hx=>?_
 rw [isC,decide_eq_false];intro e;exact h (List.mem_map.2 ⟨x,hx,by omega⟩)
theorem zPk (l:LA) (o:LOk l):zAk Tryz.prog 210 [zXt l] (.bool true):=by
 have hlen:=o.len;have h1:l.ex=true->l.hs.length=1:=o.one
 have hmh:(l.hs.map encN).length=l.hs.length:=List.length_map ..
 have hmq:(l.q.map zCg).length=l.q.length:=List.length_map ..
 have hnd:=List.nodup_append.1 o.nd;refine zAf Tryz.func210 1 rfl (by kernel_rfl) (aO ?_)
 refine zAe (fun g=>?_) (fun g=>?_)<;>conv=>whnf
 ·have:=h1 g;refine aO ?_;refine zAr (ι:=Nat) (fun k=>[(1,.ptr 1 0 0),(3,.d (.int .i64 (z5c l.hs k))),(25,.d (.lst (l.hs.map encN))),(26,.d (.int .i64 (l.hs.map encN).length)),(27,.d (.int .i64 k))]) (fun _=>[(1,.box (l.cells.map AV.d) false)])
   (fun k=>k<=l.hs.length) (fun k=>l.hs.length-k) 0 (Nat.zero_le _) (le0 (zAb ⟨rfl,rfl,rfl,rfl,rfl,trivial⟩ ⟨rfl,trivial⟩ ⟨rfl,rfl,rfl,rfl⟩)) ?_
  intro k hk
  conv=>whnf
  refine bcase_p (fun h5=>?_) (fun h5=>?_)<;>conv=>whnf
  ·have hk2:k<l.hs.length:=by omega
   have hl1:=z1d o.up hk2;have hl2:=o.lt l.hs[k] (List.mem_append_left _ (List.getElem_mem hk2));refine zAd (by omega) (w0 ?_);refine zAc (x:=encN l.hs[k]) (by simp [hk2]) (aW ?_);refine aO ?_;exact ⟨k+1,by omega,by omega,le0 (zAb ⟨rfl,by rw [zRn hk2];rfl,rfl,rfl,rfl,trivial⟩ ⟨rfl,trivial⟩ ⟨rfl,rfl,rfl,rfl⟩)⟩
  refine aO ?_;refine zAr (ι:=Nat) (fun k=>[(1,.ptr 1 0 0),(41,.d (.lst (l.q.map zCg))),(42,.d (.int .i64 (l.q.map zCg).length)),(43,.d (.int .i64 k))]) (fun _=>[(1,.box (l.cells.map AV.d) false)])
   (fun k=>k<=l.q.length) (fun k=>l.q.length-k) 0 (Nat.zero_le _) (le0 (zAb ⟨rfl,rfl,rfl,rfl,trivial⟩ ⟨rfl,trivial⟩ ⟨rfl,rfl,rfl,rfl⟩)) ?_
  intro k hk
  conv=>whnf
  refine bcase_p (fun h5=>?_) (fun h5=>?_)<;>conv=>whnf
  ·have hk2:k<l.q.length:=by omega
   have hmq2:l.q[k].1∈l.q.map (·.1):=List.mem_map_of_mem (List.getElem_mem hk2);have hl2:=o.lt l.q[k].1 (List.mem_append_right _ hmq2);have hc:=zEw (l.q[k].1:Int) l.hs (by omega);rw [yKn fun g=>hnd.2.2 _ g _ hmq2 rfl] at hc
   have hwt:zAk Tryz.prog 211 [.lst (((l.q.map zCg).take k).drop 0),.int .i64 l.q[k].1] (.bool (decide (0<=ixF (isC l.q[k].1) (l.q.take k) 0))):=by
    rw [List.drop_zero,<-List.map_take];exact z3b _ _ (by rw [List.length_take];omega)
   rw [yKo (w:=l.q[k].1) fun g=>by
    obtain ⟨x,hx,e⟩:=List.mem_map.1 g;obtain ⟨j,hj,rfl⟩:=List.mem_iff_getElem.1 hx;rw [List.length_take] at hj;rw [List.getElem_take] at e
    exact yP hnd.2.1 (show j<k by omega) (by rw [List.length_map];exact hk2) (by simpa using e)] at hwt
   refine zAd (by omega) (w0 ?_);refine zAc (x:=zCg l.q[k]) (by simp [hk2]) (aW ?_);refine aO ?_;refine zAa hc (aO ?_);refine zAh (fun e he=>zUz he) (w0 ?_);refine zCz (by omega) (aO ?_);refine zAa hwt (aO ?_);exact ⟨k+1,by omega,by omega,(le0 (zAb ⟨rfl,rfl,rfl,rfl,trivial⟩ ⟨rfl,trivial⟩ ⟨rfl,rfl,rfl,rfl⟩))⟩
  refine aO ?_;refine zAa (z1p l) (w0 ?_);rw [o.noopen];refine aO ?_;exact ret_of rfl rfl
 ·refine aO ?_;refine zAr (ι:=Nat) (fun k=>[(1,.ptr 1 0 0),(3,.d (.int .i64 (z5c l.hs k))),(25,.d (.lst (l.hs.map encN))),(26,.d (.int .i64 (l.hs.map encN).length)),(27,.d (.int .i64 k))]) (fun _=>[(1,.box (l.cells.map AV.d) false)])
   (fun k=>k<=l.hs.length) (fun k=>l.hs.length-k) 0 (Nat.zero_le _) (le0 (zAb ⟨rfl,rfl,rfl,rfl,rfl,trivial⟩ ⟨rfl,trivial⟩ ⟨rfl,rfl,rfl,rfl⟩)) ?_
  intro k hk
  conv=>whnf
  refine bcase_p (fun h5=>?_) (fun h5=>?_)<;>conv=>whnf
  ·have hk2:k<l.hs.length:=by omega
   have hl1:=z1d o.up hk2;have hl2:=o.lt l.hs[k] (List.mem_append_left _ (List.getElem_mem hk2));refine zAd (by omega) (w0 ?_);refine zAc (x:=encN l.hs[k]) (by simp [hk2]) (aW ?_);refine aO ?_;exact ⟨k+1,by omega,by omega,le0 (zAb ⟨rfl,by rw [zRn hk2];rfl,rfl,rfl,rfl,trivial⟩ ⟨rfl,trivial⟩ ⟨rfl,rfl,rfl,rfl⟩)⟩
  refine aO ?_;refine zAr (ι:=Nat) (fun k=>[(1,.ptr 1 0 0),(41,.d (.lst (l.q.map zCg))),(42,.d (.int .i64 (l.q.map zCg).length)),(43,.d (.int .i64 k))]) (fun _=>[(1,.box (l.cells.map AV.d) false)])
   (fun k=>k<=l.q.length) (fun k=>l.q.length-k) 0 (Nat.zero_le _) (le0 (zAb ⟨rfl,rfl,rfl,rfl,trivial⟩ ⟨rfl,trivial⟩ ⟨rfl,rfl,rfl,rfl⟩)) ?_
  intro k hk
  conv=>whnf
  refine bcase_p (fun h5=>?_) (fun h5=>?_)<;>conv=>whnf
  ·have hk2:k<l.q.length:=by omega
   have hmq2:l.q[k].1∈l.q.map (·.1):=List.mem_map_of_mem (List.getElem_mem hk2);have hl2:=o.lt l.q[k].1 (List.mem_append_right _ hmq2);have hc:=zEw (l.q[k].1:Int) l.hs (by omega);rw [yKn fun g=>hnd.2.2 _ g _ hmq2 rfl] at hc
   have hwt:zAk Tryz.prog 211 [.lst (((l.q.map zCg).take k).drop 0),.int .i64 l.q[k].1] (.bool (decide (0<=ixF (isC l.q[k].1) (l.q.take k) 0))):=by
    rw [List.drop_zero,<-List.map_take];exact z3b _ _ (by rw [List.length_take];omega)
   rw [yKo (w:=l.q[k].1) fun g=>by
    obtain ⟨x,hx,e⟩:=List.mem_map.1 g;obtain ⟨j,hj,rfl⟩:=List.mem_iff_getElem.1 hx;rw [List.length_take] at hj;rw [List.getElem_take] at e
    exact yP hnd.2.1 (show j<k by omega) (by rw [List.length_map];exact hk2) (by simpa using e)] at hwt
   refine zAd (by omega) (w0 ?_);refine zAc (x:=zCg l.q[k]) (by simp [hk2]) (aW ?_);refine aO ?_;refine zAa hc (aO ?_);refine zAh (fun e he=>zUz he) (w0 ?_);refine zCz (by omega) (aO ?_);refine zAa hwt (aO ?_);exact ⟨k+1,by omega,by omega,(le0 (zAb ⟨rfl,rfl,rfl,rfl,trivial⟩ ⟨rfl,trivial⟩ ⟨rfl,rfl,rfl,rfl⟩))⟩
  refine aO ?_;refine zAa (z1p l) (w0 ?_);rw [o.noopen];refine aO ?_;exact ret_of rfl rfl
theorem yBz (l:LA) (o:LOk l) (w:Nat):zAk Tryz.prog 146 [zXt l,.int .i64 w] (.tup [.bool (zNc l w),.bool (zNc l w&&l.ex)]):=by
 have hlen:=o.len;have hc:=zEw (w:Int) l.hs (by omega)
 have e:decide (0<=ixF (isT w) l.hs 0)=zNc l w:=by
  rw [Bool.eq_iff_iff,decide_eq_true_eq,yCd,zNc];simp only [List.any_eq_true,List.contains_eq_any_beq]
  constructor
  ·rintro ⟨x,hx,g⟩;exact ⟨x,hx,by simp [isT] at g⊢;omega⟩
  ·rintro ⟨x,hx,g⟩;exact ⟨x,hx,by simp [isT] at g⊢;omega⟩
 rw [e] at hc;refine zAf Tryz.func146 2 rfl (by kernel_rfl) (aO ?_);refine zAa (zPk l o) (aO ?_);refine zAa hc (aO ?_)
 cases g:zNc l w with
 |false=>
  refine aO ?_;exact ret_of rfl rfl
 |true=>
  refine aO ?_;refine ret_of rfl ?_;rw [Bool.true_and];rfl
def putD (s:List ByteArray) (x:Pg):List ByteArray:=setD s x.1.toNat ((putB x).extract 0 16) ((putB x).extract 16 32)
def rmD (s:List ByteArray) (p:Nat):List ByteArray:=setD s p ((nulB 32).extract 0 16) ((nulB 32).extract 16 32)
noncomputable def getR (s:List ByteArray) (p:Nat):Pg×Int:=
 if (zFo (raw s p)).2≠0 then (zP,(zFo (raw s p)).2) else if (zFo (raw s p)).1.1≠(p:Int) then (zP,9) else ((zFo (raw s p)).1,0)
theorem yJa {s:List ByteArray} (h:Rest s) {p:Nat} (h1:1<=p) (h16:p<=16):getS ⟨s,[]⟩ p=getR s p:=by
 rw [yBv ⟨h.us,by omega,by omega⟩]
 have e:rdS ⟨s,[]⟩ (2*(p:Int)+1)++rdS ⟨s,[]⟩ (2*(p:Int)+1+1)=raw s p:=by
  simp only [rdS,pick,List.foldl_nil,raw];rw [show (2*(p:Int)+1).toNat=2*p+1 by omega,show (2*(p:Int)+1+1).toNat=2*p+2 by omega]
 rw [e,getR]
theorem zUs {s:List ByteArray} (h:Rest s) {p:Nat} (h1:1<=p) (h16:p<=16) {x:ByteArray} (hx:x.size=32):zEu ⟨s,[]⟩ p x=(⟨setD s p (x.extract 0 16) (x.extract 16 32),[]⟩,0) /\zH ⟨s,[]⟩ p x=(zGq p x,0):=by
 have e:zH ⟨s,[]⟩ p x=(zGq p x,0):=by rw [zH,if_pos ⟨h.us,⟨by omega,by omega⟩,hx⟩,Int.toNat_natCast]
 refine ⟨?_,e⟩;rw [zEu,e,if_pos rfl,runM];simp only [Int.toNat_natCast,List.take_length];rw [zLt h h1 h16 hx]
theorem zWk {x:Pg} (h:pgR x=true):∃ p:Nat,x.1=(p:Int) /\1<=p/\p<=16:=by
 have:=pgR_out.1 h;exact ⟨x.1.toNat,by omega,by omega,by omega⟩
theorem zLy {s:List ByteArray} (h:Rest s) {x:Pg} (hx:pgR x=true):setS ⟨s,[]⟩ x=(⟨putD s x,[]⟩,0) /\zId ⟨s,[]⟩ x=zGq x.1.toNat (putB x) /\Rest (putD s x) /\ (putD s x).length=s.length:=by
 have hv:=pgR_out.1 hx;obtain ⟨p,ep,h1,h16⟩:=zWk hx;have hz:=zEc hv.2.2.2.2;obtain ⟨z1,z2⟩:=z0q hz;obtain ⟨c1,c2⟩:=zUs h h1 h16 hz;refine ⟨?_,?_,Rest.setD h z1 z2,yDl _ _ _ _⟩
 ·rw [setS,if_pos hx,ep,c1,putD,ep,Int.toNat_natCast]
 ·rw [zId,if_pos (.inl (by omega)),if_pos hx,ep,c2,Int.toNat_natCast]
theorem z4c {s:List ByteArray} (h:Rest s) {p:Nat} (h1:1<=p) (h16:p<=16):delD ⟨s,[]⟩ p=(⟨rmD s p,[]⟩,0) /\zId ⟨s,[]⟩ ((p:Int),0,ByteArray.empty)=zGq p (nulB 32) /\Rest (rmD s p) /\ (rmD s p).length=s.length:=by
 have hz:(nulB 32).size=32:=zCr 32;obtain ⟨z1,z2⟩:=z0q hz;obtain ⟨c1,c2⟩:=zUs h h1 h16 hz;refine ⟨by rw [delD,c1];rfl,?_,Rest.setD h z1 z2,yDl _ _ _ _⟩;rw [zId,if_neg (by simp),c2]
theorem z8q {s:List ByteArray} (h:Rest s) {x:Pg} (hx:pgR x=true) {q:Nat} (h1:1<=q) (h16:q<=16):getR (putD s x) q=if x.1=(q:Int) then (x,0) else getR s q:=by
 obtain ⟨p,ep,p1,p16⟩:=zWk hx;have hz:=zEc (pgR_out.1 hx).2.2.2.2;rw [putD,ep,Int.toNat_natCast]
 by_cases e:p=q
 ·subst e;rw [if_pos rfl,getR,yDg h p1 p16,yIn hz,yQl hx,if_neg (fun q=>q rfl),if_neg (fun q=>q ep)]
 ·rw [if_neg (by omega),getR,z6j h1 e];rfl
theorem yJc {s:List ByteArray} (h:Rest s) {p q:Nat} (p1:1<=p) (p16:p<=16) (h1:1<=q) (h16:q<=16):getR (rmD s p) q=if p=q then (zP,3) else getR s q:=by
 have hz:(nulB 32).size=32:=zCr 32;rw [rmD]
 by_cases e:p=q
 ·subst e;rw [if_pos rfl,getR,yDg h p1 p16,yIn hz,yDz,if_pos (show (3:Int)≠0 by decide)]
 ·rw [if_neg e,getR,z6j h1 e];rfl
theorem zK:Rest (List.replicate 35 zDp):=⟨by simp,by simp,fun i h=>by rw [List.getElem_replicate];exact zRq⟩
theorem yVe:zDp++zDp=nulB 32:=bl_ext (by
 rw [zIa,show bl zDp=_ from zDh 16,show bl (nulB 32)=_ from zDh 32];rfl)
theorem yJb {q:Nat} (h16:q<=16):getR (List.replicate 35 zDp) q=(zP,3):=by
 have e:raw (List.replicate 35 zDp) q=nulB 32:=by
  simp only [raw,List.getElem?_replicate];rw [if_pos (by omega),if_pos (by omega),Option.getD_some,yVe]
 rw [getR,e,yDz,if_pos (show (3:Int)≠0 by decide)]
theorem yPl {s:List ByteArray} (h:Rest s) (h0:s[0]?.getD ByteArray.empty=zDp):recM ⟨s,[]⟩=⟨s,[]⟩:=by
 have e:zG ⟨s,[]⟩=[]:=by
  rw [zG,if_pos h.us,if_pos];exact h0
 rw [recM,e];rfl
theorem z6m {s:List ByteArray} (h:Rest s) {p:Nat} {a b:ByteArray}:(setD s p a b)[0]?.getD ByteArray.empty=zDp:=by
 have:=h.n;simp only [setD,List.getElem?_set,List.length_set]
 rw [if_pos trivial,if_pos (by omega)];rfl
theorem yIr {f:FS} (h:FM f) {p:Int} (hp:p≠0) (hn:∀ i (hi:i<f.fr.length),f.fr[i].1≠p):Tb.findS f.tb p=(0,false):=by
 rcases h.find_cases hp with ⟨e,_⟩|⟨i,_,hA⟩
 ·exact e
 ·exact absurd hA.fr (hn i hA.hi)
theorem z0m {f:FS} (h:FM f) {x:Int×Int} (hx:x∈f.dt):∃ i,AtF f x.1 i:=by
 obtain ⟨k,hk⟩:=h.dirty x hx;have hv:=yDi h.dt hx;obtain ⟨i,_,hi,e⟩:=h.frame hv.1 hk;exact ⟨i,zEk h (by omega) hi e⟩
theorem yOy {f:FS} (h:FM f) {p t:Int} (hp1:1<=p) (hp16:p<=16) (h0:0<=t) (h1:t<=2147483647) (hn:∀ i (hi:i<f.fr.length),f.fr[i].1≠p) (ht:∀ x∈f.dt,x.2<=t):Dt.markG f.dt p t=(f.dt++[(p,t)],0):=by
 have hpl:¬0<=Dt.placeG f.dt p 0:=fun q=>by
  obtain ⟨x,hx,e⟩:=Dt.placeG_mem.1 q;obtain ⟨i,hA⟩:=z0m h hx;exact hn i hA.hi (hA.fr.trans e)
 have hl:Dt.lateB f.dt t=false:=by
  unfold Dt.lateB
  by_cases hz:0<f.dt.length
  ·have hm:=List.getElem_mem (show f.dt.length-1<f.dt.length by omega);have:=ht _ hm;rw [List.getElem?_eq_getElem (by omega),Option.getD_some]
   simp;omega
  ·simp [hz]
 rw [Dt.markG,if_neg,if_neg (by rw [hl];decide),if_neg hpl];intro q
 rcases q with q|q|q
 ·rw [h.dt] at q;cases q
 ·simp [Dt.pageB] at q;omega
 ·simp [Dt.timeB] at q;omega
theorem yCj {f:FS} (h:FM f) {p t:Int} (hp1:1<=p) (hp16:p<=16) (h0:0<=t) (h1:t<=2147483647) (hd:0<=Dt.placeG f.dt p 0) (ht:∀ x∈f.dt,x.2<=t):Dt.markG f.dt p t=(f.dt,0):=by
 have hl:Dt.lateB f.dt t=false:=by
  unfold Dt.lateB
  by_cases hz:0<f.dt.length
  ·have hm:=List.getElem_mem (show f.dt.length-1<f.dt.length by omega);have:=ht _ hm;rw [List.getElem?_eq_getElem (by omega),Option.getD_some]
   simp;omega
  ·simp [hz]
 rw [Dt.markG,if_neg,if_neg (by rw [hl];decide),if_pos hd];intro q
 rcases q with q|q|q
 ·rw [h.dt] at q;cases q
 ·simp [Dt.pageB] at q;omega
 ·simp [Dt.timeB] at q;omega
theorem yOu {f:FS} {p:Pg} {now:Int} (fresh:Bool) (h:FM f) (hp:pgR p=true) (h0:0<=now) (h1:now<=2147483647) (hn:∀ i (hi:i<f.fr.length),f.fr[i].1≠p.1) (hf:∃ i,∃ hi:i<f.fr.length,f.fr[i].1=0) (ht:∀ x∈f.dt,x.2<=now):
  ∃ i,∃ hi:i<f.fr.length,f.fr[i].1=0/\zGz f p now fresh=({inS f p i with dt:=bif fresh then f.dt++[(p.1,now)] else f.dt},0) /\
   FM {inS f p i with dt:=bif fresh then f.dt++[(p.1,now)] else f.dt} /\AtF {inS f p i with dt:=bif fresh then f.dt++[(p.1,now)] else f.dt} p.1 i:=by
 have hv:=pgR_out.1 hp;have hfn:=yIr h (show p.1≠0 by omega) hn
 rcases zHl f.fr with ⟨_,hno⟩|⟨i,e,hi,hz⟩
 ·obtain ⟨i,hi,hz⟩:=hf;exact absurd hz (hno i hi)
 have hmk:=yOy h hv.1 hv.2.1 h0 h1 hn ht;obtain ⟨l',e1,_⟩:=yUc h hv.1 hv.2.1 hi hfn
 have hM:=FM.loaded (l:=bif fresh then f.dt++[(p.1,now)] else f.dt) h hp hi hz hfn (by
  cases fresh with
  |false=>exact h.dt
  |true=>
   have:=Dt.mark_keeps (l:=f.dt) (p:=p.1) (t:=now) (by rw [hmk])
   rwa [hmk] at this) (by
  intro y hy
  cases fresh with
  |false=>exact .inl hy
  |true=>
   rcases List.mem_append.1 hy with q|q
   ·exact .inl q
   ·rw [List.mem_singleton] at q;subst q;exact .inr rfl)
 refine ⟨i,hi,hz,?_,hM.1,hM.2⟩;rw [zGz,if_neg,hfn,if_neg (show ¬false=true by decide),e,if_neg (show ¬true=false by decide),Int.toNat_natCast,e1,if_neg (fun q=>q rfl)]
 ·cases fresh with
  |false=>rw [if_neg (by decide)];rfl
  |true=>rw [if_pos rfl,hmk,if_neg (fun q=>q rfl)];rfl
 ·intro q
  rcases q with q|q|q|q
  ·exact q (zGs.2 h)
  ·rw [hp] at q;cases q
  ·omega
  ·omega
theorem z5k {p:PS} (h:FM p.f) (hno:∀ i (hi:i<p.f.fr.length),p.f.fr[i].1≠0) (hpin:∀ i (hi:i<p.f.fr.length),p.f.fr[i].2.1≠0):zFt p=(p,[],6):=by
 rcases zEf h with ⟨i,hi,hz,e⟩|⟨_,_,e⟩|⟨_,l,a,q,hA,_,_,h0,_⟩
 ·exact absurd hz (hno i hi)
 ·show mrM (16+1) p []=_;rw [mrM,e,if_pos (show (6:Int)≠0 by decide)]
 ·exact absurd h0 (hpin a hA.hi)
theorem zSd {f:FS} {p:Int} {i:Nat} (hA:AtF f p i) (hp:(f.fr[i]'hA.hi).2.1≠0):zEp f p=(zSf f i (zGp (f.fr[i]'hA.hi)),0):=by
 have hR:=hA.right
 have e:zCj f p=((i:Int),0):=by
  rw [zCj,if_pos (zGs.2 hR),(zCh hR.tb).2 ⟨hA.p1,hA.mem⟩];rfl
 rw [zEp,e,if_neg (fun q=>q rfl),Int.toNat_natCast,zCo hA.hi,if_neg hp]
theorem yCy {f:FS} {p:Int} {i:Nat} (hA:AtF f p i) (hp:(f.fr[i]'hA.hi).2.1<2147483647):pinS f p=(zSf f i (z2y (f.fr[i]'hA.hi)),0):=by
 have hR:=hA.right
 have e:zCj f p=((i:Int),0):=by
  rw [zCj,if_pos (zGs.2 hR),(zCh hR.tb).2 ⟨hA.p1,hA.mem⟩];rfl
 rw [pinS,e,if_neg (fun q=>q rfl),Int.toNat_natCast,zCo hA.hi,if_neg (by omega)]
structure PJ (p:PS):Prop where
 fm:FM p.f
 rest:Rest p.d.sec
 ca:p.d.ca=[]
 z0:p.d.sec[0]?.getD ByteArray.empty=zDp
 n0:0<=p.now
 n1:p.now<=2147483647
 dt:∀ x∈p.f.dt,x.2<=p.now
theorem PJ.d {p:PS} (h:PJ p):p.d=⟨p.d.sec,[]⟩:=by
 obtain ⟨f,⟨s,c⟩,n⟩:=p;have:=h.ca;simp only at this;subst this;rfl
theorem PJ.get {p:PS} (h:PJ p) {q:Nat} (h1:1<=q) (h16:q<=16):getS p.d q=getR p.d.sec q:=by
 have:=yJa h.rest h1 h16
 rw [<-h.d] at this;exact this
def pg1' (id:Int):Pg:=(id,1,ByteArray.empty)
theorem yCx {id:Int} (h1:1<=id) (h16:id<=16):pgR (pg1' id)=true:=pgR_out.2 ⟨h1,h16,show (1:Int) <=1 by decide,show (1:Int) <=2147483647 by decide,show ByteArray.empty.size<=16 by decide⟩
theorem zIv {p:PS} {k id:Int} {b:ByteArray} (h1:1<=id) (h16:id<=16) (hk:k=3\/k=4\/k=5):zBd p (k,id,b)=((zDb p (k,id,b)).1,(zDb p (k,id,b)).2.1,[],(zDb p (k,id,b)).2.2):=by
 rw [zBd,if_neg (by simp only [];omega),if_neg (by simp only [];omega),if_neg (by simp only [];omega),if_neg (by simp only [];omega),if_neg (by simp only [];omega),if_neg (by simp only [];omega),if_neg (by simp only [];omega)]
theorem zZa {p r:PS} {l:List Jo} {x:Pg} (hm:zFt p=(r,l,0)) (hr:FM r.f) (hx:pgR x=true) (h0:0<=r.now) (h1:r.now<=2147483647) (fresh:Bool) (hn:∀ i (hi:i<r.f.fr.length),r.f.fr[i].1≠x.1) (hf:∃ i,∃ hi:i<r.f.fr.length,r.f.fr[i].1=0) (ht:∀ y∈r.f.dt,y.2<=r.now):
  ∃ i,∃ hi:i<r.f.fr.length,r.f.fr[i].1=0/\zDn p x fresh=(⟨{inS r.f x i with dt:=bif fresh then r.f.dt++[(x.1,r.now)] else r.f.dt},r.d,r.now⟩,x,l,0) /\
   FM {inS r.f x i with dt:=bif fresh then r.f.dt++[(x.1,r.now)] else r.f.dt} /\AtF {inS r.f x i with dt:=bif fresh then r.f.dt++[(x.1,r.now)] else r.f.dt} x.1 i:=by
 obtain ⟨i,hi,hz,e,m1,m2⟩:=yOu fresh hr hx h0 h1 hn hf ht;refine ⟨i,hi,hz,?_,m1,m2⟩;rw [zDn,hm,if_neg (fun q=>q rfl)];simp only [];rw [e,if_neg (fun q=>q rfl)]
theorem zLs {p:PS} {a:PAct} {i:Nat} (hA:AtF p.f a.2.1 i) (hp:(p.f.fr[i]'hA.hi).2.1≠0):zDb p a=
  if a.1=4 then (if (zBx p.f a.2.1 a.2.2 p.now).2≠0 then (p,zP,(zBx p.f a.2.1 a.2.2 p.now).2) else (⟨(zBx p.f a.2.1 a.2.2 p.now).1,p.d,p.now⟩,atP (zBx p.f a.2.1 a.2.2 p.now).1.pg i,0))
  else if a.1=5 then (if (zEp p.f a.2.1).2≠0 then (p,zP,(zEp p.f a.2.1).2) else (⟨(zEp p.f a.2.1).1,p.d,p.now⟩,zP,0))
  else (p,p.f.pg[i]'hA.hp,0):=by
 rw [zDb,findF_at hA,if_neg,Int.toNat_natCast,zDz hA.hp];rintro (g|g)
 ·cases g
 ·rw [Int.toNat_natCast,zCo hA.hi] at g;exact hp g
def ud {α:Type} (P:Nat->α) (q:Nat) (x:α):Nat->α:=fun k=>if k=q then x else P k
theorem zDu {α:Type} (P:Nat->α) (q:Nat) (x:α):ud P q x q=x:=if_pos rfl
theorem zDx {α:Type} (P:Nat->α) {q k:Nat} (x:α) (h:k≠q):ud P q x k=P k:=if_neg h
structure OnD (s:List ByteArray) (l:List (Int×Int)) (P:Nat->Pg) (v:Int):Prop where
 dsk:∀ q:Nat,1<=q->q<=16->(∀ x∈l,x.1≠(q:Int))->getR s q=if (P q).1=0 then (zP,3) else (P q,0)
 okp:∀ q:Nat,1<=q->q<=16->P q=zP\/ (pgR (P q)=true/\ (P q).1=(q:Int))
 vb:∀ q,(P q).2.1<=v
structure Inv (p:PS) (P:Nat->Pg) (W:Nat->Int) (v u:Int):Prop where
 pj:PJ p
 pins:zDl p.f.fr W
 at_:∀ (q:Nat) (i:Nat) (hA:AtF p.f (q:Int) i),p.f.pg[i]'hA.hp=P q
 on:OnD p.d.sec p.f.dt P v
 ub:∀ q,W q<=u
theorem OnD.nz {s l P v} (h:OnD s l P v) {q:Nat} (h1:1<=q) (h16:q<=16) (hz:(P q).1≠0):pgR (P q)=true/\ (P q).1=(q:Int):=by
 rcases h.okp q h1 h16 with e|e
 ·rw [e] at hz;exact absurd rfl hz
 ·exact e
theorem Inv.out {p P W v u} (h:Inv p P W v u) {q:Nat} (h1:1<=q) (hn:∀ i (hi:i<p.f.fr.length),p.f.fr[i].1≠(q:Int)):∀ x∈p.f.dt,x.1≠(q:Int):=fun x hx e=>by
 obtain ⟨i,hA⟩:=z0m h.pj.fm hx;exact hn i hA.hi (hA.fr.trans e)
theorem Inv.wout {p P W v u} (h:Inv p P W v u) {q:Nat} (h1:1<=q) (h16:q<=16) (hn:∀ i (hi:i<p.f.fr.length),p.f.fr[i].1≠(q:Int)):W q=0:=by
 rcases h.pins q h1 h16 with ⟨i,hi,e,_⟩|⟨_,e⟩
 ·exact absurd e (hn i hi)
 ·exact e
theorem Inv.wat {p P W v u} (h:Inv p P W v u) {q i:Nat} (hA:AtF p.f (q:Int) i):W q=(p.f.fr[i]'hA.hi).2.1:=by
 have:=h.pins.at hA
 rwa [Int.toNat_natCast] at this
theorem Inv.swp {p P W v u} (h:Inv p P W v u) {l:List Fr} {a:Nat} (hs:Swp p.f.fr p.f.hand.toNat l a):Inv ⟨zIn p.f (l,a),p.d,p.now⟩ P W v u:=by
 obtain ⟨o1,o2,o3,o4⟩:=hs.out;have hm:=h.pj.fm.swp (q:=(l,a)) hs;refine ⟨⟨hm,h.pj.rest,h.pj.ca,h.pj.z0,h.pj.n0,h.pj.n1,h.pj.dt⟩,zDl.same h.pins o1 o3,fun q i hA=>?_,h.on,h.ub⟩;have hi:i<l.length:=hA.hi
 have hq:(q:Int)≠0:=by have:=hA.p1;omega
 have e:l[i].1=(q:Int):=hA.fr;exact h.at_ q i (zEk h.pj.fm hq (by omega) (by rw [<-(o3 i (by omega) hi).1];exact e))
theorem Inv.clean {p P W v u} (h:Inv p P W v u) {q i:Nat} (hA:AtF p.f (q:Int) i):Inv ⟨zKj p.f q,⟨putD p.d.sec (p.f.pg[i]'hA.hp),[]⟩,p.now⟩ P W v u:=by
 have hm:=zOm h.pj.fm q;obtain ⟨s1,s2,s3,s4⟩:=zLy h.pj.rest hA.pgr;have hpg:=hA.pg
 have hq:1<=q:=by have:=hA.p1;omega
 refine ⟨⟨hm,s3,rfl,z6m h.pj.rest,h.pj.n0,h.pj.n1,fun x hx=>h.pj.dt x (List.mem_filter.1 hx).1⟩,h.pins,fun k j hB=>?_,⟨fun k h1 h16 hn=>?_,h.on.okp,h.on.vb⟩,h.ub⟩
 ·exact h.at_ k j (zEk h.pj.fm (by have:=hB.p1;omega) hB.hi hB.fr)
 ·show getR (putD p.d.sec (p.f.pg[i]'hA.hp)) k=_;rw [z8q h.pj.rest hA.pgr h1 h16]
  by_cases e:(p.f.pg[i]'hA.hp).1=(k:Int)
  ·rw [if_pos e]
   have ek:q=k:=by omega
   subst ek;rw [<-h.at_ q i hA,if_neg (by omega)]
  ·rw [if_neg e]
   refine h.on.dsk k h1 h16 fun x hx ex=>hn x (List.mem_filter.2 ⟨hx,?_⟩) ex
   simp only [bne_iff_ne,ne_eq];omega
theorem Inv.rel {p P W v u} (h:Inv p P W v u) {q i:Nat} (hA:AtF p.f (q:Int) i) (h0:(p.f.fr[i]'hA.hi).2.1=0) {s':List ByteArray} {P':Nat->Pg} (hs:Rest s') (hz:s'[0]?.getD ByteArray.empty=zDp)
  (hP:∀ k,k≠q->P' k=P k) (hg:∀ k,1<=k->k<=16->k≠q->getR s' k=getR p.d.sec k) (hq:getR s' q=if (P' q).1=0 then (zP,3) else (P' q,0)) (hok:P' q=zP\/ (pgR (P' q)=true/\ (P' q).1=(q:Int))) (hv:(P' q).2.1<=v):
  Inv ⟨relS p.f i q,⟨s',[]⟩,p.now⟩ P' W v u:=by
 have hm:=FM.rel hA
 have hq1:1<=q:=by have:=hA.p1;omega
 have hi:=hA.hi;obtain ⟨c1,c2⟩:=zJr (p:=(q:Int)) h.pj.fm.dt;have hd:∀ x,x∈(relS p.f i q).dt↔x∈p.f.dt/\x.1≠(q:Int):=c2;have hfr:(relS p.f i q).fr=p.f.fr.set i (0,0,false):=rfl;have hpg:(relS p.f i q).pg=p.f.pg.set i noPg:=rfl;refine ⟨⟨hm,hs,rfl,hz,h.pj.n0,h.pj.n1,fun x hx=>h.pj.dt x ((hd x).1 hx).1⟩,?_,fun k j hB=>?_,⟨fun k h1 h16 hn=>?_,fun k h1 h16=>?_,fun k=>?_⟩,h.ub⟩
 ·show zDl (p.f.fr.set i (0,0,false)) W
  refine zDl.set h.pins hi hA.uniq fun k h1 h16=>⟨fun e=>?_,fun _ e=>?_,fun _ _=>rfl⟩
  ·have e:(0:Int)=k:=e;omega
  ·have ek:k=q:=by rw [hA.fr] at e;omega
   subst ek;rw [h.wat hA,h0]
 ·have hj:j<(p.f.fr.set i (0,0,false)).length:=hB.hi;have ef:(p.f.fr.set i (0,0,false))[j].1=(k:Int):=hB.fr;have hk1:=hB.p1
  have hne:i≠j:=fun e=>by
   subst e;rw [List.getElem_set_self] at ef;have ef:(0:Int)=k:=ef;omega
  rw [List.getElem_set_ne hne] at ef
  have hj':j<p.f.fr.length:=by rw [List.length_set] at hj;exact hj
  have hC:=zEk h.pj.fm (by omega) hj' ef;have hj2:j<(p.f.pg.set i noPg).length:=hB.hp;show (p.f.pg.set i noPg)[j]'hj2=_;rw [List.getElem_set_ne hne,h.at_ k j hC,hP];intro e;subst e;exact hne (hA.uni hj' ef).symm
 ·show getR s' k=_
  by_cases e:k=q
  ·subst e;exact hq
  ·rw [hg k h1 h16 e,hP k e]
   exact h.on.dsk k h1 h16 fun x hx ex=>hn x ((hd x).2 ⟨hx,by omega⟩) ex
 ·by_cases e:k=q
  ·subst e;exact hok
  ·rw [hP k e];exact h.on.okp k h1 h16
 ·by_cases e:k=q
  ·subst e;exact hv
  ·rw [hP k e];exact h.on.vb k
theorem Inv.rel0 {p P W v u} (h:Inv p P W v u) {q i:Nat} (hA:AtF p.f (q:Int) i) (h0:(p.f.fr[i]'hA.hi).2.1=0) (hn:∀ x∈p.f.dt,x.1≠(q:Int)):Inv ⟨relS p.f i q,p.d,p.now⟩ P W v u:=by
 have hq1:1<=q:=by have:=hA.p1;omega
 have hq16:q<=16:=by have:=hA.p16;omega
 have:=h.rel hA h0 (s':=p.d.sec) (P':=P) h.pj.rest h.pj.z0 (fun _ _=>rfl) (fun _ _ _ _=>rfl) (h.on.dsk q hq1 hq16 hn) (h.on.okp q hq1 hq16) (h.on.vb q)
 rw [<-h.pj.d] at this;exact this
theorem Inv.rm {p P W v u} (h:Inv p P W v u) {q:Nat} (h1:1<=q) (h16:q<=16) (hv:0<=v) (hn:∀ i (hi:i<p.f.fr.length),p.f.fr[i].1≠(q:Int)):Inv ⟨p.f,⟨rmD p.d.sec q,[]⟩,p.now⟩ (ud P q zP) W v u:=by
 obtain ⟨d1,d2,d3,d4⟩:=z4c h.pj.rest h1 h16;refine ⟨⟨h.pj.fm,d3,rfl,z6m h.pj.rest,h.pj.n0,h.pj.n1,h.pj.dt⟩,h.pins,fun k j hA=>?_,⟨fun k k1 k16 hk=>?_,fun k k1 k16=>?_,fun k=>?_⟩,h.ub⟩
 ·have:k≠q:=fun e=>by subst e;exact hn j hA.hi hA.fr
  rw [zDx _ _ this];exact h.at_ k j hA
 ·show getR (rmD p.d.sec q) k=_;rw [yJc h.pj.rest h1 h16 k1 k16]
  by_cases e:q=k
  ·subst e;rw [if_pos rfl,zDu,if_pos (show zP.1=0 from rfl)]
  ·rw [if_neg e,zDx _ _ (fun q=>e q.symm)];exact h.on.dsk k k1 k16 hk
 ·by_cases e:k=q
  ·subst e;rw [zDu];exact .inl rfl
  ·rw [zDx _ _ e];exact h.on.okp k k1 k16
 ·by_cases e:k=q
  ·subst e;rw [zDu];exact hv
  ·rw [zDx _ _ e];exact h.on.vb k
theorem Inv.pin {p P W v u} (h:Inv p P W v u) {q i:Nat} (hA:AtF p.f (q:Int) i) {y:Fr} (hy:frOk y=true) (h1:y.1=(q:Int)) {u':Int} (hu:y.2.1<=u') (huu:u<=u'):Inv ⟨zSf p.f i y,p.d,p.now⟩ P (ud W q y.2.1) v u':=by
 have hm:=FM.pins hA hy h1;have hi:=hA.hi;refine ⟨⟨hm,h.pj.rest,h.pj.ca,h.pj.z0,h.pj.n0,h.pj.n1,h.pj.dt⟩,?_,fun k j hB=>?_,h.on,fun k=>?_⟩
 ·show zDl (p.f.fr.set i y) _
  refine zDl.set h.pins hi hA.uniq fun k k1 k16=>⟨fun e=>?_,fun e1 e2=>?_,fun e1 e2=>?_⟩
  ·have:k=q:=by omega
   subst this;exact zDu _ _ _
  ·rw [hA.fr] at e2;omega
  ·exact zDx _ _ (by omega)
 ·have hj:j<(p.f.fr.set i y).length:=hB.hi;have ef:(p.f.fr.set i y)[j].1=(k:Int):=hB.fr
  have hj':j<p.f.fr.length:=by rw [List.length_set] at hj;exact hj
  refine h.at_ k j (zEk h.pj.fm (by have:=hB.p1;omega) hj' ?_)
  by_cases e:i=j
  ·subst e;rw [List.getElem_set_self] at ef;rw [hA.fr,<-h1,ef]
  ·rw [List.getElem_set_ne e] at ef;exact ef
 ·by_cases e:k=q
  ·subst e;rw [zDu];exact hu
  ·rw [zDx _ _ e];have:=h.ub k;omega
theorem Inv.load {p P W v u} (h:Inv p P W v u) {q i:Nat} (h1:1<=q) (h16:q<=16) (hi:i<p.f.fr.length) (hz:p.f.fr[i].1=0) (hn:∀ j (hj:j<p.f.fr.length),p.f.fr[j].1≠(q:Int)) {x:Pg} (hx:pgR x=true) (hxq:x.1=(q:Int)) (fresh:Bool) (hf:fresh=false->x=P q) (hv:x.2.1<=v) (hu:1<=u)
  (hm:FM {inS p.f x i with dt:=bif fresh then p.f.dt++[(x.1,p.now)] else p.f.dt}):
  Inv ⟨{inS p.f x i with dt:=bif fresh then p.f.dt++[(x.1,p.now)] else p.f.dt},p.d,p.now⟩ (ud P q x) (ud W q 1) v u:=by
 refine ⟨⟨hm,h.pj.rest,h.pj.ca,h.pj.z0,h.pj.n0,h.pj.n1,fun y hy=>?_⟩,?_,fun k j hB=>?_,⟨fun k k1 k16 hk=>?_,fun k k1 k16=>?_,fun k=>?_⟩,fun k=>?_⟩
 ·cases fresh with
  |false=>exact h.pj.dt y hy
  |true=>
   rcases List.mem_append.1 hy with e|e
   ·exact h.pj.dt y e
   ·rw [List.mem_singleton] at e;subst e;exact Int.le_refl _
 ·show zDl (p.f.fr.set i (x.1,1,true)) _
  refine zDl.set h.pins hi (fun j hj e0 e1=>absurd (e1.trans hz) e0) fun k k1 k16=>⟨fun e=>?_,fun _ e=>?_,fun e _=>?_⟩
  ·have e:x.1=(k:Int):=e
   have:k=q:=by omega
   subst this;exact zDu _ _ _
  ·rw [hz] at e;omega
  ·have e:x.1≠(k:Int):=e;exact zDx _ _ (by omega)
 ·have hj:j<(p.f.fr.set i (x.1,1,true)).length:=hB.hi;have ef:(p.f.fr.set i (x.1,1,true))[j].1=(k:Int):=hB.fr
  have hj':j<p.f.fr.length:=by rw [List.length_set] at hj;exact hj
  have hk1:=hB.p1;have hj2:j<(p.f.pg.set i x).length:=hB.hp;show (p.f.pg.set i x)[j]'hj2=_
  by_cases e:i=j
  ·subst e;rw [List.getElem_set_self] at ef⊢;have ef:x.1=(k:Int):=ef
   have:k=q:=by omega
   subst this;rw [zDu]
  ·rw [List.getElem_set_ne e] at ef⊢
   have:k≠q:=fun e2=>by subst e2;exact hn j hj' ef
   rw [zDx _ _ this];exact h.at_ k j (zEk h.pj.fm (by omega) hj' ef)
 ·have hk':∀ y∈p.f.dt,y.1≠(k:Int):=fun y hy=>hk y (by
   cases fresh with
   |false=>exact hy
   |true=>exact List.mem_append_left _ hy)
  by_cases e:k=q
  ·subst e
   cases fresh with
   |true=>exact absurd hxq (hk (x.1,p.now) (List.mem_append_right _ (List.mem_singleton.2 rfl)))
   |false=>
    rw [zDu];have:=h.on.dsk k k1 k16 hk'
    rwa [<-hf rfl] at this
  ·rw [zDx _ _ e];exact h.on.dsk k k1 k16 hk'
 ·by_cases e:k=q
  ·subst e;rw [zDu];exact .inr ⟨hx,hxq⟩
  ·rw [zDx _ _ e];exact h.on.okp k k1 k16
 ·by_cases e:k=q
  ·subst e;rw [zDu];exact hv
  ·rw [zDx _ _ e];exact h.on.vb k
 ·by_cases e:k=q
  ·subst e;rw [zDu];exact hu
  ·rw [zDx _ _ e];exact h.ub k
noncomputable def runL (d:DS) (l:List Jo):DS:=l.foldl zEj d
theorem yDj (d:DS) (a b:List Jo):runL d (a++b)=runL (runL d a) b:=List.foldl_append ..
theorem yMo {p P W v u} (h:Inv p P W v u) {q i:Nat} (hA:AtF p.f (q:Int) i) (hd:∃ x∈p.f.dt,x.1=(q:Int)):
  ∃ p' l,wbM p q=(p',l,0) /\Inv p' P W v u/\p'.f=zKj p.f q/\p'.now=p.now/\runL p.d l=p'.d/\l.length=10:=by
 have hpg:=hA.pg;obtain ⟨s1,s2,s3,s4⟩:=zLy h.pj.rest hA.pgr;have hw:=yWz hA;rw [if_pos (Dt.placeG_mem.2 hd),h.pj.d,s1,if_neg (fun q=>q rfl),s2,hpg,Int.toNat_natCast] at hw;refine ⟨_,_,hw,h.clean hA,rfl,rfl,?_,rfl⟩;have:=(pgR_out.1 hA.pgr);have hz:=zEc this.2.2.2.2;have e:=zLt h.pj.rest (p:=q) (by omega) (by omega) hz;rw [runL,h.pj.d];show _=DS.mk (putD p.d.sec (p.f.pg[i]'hA.hp)) [];rw [e,putD,hpg,Int.toNat_natCast]
theorem Inv.loose0 {p P W v u} (h:Inv p P W v u) {i:Nat} (hi:i<p.f.fr.length) (hz:p.f.fr[i].1=0):p.f.fr[i].2.1=0:=by
 rcases h.pj.fm.place i hi hi (by rw [h.pj.fm.len];exact hi) with q|⟨q,_⟩
 ·exact q.2.1
 ·omega
theorem yRv:∀ (n:Nat) {p P W v u} (l:List Jo),Inv p P W v u->p.f.dt.length<n->(∃ i,∃ hi:i<p.f.fr.length,p.f.fr[i].2.1=0)->
  ∃ p' l',mrM n p l=(p',l++l',0) /\Inv p' P W v u/\ (∃ i,∃ hi:i<p'.f.fr.length,p'.f.fr[i].1=0) /\p'.now=p.now/\p'.f.fr.length=p.f.fr.length/\runL p.d l'=p'.d/\l'.length<=10*n/\
   (∀ q,q≠0->(∀ i (hi:i<p.f.fr.length),p.f.fr[i].1≠q)->∀ i (hi:i<p'.f.fr.length),p'.f.fr[i].1≠q)
 |0,p,P,W,v,u,l,h,hn,_=>absurd hn (Nat.not_lt_zero _)
 |n+1,p,P,W,v,u,l,h,hn,hlo=>by
  rw [mrM]
  rcases zEf h.pj.fm with ⟨i,hi,hz,e⟩|⟨_,hb,e⟩|⟨hno,t,a,q,hA,hs,hA2,h0,e⟩
  ·rw [e,if_neg (fun q=>q rfl),if_pos rfl];exact ⟨p,[],by rw [List.append_nil],h,⟨i,hi,hz⟩,rfl,rfl,rfl,by simp,fun _ _ g=>g⟩
  ·obtain ⟨i,hi,hz⟩:=hlo;exact absurd hz (hb i hi)
  obtain ⟨o1,o2,o3,o4,o5⟩:=hs.out;have hI:=h.swp hs;obtain ⟨qn,rfl⟩:∃ qn:Nat,q=qn:=⟨q.toNat,by have:=hA.p1;omega⟩;have hpg:(p.f.pg[a]'hA.hp).1=qn:=hA.pg
  by_cases hsin:(Dt.sinceG p.f.dt qn).2=true
  ·rw [if_pos hsin] at e;rw [e,if_neg (fun q=>q rfl),if_neg (show ¬true=false by decide)];simp only [hpg];have hd:=Dt.placeG_mem.1 (zHt hsin);obtain ⟨p',l1,e1,i1,f1,n1,r1,len1⟩:=yMo (p:=⟨zIn p.f (t,a),p.d,p.now⟩) hI hA2 hd;rw [e1,if_neg (fun q=>q rfl)];simp only [];have hlt:=z3s (f:=zIn p.f (t,a)) (p:=qn) (zHt hsin);have hlt:(zKj (zIn p.f (t,a)) qn).dt.length<p.f.dt.length:=hlt
   have hfr:p'.f.fr=t:=by rw [f1];rfl
   obtain ⟨p2,l2,e2,i2,g2,n2,m2,r2,len2,out2⟩:=yRv n (l++l1) i1 (by rw [f1];exact Nat.lt_of_lt_of_le hlt (Nat.le_of_lt_succ hn)) ⟨a,by rw [hfr];exact o4,by simp only [hfr];exact o5⟩;refine ⟨p2,l1++l2,by rw [e2,List.append_assoc],i2,g2,n2.trans n1,by rw [m2,hfr,o1],by rw [yDj,r1,r2],by simp only [List.length_append];omega,fun q hq hn=>out2 q hq ?_⟩;intro i hi
   have hi':i<t.length:=by rw [<-hfr];exact hi
   simp only [hfr];rw [(o3 i (by omega) hi').1];exact hn i (by omega)
  ·rw [if_neg hsin] at e;rw [e,if_neg (fun q=>q rfl),if_pos rfl]
   have hnd:∀ x∈(PS.mk (zIn p.f (t,a)) p.d p.now).f.dt,x.1≠(qn:Int):=fun x hx ex=>hsin (by
    have hx:x∈p.f.dt:=hx
    rw [Dt.since_yes h.pj.fm.dt (p:=(qn:Int)) (t:=x.2) (by rw [<-ex];exact hx)])
   have i1:=hI.rel0 hA2 (by have h3:=(o3 a o2 o4).2;exact h3.trans h0) hnd;refine ⟨_,[],by rw [List.append_nil],i1,?_,rfl,?_,rfl,by simp,fun q hq hn i hi=>?_⟩
   ·refine ⟨a,by show a<(t.set a (0,0,false)).length;rw [List.length_set];exact o4,?_⟩;show ((t.set a (0,0,false))[a]'(by rw [List.length_set];exact o4)).1=0;rw [List.getElem_set_self]
   ·show (t.set a (0,0,false)).length=_
    rw [List.length_set];exact o1
   ·have hi':i<(t.set a (0,0,false)).length:=hi;show ((t.set a (0,0,false))[i]'hi').1≠q;rw [List.getElem_set]
    split
    ·exact fun g=>hq g.symm
    ·rw [(o3 i (by rw [List.length_set] at hi';omega) (by rw [List.length_set] at hi';exact hi')).1];exact hn i _
theorem yOw {p P W v u} (h:Inv p P W v u):
  ((∀ i (hi:i<p.f.fr.length),p.f.fr[i].2.1≠0) /\zFt p=(p,[],6)) \/ ((∃ i,∃ hi:i<p.f.fr.length,p.f.fr[i].2.1=0) /\
  ∃ p' l',zFt p=(p',l',0) /\Inv p' P W v u/\ (∃ i,∃ hi:i<p'.f.fr.length,p'.f.fr[i].1=0) /\p'.now=p.now/\p'.f.fr.length=p.f.fr.length/\runL p.d l'=p'.d/\l'.length<=170/\
   (∀ q,q≠0->(∀ i (hi:i<p.f.fr.length),p.f.fr[i].1≠q)->∀ i (hi:i<p'.f.fr.length),p'.f.fr[i].1≠q)):=by
 by_cases hb:∀ i (hi:i<p.f.fr.length),p.f.fr[i].2.1≠0
 ·exact .inl ⟨hb,z5k h.pj.fm (fun i hi e=>hb i hi (h.loose0 hi e)) hb⟩
 ·refine .inr ?_;obtain ⟨i,hi⟩:=Classical.not_forall.1 hb;obtain ⟨hi,he⟩:=Classical.not_forall.1 hi;have he:p.f.fr[i].2.1=0:=Classical.byContradiction he;have hl:=(Dt.rightB_out h.pj.fm.dt).1;obtain ⟨p',l',e1,r⟩:=yRv 17 [] h (Nat.lt_succ_of_le hl) ⟨i,hi,he⟩;exact ⟨⟨i,hi,he⟩,p',l',e1,r⟩
theorem z1j:∀ {a b:List Int},a.Nodup->(∀ x∈a,x∈b)->a.length<=b.length
 | [],b,_,_=>Nat.zero_le _
 |y::r,b,hn,hs=>by
  rw [List.nodup_cons] at hn;have hy:=hs y (List.mem_cons_self ..)
  have:=z1j (b:=b.erase y) hn.2 fun z hz=>(List.mem_erase_of_ne (fun e=>hn.1 (by rw [<-e];exact hz))).2 (hs z (List.mem_cons_of_mem _ hz))
  rw [List.length_erase_of_mem hy] at this;have hb:0<b.length:=List.length_pos_of_mem hy
  simp only [List.length_cons];omega
def bn (W:Nat->Int):Nat->Nat
 |0=>0
 |k+1=>bn W k+(if 0<W (k+1) then 1 else 0)
def bl' (W:Nat->Int):Nat->List Int
 |0=>[]
 |k+1=>if 0<W (k+1) then ((k+1:Nat):Int)::bl' W k else bl' W k
theorem yHi (W:Nat->Int):∀ k,(bl' W k).length=bn W k
 |0=>rfl
 |k+1=>by
  rw [bl',bn,<-yHi W k]
  split<;>simp
theorem zQr {W:Nat->Int} {x:Int}:∀ {k:Nat},x∈bl' W k↔∃ q:Nat,x=q/\1<=q/\q<=k/\0<W q
 |0=>by simp [bl'];omega
 |k+1=>by
  rw [bl']
  constructor
  ·intro hx
   split at hx
   ·rename_i hw
    rcases List.mem_cons.1 hx with e|e
    ·exact ⟨k+1,e,by omega,by omega,hw⟩
    ·obtain ⟨q,a,b,c,d⟩:=zQr.1 e;exact ⟨q,a,b,by omega,d⟩
   ·obtain ⟨q,a,b,c,d⟩:=zQr.1 hx;exact ⟨q,a,b,by omega,d⟩
  ·rintro ⟨q,a,b,c,d⟩
   by_cases e:q=k+1
   ·subst e;rw [if_pos d,a];exact List.mem_cons_self ..
   ·have:=zQr (W:=W) (k:=k) (x:=x) |>.2 ⟨q,a,b,by omega,d⟩
    split
    ·exact List.mem_cons_of_mem _ this
    ·exact this
theorem zUk (W:Nat->Int):∀ k,(bl' W k).Nodup
 |0=>List.nodup_nil
 |k+1=>by
  rw [bl']
  split
  ·rw [List.nodup_cons];refine ⟨fun h=>?_,zUk W k⟩;obtain ⟨q,a,_,c,_⟩:=zQr.1 h;omega
  ·exact zUk W k
def pinned (l:List Fr):List Int:=(l.filter fun x=>!decide (x.2.1=0)).map (·.1)
theorem zRt {l:List Fr} {p:Int}:p∈pinned l↔∃ i,∃ h:i<l.length,l[i].1=p/\l[i].2.1≠0:=by
 unfold pinned;rw [List.mem_map]
 constructor
 ·rintro ⟨x,hx,rfl⟩;obtain ⟨h1,h2⟩:=List.mem_filter.1 hx;obtain ⟨i,hi,rfl⟩:=List.mem_iff_getElem.1 h1;exact ⟨i,hi,rfl,by simpa using h2⟩
 ·rintro ⟨i,hi,rfl,h0⟩;exact ⟨l[i],List.mem_filter.2 ⟨List.getElem_mem hi,by simpa using h0⟩,rfl⟩
theorem zSs:∀ {l:List Fr},(∀ i j,(hi:i<l.length)->(hj:j<l.length)->l[i].2.1≠0->l[i].1=l[j].1->i=j)->(pinned l).Nodup
 | [],_=>by simp [pinned]
 |x::r,h=>by
  have ih:=zSs (l:=r) fun i j hi hj h0 e=>by
   have:=h (i+1) (j+1) (by simpa using hi) (by simpa using hj) (by simpa using h0) (by simpa using e);omega
  unfold pinned at ih⊢
  by_cases hx:x.2.1=0
  ·rw [List.filter_cons_of_neg (by simp [hx])];exact ih
  ·rw [List.filter_cons_of_pos (by simp [hx]),List.map_cons,List.nodup_cons];refine ⟨fun hm=>?_,ih⟩;obtain ⟨j,hj,e,_⟩:=zRt.1 hm;have:=h 0 (j+1) (by simp) (by simpa using hj) (by simpa using hx) (by simpa using e.symm);omega
theorem Inv.busy {p P W v u} (h:Inv p P W v u):bn W 16=p.f.fr.length↔∀ i (hi:i<p.f.fr.length),p.f.fr[i].2.1≠0:=by
 have hfr:∀ i (hi:i<p.f.fr.length),p.f.fr[i].2.1≠0->1<=p.f.fr[i].1/\p.f.fr[i].1<=16:=fun i hi h0=>by
  have hne:p.f.fr[i].1≠0:=fun e=>h0 (h.loose0 hi e)
  have hA:=zEk h.pj.fm hne hi rfl;exact ⟨hA.p1,hA.p16⟩
 have hnd:(pinned p.f.fr).Nodup:=zSs fun i j hi hj h0 e=>h.pj.fm.uni hi hj (by have:=hfr i hi h0;omega) e
 have s1:∀ x∈pinned p.f.fr,x∈bl' W 16:=fun x hx=>by
  obtain ⟨i,hi,e,h0⟩:=zRt.1 hx;have hb:=hfr i hi h0;have hA:=zEk h.pj.fm (p:=((x.toNat:Nat):Int)) (by omega) hi (by omega);have hw:=h.wat hA;have hk:=zBw.1 (h.pj.fm.ck.all i hi);exact zQr.2 ⟨x.toNat,by omega,by omega,by omega,by rw [hw];omega⟩
 have s2:∀ x∈bl' W 16,x∈pinned p.f.fr:=fun x hx=>by
  obtain ⟨q,e,q1,q16,hw⟩:=zQr.1 hx
  rcases h.pins q q1 q16 with ⟨i,hi,e1,e2⟩|⟨_,e2⟩
  ·exact zRt.2 ⟨i,hi,by rw [e1,e],by omega⟩
  ·omega
 have hlen:(pinned p.f.fr).length=bn W 16:=by
  rw [<-yHi];exact Nat.le_antisymm (z1j hnd s1) (z1j (zUk W 16) s2)
 rw [<-hlen];unfold pinned;rw [List.length_map,List.length_filter_eq_length_iff]
 constructor
 ·intro g i hi
  simpa using g _ (List.getElem_mem hi)
 ·intro g x hx;obtain ⟨i,hi,rfl⟩:=List.mem_iff_getElem.1 hx
  simpa using g i hi
def newP (q:Nat):Pg:=((q:Int),1,ByteArray.empty)
abbrev R3:=(Nat->Pg)×(Nat->Int)×Pg×Int
def zIe (P:Nat->Pg) (W:Nat->Int) (n:Nat) (k:Int) (q:Nat):R3:=
 if k=1/\ (P q).1=0 then (P,W,zP,3)
 else if k=2/\ (P q).1≠0 then (P,W,zP,4)
 else if W q=0/\bn W 16=n then (P,W,zP,6)
 else if k=2 then (ud P q (newP q),ud W q (W q+1),newP q,0)
 else (ud P q (P q),ud W q (W q+1),P q,0)
theorem z2v {α:Type} (P:Nat->α) (q:Nat):ud P q (P q)=P:=by
 funext k
 rw [ud]
 split
 ·rename_i h;rw [h]
 ·rfl
theorem Inv.mono {p P W v u v' u'} (h:Inv p P W v u) (hv:v<=v') (hu:u<=u'):Inv p P W v' u':=
 ⟨h.pj,h.pins,h.at_,⟨h.on.dsk,h.on.okp,fun q=>Int.le_trans (h.on.vb q) hv⟩,fun q=>Int.le_trans (h.ub q) hu⟩
structure Did (p:PS) (v u:Int) (m:R3) (r:R4):Prop where
 told:r.2.1=m.2.2.1
 err:r.2.2.2=m.2.2.2
 inv:Inv r.1 m.1 m.2.1 v u
 now:r.1.now=p.now
 len:r.1.f.fr.length=p.f.fr.length
 run:runL p.d r.2.2.1=r.1.d
 few:r.2.2.1.length<=170
 none:r.2.2.2≠0->r.2.2.1=[]
theorem Did.same {p P W v u} (h:Inv p P W v u) (x:Pg) (e:Int):Did p v u (P,W,x,e) (p,x,[],e):=⟨rfl,rfl,h,rfl,rfl,rfl,by simp,fun _=>rfl⟩
theorem Inv.where {p P W v u} (h:Inv p P W v u) {q:Nat} (h1:1<=q):(∀ i (hi:i<p.f.fr.length),p.f.fr[i].1≠(q:Int)) \/ ∃ i,AtF p.f (q:Int) i:=by
 have hq0:(q:Int)≠0:=by omega
 by_cases hn:∀ i (hi:i<p.f.fr.length),p.f.fr[i].1≠(q:Int)
 ·exact .inl hn
 ·obtain ⟨i,hi⟩:=Classical.not_forall.1 hn;obtain ⟨hi,he⟩:=Classical.not_forall.1 hi;exact .inr ⟨i,zEk h.pj.fm hq0 hi (Classical.byContradiction he)⟩
theorem Inv.nz {p P W v u} (h:Inv p P W v u) {q i:Nat} (hA:AtF p.f (q:Int) i):(P q).1≠0:=by
 rw [<-h.at_ q i hA,hA.pg];have:=hA.p1;omega
theorem zTs {p P W v u} (h:Inv p P W v u) (hu:1<=u) {q:Nat} (h1:1<=q) (h16:q<=16) (hn:∀ i (hi:i<p.f.fr.length),p.f.fr[i].1≠(q:Int)) {x:Pg} (hx:pgR x=true) (hxq:x.1=(q:Int)) (fresh:Bool) (hf:fresh=false->x=P q) (hv:x.2.1<=v) {n:Nat} (hl:p.f.fr.length=n):
  Did p v u (if W q=0/\bn W 16=n then (P,W,zP,6) else (ud P q x,ud W q (W q+1),x,0)) (zDn p x fresh):=by
 have hw:=h.wout h1 h16 hn
 rcases yOw h with ⟨hb,e⟩|⟨hlo,p',l',e,i',⟨i,hi,hz⟩,hnow,hlen,hrun,hfew,hout⟩
 ·rw [if_pos ⟨hw,by rw [<-hl];exact h.busy.2 hb⟩,zDn,e,if_pos (show (6:Int)≠0 by decide)];exact Did.same h zP 6
 ·have hbz:¬(W q=0/\bn W 16=n):=fun g=>by
   rw [<-hl] at g;obtain ⟨j,hj,ej⟩:=hlo;exact h.busy.1 g.2 j hj ej
  have hq0:(q:Int)≠0:=by omega
  have hn':=hout q hq0 hn;obtain ⟨j,hj,hz',e2,m1,m2⟩:=zZa e i'.pj.fm hx i'.pj.n0 i'.pj.n1 fresh (by rw [hxq];exact hn') ⟨i,hi,hz⟩ i'.pj.dt;rw [if_neg hbz,e2,hw];exact ⟨rfl,rfl,i'.load h1 h16 hj hz' hn' hx hxq fresh hf hv hu m1,hnow,by show (p'.f.fr.set j _).length=_;rw [List.length_set,hlen],hrun,hfew,fun g=>absurd rfl g⟩
theorem yCi {f:FS} (h:FM f) {p t:Int} (hp1:1<=p) (hp16:p<=16) (h0:0<=t) (h1:t<=2147483647) (ht:∀ x∈f.dt,x.2<=t):Dt.markG f.dt p t=(if 0<=Dt.placeG f.dt p 0 then f.dt else f.dt++[(p,t)],0):=by
 by_cases hd:0<=Dt.placeG f.dt p 0
 ·rw [if_pos hd];exact yCj h hp1 hp16 h0 h1 hd ht
 ·rw [if_neg hd]
  have hl:Dt.lateB f.dt t=false:=by
   unfold Dt.lateB
   by_cases hz:0<f.dt.length
   ·have hm:=List.getElem_mem (show f.dt.length-1<f.dt.length by omega);have:=ht _ hm;rw [List.getElem?_eq_getElem (by omega),Option.getD_some]
    simp;omega
   ·simp [hz]
  rw [Dt.markG,if_neg,if_neg (by rw [hl];decide),if_neg hd];intro q
  rcases q with q|q|q
  ·rw [h.dt] at q;cases q
  ·simp [Dt.pageB] at q;omega
  ·simp [Dt.timeB] at q;omega
theorem yTm {s:List ByteArray} (h:Rest s) {q:Nat} (h1:1<=q) (h16:q<=16):runL ⟨s,[]⟩ (zGq q (nulB 32))=⟨rmD s q,[]⟩:=
 zLt h h1 h16 (zCr 32)
theorem zQw {p P W v u} (h:Inv p P W v u) (hv:0<=v) {q:Nat} (h1:1<=q) (h16:q<=16):Did p v u (if 0<W q then (P,W,zP,6) else if (P q).1=0 then (P,W,zP,3) else (ud P q zP,W,zP,0)) (zEe p q):=by
 obtain ⟨d1,d2,d3,d4⟩:=z4c h.pj.rest h1 h16;have hr:=yTm h.pj.rest h1 h16;rw [zEe]
 rcases h.where h1 with hn|⟨i,hA⟩
 ·rw [zCx h.pj.fm hn (by omega),if_neg (show ¬false=true by decide),h.pj.get h1 h16,h.on.dsk q h1 h16 (h.out h1 hn),h.wout h1 h16 hn,if_neg (show ¬(0:Int)<0 by decide)]
  by_cases hz:(P q).1=0
  ·rw [if_pos hz,if_pos hz,if_pos (show (3:Int)≠0 by decide)];exact Did.same h zP 3
  ·rw [if_neg hz,if_neg hz,if_neg (show ¬((0:Int)≠0) from fun g=>g rfl),zIi,h.pj.get h1 h16,h.on.dsk q h1 h16 (h.out h1 hn),if_neg hz,if_neg (show ¬(0:Int)=3 by decide)];rw [h.pj.d,d1,d2,if_neg (show ¬((0:Int)≠0) from fun g=>g rfl)];exact ⟨rfl,rfl,h.rm h1 h16 hv hn,rfl,rfl,by rw [h.pj.d];exact hr,show (10:Nat) <=170 by decide,fun g=>absurd rfl g⟩
 ·have hi:=hA.hi;have hw:=h.wat hA;have hk:=zBw.1 (h.pj.fm.ck.all i hi);rw [findF_at hA,if_pos rfl,Int.toNat_natCast,zCo hi,hw]
  by_cases hz:0<p.f.fr[i].2.1
  ·rw [if_pos hz,if_pos hz];exact Did.same h zP 6
  rw [if_neg hz,if_neg hz,if_neg (h.nz hA)]
  have e:zCj p.f q=((i:Int),0):=by
   rw [zCj,if_pos (zGs.2 hA.right),(zCh hA.right.tb).2 ⟨hA.p1,hA.mem⟩];rfl
  have ed:zJv p.f q=(relS p.f i q,0):=by
   rw [zJv,e,if_neg (fun g=>g rfl),Int.toNat_natCast,zCo hi,if_neg hz]
  rw [ed,if_neg (show ¬((0:Int)≠0) from fun g=>g rfl),zIi,h.pj.get h1 h16]
  have h0:p.f.fr[i].2.1=0:=by omega
  by_cases hg:(getR p.d.sec q).2=3
  ·rw [if_pos hg]
   have hg2:getR p.d.sec q=(zP,3):=by
    have e3:∀ a:ByteArray,(zFo a).2≠0->True:=fun _ _=>trivial
    rw [getR] at hg⊢
    split
    ·rename_i g;rw [if_pos g] at hg;rw [hg]
    ·rename_i g;rw [if_neg g] at hg
     split at hg<;>exact absurd hg (show ¬_=(3:Int) by simp only [];decide)
   have:=h.rel hA h0 (s':=p.d.sec) (P':=ud P q zP) h.pj.rest h.pj.z0 (fun k hk=>zDx _ _ hk) (fun _ _ _ _=>rfl) (by rw [zDu,if_pos (show zP.1=0 from rfl)];exact hg2) (by rw [zDu];exact .inl rfl) (by rw [zDu];exact hv);rw [<-h.pj.d] at this;exact ⟨rfl,rfl,this,rfl,by show (p.f.fr.set i _).length=_;rw [List.length_set],rfl,by simp,fun g=>absurd rfl g⟩
  ·rw [if_neg hg,h.pj.d,d1,d2,if_neg (show ¬((0:Int)≠0) from fun g=>g rfl)];have:=h.rel hA h0 (s':=rmD p.d.sec q) (P':=ud P q zP) d3 (z6m h.pj.rest) (fun k hk=>zDx _ _ hk) (fun k k1 k16 hne=>by rw [yJc h.pj.rest h1 h16 k1 k16,if_neg (fun e=>hne e.symm)]) (by rw [zDu,if_pos (show zP.1=0 from rfl),yJc h.pj.rest h1 h16 h1 h16,if_pos rfl]) (by rw [zDu];exact .inl rfl) (by rw [zDu];exact hv);exact ⟨rfl,rfl,this,rfl,by show (p.f.fr.set i _).length=_;rw [List.length_set],by rw [h.pj.d];exact hr,show (10:Nat) <=170 by decide,fun g=>absurd rfl g⟩
theorem yGv {p0:PS}:∀ {ids:List Int} {q P W v u} {l:List Jo},Inv q P W v u->ids.Nodup->(∀ id∈ids,∃ x∈q.f.dt,x.1=id)->
  ∃ q' l',ageL p0 ids q l=(q',zP,l++l',0) /\Inv q' P W v u/\q'.now=q.now/\q'.f.fr.length=q.f.fr.length/\runL q.d l'=q'.d/\l'.length<=10*ids.length/\ ∀ x,x∈q'.f.dt↔x∈q.f.dt/\x.1∉ids
 | [],q,P,W,v,u,l,h,_,_=>⟨q,[],by rw [ageL,List.append_nil],h,rfl,rfl,rfl,by simp,fun x=>by simp⟩
 |id::r,q,P,W,v,u,l,h,hn,hd=>by
  rw [List.nodup_cons] at hn;obtain ⟨x,hx,ex⟩:=hd id (List.mem_cons_self ..);obtain ⟨i,hA⟩:=z0m h.pj.fm hx;rw [ex] at hA;obtain ⟨qn,rfl⟩:∃ qn:Nat,id=qn:=⟨id.toNat,by have:=hA.p1;omega⟩;obtain ⟨p',l1,e,i1,f1,n1,r1,len1⟩:=yMo h hA ⟨x,hx,ex⟩
  have hmem:∀ y,y∈p'.f.dt↔y∈q.f.dt/\y.1≠(qn:Int):=fun y=>by
   rw [f1];show y∈q.f.dt.filter _↔_;rw [List.mem_filter];simp
  obtain ⟨q2,l2,e2,i2,n2,m2,r2,len2,d2⟩:=yGv (p0:=p0) (l:=l++l1) i1 hn.2 fun id' hid'=>by
   obtain ⟨y,hy,ey⟩:=hd id' (List.mem_cons_of_mem _ hid');exact ⟨y,(hmem y).2 ⟨hy,fun g=>hn.1 (by rw [<-g,ey];exact hid')⟩,ey⟩
  refine ⟨q2,l1++l2,?_,i2,n2.trans n1,by rw [m2,f1];rfl,by rw [yDj,r1,r2],by simp only [List.length_append,List.length_cons];omega,fun y=>?_⟩
  ·rw [ageL,e,if_neg (show ¬((0:Int)≠0) from fun g=>g rfl),e2,List.append_assoc]
  ·rw [d2,hmem,List.mem_cons]
   constructor
   ·rintro ⟨⟨a,b⟩,c⟩;exact ⟨a,fun g=>g.elim b c⟩
   ·rintro ⟨a,b⟩;exact ⟨⟨a,fun g=>b (.inl g)⟩,fun g=>b (.inr g)⟩
theorem z4f {now age:Int}:∀ {l:List (Int×Int)},l.Pairwise (fun a b=>a.1≠b.1)->(l.filterMap (Dt.dueF now age)).Nodup
 | [],_=>List.nodup_nil
 |x::r,h=>by
  rw [List.pairwise_cons] at h;have ih:=z4f (now:=now) (age:=age) h.2;rw [List.filterMap_cons]
  split
  ·exact ih
  ·rename_i b e;rw [List.nodup_cons];refine ⟨fun hm=>?_,ih⟩;obtain ⟨y,hy,ey⟩:=List.mem_filterMap.1 hm;rw [Dt.dueF] at e ey
   split at e
   ·split at ey
    ·exact h.1 y hy ((Option.some.inj e).trans (Option.some.inj ey).symm)
    ·cases ey
   ·cases e
theorem due_nd {l:List (Int×Int)} (h:Dt.rightB l=true) (now age:Int):(Dt.dueG l now age).Nodup:=by
 rw [Dt.dueG]
 split
 ·exact List.nodup_nil
 ·exact z4f (Dt.rightB_iff.1 h).2.2.1
theorem yGu {p P W v u} (h:Inv p P W v u) (age:Int):Did p v u (P,W,zP,0) (zKb p age) /\ (0<=age->∀ x,x∈(zKb p age).1.f.dt↔x∈p.f.dt/\p.now-x.2<age):=by
 obtain ⟨q',l',e,i1,n1,m1,r1,len1,d1⟩:=yGv (p0:=p) (l:=[]) h (due_nd h.pj.fm.dt p.now age) fun id hid=>by
  obtain ⟨_,t,ht,_⟩:=z7z hid;exact ⟨_,ht,rfl⟩
 have h16:=due_len (now:=p.now) (age:=age) h.pj.fm.dt;rw [zKb,e];refine ⟨⟨rfl,rfl,i1,n1,m1,r1,by simp only [List.nil_append];omega,fun g=>absurd rfl g⟩,fun h0 x=>?_⟩;simp only [];rw [d1]
 constructor
 ·rintro ⟨a,b⟩;refine ⟨a,Classical.byContradiction fun g=>b ?_⟩;rw [Dt.dueG,if_neg]
  ·exact List.mem_filterMap.2 ⟨x,a,by rw [Dt.dueF,if_pos (by omega)]⟩
  ·rintro (g|g|g)
   ·omega
   ·have:=h.pj.n0;omega
   ·rw [h.pj.fm.dt] at g;cases g
 ·rintro ⟨a,b⟩;refine ⟨a,fun g=>?_⟩;obtain ⟨_,t,ht,hl⟩:=z7z g;have s1:=Dt.since_yes h.pj.fm.dt ht;rw [Dt.since_yes h.pj.fm.dt (p:=x.1) (t:=x.2) a] at s1
  cases s1
  omega
theorem Inv.new {n:Nat} (h1:1<=n) (h8:n<=8) {s:List ByteArray} (hs:Rest s) (hz:s[0]?.getD ByteArray.empty=zDp) {P:Nat->Pg} {v u:Int} (h:OnD s [] P v) (hu:0<=u):Inv ⟨zKp n,⟨s,[]⟩,0⟩ P (fun _=>0) v u:=by
 have hfr:∀ i (hi:i<(zKp n).fr.length),(zKp n).fr[i]=(0,0,false):=fun i hi=>by
  have hi2:i<(List.replicate n ((0,0,false):Fr)).length:=hi;show (List.replicate n ((0,0,false):Fr))[i]'hi2=_;rw [List.getElem_replicate]
 refine ⟨⟨FM.new h1 h8,hs,rfl,hz,by show (0:Int) <=0;decide,by show (0:Int) <=_;decide,fun x hx=>by cases hx⟩,fun q h1 h16=>.inr ⟨fun i hi e=>?_,rfl⟩,fun q i hA=>?_,h,fun q=>hu⟩
 ·rw [hfr i hi] at e;have e:(0:Int)=(q:Int):=e;omega
 ·have e:=hA.fr;rw [hfr i hA.hi] at e;have e:(0:Int)=(q:Int):=e;have:=hA.p1;omega
theorem OnD.new {v:Int} (hv:0<=v):OnD (List.replicate 35 zDp) [] (fun _=>zP) v:=
 ⟨fun q _ h16 _=>by rw [yJb h16,if_pos (show zP.1=0 from rfl)],fun _ _ _=>.inl rfl,fun _=>hv⟩
theorem yMw:(List.replicate 35 zDp)[0]?.getD ByteArray.empty=zDp:=by rw [List.getElem?_replicate,if_pos (by decide)];rfl
theorem Did.eq {p v u} {P':Nat->Pg} {W':Nat->Int} {x:Pg} {e:Int} {r:R4} (h:Did p v u (P',W',x,e) r):∃ q l,r=(q,x,l,e) /\Inv q P' W' v u/\q.now=p.now/\q.f.fr.length=p.f.fr.length/\runL p.d l=q.d/\l.length<=170/\ (e≠0->l=[]):=by
 obtain ⟨q,y,l,f⟩:=r;have h1:=h.told;have h2:=h.err;simp only at h1 h2;subst h1 h2;exact ⟨q,l,rfl,h.inv,h.now,h.len,h.run,h.few,h.none⟩
theorem yMs {n:Nat}:∀ (l:List Wt) (s:List ByteArray),(∀ i,(h:i<s.length)->s[i].size=16)->(∀ w∈l,w.2.size=16)->∀ i,(h:i<(wrS s l).length)->(wrS s l)[i].size=16
 | [],s,hs,_=>hs
 |w::r,s,hs,hw=>yMs (n:=n) r (s.set w.1.toNat w.2) (fun i h=>by
   rw [List.getElem_set]
   split
   ·exact hw w (.head _)
   ·exact hs i (by rw [List.length_set] at h;exact h)) fun x hx=>hw x (.tail _ hx)
theorem DR.sync {d:DS} (h:DR d):DR ⟨wrS d.sec d.ca,[]⟩:=by
 refine ⟨by show 1<= (wrS d.sec d.ca).length;rw [zIp];exact h.s1,by show (wrS d.sec d.ca).length<=64;rw [zIp];exact h.s2,Nat.zero_le _,yMs (n:=0) _ _ h.s fun w hw=>?_,fun i hi=>absurd hi (Nat.not_lt_zero _)⟩;obtain ⟨i,hi,rfl⟩:=List.mem_iff_getElem.1 hw;exact (zDt.1 (h.c i hi)).2.2
theorem yPz {d:DS} (h:DR d) (o:Jo):DR (zEj d o):=by
 rw [zEj]
 split
 ·rw [zXg,if_pos h];exact h.sync
 ·rw [putM]
  split
  ·rename_i g
   split
   ·exact h
   ·refine ⟨h.s1,h.s2,by show (d.ca++[o.2]).length<=200;rw [List.length_append];show d.ca.length+1<=200;omega,h.s,fun i hi=>?_⟩;show okW d.sec.length (d.ca++[o.2])[i]=true
    by_cases e:i<d.ca.length
    ·rw [List.getElem_append_left e];exact h.c i e
    ·have hi2:i<(d.ca++[o.2]).length:=hi;rw [List.length_append] at hi2
     have:i=d.ca.length:=by simp at hi2;omega
     subst this;simp [g.2]
  ·exact h
theorem yMe (d:DS) (o:Jo):(zEj d o).sec.length=d.sec.length:=by
 rw [zEj]
 split
 ·rw [zXg];split
  ·exact zIp ..
  ·rfl
 ·rw [putM];split
  ·split<;>rfl
  ·rfl
theorem yQ {d:DS} (h:Us d) (o:Jo):Us (zEj d o):=⟨yPz h.dr o,by rw [yMe];exact h.n⟩
theorem yBt:∀ (l:List Jo) {d:DS},Us d->Us (l.foldl zEj d)
 | [],_,h=>h
 |o::r,_,h=>yBt r (yQ h o)
theorem yLp {d:DS} (h:Us d) (l:List Jo) (n:Int):Us (runM d l n):=yBt _ h
theorem z3y {d:DS} (h:Us d) (p:Int) (s:ByteArray):Us (zEu d p s).1:=by
 rw [zEu];split
 ·exact yLp h _ _
 ·exact h
theorem yW {d:DS} (h:Us d) (x:Pg):Us (setS d x).1:=by
 rw [setS];split
 ·exact z3y h _ _
 ·exact h
theorem zWl {f:FS} (h:FM f):∃ w,zDl f.fr w:=by
 refine ⟨fun q=>if e:∃ i,∃ hi:i<f.fr.length,f.fr[i].1=(q:Int) then (f.fr[e.choose]'e.choose_spec.choose).2.1 else 0,fun q h1 h16=>?_⟩
 by_cases e:∃ i,∃ hi:i<f.fr.length,f.fr[i].1=(q:Int)
 ·left
  refine ⟨e.choose,e.choose_spec.choose,e.choose_spec.choose_spec,?_⟩;simp only [dif_pos e]
 ·right
  refine ⟨fun i hi g=>e ⟨i,hi,g⟩,?_⟩;simp only [dif_neg e]
theorem pin_fm {f:FS} (h:FM f) (id:Int):FM (pinS f id).1:=by
 obtain ⟨w,hw⟩:=zWl h;exact (Kept.pin (a:=⟨1,id,0,ByteArray.empty,zP⟩) h hw rfl).fm
theorem yQo {f:FS} (h:FM f) (id:Int):FM (zEp f id).1:=by
 obtain ⟨w,hw⟩:=zWl h;exact (Kept.unpin (a:=⟨2,id,0,ByteArray.empty,zP⟩) h hw rfl).fm
theorem yR {f:FS} (h:FM f) (id:Int) (b:ByteArray) (n:Int):FM (zBx f id b n).1:=by
 obtain ⟨w,hw⟩:=zWl h;exact (Kept.write (a:=⟨3,id,n,b,zP⟩) h hw rfl).fm
theorem yTp {f:FS} (h:FM f) (id:Int):FM (zJv f id).1:=by
 obtain ⟨w,hw⟩:=zWl h;exact (Kept.drop (a:=⟨5,id,0,ByteArray.empty,zP⟩) h hw rfl).fm
theorem yUp {f:FS} (h:FM f) (x:Pg) (n:Int) (fresh:Bool):FM (zGz f x n fresh).1:=by
 obtain ⟨w,hw⟩:=zWl h;exact (Kept.load (a:=⟨6,0,n,ByteArray.empty,x⟩) fresh h hw rfl).fm
structure Gd (m:Int) (p:PS):Prop where
 fm:FM p.f
 us:Us p.d
 now:p.now=m
theorem Gd.wb {m p} (h:Gd m p) (id:Int):Gd m (wbM p id).1:=by
 refine ⟨yX h.fm id,?_,?_⟩
 ·rw [wbM]
  repeat' split
  all_goals first|exact h.us|exact yW h.us _
 ·rw [wbM]
  repeat' split
  all_goals exact h.now
theorem Gd.room {m p} (h:Gd m p):Gd m ⟨(zCe p.f).1,p.d,p.now⟩:=⟨z2h h.fm,h.us,h.now⟩
theorem Gd.mr {m}:∀ (n:Nat) (p:PS) (l:List Jo),Gd m p->Gd m (mrM n p l).1/\ (mrM n p l).2.1.length<=l.length+10*n
 |0,p,l,h=>⟨h,by show l.length<=_;omega⟩
 |n+1,p,l,h=>by
  rw [mrM]
  split
  ·exact ⟨h,by show l.length<=_;omega⟩
  split
  ·exact ⟨h.room,by show l.length<=_;omega⟩
  split
  ·exact ⟨h.room,by show l.length<=_;omega⟩
  ·have ih:=Gd.mr n _ (l++(wbM ⟨(zCe p.f).1,p.d,p.now⟩ (zCe p.f).2.1.1).2.1) (h.room.wb (zCe p.f).2.1.1);refine ⟨ih.1,?_⟩;have h2:=ih.2;have h3:=yEg ⟨(zCe p.f).1,p.d,p.now⟩ (zCe p.f).2.1.1;rw [List.length_append] at h2;omega
theorem Gd.make {m p} (h:Gd m p):Gd m (zFt p).1/\ (zFt p).2.1.length<=170:=by
 have:=Gd.mr 17 p [] h;exact ⟨this.1,by have h2:=this.2;show (mrM 17 p []).2.1.length<=170;simpa using h2⟩
def GdR (m:Int) (r:R4):Prop:=Gd m r.1/\r.2.2.1.length<=170
theorem Gd.same {m p} (h:Gd m p) (x:Pg) (e:Int):GdR m (p,x,[],e):=⟨h,Nat.zero_le _⟩
theorem Gd.load {m p} (h:Gd m p) (x:Pg) (fresh:Bool):GdR m (zDn p x fresh):=by
 obtain ⟨h1,h2⟩:=h.make;rw [zDn]
 split
 ·exact h1.same _ _
 split
 ·exact h1.same _ _
 ·exact ⟨⟨yUp h1.fm _ _ _,h1.us,h1.now⟩,h2⟩
theorem Gd.fetch {m p} (h:Gd m p) (id:Int):GdR m (zDq p id):=by
 rw [zDq]
 split
 ·split
  ·exact h.same _ _
  ·exact Gd.same (p:=⟨(pinS p.f id).1,p.d,p.now⟩) ⟨pin_fm h.fm _,h.us,h.now⟩ _ _
 split
 ·exact h.same _ _
 ·exact h.load _ _
theorem Gd.create {m p} (h:Gd m p) (id:Int):GdR m (zBy p id):=by
 rw [zBy]
 split
 ·exact h.same _ _
 split
 ·exact h.load _ _
 split<;>exact h.same _ _
theorem Gd.tail {m p q} (h:Gd m p) (hq:Gd m q) (id:Int):GdR m (zIi p q id):=by
 rw [zIi]
 split
 ·exact hq.same _ _
 split
 ·exact h.same _ _
 ·exact ⟨⟨hq.fm,z3y h.us _ _,hq.now⟩,by
   show (zId p.d (id,0,ByteArray.empty)).length<=170;have:=zSb p.d (id,0,ByteArray.empty)
   omega⟩
theorem Gd.remove {m p} (h:Gd m p) (id:Int):GdR m (zEe p id):=by
 rw [zEe]
 split
 ·split
  ·exact h.same _ _
  split
  ·exact h.same _ _
  ·exact h.tail (q:=⟨(zJv p.f id).1,p.d,p.now⟩) ⟨yTp h.fm _,h.us,h.now⟩ _
 split
 ·exact h.same _ _
 ·exact h.tail h _
theorem Gd.flush {m p} (h:Gd m p) (id:Int):GdR m (zFk p id):=by
 rw [zFk]
 split
 ·split<;>exact h.same _ _
 split
 ·exact h.same _ _
 split
 ·exact h.same _ _
 ·exact ⟨h.wb id,Nat.le_trans (yEg p id) (by decide)⟩
theorem Gd.ageL {m p} (h:Gd m p):∀ (ids:List Int) {q:PS} (l:List Jo),Gd m q->Gd m (ageL p ids q l).1/\ (ageL p ids q l).2.2.1.length<=l.length+10*ids.length
 | [],q,l,hq=>⟨hq,by show l.length<=_;omega⟩
 |id::r,q,l,hq=>by
  rw [Lk.ageL]
  split
  ·exact ⟨h,Nat.zero_le _⟩
  ·have ih:=Gd.ageL h r (l++(wbM q id).2.1) (hq.wb id);refine ⟨ih.1,?_⟩;have h2:=ih.2;have h3:=yEg q id;rw [List.length_append] at h2;show _<=l.length+10*(r.length+1);omega
theorem Gd.age {m p} (h:Gd m p) (n:Int):GdR m (zKb p n):=by
 have h1:=h.ageL (Dt.dueG p.f.dt p.now n) [] h;have h2:=due_len (now:=p.now) (age:=n) h.fm.dt;refine ⟨h1.1,?_⟩;have h3:=h1.2;rw [zKb];simp only [List.length_nil] at h3;omega
theorem Gd.pinned {m p} (h:Gd m p) (a:PAct):Gd m (zDb p a).1:=by
 rw [zDb]
 split
 ·exact h
 split
 ·split
  ·exact h
  ·exact ⟨yR h.fm _ _ _,h.us,h.now⟩
 split
 ·split
  ·exact h
  ·exact ⟨yQo h.fm _,h.us,h.now⟩
 ·exact h
theorem Gd.act {m p} (h:Gd m p) (a:PAct):GdR m (zBd p a):=by
 rw [zBd]
 repeat' split
 ·exact h.same _ _
 ·exact h.same _ _
 ·exact h.fetch _
 ·exact h.create _
 ·exact h.remove _
 ·exact h.flush _
 ·exact h.age _
 ·exact ⟨h.pinned a,Nat.zero_le _⟩
end Go.Lk
namespace Go.Lk
theorem yVn (f:FS) (id:Int):(pinS f id).1.fr.length=f.fr.length:=by
 rw [pinS];repeat' split
 all_goals first|rfl|simp [zSf]
theorem yMl (f:FS) (id:Int):(zEp f id).1.fr.length=f.fr.length:=by
 rw [zEp];repeat' split
 all_goals first|rfl|simp [zSf]
theorem yMv (f:FS) (id:Int) (b:ByteArray) (n:Int):(zBx f id b n).1.fr.length=f.fr.length:=by
 rw [zBx];repeat' split
 all_goals rfl
theorem yHt (f:FS) (id:Int):(zFu f id).1.fr.length=f.fr.length:=by
 rw [zFu];repeat' split
 all_goals rfl
theorem yNu (f:FS) (id:Int):(zJv f id).1.fr.length=f.fr.length:=by
 rw [zJv];repeat' split
 all_goals first|rfl|simp [relS]
theorem yOt (f:FS) (x:Pg) (n:Int) (b:Bool):(zGz f x n b).1.fr.length=f.fr.length:=by
 rw [zGz];repeat' split
 all_goals first|rfl|simp [inS]
theorem yPo {f:FS} (h:FM f):(zCe f).1.fr.length=f.fr.length:=by
 rcases zEf h with ⟨i,hi,_,e⟩|⟨_,_,e⟩|⟨_,l,a,p,hA,hs,hA2,_,e⟩
 ·rw [e]
 ·rw [e]
 ·have hl:l.length=f.fr.length:=by obtain ⟨o1,_⟩:=hs.out;exact o1
  rw [e]
  split
  ·exact hl
  ·show (l.set _ _).length=_;rw [List.length_set];exact hl
theorem zXk (p:PS) (id:Int):(wbM p id).1.f.fr.length=p.f.fr.length:=by
 rw [wbM];repeat' split
 all_goals first|rfl|exact yHt _ _
theorem yRw {t:Int}:∀ (n:Nat) (p:PS) (l:List Jo),Gd t p->(mrM n p l).1.f.fr.length=p.f.fr.length
 |0,p,l,_=>rfl
 |n+1,p,l,h=>by
  have hr:(zCe p.f).1.fr.length=p.f.fr.length:=yPo h.fm;rw [mrM]
  split
  ·rfl
  split
  ·exact hr
  split
  ·exact hr
  ·rw [yRw n _ _ (h.room.wb _),zXk];exact hr
theorem z1g {t:Int} {p:PS} (h:Gd t p):(zFt p).1.f.fr.length=p.f.fr.length:=yRw 17 p [] h
theorem z6e {t:Int} {p:PS} (h:Gd t p) (x:Pg) (b:Bool):(zDn p x b).1.f.fr.length=p.f.fr.length:=by
 rw [zDn];repeat' split
 ·exact z1g h
 ·exact z1g h
 ·exact (yOt _ _ _ _).trans (z1g h)
theorem yAv {t:Int} {p:PS} (hp:Gd t p):∀ (ids:List Int) (q:PS) (l:List Jo),q.f.fr.length=p.f.fr.length->(ageL p ids q l).1.f.fr.length=p.f.fr.length
 | [],q,l,h=>h
 |id::r,q,l,h=>by
  rw [ageL]
  split
  ·rfl
  ·exact yAv hp r _ _ ((zXk q id).trans h)
theorem yDy (p q:PS) (id:Int) (h:q.f.fr.length=p.f.fr.length):(zIi p q id).1.f.fr.length=p.f.fr.length:=by
 rw [zIi];repeat' split
 all_goals first|rfl|exact h
theorem yBk {t:Int} {p:PS} (h:Gd t p) (a:PAct):(zBd p a).1.f.fr.length=p.f.fr.length:=by
 rw [zBd];repeat' split
 ·rfl
 ·rfl
 ·rw [zDq];repeat' split
  all_goals first|rfl|exact yVn _ _|exact z6e h _ _
 ·rw [zBy];repeat' split
  all_goals first|rfl|exact z6e h _ _
 ·rw [zEe];repeat' split
  all_goals first|rfl|exact yDy _ _ _ (yNu _ _)|exact yDy _ _ _ rfl
 ·rw [zFk];repeat' split
  all_goals first|rfl|exact zXk _ _
 ·exact yAv h _ _ _ rfl
 ·show (zDb p a).1.f.fr.length=_
  rw [zDb];repeat' split
  all_goals first|rfl|exact yMv _ _ _ _|exact yMl _ _
theorem Gd.do {t:Int} {p:PS} (h:Gd t p) (a:PAct):Gd t (zBd p a).1:=(h.act a).1
end Go.Lk
namespace Go.Lk
open Go Go.Proofs Go.RowKit
theorem zWi {s:List ByteArray} (hs:Rest s) (hz:s[0]?.getD ByteArray.empty=zDp) {n:Int} (h1:1<=n) (h8:n<=8):zKq ⟨s,[]⟩ n=(⟨zKp n.toNat,⟨s,[]⟩,0⟩,0):=by
 rw [zKq,if_neg,if_neg (by omega),yPl hs hz];rintro (g|g)
 ·refine g ?_;rw [getJ,if_pos ⟨hs.us,by decide,by decide⟩]
 ·exact absurd g (show ¬0<([]:List Wt).length by decide)
end Go.Lk
