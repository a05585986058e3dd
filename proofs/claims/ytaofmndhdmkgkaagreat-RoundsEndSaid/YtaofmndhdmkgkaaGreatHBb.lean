/-
  What is proved here: what functions of the program compute, and what follows; no condition beyond each theorem's own.
-/
import Derived.Test.YtaofmndhdmkgkaaGreatHAs
import Derived.Test.YtaofmndhdmkgkaaGreatHBa
set_option linter.unusedSimpArgs false
set_option linter.unusedVariables false
set_option linter.unnecessarySimpa false
set_option linter.unusedSectionVars false
namespace Go.Lk
open Go Go.Proofs Go.RowKit
theorem cloneCl {l:List (List D)} (hok:okRows 3 l=true) (hl:l.length<=1000000):OCall Tryz.prog 89 [.lst l] l 3:=by
 refine ocall_of Tryz.func89 1 rfl (by kernel_rfl) (w0 ?_);refine nilK_of (w0 ?_);intro r hr
 conv=>whnf
 refine bcase_intro (fun h=>?_) (fun h=>?_)<;>conv=>whnf
 ·have:=hr h;exact ⟨2,rfl,.inr ⟨rfl,this⟩⟩
 ·refine aA ?_;refine condK_of hok (w0 ?_);refine roomK_le 1000100 100 (by show 0+List.length _<=1000100;omega) (by decide) (by decide) (by decide) (w0 ?_);exact ⟨2,rfl,.inl ⟨5,rfl,rfl⟩⟩
theorem cloneTk {l:List (List D)} (hok:okRows 2 l=true) (hl:l.length<=1000000):OCall Tryz.prog 90 [.lst l] l 2:=by
 refine ocall_of Tryz.func90 1 rfl (by kernel_rfl) (w0 ?_);refine nilK_of (w0 ?_);intro r hr
 conv=>whnf
 refine bcase_intro (fun h=>?_) (fun h=>?_)<;>conv=>whnf
 ·have:=hr h;exact ⟨2,rfl,.inr ⟨rfl,this⟩⟩
 ·refine aA ?_;refine condK_of hok (w0 ?_);refine roomK_le 1000100 100 (by show 0+List.length _<=1000100;omega) (by decide) (by decide) (by decide) (w0 ?_);exact ⟨2,rfl,.inl ⟨5,rfl,rfl⟩⟩
theorem cloneWt {l:List (List D)} (hok:okRows 2 l=true) (hl:l.length<=1000000):OCall Tryz.prog 200 [.lst l] l 2:=by
 refine ocall_of Tryz.func200 1 rfl (by kernel_rfl) (w0 ?_);refine nilK_of (w0 ?_);intro r hr
 conv=>whnf
 refine bcase_intro (fun h=>?_) (fun h=>?_)<;>conv=>whnf
 ·have:=hr h;exact ⟨2,rfl,.inr ⟨rfl,this⟩⟩
 ·refine aA ?_;refine condK_of hok (w0 ?_);refine roomK_le 1000100 100 (by show 0+List.length _<=1000100;omega) (by decide) (by decide) (by decide) (w0 ?_);exact ⟨2,rfl,.inl ⟨5,rfl,rfl⟩⟩
theorem cloneN {l:List (List D)} (hok:okRows 1 l=true) (hl:l.length<=1000000):OCall Tryz.prog 208 [.lst l] l 1:=by
 refine ocall_of Tryz.func208 1 rfl (by kernel_rfl) (w0 ?_);refine nilK_of (w0 ?_);intro r hr
 conv=>whnf
 refine bcase_intro (fun h=>?_) (fun h=>?_)<;>conv=>whnf
 ·have:=hr h;exact ⟨2,rfl,.inr ⟨rfl,this⟩⟩
 ·refine aA ?_;refine condK_of hok (w0 ?_);refine roomK_le 1000100 100 (by show 0+List.length _<=1000100;omega) (by decide) (by decide) (by decide) (w0 ?_);exact ⟨2,rfl,.inl ⟨5,rfl,rfl⟩⟩
theorem cloneLn {l:List (List D)} (hok:okRows 3 l=true) (hl:l.length<=1000000):OCall Tryz.prog 218 [.lst l] l 3:=by
 refine ocall_of Tryz.func218 1 rfl (by kernel_rfl) (w0 ?_);refine nilK_of (w0 ?_);intro r hr
 conv=>whnf
 refine bcase_intro (fun h=>?_) (fun h=>?_)<;>conv=>whnf
 ·have:=hr h;exact ⟨2,rfl,.inr ⟨rfl,this⟩⟩
 ·refine aA ?_;refine condK_of hok (w0 ?_);refine roomK_le 1000100 100 (by show 0+List.length _<=1000100;omega) (by decide) (by decide) (by decide) (w0 ?_);exact ⟨2,rfl,.inl ⟨5,rfl,rfl⟩⟩
theorem cloneRq {l:List (List D)} (hok:okRows 4 l=true) (hl:l.length<=1000000):OCall Tryz.prog 219 [.lst l] l 4:=by
 refine ocall_of Tryz.func219 1 rfl (by kernel_rfl) (w0 ?_);refine nilK_of (w0 ?_);intro r hr
 conv=>whnf
 refine bcase_intro (fun h=>?_) (fun h=>?_)<;>conv=>whnf
 ·have:=hr h;exact ⟨2,rfl,.inr ⟨rfl,this⟩⟩
 ·refine aA ?_;refine condK_of hok (w0 ?_);refine roomK_le 1000100 100 (by show 0+List.length _<=1000100;omega) (by decide) (by decide) (by decide) (w0 ?_);exact ⟨2,rfl,.inl ⟨5,rfl,rfl⟩⟩
theorem cloneJs {l:List (List D)} (hok:okRows 1 l=true) (hl:l.length<=1000000):OCall Tryz.prog 151 [.lst l] l 1:=by
 refine ocall_of Tryz.func151 1 rfl (by kernel_rfl) (w0 ?_);refine nilK_of (w0 ?_);intro r hr
 conv=>whnf
 refine bcase_intro (fun h=>?_) (fun h=>?_)<;>conv=>whnf
 ·have:=hr h;exact ⟨2,rfl,.inr ⟨rfl,this⟩⟩
 ·refine aA ?_;refine condK_of hok (w0 ?_);refine roomK_le 1000100 100 (by show 0+List.length _<=1000100;omega) (by decide) (by decide) (by decide) (w0 ?_);exact ⟨2,rfl,.inl ⟨5,rfl,rfl⟩⟩
theorem cloneJb {l:List (List D)} (hok:okRows 5 l=true) (hl:l.length<=1000000):OCall Tryz.prog 152 [.lst l] l 5:=by
 refine ocall_of Tryz.func152 1 rfl (by kernel_rfl) (w0 ?_);refine nilK_of (w0 ?_);intro r hr
 conv=>whnf
 refine bcase_intro (fun h=>?_) (fun h=>?_)<;>conv=>whnf
 ·have:=hr h;exact ⟨2,rfl,.inr ⟨rfl,this⟩⟩
 ·refine aA ?_;refine condK_of hok (w0 ?_);refine roomK_le 1000100 100 (by show 0+List.length _<=1000100;omega) (by decide) (by decide) (by decide) (w0 ?_);exact ⟨2,rfl,.inl ⟨5,rfl,rfl⟩⟩
theorem cloneOp {l:List (List D)} (hok:okRows 3 l=true) (hl:l.length<=1000000):OCall Tryz.prog 72 [.lst l] l 3:=by
 refine ocall_of Tryz.func72 1 rfl (by kernel_rfl) (w0 ?_);refine nilK_of (w0 ?_);intro r hr
 conv=>whnf
 refine bcase_intro (fun h=>?_) (fun h=>?_)<;>conv=>whnf
 ·have:=hr h;exact ⟨2,rfl,.inr ⟨rfl,this⟩⟩
 ·refine aA ?_;refine condK_of hok (w0 ?_);refine roomK_le 1000100 100 (by show 0+List.length _<=1000100;omega) (by decide) (by decide) (by decide) (w0 ?_);exact ⟨2,rfl,.inl ⟨5,rfl,rfl⟩⟩
structure DelI {α:Type} (enc:α->List D) (p:α->Bool) (sz:Nat) (l:List α) (F:List (List D)) (s:Nat×List (List D)):Prop where
 le:s.1<=l.length
 len:s.2.length=F.length
 fst:s.2.take ((l.take s.1).filter fun x=>!p x).length=((l.take s.1).filter fun x=>!p x).map enc
 rst:s.2.drop s.1=F.drop s.1
 lt:((l.take s.1).filter fun x=>!p x).length<s.1
 sz:∀ e∈s.2,e.length=sz
theorem filter_take_no {α:Type} {p:α->Bool} {l:List α} {k:Nat} (hk:k<l.length) (h:p l[k]=true):(l.take (k+1)).filter (fun x=>!p x)=(l.take k).filter fun x=>!p x:=by
 rw [take_snoc hk,List.filter_append,List.filter_cons,h];simp
theorem filter_take_yes {α:Type} {p:α->Bool} {l:List α} {k:Nat} (hk:k<l.length) (h:p l[k]=false):(l.take (k+1)).filter (fun x=>!p x)=(l.take k).filter (fun x=>!p x)++[l[k]]:=by
 rw [take_snoc hk,List.filter_append,List.filter_cons,h];simp
theorem DelI.skip {α:Type} {enc:α->List D} {p:α->Bool} {sz:Nat} {l:List α} {F R:List (List D)} {j:Nat} (h:DelI enc p sz l F (j,R)) (hj:j<l.length) (hp:p l[j]=true):DelI enc p sz l F (j+1,R):=by
 obtain ⟨h1,h2,h3,h4,h5,h6⟩:=h;simp only [] at h1 h2 h3 h4 h5 h6;refine ⟨hj,h2,?_,?_,?_,h6⟩
 ·simp only [];rw [filter_take_no hj hp];exact h3
 ·simp only [];rw [<-List.drop_drop,h4,List.drop_drop]
 ·simp only [];rw [filter_take_no hj hp];omega
theorem DelI.put {α:Type} {enc:α->List D} {p:α->Bool} {sz:Nat} {l:List α} {F R:List (List D)} {j:Nat} (h:DelI enc p sz l F (j,R)) (hj:j<l.length) (hF:l.length<=F.length) (hp:p l[j]=false) (he:∀ x,(enc x).length=sz):
  DelI enc p sz l F (j+1,R.set ((l.take j).filter fun x=>!p x).length (enc l[j])):=by
 obtain ⟨h1,h2,h3,h4,h5,h6⟩:=h;simp only [] at h1 h2 h3 h4 h5 h6;refine ⟨hj,by simp only [];rw [List.length_set];exact h2,?_,?_,?_,?_⟩
 ·simp only [];rw [filter_take_yes hj hp,List.length_append,List.length_singleton,List.map_append,<-h3]
  have hi:((l.take j).filter fun x=>!p x).length<(R.set ((l.take j).filter fun x=>!p x).length (enc l[j])).length:=by rw [List.length_set];omega
  rw [take_snoc hi,List.getElem_set_self,List.take_set_of_le (Nat.le_refl _)];rfl
 ·simp only [];rw [List.drop_set_of_lt (by omega),<-List.drop_drop,h4,List.drop_drop]
 ·simp only []
  rw [filter_take_yes hj hp,List.length_append,List.length_singleton];omega
 ·intro e hm;simp only [] at hm
  rcases List.mem_or_eq_of_mem_set hm with g|rfl
  ·exact h6 e g
  ·exact he _
theorem DelI.get {α:Type} {enc:α->List D} {p:α->Bool} {sz:Nat} {l:List α} {R:List (List D)} {j n:Nat} {u:List D} (h:DelI enc p sz l (l.map enc++List.replicate n u) (j,R)) (hj:j<l.length):R[j]?=some (enc l[j]):=by
 have h4:=h.rst;simp only [] at h4;have:=congrArg (fun x=>x[0]?) h4;simp only [List.getElem?_drop,Nat.add_zero] at this
 rw [this,List.getElem?_append_left (by rw [List.length_map];exact hj),List.getElem?_map,List.getElem?_eq_getElem hj];rfl
theorem DelI.init {α:Type} {enc:α->List D} {p:α->Bool} {sz:Nat} {l:List α} {n:Nat} {i:Nat} (hi:i<l.length) (hn:∀ j (hj:j<i),p (l[j]'(by omega))=false) (hp:p l[i]=true) (he:∀ x,(enc x).length=sz):
  DelI enc p sz l (l.map enc++List.replicate n (List.replicate sz D.unk)) (i+1,l.map enc++List.replicate n (List.replicate sz D.unk)) /\ ((l.take (i+1)).filter fun x=>!p x).length=i:=by
 have e:(l.take (i+1)).filter (fun x=>!p x)=l.take i:=by
  rw [filter_take_no hi hp,List.filter_eq_self.2];intro a ha;obtain ⟨j,hj,rfl⟩:=List.mem_iff_getElem.1 ha
  rw [List.getElem_take,hn j (by rw [List.length_take] at hj;omega)];rfl
 have el:(l.take i).length=i:=by rw [List.length_take];omega
 refine ⟨⟨hi,rfl,?_,rfl,?_,?_⟩,by rw [e,el]⟩
 ·simp only [];rw [e,el,List.take_append_of_le_length (by rw [List.length_map];omega),List.map_take]
 ·simp only [];rw [e,el];omega
 ·intro x hx;simp only [] at hx
  rcases List.mem_append.1 hx with g|g
  ·obtain ⟨y,_,rfl⟩:=List.mem_map.1 g;exact he y
  ·rw [(List.mem_replicate.1 g).2,List.length_replicate]
theorem ixF_first {α:Type} {p:α->Bool}:∀ {l:List α} {k i:Nat},ixF p l k=((k+i:Nat):Int)->∃ hi:i<l.length,p l[i]=true/\ ∀ j (hj:j<i),p (l[j]'(by omega))=false
 | [],k,i,h=>by rw [ixF] at h;omega
 |x::r,k,i,h=>by
  rw [ixF] at h
  split at h
  ·rename_i e
   have:i=0:=by omega
   subst this;exact ⟨Nat.zero_lt_succ _,e,fun j hj=>absurd hj (Nat.not_lt_zero _)⟩
  ·rename_i e
   cases i with
   |zero=>
    exfalso
    by_cases g:0<=ixF p r (k+1)
    ·obtain ⟨j,_,e2,_⟩:=ixF_yes (k:=k+1) (List.any_eq_true.1 ((ixF_ge p r (k+1)).1 g));omega
    ·omega
   |succ i=>
    obtain ⟨hi,h1,h2⟩:=ixF_first (l:=r) (k:=k+1) (i:=i) (by rw [h];omega);refine ⟨Nat.succ_lt_succ hi,h1,fun j hj=>?_⟩
    cases j with
    |zero=>simpa using e
    |succ j=>exact h2 j (by omega)
theorem ixF_m1 {α:Type} {p:α->Bool} {l:List α} {k:Nat} (h:ixF p l k=-1):∀ x∈l,p x=false:=by
 intro x hx
 cases e:p x with
 |false=>rfl
 |true=>
  obtain ⟨i,_,e2,_⟩:=ixF_yes (k:=k) ⟨x,hx,e⟩;omega
theorem ixF_cases {α:Type} (p:α->Bool) (l:List α):ixF p l 0=-1\/ ∃ i:Nat,ixF p l 0=(i:Int):=by
 by_cases h:∃ x∈l,p x=true
 ·obtain ⟨i,_,e,_⟩:=ixF_yes (k:=0) h;exact .inr ⟨0+i,e⟩
 ·left
  refine ixF_no fun x hx=>?_
  cases e:p x with
  |false=>rfl
  |true=>exact absurd ⟨x,hx,e⟩ h
theorem set_splice0 {R:List (List D)} {j sz:Nat} {e v:List D} (h1:e.length=sz) (h2:v.length=sz):R.set (0+j) (splice e 0 v)=R.set j v:=by
 rw [splice_all (by omega) (by omega),Nat.zero_add]
theorem ixClW (g:FuncId) (cs:List D) (p:Nat×Bool->Bool) (hg:∀ c:Nat×Bool,ACall Tryz.prog g (.agg (encCl c)::cs) (.bool (p c))) (l:List (Nat×Bool)) (R:List (List D)) (c:Nat) (hl:l.length<=1000000) (hRl:R.take l.length=l.map encCl):
  HCall Tryz.prog 254 [.win 1000000 0 l.length (some c),.d (.fn g cs)] [(1000000,.row R 3 false)] [(1000000,.row R 3 false)] (.int .i64 (ixF p l 0)):=by
 refine hcall_of Tryz.func254 2 rfl (by kernel_rfl) (by rfl) (w0 ?_);refine aloop (ι:=Nat) (fun k=>[(0,.win 1000000 0 l.length (some c)),(1,.d (.fn g cs)),(7,.d (.int .i64 l.length)),(8,.d (.int .i64 k))]) (fun _=>[(1000000,.row R 3 false)])
  (fun k=>k<=l.length/\ixF p (l.drop k) k=ixF p l 0) (fun k=>l.length-k) 0 ⟨Nat.zero_le _,rfl⟩ (le0 (le_of_cov ⟨rfl,rfl,rfl,rfl,trivial⟩ ⟨rfl,trivial⟩ ⟨rfl,rfl,rfl,rfl⟩)) ?_
 rintro k ⟨hk,hR⟩
 conv=>whnf
 refine bcase_p (fun h=>?_) (fun h=>?_)<;>conv=>whnf
 ·have hk2:k<l.length:=by omega
  have hg0:R[0+k]?=some (encCl l[k]):=by
   rw [Nat.zero_add]
   have:(R.take l.length)[k]?=some (encCl l[k]):=by rw [hRl,List.getElem?_map,List.getElem?_eq_getElem hk2];rfl
   rwa [List.getElem?_take_of_lt hk2] at this
  refine aO ?_;refine idxK_nat (by omega) (w0 ?_);refine getRow_of hg0 (aW ?_);rw [drop_cons hk2,ixF] at hR;refine callX_pure (hg l[k]) (w0 ?_)
  refine bcase_intro (fun h2=>?_) (fun h2=>?_)<;>conv=>whnf
  ·rw [if_pos h2] at hR;exact hret_of rfl (by rw [<-hR];rfl) rfl ⟨rfl,trivial⟩
  ·rw [if_neg (by rw [h2];decide)] at hR;refine aA ?_;exact ⟨k+1,⟨by omega,hR⟩,by omega,(le0 (le_of_cov ⟨rfl,rfl,rfl,rfl,trivial⟩ ⟨rfl,trivial⟩ ⟨rfl,rfl,rfl,rfl⟩))⟩
 ·have:k=l.length:=by omega
  subst this;simp [ixF] at hR;exact hret_of rfl (by rw [<-hR];rfl) rfl ⟨rfl,trivial⟩
theorem delCl (g:FuncId) (cs:List D) (p:Nat×Bool->Bool) (hg:∀ c:Nat×Bool,ACall Tryz.prog g (.agg (encCl c)::cs) (.bool (p c))) (l:List (Nat×Bool)) (hl:l.length<=1000000):WCall Tryz.prog 212 (l.map encCl) 3 [.d (.fn g cs)] [] [] ((l.filter fun x=>!p x).map encCl):=by
 refine wcall_of Tryz.func212 2 rfl (by kernel_rfl) (by rfl) ?_;refine ⟨fun cap hcap=>?_,fun h0=>?_⟩
 ·have hm:(l.map encCl).length=l.length:=List.length_map ..
  rw [hm] at hcap⊢;obtain ⟨F,hF⟩:∃ F,F=l.map encCl++List.replicate (cap-l.length) (List.replicate 3 D.unk):=⟨_,rfl⟩
  have hFl:F.length=cap:=by rw [hF];simp;omega
  have hFt:F.take l.length=l.map encCl:=by rw [hF];exact List.take_left' hm
  rw [<-hF]
  conv=>whnf
  refine callH_blk (ixClW g cs p hg l F cap hl hFt) [(1000000,1000004)] rfl ⟨rfl,trivial⟩ rfl (w0 ?_)
  rcases ixF_cases p l with e|⟨i,e⟩
  ·rw [e];refine aO ?_;refine wret_win rfl rfl rfl (by omega) ?_ rfl trivial;rw [hFt,List.filter_eq_self.2];intro x hx
   rw [ixF_m1 e x hx];rfl
  ·rw [e];obtain ⟨hi,hp,hb⟩:=ixF_first (i:=i) (k:=0) (by rw [e];congr 1;omega);obtain ⟨hD,hDl⟩:=DelI.init (enc:=encCl) (sz:=3) (n:=cap-l.length) hi hb hp (fun _=>rfl);rw [<-hF] at hD;refine aO ?_;refine aloop (ι:=Nat×List (List D)) (fun s=>[(0,.win 1000004 0 l.length (some cap)),(1,.d (.fn g cs)),(5,.d (.int .i64 ((l.take s.1).filter fun x=>!p x).length)),(6,.d (.int .i64 s.1))]) (fun s=>[(1000004,.row s.2 3 false)])
    (DelI encCl p 3 l F) (fun s=>l.length-s.1) (i+1,F) hD (le0 (le_of_cov ⟨rfl,rfl,by rw [hDl];rfl,rfl,trivial⟩ ⟨rfl,trivial⟩ ⟨rfl,rfl,rfl,rfl⟩)) ?_
   rintro ⟨j,R⟩ hI;have q1:=hI.le;have q2:=hI.len;have q3:=hI.fst;have q5:=hI.lt;simp only [] at q1 q2 q3 q5⊢
   conv=>whnf
   refine bcase_p (fun h5=>?_) (fun h5=>?_)<;>conv=>whnf
   ·have hj:j<l.length:=by omega
    have hq:R[0+j]?=some (encCl l[j]):=by rw [Nat.zero_add];rw [hF] at hI;exact hI.get hj
    refine idxK_nat (by omega) (w0 ?_);refine getRow_of hq (aO ?_);refine callX_pure (hg l[j]) (w0 ?_)
    cases h2:p l[j] with
    |true=>
     refine aO ?_;exact ⟨(j+1,R),hI.skip hj h2,by dsimp only;omega,le0 (le_of_cov ⟨rfl,rfl,by rw [filter_take_no hj h2];rfl,rfl,trivial⟩ ⟨rfl,trivial⟩ ⟨rfl,rfl,rfl,rfl⟩)⟩
    |false=>
     have hi3:((l.take j).filter fun x=>!p x).length<R.length:=by omega
     have hi4:((l.take j).filter fun x=>!p x).length<l.length:=by omega
     have hsz:=hI.sz _ (List.getElem_mem hi3);have hJ:=hI.put hj (by omega) h2 (fun _=>rfl);have es:=set_splice0 (R:=R) (j:=((l.take j).filter fun x=>!p x).length) (e:=R[((l.take j).filter fun x=>!p x).length]) (v:=encCl l[j]) hsz rfl;rw [<-es] at hJ
     have eN:((l.take (j+1)).filter fun x=>!p x).length=((l.take j).filter fun x=>!p x).length+1:=by rw [filter_take_yes hj h2,List.length_append];rfl
     refine aO ?_;refine idxK_nat (by omega) (w0 ?_);refine getRow_of (x:=R[((l.take j).filter fun x=>!p x).length]) (by rw [Nat.zero_add,List.getElem?_eq_getElem hi3]) (w0 ?_);refine bif_of (by rw [hsz];rfl) (aO ?_);refine ⟨(j+1,_),hJ,by dsimp only;omega,le0 (le_of_cov ⟨rfl,rfl,by rw [eN];rfl,rfl,trivial⟩ ⟨rfl,trivial⟩ ⟨rfl,rfl,rfl,rfl⟩)⟩
   ·have hjl:j=l.length:=by omega
    subst hjl;rw [List.take_length] at q3 q5⊢;refine aO ?_;refine winK_lo (by omega) (by show l.length<=cap;omega) (w0 ?_)
    have hfl:(l.filter fun x=>!p x).length<=l.length:=List.length_filter_le ..
    refine condK_of ⟨by omega,rfl⟩ (aO ?_);refine winK_hi (by show _<=cap;omega) (w0 ?_);refine wret_win rfl rfl rfl ?_ ?_ rfl trivial
    ·simp;omega
    ·rw [Nat.zero_add,<-q3];exact List.take_left' (by rw [List.length_take];omega)
 ·have:l=[]:=List.map_eq_nil_iff.1 h0;subst this
  conv=>whnf
  refine callX_pure (ixCl_ok g cs p hg [] (by simp)) (aO ?_);exact wret_nil rfl rfl rfl trivial
theorem ixTkW (g:FuncId) (cs:List D) (p:Nat->Bool) (hg:∀ c:Nat,ACall Tryz.prog g (.agg (encTk c)::cs) (.bool (p c))) (l:List (Nat)) (R:List (List D)) (c:Nat) (hl:l.length<=1000000) (hRl:R.take l.length=l.map encTk):
  HCall Tryz.prog 256 [.win 1000000 0 l.length (some c),.d (.fn g cs)] [(1000000,.row R 2 false)] [(1000000,.row R 2 false)] (.int .i64 (ixF p l 0)):=by
 refine hcall_of Tryz.func256 2 rfl (by kernel_rfl) (by rfl) (w0 ?_);refine aloop (ι:=Nat) (fun k=>[(0,.win 1000000 0 l.length (some c)),(1,.d (.fn g cs)),(7,.d (.int .i64 l.length)),(8,.d (.int .i64 k))]) (fun _=>[(1000000,.row R 2 false)])
  (fun k=>k<=l.length/\ixF p (l.drop k) k=ixF p l 0) (fun k=>l.length-k) 0 ⟨Nat.zero_le _,rfl⟩ (le0 (le_of_cov ⟨rfl,rfl,rfl,rfl,trivial⟩ ⟨rfl,trivial⟩ ⟨rfl,rfl,rfl,rfl⟩)) ?_
 rintro k ⟨hk,hR⟩
 conv=>whnf
 refine bcase_p (fun h=>?_) (fun h=>?_)<;>conv=>whnf
 ·have hk2:k<l.length:=by omega
  have hg0:R[0+k]?=some (encTk l[k]):=by
   rw [Nat.zero_add]
   have:(R.take l.length)[k]?=some (encTk l[k]):=by rw [hRl,List.getElem?_map,List.getElem?_eq_getElem hk2];rfl
   rwa [List.getElem?_take_of_lt hk2] at this
  refine aO ?_;refine idxK_nat (by omega) (w0 ?_);refine getRow_of hg0 (aW ?_);rw [drop_cons hk2,ixF] at hR;refine callX_pure (hg l[k]) (w0 ?_)
  refine bcase_intro (fun h2=>?_) (fun h2=>?_)<;>conv=>whnf
  ·rw [if_pos h2] at hR;exact hret_of rfl (by rw [<-hR];rfl) rfl ⟨rfl,trivial⟩
  ·rw [if_neg (by rw [h2];decide)] at hR;refine aA ?_;exact ⟨k+1,⟨by omega,hR⟩,by omega,(le0 (le_of_cov ⟨rfl,rfl,rfl,rfl,trivial⟩ ⟨rfl,trivial⟩ ⟨rfl,rfl,rfl,rfl⟩))⟩
 ·have:k=l.length:=by omega
  subst this;simp [ixF] at hR;exact hret_of rfl (by rw [<-hR];rfl) rfl ⟨rfl,trivial⟩
theorem delTk (g:FuncId) (cs:List D) (p:Nat->Bool) (hg:∀ c:Nat,ACall Tryz.prog g (.agg (encTk c)::cs) (.bool (p c))) (l:List (Nat)) (hl:l.length<=1000000):WCall Tryz.prog 214 (l.map encTk) 2 [.d (.fn g cs)] [] [] ((l.filter fun x=>!p x).map encTk):=by
 refine wcall_of Tryz.func214 2 rfl (by kernel_rfl) (by rfl) ?_;refine ⟨fun cap hcap=>?_,fun h0=>?_⟩
 ·have hm:(l.map encTk).length=l.length:=List.length_map ..
  rw [hm] at hcap⊢;obtain ⟨F,hF⟩:∃ F,F=l.map encTk++List.replicate (cap-l.length) (List.replicate 2 D.unk):=⟨_,rfl⟩
  have hFl:F.length=cap:=by rw [hF];simp;omega
  have hFt:F.take l.length=l.map encTk:=by rw [hF];exact List.take_left' hm
  rw [<-hF]
  conv=>whnf
  refine callH_blk (ixTkW g cs p hg l F cap hl hFt) [(1000000,1000004)] rfl ⟨rfl,trivial⟩ rfl (w0 ?_)
  rcases ixF_cases p l with e|⟨i,e⟩
  ·rw [e];refine aO ?_;refine wret_win rfl rfl rfl (by omega) ?_ rfl trivial;rw [hFt,List.filter_eq_self.2];intro x hx
   rw [ixF_m1 e x hx];rfl
  ·rw [e];obtain ⟨hi,hp,hb⟩:=ixF_first (i:=i) (k:=0) (by rw [e];congr 1;omega);obtain ⟨hD,hDl⟩:=DelI.init (enc:=encTk) (sz:=2) (n:=cap-l.length) hi hb hp (fun _=>rfl);rw [<-hF] at hD;refine aO ?_;refine aloop (ι:=Nat×List (List D)) (fun s=>[(0,.win 1000004 0 l.length (some cap)),(1,.d (.fn g cs)),(5,.d (.int .i64 ((l.take s.1).filter fun x=>!p x).length)),(6,.d (.int .i64 s.1))]) (fun s=>[(1000004,.row s.2 2 false)])
    (DelI encTk p 2 l F) (fun s=>l.length-s.1) (i+1,F) hD (le0 (le_of_cov ⟨rfl,rfl,by rw [hDl];rfl,rfl,trivial⟩ ⟨rfl,trivial⟩ ⟨rfl,rfl,rfl,rfl⟩)) ?_
   rintro ⟨j,R⟩ hI;have q1:=hI.le;have q2:=hI.len;have q3:=hI.fst;have q5:=hI.lt;simp only [] at q1 q2 q3 q5⊢
   conv=>whnf
   refine bcase_p (fun h5=>?_) (fun h5=>?_)<;>conv=>whnf
   ·have hj:j<l.length:=by omega
    have hq:R[0+j]?=some (encTk l[j]):=by rw [Nat.zero_add];rw [hF] at hI;exact hI.get hj
    refine idxK_nat (by omega) (w0 ?_);refine getRow_of hq (aO ?_);refine callX_pure (hg l[j]) (w0 ?_)
    cases h2:p l[j] with
    |true=>
     refine aO ?_;exact ⟨(j+1,R),hI.skip hj h2,by dsimp only;omega,le0 (le_of_cov ⟨rfl,rfl,by rw [filter_take_no hj h2];rfl,rfl,trivial⟩ ⟨rfl,trivial⟩ ⟨rfl,rfl,rfl,rfl⟩)⟩
    |false=>
     have hi3:((l.take j).filter fun x=>!p x).length<R.length:=by omega
     have hi4:((l.take j).filter fun x=>!p x).length<l.length:=by omega
     have hsz:=hI.sz _ (List.getElem_mem hi3);have hJ:=hI.put hj (by omega) h2 (fun _=>rfl);have es:=set_splice0 (R:=R) (j:=((l.take j).filter fun x=>!p x).length) (e:=R[((l.take j).filter fun x=>!p x).length]) (v:=encTk l[j]) hsz rfl;rw [<-es] at hJ
     have eN:((l.take (j+1)).filter fun x=>!p x).length=((l.take j).filter fun x=>!p x).length+1:=by rw [filter_take_yes hj h2,List.length_append];rfl
     refine aO ?_;refine idxK_nat (by omega) (w0 ?_);refine getRow_of (x:=R[((l.take j).filter fun x=>!p x).length]) (by rw [Nat.zero_add,List.getElem?_eq_getElem hi3]) (w0 ?_);refine bif_of (by rw [hsz];rfl) (aO ?_);refine ⟨(j+1,_),hJ,by dsimp only;omega,le0 (le_of_cov ⟨rfl,rfl,by rw [eN];rfl,rfl,trivial⟩ ⟨rfl,trivial⟩ ⟨rfl,rfl,rfl,rfl⟩)⟩
   ·have hjl:j=l.length:=by omega
    subst hjl;rw [List.take_length] at q3 q5⊢;refine aO ?_;refine winK_lo (by omega) (by show l.length<=cap;omega) (w0 ?_)
    have hfl:(l.filter fun x=>!p x).length<=l.length:=List.length_filter_le ..
    refine condK_of ⟨by omega,rfl⟩ (aO ?_);refine winK_hi (by show _<=cap;omega) (w0 ?_);refine wret_win rfl rfl rfl ?_ ?_ rfl trivial
    ·simp;omega
    ·rw [Nat.zero_add,<-q3];exact List.take_left' (by rw [List.length_take];omega)
 ·have:l=[]:=List.map_eq_nil_iff.1 h0;subst this
  conv=>whnf
  refine callX_pure (ixTk_ok g cs p hg [] (by simp)) (aO ?_);exact wret_nil rfl rfl rfl trivial
theorem ixNW (g:FuncId) (cs:List D) (p:Nat->Bool) (hg:∀ c:Nat,ACall Tryz.prog g (.int .i64 c::cs) (.bool (p c))) (l:List (Nat)) (R:List (List D)) (c:Nat) (hl:l.length<=1000000) (hRl:R.take l.length=l.map encN):
  HCall Tryz.prog 265 [.win 1000000 0 l.length (some c),.d (.fn g cs)] [(1000000,.row R 1 false)] [(1000000,.row R 1 false)] (.int .i64 (ixF p l 0)):=by
 refine hcall_of Tryz.func265 2 rfl (by kernel_rfl) (by rfl) (w0 ?_);refine aloop (ι:=Nat) (fun k=>[(0,.win 1000000 0 l.length (some c)),(1,.d (.fn g cs)),(7,.d (.int .i64 l.length)),(8,.d (.int .i64 k))]) (fun _=>[(1000000,.row R 1 false)])
  (fun k=>k<=l.length/\ixF p (l.drop k) k=ixF p l 0) (fun k=>l.length-k) 0 ⟨Nat.zero_le _,rfl⟩ (le0 (le_of_cov ⟨rfl,rfl,rfl,rfl,trivial⟩ ⟨rfl,trivial⟩ ⟨rfl,rfl,rfl,rfl⟩)) ?_
 rintro k ⟨hk,hR⟩
 conv=>whnf
 refine bcase_p (fun h=>?_) (fun h=>?_)<;>conv=>whnf
 ·have hk2:k<l.length:=by omega
  have hg0:R[0+k]?=some (encN l[k]):=by
   rw [Nat.zero_add]
   have:(R.take l.length)[k]?=some (encN l[k]):=by rw [hRl,List.getElem?_map,List.getElem?_eq_getElem hk2];rfl
   rwa [List.getElem?_take_of_lt hk2] at this
  refine aO ?_;refine idxK_nat (by omega) (w0 ?_);refine getRow_of hg0 (aW ?_);rw [drop_cons hk2,ixF] at hR;refine callX_pure (hg l[k]) (w0 ?_)
  refine bcase_intro (fun h2=>?_) (fun h2=>?_)<;>conv=>whnf
  ·rw [if_pos h2] at hR;exact hret_of rfl (by rw [<-hR];rfl) rfl ⟨rfl,trivial⟩
  ·rw [if_neg (by rw [h2];decide)] at hR;refine aA ?_;exact ⟨k+1,⟨by omega,hR⟩,by omega,(le0 (le_of_cov ⟨rfl,rfl,rfl,rfl,trivial⟩ ⟨rfl,trivial⟩ ⟨rfl,rfl,rfl,rfl⟩))⟩
 ·have:k=l.length:=by omega
  subst this;simp [ixF] at hR;exact hret_of rfl (by rw [<-hR];rfl) rfl ⟨rfl,trivial⟩
theorem delN (g:FuncId) (cs:List D) (p:Nat->Bool) (hg:∀ c:Nat,ACall Tryz.prog g (.int .i64 c::cs) (.bool (p c))) (l:List (Nat)) (hl:l.length<=1000000):WCall Tryz.prog 207 (l.map encN) 1 [.d (.fn g cs)] [] [] ((l.filter fun x=>!p x).map encN):=by
 refine wcall_of Tryz.func207 2 rfl (by kernel_rfl) (by rfl) ?_;refine ⟨fun cap hcap=>?_,fun h0=>?_⟩
 ·have hm:(l.map encN).length=l.length:=List.length_map ..
  rw [hm] at hcap⊢;obtain ⟨F,hF⟩:∃ F,F=l.map encN++List.replicate (cap-l.length) (List.replicate 1 D.unk):=⟨_,rfl⟩
  have hFl:F.length=cap:=by rw [hF];simp;omega
  have hFt:F.take l.length=l.map encN:=by rw [hF];exact List.take_left' hm
  rw [<-hF]
  conv=>whnf
  refine callH_blk (ixNW g cs p hg l F cap hl hFt) [(1000000,1000004)] rfl ⟨rfl,trivial⟩ rfl (w0 ?_)
  rcases ixF_cases p l with e|⟨i,e⟩
  ·rw [e];refine aO ?_;refine wret_win rfl rfl rfl (by omega) ?_ rfl trivial;rw [hFt,List.filter_eq_self.2];intro x hx
   rw [ixF_m1 e x hx];rfl
  ·rw [e];obtain ⟨hi,hp,hb⟩:=ixF_first (i:=i) (k:=0) (by rw [e];congr 1;omega);obtain ⟨hD,hDl⟩:=DelI.init (enc:=encN) (sz:=1) (n:=cap-l.length) hi hb hp (fun _=>rfl);rw [<-hF] at hD;refine aO ?_;refine aloop (ι:=Nat×List (List D)) (fun s=>[(0,.win 1000004 0 l.length (some cap)),(1,.d (.fn g cs)),(5,.d (.int .i64 ((l.take s.1).filter fun x=>!p x).length)),(6,.d (.int .i64 s.1))]) (fun s=>[(1000004,.row s.2 1 false)])
    (DelI encN p 1 l F) (fun s=>l.length-s.1) (i+1,F) hD (le0 (le_of_cov ⟨rfl,rfl,by rw [hDl];rfl,rfl,trivial⟩ ⟨rfl,trivial⟩ ⟨rfl,rfl,rfl,rfl⟩)) ?_
   rintro ⟨j,R⟩ hI;have q1:=hI.le;have q2:=hI.len;have q3:=hI.fst;have q5:=hI.lt;simp only [] at q1 q2 q3 q5⊢
   conv=>whnf
   refine bcase_p (fun h5=>?_) (fun h5=>?_)<;>conv=>whnf
   ·have hj:j<l.length:=by omega
    have hq:R[0+j]?=some (encN l[j]):=by rw [Nat.zero_add];rw [hF] at hI;exact hI.get hj
    refine idxK_nat (by omega) (w0 ?_);refine getRow_of hq (aO ?_);refine callX_pure (hg l[j]) (w0 ?_)
    cases h2:p l[j] with
    |true=>
     refine aO ?_;exact ⟨(j+1,R),hI.skip hj h2,by dsimp only;omega,le0 (le_of_cov ⟨rfl,rfl,by rw [filter_take_no hj h2];rfl,rfl,trivial⟩ ⟨rfl,trivial⟩ ⟨rfl,rfl,rfl,rfl⟩)⟩
    |false=>
     have hi3:((l.take j).filter fun x=>!p x).length<R.length:=by omega
     have hi4:((l.take j).filter fun x=>!p x).length<l.length:=by omega
     have hsz:=hI.sz _ (List.getElem_mem hi3);have hJ:=hI.put hj (by omega) h2 (fun _=>rfl);have es:=set_splice0 (R:=R) (j:=((l.take j).filter fun x=>!p x).length) (e:=R[((l.take j).filter fun x=>!p x).length]) (v:=encN l[j]) hsz rfl;rw [<-es] at hJ
     have eN:((l.take (j+1)).filter fun x=>!p x).length=((l.take j).filter fun x=>!p x).length+1:=by rw [filter_take_yes hj h2,List.length_append];rfl
     refine aO ?_;refine idxK_nat (by omega) (w0 ?_);refine getRow_of (x:=R[((l.take j).filter fun x=>!p x).length]) (by rw [Nat.zero_add,List.getElem?_eq_getElem hi3]) (w0 ?_);refine bif_of (by rw [hsz];rfl) (aO ?_);refine ⟨(j+1,_),hJ,by dsimp only;omega,le0 (le_of_cov ⟨rfl,rfl,by rw [eN];rfl,rfl,trivial⟩ ⟨rfl,trivial⟩ ⟨rfl,rfl,rfl,rfl⟩)⟩
   ·have hjl:j=l.length:=by omega
    subst hjl;rw [List.take_length] at q3 q5⊢;refine aO ?_;refine winK_lo (by omega) (by show l.length<=cap;omega) (w0 ?_)
    have hfl:(l.filter fun x=>!p x).length<=l.length:=List.length_filter_le ..
    refine condK_of ⟨by omega,rfl⟩ (aO ?_);refine winK_hi (by show _<=cap;omega) (w0 ?_);refine wret_win rfl rfl rfl ?_ ?_ rfl trivial
    ·simp;omega
    ·rw [Nat.zero_add,<-q3];exact List.take_left' (by rw [List.length_take];omega)
 ·have:l=[]:=List.map_eq_nil_iff.1 h0;subst this
  conv=>whnf
  refine callX_pure (ixN_ok g cs p hg [] (by simp)) (aO ?_);exact wret_nil rfl rfl rfl trivial
theorem ixWtW (g:FuncId) (cs:List D) (p:Nat×Bool->Bool) (hg:∀ c:Nat×Bool,ACall Tryz.prog g (.agg (encWt c)::cs) (.bool (p c))) (l:List (Nat×Bool)) (R:List (List D)) (c:Nat) (hl:l.length<=1000000) (hRl:R.take l.length=l.map encWt):
  HCall Tryz.prog 266 [.win 1000000 0 l.length (some c),.d (.fn g cs)] [(1000000,.row R 2 false)] [(1000000,.row R 2 false)] (.int .i64 (ixF p l 0)):=by
 refine hcall_of Tryz.func266 2 rfl (by kernel_rfl) (by rfl) (w0 ?_);refine aloop (ι:=Nat) (fun k=>[(0,.win 1000000 0 l.length (some c)),(1,.d (.fn g cs)),(7,.d (.int .i64 l.length)),(8,.d (.int .i64 k))]) (fun _=>[(1000000,.row R 2 false)])
  (fun k=>k<=l.length/\ixF p (l.drop k) k=ixF p l 0) (fun k=>l.length-k) 0 ⟨Nat.zero_le _,rfl⟩ (le0 (le_of_cov ⟨rfl,rfl,rfl,rfl,trivial⟩ ⟨rfl,trivial⟩ ⟨rfl,rfl,rfl,rfl⟩)) ?_
 rintro k ⟨hk,hR⟩
 conv=>whnf
 refine bcase_p (fun h=>?_) (fun h=>?_)<;>conv=>whnf
 ·have hk2:k<l.length:=by omega
  have hg0:R[0+k]?=some (encWt l[k]):=by
   rw [Nat.zero_add]
   have:(R.take l.length)[k]?=some (encWt l[k]):=by rw [hRl,List.getElem?_map,List.getElem?_eq_getElem hk2];rfl
   rwa [List.getElem?_take_of_lt hk2] at this
  refine aO ?_;refine idxK_nat (by omega) (w0 ?_);refine getRow_of hg0 (aW ?_);rw [drop_cons hk2,ixF] at hR;refine callX_pure (hg l[k]) (w0 ?_)
  refine bcase_intro (fun h2=>?_) (fun h2=>?_)<;>conv=>whnf
  ·rw [if_pos h2] at hR;exact hret_of rfl (by rw [<-hR];rfl) rfl ⟨rfl,trivial⟩
  ·rw [if_neg (by rw [h2];decide)] at hR;refine aA ?_;exact ⟨k+1,⟨by omega,hR⟩,by omega,(le0 (le_of_cov ⟨rfl,rfl,rfl,rfl,trivial⟩ ⟨rfl,trivial⟩ ⟨rfl,rfl,rfl,rfl⟩))⟩
 ·have:k=l.length:=by omega
  subst this;simp [ixF] at hR;exact hret_of rfl (by rw [<-hR];rfl) rfl ⟨rfl,trivial⟩
theorem delWt (g:FuncId) (cs:List D) (p:Nat×Bool->Bool) (hg:∀ c:Nat×Bool,ACall Tryz.prog g (.agg (encWt c)::cs) (.bool (p c))) (l:List (Nat×Bool)) (hl:l.length<=1000000):WCall Tryz.prog 210 (l.map encWt) 2 [.d (.fn g cs)] [] [] ((l.filter fun x=>!p x).map encWt):=by
 refine wcall_of Tryz.func210 2 rfl (by kernel_rfl) (by rfl) ?_;refine ⟨fun cap hcap=>?_,fun h0=>?_⟩
 ·have hm:(l.map encWt).length=l.length:=List.length_map ..
  rw [hm] at hcap⊢;obtain ⟨F,hF⟩:∃ F,F=l.map encWt++List.replicate (cap-l.length) (List.replicate 2 D.unk):=⟨_,rfl⟩
  have hFl:F.length=cap:=by rw [hF];simp;omega
  have hFt:F.take l.length=l.map encWt:=by rw [hF];exact List.take_left' hm
  rw [<-hF]
  conv=>whnf
  refine callH_blk (ixWtW g cs p hg l F cap hl hFt) [(1000000,1000004)] rfl ⟨rfl,trivial⟩ rfl (w0 ?_)
  rcases ixF_cases p l with e|⟨i,e⟩
  ·rw [e];refine aO ?_;refine wret_win rfl rfl rfl (by omega) ?_ rfl trivial;rw [hFt,List.filter_eq_self.2];intro x hx
   rw [ixF_m1 e x hx];rfl
  ·rw [e];obtain ⟨hi,hp,hb⟩:=ixF_first (i:=i) (k:=0) (by rw [e];congr 1;omega);obtain ⟨hD,hDl⟩:=DelI.init (enc:=encWt) (sz:=2) (n:=cap-l.length) hi hb hp (fun _=>rfl);rw [<-hF] at hD;refine aO ?_;refine aloop (ι:=Nat×List (List D)) (fun s=>[(0,.win 1000004 0 l.length (some cap)),(1,.d (.fn g cs)),(5,.d (.int .i64 ((l.take s.1).filter fun x=>!p x).length)),(6,.d (.int .i64 s.1))]) (fun s=>[(1000004,.row s.2 2 false)])
    (DelI encWt p 2 l F) (fun s=>l.length-s.1) (i+1,F) hD (le0 (le_of_cov ⟨rfl,rfl,by rw [hDl];rfl,rfl,trivial⟩ ⟨rfl,trivial⟩ ⟨rfl,rfl,rfl,rfl⟩)) ?_
   rintro ⟨j,R⟩ hI;have q1:=hI.le;have q2:=hI.len;have q3:=hI.fst;have q5:=hI.lt;simp only [] at q1 q2 q3 q5⊢
   conv=>whnf
   refine bcase_p (fun h5=>?_) (fun h5=>?_)<;>conv=>whnf
   ·have hj:j<l.length:=by omega
    have hq:R[0+j]?=some (encWt l[j]):=by rw [Nat.zero_add];rw [hF] at hI;exact hI.get hj
    refine idxK_nat (by omega) (w0 ?_);refine getRow_of hq (aO ?_);refine callX_pure (hg l[j]) (w0 ?_)
    cases h2:p l[j] with
    |true=>
     refine aO ?_;exact ⟨(j+1,R),hI.skip hj h2,by dsimp only;omega,le0 (le_of_cov ⟨rfl,rfl,by rw [filter_take_no hj h2];rfl,rfl,trivial⟩ ⟨rfl,trivial⟩ ⟨rfl,rfl,rfl,rfl⟩)⟩
    |false=>
     have hi3:((l.take j).filter fun x=>!p x).length<R.length:=by omega
     have hi4:((l.take j).filter fun x=>!p x).length<l.length:=by omega
     have hsz:=hI.sz _ (List.getElem_mem hi3);have hJ:=hI.put hj (by omega) h2 (fun _=>rfl);have es:=set_splice0 (R:=R) (j:=((l.take j).filter fun x=>!p x).length) (e:=R[((l.take j).filter fun x=>!p x).length]) (v:=encWt l[j]) hsz rfl;rw [<-es] at hJ
     have eN:((l.take (j+1)).filter fun x=>!p x).length=((l.take j).filter fun x=>!p x).length+1:=by rw [filter_take_yes hj h2,List.length_append];rfl
     refine aO ?_;refine idxK_nat (by omega) (w0 ?_);refine getRow_of (x:=R[((l.take j).filter fun x=>!p x).length]) (by rw [Nat.zero_add,List.getElem?_eq_getElem hi3]) (w0 ?_);refine bif_of (by rw [hsz];rfl) (aO ?_);refine ⟨(j+1,_),hJ,by dsimp only;omega,le0 (le_of_cov ⟨rfl,rfl,by rw [eN];rfl,rfl,trivial⟩ ⟨rfl,trivial⟩ ⟨rfl,rfl,rfl,rfl⟩)⟩
   ·have hjl:j=l.length:=by omega
    subst hjl;rw [List.take_length] at q3 q5⊢;refine aO ?_;refine winK_lo (by omega) (by show l.length<=cap;omega) (w0 ?_)
    have hfl:(l.filter fun x=>!p x).length<=l.length:=List.length_filter_le ..
    refine condK_of ⟨by omega,rfl⟩ (aO ?_);refine winK_hi (by show _<=cap;omega) (w0 ?_);refine wret_win rfl rfl rfl ?_ ?_ rfl trivial
    ·simp;omega
    ·rw [Nat.zero_add,<-q3];exact List.take_left' (by rw [List.length_take];omega)
 ·have:l=[]:=List.map_eq_nil_iff.1 h0;subst this
  conv=>whnf
  refine callX_pure (ixWt_ok g cs p hg [] (by simp)) (aO ?_);exact wret_nil rfl rfl rfl trivial
theorem index_ok (v:Int) (l:List Nat) (hl:l.length<=1000000):ACall Tryz.prog 258 [.lst (l.map encN),.int .i64 v] (.int .i64 (ixF (isT v) l 0)):=by
 refine acall_of Tryz.func258 2 rfl (by kernel_rfl) (w0 ?_);refine aloop (ι:=Nat) (fun k=>[(0,.d (.lst (l.map encN))),(1,.d (.int .i64 v)),(7,.d (.int .i64 (l.map encN).length)),(8,.d (.int .i64 k))]) (fun _=>[])
  (fun k=>k<=l.length/\ixF (isT v) (l.drop k) k=ixF (isT v) l 0) (fun k=>l.length-k) 0 ⟨Nat.zero_le _,rfl⟩ (le0 (le_of_cov ⟨rfl,rfl,rfl,rfl,trivial⟩ trivial ⟨rfl,rfl,rfl,rfl⟩)) ?_
 rintro k ⟨hk,hR⟩
 conv=>whnf
 refine bcase_p (fun h=>?_) (fun h=>?_)<;>conv=>whnf
 ·have hk2:k<l.length:=by simpa using h
  refine idxK_nat (by omega) (w0 ?_);refine getRow_of (x:=encN l[k]) (by simp [hk2]) (aW ?_);rw [drop_cons hk2,ixF] at hR
  refine bcase_p (fun h2=>?_) (fun h2=>?_)<;>conv=>whnf
  ·rw [if_pos (by rw [isT,h2];simp)] at hR;exact ret_of rfl (by rw [<-hR];rfl)
  ·rw [if_neg (by rw [isT];simpa using fun e=>h2 e.symm)] at hR;refine aA ?_;exact ⟨k+1,⟨by omega,hR⟩,by omega,(le0 (le_of_cov ⟨rfl,rfl,rfl,rfl,trivial⟩ trivial ⟨rfl,rfl,rfl,rfl⟩))⟩
 ·have:k=l.length:=by simp at h;omega
  subst this;simp [ixF] at hR;exact ret_of rfl (by rw [<-hR];rfl)
theorem contains_ok (v:Int) (l:List Nat) (hl:l.length<=1000000):ACall Tryz.prog 197 [.lst (l.map encN),.int .i64 v] (.bool (decide (0<=ixF (isT v) l 0))):=by
 refine acall_of Tryz.func197 2 rfl (by kernel_rfl) (w0 ?_);refine callX_pure (index_ok v l hl) (aW ?_);exact ret_of rfl rfl
theorem HOk.cls {h:HA} (o:HOk h):ClOk h.cl:=
 ⟨by have:=o.len;omega,fun c hc=>o.lt c.1 (List.mem_append_left _ (List.mem_map_of_mem hc)),(List.nodup_append.1 o.nd).1⟩
theorem HOk.qlt {h:HA} (o:HOk h) {k:Nat} (hk:k<h.q.length):h.q[k]<4:=o.lt _ (List.mem_append_right _ (List.getElem_mem hk))
theorem HOk.nocl {h:HA} (o:HOk h) {k:Nat} (hk:k<h.q.length):ixF (isC h.q[k]) h.cl 0=-1:=by
 refine ixF_no fun x hx=>?_
 have:=(List.nodup_append.1 o.nd).2.2 x.1 (List.mem_map_of_mem hx) h.q[k] (List.getElem_mem hk)
 rw [isC,decide_eq_false];omega
theorem HOk.notk {h:HA} (o:HOk h) {k:Nat} (hk:k<h.q.length):ixF (isT h.q[k]) (h.q.take k) 0=-1:=by
 refine ixF_no fun x hx=>?_
 obtain ⟨j,hj,rfl⟩:=List.mem_iff_getElem.1 hx;rw [List.length_take] at hj;have:=nd_ne (List.nodup_append.1 o.nd).2.1 (show j<k by omega) hk
 rw [List.getElem_take,isT,decide_eq_false];omega
theorem HOk.noopen {h:HA} (o:HOk h):openH h=false:=by
 have:=o.shut;rw [openH]
 split
 ·rfl
 ·rename_i e;rw [e] at this
  rcases this with g|g
  ·cases g
  ·rw [decide_eq_false];omega
theorem admitR_ok (h:HA) (o:HOk h):ACall Tryz.prog 192 [encHA h] (.bool true):=by
 have n1:=o.n1;have n8:=o.n8;have hlen:=o.len;have hheld:=o.held
 have hml:(h.cl.map encCl).length=h.cl.length:=List.length_map ..
 have hmq:(h.q.map encTk).length=h.q.length:=List.length_map ..
 refine acall_of Tryz.func192 1 rfl (by kernel_rfl) (aO ?_);refine callX_pure (bankR_ok h.cl o.cls) (aO ?_);refine aloop (ι:=Nat) (fun k=>[(1,.ptr 1 0 0),(41,.d (.lst (h.cl.map encCl))),(42,.d (.int .i64 (h.cl.map encCl).length)),(43,.d (.int .i64 k))]) (fun _=>[(1,.box (h.cells.map AV.d) false)])
  (fun k=>k<=h.cl.length) (fun k=>h.cl.length-k) 0 (Nat.zero_le _) (le0 (le_of_cov ⟨rfl,rfl,rfl,rfl,trivial⟩ ⟨rfl,trivial⟩ ⟨rfl,rfl,rfl,rfl⟩)) ?_
 intro k hk
 conv=>whnf
 refine bcase_p (fun h5=>?_) (fun h5=>?_)<;>conv=>whnf
 ·have hk2:k<h.cl.length:=by omega
  refine idxK_nat (by omega) (w0 ?_);refine getRow_of (x:=encCl h.cl[k]) (by simp [hk2]) (aW ?_);refine callX_pure (claimable_ok h n1) (aW ?_);exact ⟨k+1,by omega,by omega,(le0 (le_of_cov ⟨rfl,rfl,rfl,rfl,trivial⟩ ⟨rfl,trivial⟩ ⟨rfl,rfl,rfl,rfl⟩))⟩
 refine aO ?_;refine aloop (ι:=Nat) (fun k=>[(1,.ptr 1 0 0),(54,.d (.lst (h.q.map encTk))),(55,.d (.int .i64 (h.q.map encTk).length)),(56,.d (.int .i64 k))]) (fun _=>[(1,.box (h.cells.map AV.d) false)])
  (fun k=>k<=h.q.length) (fun k=>h.q.length-k) 0 (Nat.zero_le _) (le0 (le_of_cov ⟨rfl,rfl,rfl,rfl,trivial⟩ ⟨rfl,trivial⟩ ⟨rfl,rfl,rfl,rfl⟩)) ?_
 intro k hk
 conv=>whnf
 refine bcase_p (fun h5=>?_) (fun h5=>?_)<;>conv=>whnf
 ·have hk2:k<h.q.length:=by omega
  have hlt:=o.qlt hk2
  have ht:ACall Tryz.prog 195 [.lst (((h.q.map encTk).take k).drop 0),.int .i64 h.q[k]] (.int .i64 (ixF (isT h.q[k]) (h.q.take k) 0)):=by
   rw [List.drop_zero,<-List.map_take];exact ticket_ok _ _ (by rw [List.length_take];omega)
  rw [o.notk hk2] at ht;have hc:=client_ok (h.q[k]:Int) h.cl (by omega);rw [o.nocl hk2] at hc;refine idxK_nat (by omega) (w0 ?_);refine getRow_of (x:=encTk h.q[k]) (by simp [hk2]) (aW ?_);refine aO ?_;refine callX_pure (claimable_ok h n1) (aO ?_);refine callX_pure hc (aO ?_);refine condK_of (fun e he=>encTk_len he) (w0 ?_);refine sliceK_hi (by omega) (aO ?_);refine callX_pure ht (aO ?_);exact ⟨k+1,by omega,by omega,(le0 (le_of_cov ⟨rfl,rfl,rfl,rfl,trivial⟩ ⟨rfl,trivial⟩ ⟨rfl,rfl,rfl,rfl⟩))⟩
 refine aO ?_;refine callX_pure (left_ok h (by omega) (by omega)) (aO ?_);refine callX_pure (safe_ok _ h.cl o.cls (by omega) (by omega) (by omega)) (aO ?_);refine callX_pure (openH_ok h (by omega) (by omega)) (w0 ?_);rw [o.noopen];refine aO ?_;exact ret_of rfl rfl
def inH (n:Nat):List (Nat×Bool)->List Nat->List Nat
 |_,[]=>[]
 |cl,w::q=>if cl.length<2*n then w::inH n (cl++[(w,false)]) q else []
theorem inH_len (n:Nat):∀ (cl:List (Nat×Bool)) (q:List Nat),(inH n cl q).length<=q.length
 |_,[]=>Nat.le_refl _
 |cl,w::q=>by
  rw [inH];split
  ·have:=inH_len n (cl++[(w,false)]) q
   simp;omega
  ·exact Nat.zero_le _
structure EntI (n:Nat) (cl0:List (Nat×Bool)) (q0:List Nat) (s:List (Nat×Bool)×List Nat×List Nat):Prop where
 len:s.1.length+s.2.1.length=cl0.length+q0.length
 ins:s.2.2.length+s.2.1.length=q0.length
 eq:enterHA n s.1 s.2.1=enterHA n cl0 q0
 inn:s.2.2++inH n s.1 s.2.1=inH n cl0 q0
theorem enter_ok (h:HA) (h8:h.n<=8) (hl:h.cl.length+h.q.length<=7):ACall Tryz.prog 196 [encHA h] (.tup [encHA (mkH h.n (enterHA h.n h.cl h.q)),.lst ((inH h.n h.cl h.q).map encN)]):=by
 obtain ⟨n,cl0,q0⟩:=h;simp only [] at h8 hl⊢;refine acall_of Tryz.func196 1 rfl (by kernel_rfl) (aO ?_);refine callX_own (cloneCl (encCl_ok cl0) (by rw [List.length_map];show cl0.length<=1000000;omega)) (aO ?_);refine aloop (ι:=List (Nat×Bool)×List Nat×List Nat) (fun s=>[(1,.ptr 1 0 0),(2,.ptr 2 0 0),(4,.own 34)]) (fun s=>[(1,.box [.d (.int .i64 n),.d (.int .i64 1),.own 8,.d (.lst (s.2.1.map encTk))] false),(2,.box [.d (.int .i64 0),.d (.int .i64 0),.nil,.nil] false),(8,.row (s.1.map encCl) 3 false),(34,.row (s.2.2.map encN) 1 false)])
  (EntI n cl0 q0) (fun s=>s.2.1.length) (cl0,q0,[]) ⟨rfl,Nat.zero_add _,rfl,rfl⟩ (le1 (.row 4 34 1) ⟨rfl,rfl⟩ (le_of_cov ⟨rfl,rfl,rfl,trivial⟩ ⟨rfl,rfl,rfl,rfl,trivial⟩ ⟨rfl,rfl,rfl,rfl⟩)) ?_
 rintro ⟨cl,q,ins⟩ hI;obtain ⟨i1,i2,i3,i4⟩:=hI;simp only [] at i1 i2 i3 i4⊢;refine aO ?_;refine callX_pure (openH_ok ⟨n,cl,q⟩ (by show cl.length<=7;omega) (by show n<=1000;omega)) (w0 ?_)
 cases q with
 |nil=>
  rw [openH];refine aO ?_;rw [enterHA] at i3;rw [inH,List.append_nil] at i4;rw [<-i3,<-i4];exact ret_of rfl rfl
 |cons w q=>
  rw [openH]
  refine bcase_p (fun g=>?_) (fun g=>?_)<;>conv=>whnf
  ·replace g:(cl.length:Int)+1<=2*n:=g
   have es:((((w::q).map encTk).take ((w::q).map encTk).length).drop 1)=q.map encTk:=by rw [List.take_length];rfl
   refine aO ?_;refine idxK_nat (i:=0) (by simp) (w0 ?_);refine getRow_of (x:=encTk w) rfl (aO ?_);refine condK_of (fun e he=>encTk_len he) (w0 ?_);refine sliceK_lo (l:=1) (by simp) (aO ?_);simp only [List.length_cons] at i1 i2
   have hmc:(cl.map encCl).length=cl.length:=List.length_map ..
   have hmi:(ins.map encN).length=ins.length:=List.length_map ..
   refine roomK_le 1000 100 (by show (cl.map encCl).length+1<=1000;omega) (by decide) (by decide) (by decide) (aO ?_);refine roomK_le 1000 100 (by show (ins.map encN).length+1<=1000;omega) (by decide) (by decide) (by decide) (w0 ?_);rw [enterHA,if_pos (by omega)] at i3;rw [inH,if_pos (by omega)] at i4;refine ⟨(cl++[(w,false)],q,ins++[w]),⟨by simp;omega,by simp;omega,i3,by rw [<-i4];simp⟩,by simp,le0 (le_of_cov ⟨rfl,rfl,rfl,trivial⟩ ⟨by rw [<-es];rfl,rfl,by rw [List.map_append];rfl,by rw [List.map_append];rfl,trivial⟩ ⟨rfl,rfl,rfl,rfl⟩)⟩
  ·replace g:¬(cl.length:Int)+1<=2*n:=g;refine aO ?_;rw [enterHA,if_neg (by omega)] at i3;rw [inH,if_neg (by omega),List.append_nil] at i4;rw [<-i3,<-i4];exact ret_of rfl rfl
theorem no_cl {h:HA} {w:Nat} (hn:w∉h.all):ixF (isC w) h.cl 0=-1:=by
 refine ixF_no fun x hx=>?_
 rw [isC,decide_eq_false];intro e;exact hn (List.mem_append_left _ (List.mem_map.2 ⟨x,hx,by omega⟩))
theorem no_tk {h:HA} {w:Nat} (hn:w∉h.all):ixF (isT w) h.q 0=-1:=by
 refine ixF_no fun x hx=>?_
 rw [isT,decide_eq_false];intro e;exact hn (List.mem_append_right _ (by rw [<-show x=w by omega];exact hx))
theorem admitBegin_ok (h:HA) (o:HOk h) (w:Nat) (hw:w<4) (hn:w∉h.all) (hl:h.cl.length+h.q.length<=3):
  ACall Tryz.prog 137 [encHA h,.int .i64 w,.int .i64 1] (.tup [encHA (beginH h w),.bool (decide (0<=ixF (isT w) (inH h.n h.cl (h.q++[w])) 0)),.int .i64 0]):=by
 have n1:=o.n1;have n8:=o.n8;have hc:=client_ok (w:Int) h.cl (by omega);have ht:=ticket_ok (w:Int) h.q (by omega);rw [no_cl hn] at hc;rw [no_tk hn] at ht
 have hml:(h.cl.map encCl).length=h.cl.length:=List.length_map ..
 have hmq:(h.q.map encTk).length=h.q.length:=List.length_map ..
 have he:ACall Tryz.prog 196 [.agg [.int .i64 h.n,.int .i64 1,.lst (h.cl.map encCl),.lst (h.q.map encTk++[encTk w])]] (.tup [encHA (beginH h w),.lst ((inH h.n h.cl (h.q++[w])).map encN)]):=by
  have:=enter_ok ⟨h.n,h.cl,h.q++[w]⟩ n8 (by show h.cl.length+(h.q++[w]).length<=7;simp;omega)
  have e:(h.q++[w]).map encTk=h.q.map encTk++[encTk w]:=by rw [List.map_append];rfl
  rw [<-e];exact this
 have hin:=inH_len h.n h.cl (h.q++[w]);rw [List.length_append,List.length_singleton] at hin;refine acall_of Tryz.func137 3 rfl (by kernel_rfl) (aO ?_);refine callX_pure (admitR_ok h o) (aO ?_);refine callX_pure (claimable_ok h n1) (aO ?_);refine callX_pure hc (aO ?_);refine callX_pure ht (aO ?_);refine callX_own (cloneTk (encTk_ok h.q) (by omega)) (aO ?_);refine roomK_le 1000 100 (by show (h.q.map encTk).length+1<=1000;omega) (by decide) (by decide) (by decide) (aO ?_);refine callX_pure he (aO ?_);refine callX_pure (contains_ok (w:Int) (inH h.n h.cl (h.q++[w])) (by omega)) (aO ?_);exact ret_of rfl rfl
theorem cl_at {h:HA} (o:HOk h) {w:Nat} {b:Bool} (hm:(w,b)∈h.cl):∃ i,∃ hi:i<h.cl.length,ixF (isC w) h.cl 0=(i:Int) /\h.cl[i]=(w,b) /\ ∀ b',setH h.cl w b'=h.cl.set i (w,b'):=by
 obtain ⟨i,hi,e,hp⟩:=ixF_yes (p:=isC w) (l:=h.cl) (k:=0) ⟨_,hm,by simp [isC]⟩
 have hp2:h.cl[i].1=w:=by rw [isC,decide_eq_true_eq] at hp;omega
 obtain ⟨j,hj,ej⟩:=List.mem_iff_getElem.1 hm
 have eij:i=j:=by
  have hnd:=o.cls.nd
  rcases Nat.lt_trichotomy i j with g|g|g
  ·exact absurd (hp2.trans (by rw [ej])) (o.cls.ne g hj)
  ·exact g
  ·exact absurd ((by rw [ej]:h.cl[j].1=w).trans hp2.symm) (o.cls.ne g hi)
 subst eij;refine ⟨i,hi,by rw [e,Nat.zero_add],ej,fun b'=>?_⟩
 refine List.ext_getElem (by rw [setH,List.length_map,List.length_set]) fun k h1 h2=>?_
 rw [List.length_set] at h2;simp only [setH,List.getElem_map,List.getElem_set]
 by_cases g:i=k
 ·subst g;rw [if_pos hp2,if_pos rfl,hp2]
 ·rw [if_neg g,if_neg];intro e
  rcases Nat.lt_or_gt_of_ne g with g|g
  ·exact o.cls.ne g h2 (hp2.trans e.symm)
  ·exact o.cls.ne g hi (e.trans hp2.symm)
theorem cl_mem {h:HA} {w:Nat} (hc:isCl h w=true):(w,heldW h w)∈h.cl:=by
 obtain ⟨⟨a,b⟩,h1,h2⟩:=List.mem_map.1 (isCl_t.1 hc)
 cases h2
 cases hb:heldW h a with
 |true=>exact heldW_t.1 hb
 |false=>
  cases b with
  |false=>exact h1
  |true=>rw [heldW_t.2 h1] at hb;cases hb
def pinR (h:HA) (w:Nat):HA×Int:=if h.n<=heldN h.cl then (h,6) else (pinH h w,0)
theorem admitPin_ok (h:HA) (o:HOk h) (w:Nat) (hc:isCl h w=true) (hh:heldW h w=false):
  ACall Tryz.prog 143 [encHA h,.int .i64 w] (.tup [encHA (pinR h w).1,.int .i64 (pinR h w).2]):=by
 have n1:=o.n1;have n8:=o.n8;have hlen:=o.len;have hheld:=o.held;have hm:=cl_mem hc;rw [hh] at hm;obtain ⟨i,hi,ei,ec,es⟩:=cl_at o hm;have hcl:=client_ok (w:Int) h.cl (by omega);rw [ei] at hcl
 have hml:(h.cl.map encCl).length=h.cl.length:=List.length_map ..
 have hg:(h.cl.map encCl)[i]?=some (encCl (w,false)):=by rw [List.getElem?_map,List.getElem?_eq_getElem hi,ec];rfl
 refine acall_of Tryz.func143 2 rfl (by kernel_rfl) (aO ?_);refine callX_pure (admitR_ok h o) (aO ?_);refine callX_pure hcl (aO ?_);refine idxK_nat (by omega) (w0 ?_);refine getRow_of hg (aO ?_);refine idxK_nat (by omega) (w0 ?_);refine getRow_of hg (aO ?_);refine callX_pure (left_ok h (by omega) (by omega)) (w0 ?_);rw [pinR];refine aO ?_
 refine bcase_p (fun g=>?_) (fun g=>?_)<;>conv=>whnf
 ·rw [if_pos (show h.n<=heldN h.cl by omega)];refine aO ?_;exact ret_of rfl rfl
 ·rw [if_neg (show ¬h.n<=heldN h.cl by omega)];have op:=hok_pin o hc hh (by omega)
  have es2:(h.cl.map encCl).set i (splice (encCl (w,false)) 2 [D.int .i64 1])=(setH h.cl w true).map encCl:=by rw [es,List.map_set];rfl
  have hhN:=held_set (b:=true) o.cls.nd hm;simp only [if_pos,Bool.false_eq_true,if_false] at hhN;have hsf:=safe_ok ((h.n:Int)-heldN h.cl-1) (setH h.cl w true) op.cls (by omega) (by omega) (by omega);rw [<-es2] at hsf;refine aO ?_;refine callX_own (cloneCl (encCl_ok h.cl) (by omega)) (aO ?_);refine idxK_nat (by omega) (w0 ?_);refine getRow_of hg (aO ?_);refine idxK_nat (by omega) (w0 ?_);refine getRow_of hg (aO ?_);refine callX_pure hsf (aO ?_);refine ret_of rfl ?_;show _=D.tup [D.agg [.int .i64 h.n,.int .i64 1,D.lst ((setH h.cl w true).map encCl),.lst (h.q.map encTk)],.int .i64 0]
  rw [<-es2];rfl
theorem admitUnpin_ok (h:HA) (o:HOk h) (w:Nat) (hc:isCl h w=true) (hh:heldW h w=true):
  ACall Tryz.prog 147 [encHA h,.int .i64 w] (.tup [encHA (unpinH h w),.int .i64 0]):=by
 have n1:=o.n1;have n8:=o.n8;have hlen:=o.len;have hm:=cl_mem hc;rw [hh] at hm;obtain ⟨i,hi,ei,ec,es⟩:=cl_at o hm;have hcl:=client_ok (w:Int) h.cl (by omega);rw [ei] at hcl
 have hml:(h.cl.map encCl).length=h.cl.length:=List.length_map ..
 have hg:(h.cl.map encCl)[i]?=some (encCl (w,true)):=by rw [List.getElem?_map,List.getElem?_eq_getElem hi,ec];rfl
 have es2:(h.cl.map encCl).set i (splice (encCl (w,true)) 2 [D.int .i64 0])=(setH h.cl w false).map encCl:=by rw [es,List.map_set];rfl
 refine acall_of Tryz.func147 2 rfl (by kernel_rfl) (aO ?_);refine callX_pure (admitR_ok h o) (aO ?_);refine callX_pure hcl (aO ?_);refine idxK_nat (by omega) (w0 ?_);refine getRow_of hg (aO ?_);refine callX_own (cloneCl (encCl_ok h.cl) (by omega)) (aO ?_);refine idxK_nat (by omega) (w0 ?_);refine getRow_of hg (aO ?_);refine idxK_nat (by omega) (w0 ?_);refine getRow_of hg (aO ?_);refine ret_of rfl ?_;show _=D.tup [D.agg [.int .i64 h.n,.int .i64 1,D.lst ((setH h.cl w false).map encCl),.lst (h.q.map encTk)],.int .i64 0]
 rw [<-es2];rfl
theorem isC2_ok (who:Int) (c:Nat×Bool):ACall Tryz.prog 213 [.agg (encCl c),.dp [.int .i64 who] 0] (.bool (isC who c)):=by
 refine acall_of Tryz.func213 2 rfl (by kernel_rfl) (aO ?_);exact ret_of rfl rfl
theorem isT2_ok (who:Int) (c:Nat):ACall Tryz.prog 215 [.agg (encTk c),.dp [.int .i64 who] 0] (.bool (isT who c)):=by
 refine acall_of Tryz.func215 2 rfl (by kernel_rfl) (aO ?_);exact ret_of rfl rfl
theorem fil_C (w:Nat) (l:List (Nat×Bool)):(l.filter fun x=>!isC w x)=l.filter fun c=>c.1 !=w:=by
 congr 1;funext c;rw [Bool.eq_iff_iff];simp [isC];omega
theorem fil_T (w:Nat) (l:List Nat):(l.filter fun x=>!isT w x)=l.filter fun x=>x !=w:=by
 congr 1;funext c;rw [Bool.eq_iff_iff];simp [isT];omega
theorem admitEnd_ok (h:HA) (o:HOk h) (w:Nat) (hw:w<4) (hc:isCl h w=true):
  ∃ ins:List Nat,ACall Tryz.prog 149 [encHA h,.int .i64 w] (.tup [encHA (endH h w),.lst (ins.map encN),.int .i64 0]):=by
 have n1:=o.n1;have n8:=o.n8;have hlen:=o.len;obtain ⟨i,hi,ei,ec,es⟩:=cl_at o (cl_mem hc);have hcl:=client_ok (w:Int) h.cl (by omega);rw [ei] at hcl;have f1:=delCl 213 [.dp [.int .i64 w] 0] (isC w) (isC2_ok w) h.cl (by omega);have f2:=delTk 215 [.dp [.int .i64 w] 0] (isT w) (isT2_ok w) h.q (by omega);rw [fil_C] at f1;rw [fil_T] at f2;have l1:=List.length_filter_le (fun c:Nat×Bool=>c.1 !=w) h.cl;have l2:=List.length_filter_le (fun c:Nat=>c !=w) h.q;have he:=enter_ok ⟨h.n,h.cl.filter fun c=>c.1 !=w,h.q.filter fun x=>x !=w⟩ n8 (by show (h.cl.filter _).length+(h.q.filter _).length<=7;omega)
 have hml:(h.cl.map encCl).length=h.cl.length:=List.length_map ..
 have hmq:(h.q.map encTk).length=h.q.length:=List.length_map ..
 refine ⟨inH h.n (h.cl.filter fun c=>c.1 !=w) (h.q.filter fun x=>x !=w),?_⟩;refine acall_of Tryz.func149 2 rfl (by kernel_rfl) (aO ?_);refine callX_pure (admitR_ok h o) (aO ?_);refine callX_pure hcl (aO ?_);refine callX_own (cloneCl (encCl_ok h.cl) (by omega)) (aO ?_);refine callX_win f1 [] rfl ⟨rfl,trivial⟩ rfl (aO ?_);refine callX_own (cloneTk (encTk_ok h.q) (by omega)) (aO ?_);refine callX_win f2 [] rfl ⟨rfl,trivial⟩ rfl (aO ?_);refine callX_pure he (aO ?_);exact ret_of rfl rfl
theorem encWt_ok:∀ (l:List (Nat×Bool)),okRows 2 (l.map encWt)=true
 | []=>rfl
 |_::r=>encWt_ok r
theorem encN_ok:∀ (l:List Nat),okRows 1 (l.map encN)=true
 | []=>rfl
 |_::r=>encN_ok r
theorem encWt_len {l:List (Nat×Bool)} {e:List D} (h:e∈l.map encWt):e.length=2:=by
 obtain ⟨x,_,rfl⟩:=List.mem_map.1 h;rfl
theorem isW_ok (who:Int) (c:Nat×Bool):ACall Tryz.prog 261 [.agg (encWt c),.dp [.int .i64 who] 0] (.bool (isC who c)):=by
 refine acall_of Tryz.func261 2 rfl (by kernel_rfl) (aO ?_);exact ret_of rfl rfl
theorem waits_ok (who:Int) (l:List (Nat×Bool)) (hl:l.length<=1000000):ACall Tryz.prog 199 [.lst (l.map encWt),.int .i64 who] (.bool (decide (0<=ixF (isC who) l 0))):=by
 have h259:ACall Tryz.prog 260 [.lst (l.map encWt),.fn 261 [.dp [.int .i64 who] 0]] (.bool (decide (0<=ixF (isC who) l 0))):=by
  refine acall_of Tryz.func260 2 rfl (by kernel_rfl) (w0 ?_);refine callX_pure (ixWt_ok 261 _ _ (isW_ok who) l hl) (aW ?_);exact ret_of rfl rfl
 refine acall_of Tryz.func199 2 rfl (by kernel_rfl) (aO ?_);refine callX_pure h259 (aW ?_);exact ret_of rfl rfl
def openL (l:LA):Bool:=match l.q with
 | []=>false
 |x::_=>match l.hs with
  | []=>true
  |_::_=>!l.ex&&!x.2
theorem openL_ok (l:LA):ACall Tryz.prog 259 [encLA l] (.bool (openL l)):=by
 obtain ⟨hs,ex,q⟩:=l
 cases q with
 |nil=>
  refine acall_of Tryz.func259 1 rfl (by kernel_rfl) (aO ?_);exact ret_of rfl rfl
 |cons x q=>
  cases hs with
  |nil=>
   refine acall_of Tryz.func259 1 rfl (by kernel_rfl) (aO ?_);exact ret_of rfl rfl
  |cons y hs=>
   cases ex with
   |true=>
    refine acall_of Tryz.func259 1 rfl (by kernel_rfl) (aO ?_);exact ret_of rfl rfl
   |false=>
    refine acall_of Tryz.func259 1 rfl (by kernel_rfl) (aO ?_);refine idxK_nat (i:=0) (by simp) (w0 ?_);refine getRow_of (x:=encWt x) rfl (aO ?_);exact ret_of rfl rfl
theorem LOk.noopen {l:LA} (o:LOk l):openL l=false:=by
 have:=o.shut;rw [openL]
 split
 ·rfl
 ·rename_i x _ e;rw [e] at this
  rcases this with g|⟨g1,g2⟩
  ·cases g
  ·split
   ·rename_i e2;exact absurd e2 g1
   ·rcases g2 with g2|g2
    ·rw [g2];rfl
    ·rw [g2 x rfl];cases l.ex<;>rfl
def lastN (l:List Nat):Nat->Int
 |0=>-1
 |k+1=>((l[k]?.getD 0:Nat):Int)
theorem lastN_lt {l:List Nat} (h:l.Pairwise (·<·)) {k:Nat} (hk:k<l.length):lastN l k<(l[k]:Int):=by
 cases k with
 |zero=>rw [lastN];omega
 |succ k=>
  rw [lastN,List.getElem?_eq_getElem (by omega),Option.getD_some];have:=(List.pairwise_iff_getElem.1 h) k (k+1) (by omega) hk (by omega);omega
theorem lastN_succ {l:List Nat} {k:Nat} (hk:k<l.length):lastN l (k+1)=(l[k]:Int):=by
 rw [lastN,List.getElem?_eq_getElem hk,Option.getD_some]
theorem nohold {l:List Nat} {w:Nat} (h:w∉l):ixF (isT w) l 0=-1:=by
 refine ixF_no fun x hx=>?_
 rw [isT,decide_eq_false];intro e;exact h (by rw [<-show x=w by omega];exact hx)
theorem nowait {l:List (Nat×Bool)} {w:Nat} (h:w∉l.map (·.1)):ixF (isC w) l 0=-1:=by
 refine ixF_no fun x hx=>?_
 rw [isC,decide_eq_false];intro e;exact h (List.mem_map.2 ⟨x,hx,by omega⟩)
theorem latchR_ok (l:LA) (o:LOk l):ACall Tryz.prog 198 [encLA l] (.bool true):=by
 have hlen:=o.len;have h1:l.ex=true->l.hs.length=1:=o.one
 have hmh:(l.hs.map encN).length=l.hs.length:=List.length_map ..
 have hmq:(l.q.map encWt).length=l.q.length:=List.length_map ..
 have hnd:=List.nodup_append.1 o.nd;refine acall_of Tryz.func198 1 rfl (by kernel_rfl) (aO ?_)
 refine bcase_intro (fun g=>?_) (fun g=>?_)<;>conv=>whnf
 ·have:=h1 g;refine aO ?_;refine aloop (ι:=Nat) (fun k=>[(1,.ptr 1 0 0),(3,.d (.int .i64 (lastN l.hs k))),(25,.d (.lst (l.hs.map encN))),(26,.d (.int .i64 (l.hs.map encN).length)),(27,.d (.int .i64 k))]) (fun _=>[(1,.box (l.cells.map AV.d) false)])
   (fun k=>k<=l.hs.length) (fun k=>l.hs.length-k) 0 (Nat.zero_le _) (le0 (le_of_cov ⟨rfl,rfl,rfl,rfl,rfl,trivial⟩ ⟨rfl,trivial⟩ ⟨rfl,rfl,rfl,rfl⟩)) ?_
  intro k hk
  conv=>whnf
  refine bcase_p (fun h5=>?_) (fun h5=>?_)<;>conv=>whnf
  ·have hk2:k<l.hs.length:=by omega
   have hl1:=lastN_lt o.up hk2;have hl2:=o.lt l.hs[k] (List.mem_append_left _ (List.getElem_mem hk2));refine idxK_nat (by omega) (w0 ?_);refine getRow_of (x:=encN l.hs[k]) (by simp [hk2]) (aW ?_);refine aO ?_;exact ⟨k+1,by omega,by omega,le0 (le_of_cov ⟨rfl,by rw [lastN_succ hk2];rfl,rfl,rfl,rfl,trivial⟩ ⟨rfl,trivial⟩ ⟨rfl,rfl,rfl,rfl⟩)⟩
  refine aO ?_;refine aloop (ι:=Nat) (fun k=>[(1,.ptr 1 0 0),(41,.d (.lst (l.q.map encWt))),(42,.d (.int .i64 (l.q.map encWt).length)),(43,.d (.int .i64 k))]) (fun _=>[(1,.box (l.cells.map AV.d) false)])
   (fun k=>k<=l.q.length) (fun k=>l.q.length-k) 0 (Nat.zero_le _) (le0 (le_of_cov ⟨rfl,rfl,rfl,rfl,trivial⟩ ⟨rfl,trivial⟩ ⟨rfl,rfl,rfl,rfl⟩)) ?_
  intro k hk
  conv=>whnf
  refine bcase_p (fun h5=>?_) (fun h5=>?_)<;>conv=>whnf
  ·have hk2:k<l.q.length:=by omega
   have hmq2:l.q[k].1∈l.q.map (·.1):=List.mem_map_of_mem (List.getElem_mem hk2);have hl2:=o.lt l.q[k].1 (List.mem_append_right _ hmq2);have hc:=contains_ok (l.q[k].1:Int) l.hs (by omega);rw [nohold fun g=>hnd.2.2 _ g _ hmq2 rfl] at hc
   have hwt:ACall Tryz.prog 199 [.lst (((l.q.map encWt).take k).drop 0),.int .i64 l.q[k].1] (.bool (decide (0<=ixF (isC l.q[k].1) (l.q.take k) 0))):=by
    rw [List.drop_zero,<-List.map_take];exact waits_ok _ _ (by rw [List.length_take];omega)
   rw [nowait (w:=l.q[k].1) fun g=>by
    obtain ⟨x,hx,e⟩:=List.mem_map.1 g;obtain ⟨j,hj,rfl⟩:=List.mem_iff_getElem.1 hx;rw [List.length_take] at hj;rw [List.getElem_take] at e
    exact nd_ne hnd.2.1 (show j<k by omega) (by rw [List.length_map];exact hk2) (by simpa using e)] at hwt
   refine idxK_nat (by omega) (w0 ?_);refine getRow_of (x:=encWt l.q[k]) (by simp [hk2]) (aW ?_);refine aO ?_;refine callX_pure hc (aO ?_);refine condK_of (fun e he=>encWt_len he) (w0 ?_);refine sliceK_hi (by omega) (aO ?_);refine callX_pure hwt (aO ?_);exact ⟨k+1,by omega,by omega,(le0 (le_of_cov ⟨rfl,rfl,rfl,rfl,trivial⟩ ⟨rfl,trivial⟩ ⟨rfl,rfl,rfl,rfl⟩))⟩
  refine aO ?_;refine callX_pure (openL_ok l) (w0 ?_);rw [o.noopen];refine aO ?_;exact ret_of rfl rfl
 ·refine aO ?_;refine aloop (ι:=Nat) (fun k=>[(1,.ptr 1 0 0),(3,.d (.int .i64 (lastN l.hs k))),(25,.d (.lst (l.hs.map encN))),(26,.d (.int .i64 (l.hs.map encN).length)),(27,.d (.int .i64 k))]) (fun _=>[(1,.box (l.cells.map AV.d) false)])
   (fun k=>k<=l.hs.length) (fun k=>l.hs.length-k) 0 (Nat.zero_le _) (le0 (le_of_cov ⟨rfl,rfl,rfl,rfl,rfl,trivial⟩ ⟨rfl,trivial⟩ ⟨rfl,rfl,rfl,rfl⟩)) ?_
  intro k hk
  conv=>whnf
  refine bcase_p (fun h5=>?_) (fun h5=>?_)<;>conv=>whnf
  ·have hk2:k<l.hs.length:=by omega
   have hl1:=lastN_lt o.up hk2;have hl2:=o.lt l.hs[k] (List.mem_append_left _ (List.getElem_mem hk2));refine idxK_nat (by omega) (w0 ?_);refine getRow_of (x:=encN l.hs[k]) (by simp [hk2]) (aW ?_);refine aO ?_;exact ⟨k+1,by omega,by omega,le0 (le_of_cov ⟨rfl,by rw [lastN_succ hk2];rfl,rfl,rfl,rfl,trivial⟩ ⟨rfl,trivial⟩ ⟨rfl,rfl,rfl,rfl⟩)⟩
  refine aO ?_;refine aloop (ι:=Nat) (fun k=>[(1,.ptr 1 0 0),(41,.d (.lst (l.q.map encWt))),(42,.d (.int .i64 (l.q.map encWt).length)),(43,.d (.int .i64 k))]) (fun _=>[(1,.box (l.cells.map AV.d) false)])
   (fun k=>k<=l.q.length) (fun k=>l.q.length-k) 0 (Nat.zero_le _) (le0 (le_of_cov ⟨rfl,rfl,rfl,rfl,trivial⟩ ⟨rfl,trivial⟩ ⟨rfl,rfl,rfl,rfl⟩)) ?_
  intro k hk
  conv=>whnf
  refine bcase_p (fun h5=>?_) (fun h5=>?_)<;>conv=>whnf
  ·have hk2:k<l.q.length:=by omega
   have hmq2:l.q[k].1∈l.q.map (·.1):=List.mem_map_of_mem (List.getElem_mem hk2);have hl2:=o.lt l.q[k].1 (List.mem_append_right _ hmq2);have hc:=contains_ok (l.q[k].1:Int) l.hs (by omega);rw [nohold fun g=>hnd.2.2 _ g _ hmq2 rfl] at hc
   have hwt:ACall Tryz.prog 199 [.lst (((l.q.map encWt).take k).drop 0),.int .i64 l.q[k].1] (.bool (decide (0<=ixF (isC l.q[k].1) (l.q.take k) 0))):=by
    rw [List.drop_zero,<-List.map_take];exact waits_ok _ _ (by rw [List.length_take];omega)
   rw [nowait (w:=l.q[k].1) fun g=>by
    obtain ⟨x,hx,e⟩:=List.mem_map.1 g;obtain ⟨j,hj,rfl⟩:=List.mem_iff_getElem.1 hx;rw [List.length_take] at hj;rw [List.getElem_take] at e
    exact nd_ne hnd.2.1 (show j<k by omega) (by rw [List.length_map];exact hk2) (by simpa using e)] at hwt
   refine idxK_nat (by omega) (w0 ?_);refine getRow_of (x:=encWt l.q[k]) (by simp [hk2]) (aW ?_);refine aO ?_;refine callX_pure hc (aO ?_);refine condK_of (fun e he=>encWt_len he) (w0 ?_);refine sliceK_hi (by omega) (aO ?_);refine callX_pure hwt (aO ?_);exact ⟨k+1,by omega,by omega,(le0 (le_of_cov ⟨rfl,rfl,rfl,rfl,trivial⟩ ⟨rfl,trivial⟩ ⟨rfl,rfl,rfl,rfl⟩))⟩
  refine aO ?_;refine callX_pure (openL_ok l) (w0 ?_);rw [o.noopen];refine aO ?_;exact ret_of rfl rfl
theorem holds_ok (l:LA) (o:LOk l) (w:Nat):ACall Tryz.prog 142 [encLA l,.int .i64 w] (.tup [.bool (holdsL l w),.bool (holdsL l w&&l.ex)]):=by
 have hlen:=o.len;have hc:=contains_ok (w:Int) l.hs (by omega)
 have e:decide (0<=ixF (isT w) l.hs 0)=holdsL l w:=by
  rw [Bool.eq_iff_iff,decide_eq_true_eq,ixF_ge,holdsL];simp only [List.any_eq_true,List.contains_eq_any_beq]
  constructor
  ·rintro ⟨x,hx,g⟩;exact ⟨x,hx,by simp [isT] at g⊢;omega⟩
  ·rintro ⟨x,hx,g⟩;exact ⟨x,hx,by simp [isT] at g⊢;omega⟩
 rw [e] at hc;refine acall_of Tryz.func142 2 rfl (by kernel_rfl) (aO ?_);refine callX_pure (latchR_ok l o) (aO ?_);refine callX_pure hc (aO ?_)
 cases g:holdsL l w with
 |false=>
  refine aO ?_;exact ret_of rfl rfl
 |true=>
  refine aO ?_;refine ret_of rfl ?_;rw [Bool.true_and];rfl
end Go.Lk
