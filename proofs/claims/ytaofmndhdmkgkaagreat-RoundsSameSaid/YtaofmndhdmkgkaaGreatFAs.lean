/-
  What is proved here: what functions of the program compute, and what follows; no condition beyond each theorem's own.
-/
import Derived.Test.YtaofmndhdmkgkaaGreatFAm
import Derived.Test.YtaofmndhdmkgkaaGreatFAq
import Derived.Test.YtaofmndhdmkgkaaGreatFAr
set_option linter.unusedSimpArgs false
set_option linter.unusedVariables false
set_option linter.unnecessarySimpa false
set_option linter.unusedSectionVars false
namespace Go.Lk
open Go Go.Proofs Go.RowKit
abbrev CS:=(Nat×Bool)×Bool
def hN (c:Nat×Bool):Int:=if c.2=true then 1 else 0
def pz (free:Int) (x:CS):Bool:=!x.2&&decide (1-hN x.1<=free)
def encS (x:CS):List D:=[.bool x.2]
theorem next_ok (free:Int) (z:List CS) (hz:z.length<=8) {i:Nat} (hi:ixF (pz free) z 0=(i:Int)):ACall Tryz.prog 287 [.int .i64 free,.lst ((z.map (·.1)).map encCl),.lst (z.map encS)] (.tup [.int .i64 i,.bool true]):=by
 have hm:((z.map (·.1)).map encCl).length=z.length:=by rw [List.length_map,List.length_map]
 have hm2:(z.map encS).length=z.length:=List.length_map ..
 refine acall_of Tryz.func287 3 rfl (by kernel_rfl) (aO ?_);refine aloop (ι:=Nat) (fun k=>[(0,.d (.int .i64 free)),(2,.d (.lst (z.map encS))),(10,.d (.lst ((z.map (·.1)).map encCl))),(11,.d (.int .i64 ((z.map (·.1)).map encCl).length)),(12,.d (.int .i64 k))]) (fun _=>[])
  (fun k=>k<=z.length/\ixF (pz free) (z.drop k) k=(i:Int)) (fun k=>z.length-k) 0 ⟨Nat.zero_le _,hi⟩ (le0 (le_of_cov ⟨rfl,rfl,rfl,rfl,rfl,trivial⟩ trivial ⟨rfl,rfl,rfl,rfl⟩)) ?_
 rintro k ⟨hk,hR⟩
 conv=>whnf
 refine bcase_p (fun h=>?_) (fun h=>?_)<;>conv=>whnf
 ·have hk2:k<z.length:=by omega
  rw [drop_cons hk2,ixF] at hR
  have hb:0<=hN z[k].1/\hN z[k].1<=1:=by unfold hN;split<;>omega
  refine idxK_nat (by omega) (w0 ?_);refine getRow_of (x:=encCl z[k].1) (by simp [hk2]) (aW ?_);refine idxK_nat (by omega) (w0 ?_);refine getRow_of (x:=encS z[k]) (by simp [hk2]) (aW ?_)
  refine bcase_intro (fun h2=>?_) (fun h2=>?_)<;>conv=>whnf
  ·refine aA ?_
   replace h2:z[k].2=false:=by simpa using h2
   refine bcase_p (fun h3=>?_) (fun h3=>?_)<;>conv=>whnf
   ·replace h3:1-hN z[k].1<=free:=h3;rw [if_pos (by rw [pz,h2];simpa using h3)] at hR;refine aA ?_;exact ret_of rfl (by rw [<-hR];rfl)
   ·replace h3:¬(1-hN z[k].1<=free):=h3;rw [if_neg (by rw [pz,decide_eq_false h3];simp)] at hR;refine aA ?_;exact ⟨k+1,⟨by omega,hR⟩,by omega,(le0 (le_of_cov ⟨rfl,rfl,rfl,rfl,rfl,trivial⟩ trivial ⟨rfl,rfl,rfl,rfl⟩))⟩
  ·rw [if_neg (by rw [pz];simp at h2;simp [h2])] at hR;refine aA ?_;exact ⟨k+1,⟨by omega,hR⟩,by omega,(le0 (le_of_cov ⟨rfl,rfl,rfl,rfl,rfl,trivial⟩ trivial ⟨rfl,rfl,rfl,rfl⟩))⟩
 ·have:k=z.length:=by omega
  subst this;simp [ixF] at hR
theorem set_mid' {α:Type} {P Q:List α} {x y:α} {i:Nat} (h:i=P.length):(P++x::Q).set i y=P++y::Q:=by subst h;simp
theorem countP_set' {α:Type} (p:α->Bool) {l:List α} {i:Nat} (x:α) (hi:i<l.length):(l.set i x).countP p+(if p l[i]=true then 1 else 0)=l.countP p+(if p x=true then 1 else 0):=by
 have e:l=l.take i++l[i]::l.drop (i+1):=by rw [<-drop_cons hi,List.take_append_drop]
 have e2:l.set i x=l.take i++x::l.drop (i+1):=by
  conv=>lhs;rw [e]
  exact set_mid' (by simp;omega)
 rw [e2]
 conv=>rhs;rw [e]
 simp only [List.countP_append,List.countP_cons];omega
def unh (z:List CS):Nat:=z.countP fun x=>x.1.2&&!x.2
def uns (z:List CS):Nat:=z.countP fun x=>!x.2
def ordG:Nat->Int->List CS->List Int->List Int
 |0,_,_,o=>o
 |m+1,f,z,o=>match z[(ixF (pz f) z 0).toNat]? with
  |some x=>ordG m (f+hN x.1) (z.set (ixF (pz f) z 0).toNat (x.1,true)) (o++[ixF (pz f) z 0])
  |none=>o
structure OrdI (l:List (Nat×Bool)) (f0:Int) (s:Int×List CS×List Int):Prop where
 fst:s.2.1.map (·.1)=l
 fnn:0<=s.1
 tot:1<=s.1+unh s.2.1
 top:s.1+unh s.2.1<=16
 len:s.2.2.length<=l.length
 cnt:uns s.2.1+s.2.2.length=l.length
 eq:ordG (l.length-s.2.2.length) s.1 s.2.1 s.2.2=ordG l.length f0 (l.map fun c=>(c,false)) []
theorem OrdI.next {l f0 s} (h:OrdI l f0 s) (hl:s.2.2.length<l.length):∃ i:Nat,∃ hi:i<s.2.1.length,ixF (pz s.1) s.2.1 0=(i:Int) /\ (s.2.1[i]).2=false/\OrdI l f0 (s.1+hN (s.2.1[i]).1,s.2.1.set i ((s.2.1[i]).1,true),s.2.2++[(i:Int)]):=by
 obtain ⟨f,z,o⟩:=s;obtain ⟨h1,h2,h3,h4,h5,h6,h7⟩:=h;simp only [] at h1 h2 h3 h4 h5 h6 h7 hl⊢
 have hex:∃ x∈z,pz f x=true:=by
  by_cases hf:1<=f
  ·have:0<z.countP fun x=>!x.2:=by show 0<uns z;omega
   obtain ⟨x,hx,hp⟩:=List.countP_pos_iff.1 this;refine ⟨x,hx,?_⟩
   have:1-hN x.1<=f:=by unfold hN;split<;>omega
   rw [pz,hp,decide_eq_true this];rfl
  ·have:0<z.countP fun x=>x.1.2&&!x.2:=by show 0<unh z;omega
   obtain ⟨x,hx,hp⟩:=List.countP_pos_iff.1 this;refine ⟨x,hx,?_⟩;simp only [Bool.and_eq_true] at hp
   have:1-hN x.1<=f:=by rw [hN,if_pos hp.1];omega
   rw [pz,hp.2,decide_eq_true this];rfl
 obtain ⟨i,hi,e,hp⟩:=ixF_yes (k:=0) hex;rw [Nat.zero_add] at e
 have hz2:(z[i]).2=false:=by
  rw [pz] at hp;simp only [Bool.and_eq_true] at hp
  simpa using hp.1
 have c1:=countP_set' (fun x:CS=>x.1.2&&!x.2) ((z[i]).1,true) hi;have c2:=countP_set' (fun x:CS=>!x.2) ((z[i]).1,true) hi;simp only [hz2,Bool.not_false,Bool.and_true,Bool.not_true,Bool.and_false,if_true] at c1 c2
 have eu:(unh (z.set i ((z[i]).1,true)):Int)+hN (z[i]).1=unh z:=by
  unfold unh hN
  split
  ·rename_i g;simp only [g,if_true,Bool.false_eq_true,if_false] at c1;omega
  ·rename_i g;simp only [g,if_true,Bool.false_eq_true,if_false] at c1;omega
 have eh:0<=hN (z[i]).1:=by unfold hN;split<;>omega
 have es:uns (z.set i ((z[i]).1,true))+1=uns z:=by
  unfold uns
  simpa using c2
 refine ⟨i,hi,e,hz2,?_,?_,?_,?_,?_,?_,?_⟩
 ·rw [List.map_set,h1];subst h1
  have hi2:i<(z.map (·.1)).length:=by rw [List.length_map];exact hi
  have e:(z[i]).1=(z.map (·.1))[i]:=by simp
  show (z.map (·.1)).set i (z[i]).1=_;rw [e];exact List.set_getElem_self hi2
 ·dsimp only;omega
 ·dsimp only;omega
 ·dsimp only;omega
 ·simp only [List.length_append,List.length_singleton];omega
 ·simp only [List.length_append,List.length_singleton];omega
 ·simp only [List.length_append,List.length_singleton];rw [<-h7,show l.length-o.length=(l.length-(o.length+1))+1 by omega,ordG,e,Int.toNat_natCast,List.getElem?_eq_getElem hi]
theorem order_ok (f0:Int) (l:List (Nat×Bool)) (h:ClOk l) (hf0:0<=f0) (h1:1<=f0+heldN l) (h16:f0+heldN l<=16):
  ACall Tryz.prog 264 [.int .i64 f0,.lst (l.map encCl)] (.tup [encNs (ordG l.length f0 (l.map fun c=>(c,false)) []),.bool true]):=by
 have h8:=h.len
 have hm:(l.map encCl).length=l.length:=List.length_map ..
 have e0:(l.map fun c=>((c,false):CS)).map (·.1)=l:=by rw [List.map_map];exact List.map_id l
 have e1:unh (l.map fun c=>(c,false))=heldN l:=by
  unfold unh heldN;rw [List.countP_map];congr 1;funext c;simp
 have e2:uns (l.map fun c=>(c,false))=l.length:=by
  unfold uns;rw [List.countP_map];exact List.countP_eq_length.2 fun _ _=>rfl
 have e3:List.replicate l.length [D.bool false]=(l.map fun c=>((c,false):CS)).map encS:=by
  rw [List.map_map];exact (List.eq_replicate_iff.2 ⟨List.length_map ..,fun b hb=>by obtain ⟨c,_,rfl⟩:=List.mem_map.1 hb;rfl⟩).symm
 refine acall_of Tryz.func264 2 rfl (by kernel_rfl) (w0 ?_);refine callX_pure (bankR_ok l h) (aW ?_);refine aO ?_;rw [hm,Int.toNat_natCast];refine roomK_le 1000 100 (by omega) (by decide) (by decide) (by decide) (w0 ?_);refine aloop (ι:=Int×List CS×List Int) (fun s=>[(0,.d (.int .i64 s.1)),(1,.d (.lst (l.map encCl))),(6,.own 52),(7,.own 23)]) (fun s=>[(23,.row (s.2.1.map encS) 1 false),(52,.row (s.2.2.map enc1) 1 false)])
  (OrdI l f0) (fun s=>l.length-s.2.2.length) (f0,l.map fun c=>(c,false),[]) ⟨e0,hf0,by rw [e1];exact h1,by rw [e1];exact h16,Nat.zero_le _,by rw [e2];rfl,rfl⟩
  (le1 (.row 6 52 1) ⟨rfl,rfl⟩ (le_of_cov ⟨rfl,rfl,rfl,rfl,trivial⟩ ⟨by rw [<-e3];rfl,rfl,trivial⟩ ⟨rfl,rfl,rfl,rfl⟩)) ?_
 rintro ⟨f,z,o⟩ hI;have q1:=hI.fst;have q3:=hI.top;have q4:=hI.len;have q5:=hI.fnn;have q6:=hI.eq;simp only [] at q1 q3 q4 q5 q6⊢
 have hmo:(o.map enc1).length=o.length:=List.length_map ..
 have hmz:(z.map encS).length=z.length:=List.length_map ..
 have hzl:z.length=l.length:=by rw [<-q1,List.length_map]
 conv=>whnf
 refine bcase_p (fun h5=>?_) (fun h5=>?_)<;>conv=>whnf
 ·obtain ⟨i,hi,ei,ez,hJ⟩:=hI.next (by dsimp only;omega);simp only [] at hi ei ez hJ;have hc:=next_ok f z (by omega) ei;rw [q1] at hc;refine callX_pure hc (aW ?_);refine idxK_nat (by omega) (w0 ?_);refine getRow_of (x:=encS z[i]) (by simp [hi]) (aW ?_)
  have hil:i<l.length:=by omega
  have el:(z[i]).1=l[i]:=by subst q1;simp
  have eh:0<=hN l[i] /\hN l[i] <=1:=by unfold hN;split<;>omega
  refine idxK_nat (by omega) (w0 ?_);refine getRow_of (x:=encCl l[i]) (by simp [hil]) (aW ?_);refine roomK_le 1000 1000 (by show (o.map enc1).length+1<=1000;omega) (by decide) (by decide) (by decide) (aW ?_);rw [el] at hJ
  have em:(z.map encS).set i (splice (encS z[i]) 0 [D.bool true])=(z.set i (l[i],true)).map encS:=by rw [List.map_set];rfl
  refine ⟨(f+hN l[i],z.set i (l[i],true),o++[(i:Int)]),hJ,by dsimp only;rw [List.length_append];simp;omega,le0 (le_of_cov ⟨rfl,rfl,rfl,rfl,trivial⟩ ⟨by rw [<-em];rfl,by rw [List.map_append];rfl,trivial⟩ ⟨rfl,rfl,rfl,rfl⟩)⟩
 ·have:o.length=l.length:=by omega
  rw [this,Nat.sub_self,ordG] at q6;refine aA ?_;exact ret_of rfl (by rw [<-q6];rfl)
theorem safe_ok (f0:Int) (l:List (Nat×Bool)) (h:ClOk l) (hf0:0<=f0) (h1:1<=f0+heldN l) (h16:f0+heldN l<=16):ACall Tryz.prog 203 [.int .i64 f0,.lst (l.map encCl)] (.bool true):=by
 refine acall_of Tryz.func203 2 rfl (by kernel_rfl) (w0 ?_);refine callX_pure (order_ok f0 l h hf0 h1 h16) (aW ?_);exact ret_of rfl rfl
theorem cloneCl {l:List (List D)} (hok:okRows 3 l=true) (hl:l.length<=1000000):OCall Tryz.prog 89 [.lst l] l 3:=by
 refine ocall_of Tryz.func89 1 rfl (by kernel_rfl) (w0 ?_);refine nilK_of (w0 ?_);intro r hr
 conv=>whnf
 refine bcase_intro (fun h=>?_) (fun h=>?_)<;>conv=>whnf
 ·have:=hr h;exact ⟨2,rfl,.inr ⟨rfl,this⟩⟩
 ·refine aA ?_;refine condK_of hok (w0 ?_);refine roomK_le 1000100 100 (by show 0+List.length _<=1000100;omega) (by decide) (by decide) (by decide) (w0 ?_);exact ⟨2,rfl,.inl ⟨5,rfl,rfl⟩⟩
theorem cloneTk {l:List (List D)} (hok:okRows 2 l=true) (hl:l.length<=1000000):OCall Tryz.prog 90 [.lst l] l 2:=by
 refine ocall_of Tryz.func90 1 rfl (by kernel_rfl) (w0 ?_);refine nilK_of (w0 ?_);intro r hr
 conv=>whnf
 refine bcase_intro (fun h=>?_) (fun h=>?_)<;>conv=>whnf
 ·have:=hr h;exact ⟨2,rfl,.inr ⟨rfl,this⟩⟩
 ·refine aA ?_;refine condK_of hok (w0 ?_);refine roomK_le 1000100 100 (by show 0+List.length _<=1000100;omega) (by decide) (by decide) (by decide) (w0 ?_);exact ⟨2,rfl,.inl ⟨5,rfl,rfl⟩⟩
theorem cloneWt {l:List (List D)} (hok:okRows 2 l=true) (hl:l.length<=1000000):OCall Tryz.prog 200 [.lst l] l 2:=by
 refine ocall_of Tryz.func200 1 rfl (by kernel_rfl) (w0 ?_);refine nilK_of (w0 ?_);intro r hr
 conv=>whnf
 refine bcase_intro (fun h=>?_) (fun h=>?_)<;>conv=>whnf
 ·have:=hr h;exact ⟨2,rfl,.inr ⟨rfl,this⟩⟩
 ·refine aA ?_;refine condK_of hok (w0 ?_);refine roomK_le 1000100 100 (by show 0+List.length _<=1000100;omega) (by decide) (by decide) (by decide) (w0 ?_);exact ⟨2,rfl,.inl ⟨5,rfl,rfl⟩⟩
theorem cloneN {l:List (List D)} (hok:okRows 1 l=true) (hl:l.length<=1000000):OCall Tryz.prog 208 [.lst l] l 1:=by
 refine ocall_of Tryz.func208 1 rfl (by kernel_rfl) (w0 ?_);refine nilK_of (w0 ?_);intro r hr
 conv=>whnf
 refine bcase_intro (fun h=>?_) (fun h=>?_)<;>conv=>whnf
 ·have:=hr h;exact ⟨2,rfl,.inr ⟨rfl,this⟩⟩
 ·refine aA ?_;refine condK_of hok (w0 ?_);refine roomK_le 1000100 100 (by show 0+List.length _<=1000100;omega) (by decide) (by decide) (by decide) (w0 ?_);exact ⟨2,rfl,.inl ⟨5,rfl,rfl⟩⟩
theorem cloneLn {l:List (List D)} (hok:okRows 3 l=true) (hl:l.length<=1000000):OCall Tryz.prog 218 [.lst l] l 3:=by
 refine ocall_of Tryz.func218 1 rfl (by kernel_rfl) (w0 ?_);refine nilK_of (w0 ?_);intro r hr
 conv=>whnf
 refine bcase_intro (fun h=>?_) (fun h=>?_)<;>conv=>whnf
 ·have:=hr h;exact ⟨2,rfl,.inr ⟨rfl,this⟩⟩
 ·refine aA ?_;refine condK_of hok (w0 ?_);refine roomK_le 1000100 100 (by show 0+List.length _<=1000100;omega) (by decide) (by decide) (by decide) (w0 ?_);exact ⟨2,rfl,.inl ⟨5,rfl,rfl⟩⟩
theorem cloneRq {l:List (List D)} (hok:okRows 4 l=true) (hl:l.length<=1000000):OCall Tryz.prog 219 [.lst l] l 4:=by
 refine ocall_of Tryz.func219 1 rfl (by kernel_rfl) (w0 ?_);refine nilK_of (w0 ?_);intro r hr
 conv=>whnf
 refine bcase_intro (fun h=>?_) (fun h=>?_)<;>conv=>whnf
 ·have:=hr h;exact ⟨2,rfl,.inr ⟨rfl,this⟩⟩
 ·refine aA ?_;refine condK_of hok (w0 ?_);refine roomK_le 1000100 100 (by show 0+List.length _<=1000100;omega) (by decide) (by decide) (by decide) (w0 ?_);exact ⟨2,rfl,.inl ⟨5,rfl,rfl⟩⟩
theorem cloneJs {l:List (List D)} (hok:okRows 1 l=true) (hl:l.length<=1000000):OCall Tryz.prog 151 [.lst l] l 1:=by
 refine ocall_of Tryz.func151 1 rfl (by kernel_rfl) (w0 ?_);refine nilK_of (w0 ?_);intro r hr
 conv=>whnf
 refine bcase_intro (fun h=>?_) (fun h=>?_)<;>conv=>whnf
 ·have:=hr h;exact ⟨2,rfl,.inr ⟨rfl,this⟩⟩
 ·refine aA ?_;refine condK_of hok (w0 ?_);refine roomK_le 1000100 100 (by show 0+List.length _<=1000100;omega) (by decide) (by decide) (by decide) (w0 ?_);exact ⟨2,rfl,.inl ⟨5,rfl,rfl⟩⟩
theorem cloneJb {l:List (List D)} (hok:okRows 5 l=true) (hl:l.length<=1000000):OCall Tryz.prog 152 [.lst l] l 5:=by
 refine ocall_of Tryz.func152 1 rfl (by kernel_rfl) (w0 ?_);refine nilK_of (w0 ?_);intro r hr
 conv=>whnf
 refine bcase_intro (fun h=>?_) (fun h=>?_)<;>conv=>whnf
 ·have:=hr h;exact ⟨2,rfl,.inr ⟨rfl,this⟩⟩
 ·refine aA ?_;refine condK_of hok (w0 ?_);refine roomK_le 1000100 100 (by show 0+List.length _<=1000100;omega) (by decide) (by decide) (by decide) (w0 ?_);exact ⟨2,rfl,.inl ⟨5,rfl,rfl⟩⟩
theorem cloneOp {l:List (List D)} (hok:okRows 3 l=true) (hl:l.length<=1000000):OCall Tryz.prog 72 [.lst l] l 3:=by
 refine ocall_of Tryz.func72 1 rfl (by kernel_rfl) (w0 ?_);refine nilK_of (w0 ?_);intro r hr
 conv=>whnf
 refine bcase_intro (fun h=>?_) (fun h=>?_)<;>conv=>whnf
 ·have:=hr h;exact ⟨2,rfl,.inr ⟨rfl,this⟩⟩
 ·refine aA ?_;refine condK_of hok (w0 ?_);refine roomK_le 1000100 100 (by show 0+List.length _<=1000100;omega) (by decide) (by decide) (by decide) (w0 ?_);exact ⟨2,rfl,.inl ⟨5,rfl,rfl⟩⟩
structure DelI {α:Type} (enc:α->List D) (p:α->Bool) (sz:Nat) (l:List α) (F:List (List D)) (s:Nat×List (List D)):Prop where
 le:s.1<=l.length
 len:s.2.length=F.length
 fst:s.2.take ((l.take s.1).filter fun x=>!p x).length=((l.take s.1).filter fun x=>!p x).map enc
 rst:s.2.drop s.1=F.drop s.1
 lt:((l.take s.1).filter fun x=>!p x).length<s.1
 sz:∀ e∈s.2,e.length=sz
theorem filter_take_no {α:Type} {p:α->Bool} {l:List α} {k:Nat} (hk:k<l.length) (h:p l[k]=true):(l.take (k+1)).filter (fun x=>!p x)=(l.take k).filter fun x=>!p x:=by
 rw [take_snoc hk,List.filter_append,List.filter_cons,h];simp
theorem filter_take_yes {α:Type} {p:α->Bool} {l:List α} {k:Nat} (hk:k<l.length) (h:p l[k]=false):(l.take (k+1)).filter (fun x=>!p x)=(l.take k).filter (fun x=>!p x)++[l[k]]:=by
 rw [take_snoc hk,List.filter_append,List.filter_cons,h];simp
theorem DelI.skip {α:Type} {enc:α->List D} {p:α->Bool} {sz:Nat} {l:List α} {F R:List (List D)} {j:Nat} (h:DelI enc p sz l F (j,R)) (hj:j<l.length) (hp:p l[j]=true):DelI enc p sz l F (j+1,R):=by
 obtain ⟨h1,h2,h3,h4,h5,h6⟩:=h;simp only [] at h1 h2 h3 h4 h5 h6;refine ⟨hj,h2,?_,?_,?_,h6⟩
 ·simp only [];rw [filter_take_no hj hp];exact h3
 ·simp only [];rw [<-List.drop_drop,h4,List.drop_drop]
 ·simp only [];rw [filter_take_no hj hp];omega
theorem DelI.put {α:Type} {enc:α->List D} {p:α->Bool} {sz:Nat} {l:List α} {F R:List (List D)} {j:Nat} (h:DelI enc p sz l F (j,R)) (hj:j<l.length) (hF:l.length<=F.length) (hp:p l[j]=false) (he:∀ x,(enc x).length=sz):
  DelI enc p sz l F (j+1,R.set ((l.take j).filter fun x=>!p x).length (enc l[j])):=by
 obtain ⟨h1,h2,h3,h4,h5,h6⟩:=h;simp only [] at h1 h2 h3 h4 h5 h6;refine ⟨hj,by simp only [];rw [List.length_set];exact h2,?_,?_,?_,?_⟩
 ·simp only [];rw [filter_take_yes hj hp,List.length_append,List.length_singleton,List.map_append,<-h3]
  have hi:((l.take j).filter fun x=>!p x).length<(R.set ((l.take j).filter fun x=>!p x).length (enc l[j])).length:=by rw [List.length_set];omega
  rw [take_snoc hi,List.getElem_set_self,List.take_set_of_le (Nat.le_refl _)];rfl
 ·simp only [];rw [List.drop_set_of_lt (by omega),<-List.drop_drop,h4,List.drop_drop]
 ·simp only []
  rw [filter_take_yes hj hp,List.length_append,List.length_singleton];omega
 ·intro e hm;simp only [] at hm
  rcases List.mem_or_eq_of_mem_set hm with g|rfl
  ·exact h6 e g
  ·exact he _
theorem DelI.get {α:Type} {enc:α->List D} {p:α->Bool} {sz:Nat} {l:List α} {R:List (List D)} {j n:Nat} {u:List D} (h:DelI enc p sz l (l.map enc++List.replicate n u) (j,R)) (hj:j<l.length):R[j]?=some (enc l[j]):=by
 have h4:=h.rst;simp only [] at h4;have:=congrArg (fun x=>x[0]?) h4;simp only [List.getElem?_drop,Nat.add_zero] at this
 rw [this,List.getElem?_append_left (by rw [List.length_map];exact hj),List.getElem?_map,List.getElem?_eq_getElem hj];rfl
theorem DelI.init {α:Type} {enc:α->List D} {p:α->Bool} {sz:Nat} {l:List α} {n:Nat} {i:Nat} (hi:i<l.length) (hn:∀ j (hj:j<i),p (l[j]'(by omega))=false) (hp:p l[i]=true) (he:∀ x,(enc x).length=sz):
  DelI enc p sz l (l.map enc++List.replicate n (List.replicate sz D.unk)) (i+1,l.map enc++List.replicate n (List.replicate sz D.unk)) /\ ((l.take (i+1)).filter fun x=>!p x).length=i:=by
 have e:(l.take (i+1)).filter (fun x=>!p x)=l.take i:=by
  rw [filter_take_no hi hp,List.filter_eq_self.2];intro a ha;obtain ⟨j,hj,rfl⟩:=List.mem_iff_getElem.1 ha
  rw [List.getElem_take,hn j (by rw [List.length_take] at hj;omega)];rfl
 have el:(l.take i).length=i:=by rw [List.length_take];omega
 refine ⟨⟨hi,rfl,?_,rfl,?_,?_⟩,by rw [e,el]⟩
 ·simp only [];rw [e,el,List.take_append_of_le_length (by rw [List.length_map];omega),List.map_take]
 ·simp only [];rw [e,el];omega
 ·intro x hx;simp only [] at hx
  rcases List.mem_append.1 hx with g|g
  ·obtain ⟨y,_,rfl⟩:=List.mem_map.1 g;exact he y
  ·rw [(List.mem_replicate.1 g).2,List.length_replicate]
theorem ixF_first {α:Type} {p:α->Bool}:∀ {l:List α} {k i:Nat},ixF p l k=((k+i:Nat):Int)->∃ hi:i<l.length,p l[i]=true/\ ∀ j (hj:j<i),p (l[j]'(by omega))=false
 | [],k,i,h=>by rw [ixF] at h;omega
 |x::r,k,i,h=>by
  rw [ixF] at h
  split at h
  ·rename_i e
   have:i=0:=by omega
   subst this;exact ⟨Nat.zero_lt_succ _,e,fun j hj=>absurd hj (Nat.not_lt_zero _)⟩
  ·rename_i e
   cases i with
   |zero=>
    exfalso
    by_cases g:0<=ixF p r (k+1)
    ·obtain ⟨j,_,e2,_⟩:=ixF_yes (k:=k+1) (List.any_eq_true.1 ((ixF_ge p r (k+1)).1 g));omega
    ·omega
   |succ i=>
    obtain ⟨hi,h1,h2⟩:=ixF_first (l:=r) (k:=k+1) (i:=i) (by rw [h];omega);refine ⟨Nat.succ_lt_succ hi,h1,fun j hj=>?_⟩
    cases j with
    |zero=>simpa using e
    |succ j=>exact h2 j (by omega)
theorem ixF_m1 {α:Type} {p:α->Bool} {l:List α} {k:Nat} (h:ixF p l k=-1):∀ x∈l,p x=false:=by
 intro x hx
 cases e:p x with
 |false=>rfl
 |true=>
  obtain ⟨i,_,e2,_⟩:=ixF_yes (k:=k) ⟨x,hx,e⟩;omega
theorem ixF_cases {α:Type} (p:α->Bool) (l:List α):ixF p l 0=-1\/ ∃ i:Nat,ixF p l 0=(i:Int):=by
 by_cases h:∃ x∈l,p x=true
 ·obtain ⟨i,_,e,_⟩:=ixF_yes (k:=0) h;exact .inr ⟨0+i,e⟩
 ·left
  refine ixF_no fun x hx=>?_
  cases e:p x with
  |false=>rfl
  |true=>exact absurd ⟨x,hx,e⟩ h
theorem set_splice0 {R:List (List D)} {j sz:Nat} {e v:List D} (h1:e.length=sz) (h2:v.length=sz):R.set (0+j) (splice e 0 v)=R.set j v:=by
 rw [splice_all (by omega) (by omega),Nat.zero_add]
theorem ixClW (g:FuncId) (cs:List D) (p:Nat×Bool->Bool) (hg:∀ c:Nat×Bool,ACall Tryz.prog g (.agg (encCl c)::cs) (.bool (p c))) (l:List (Nat×Bool)) (R:List (List D)) (c:Nat) (hl:l.length<=1000000) (hRl:R.take l.length=l.map encCl):
  HCall Tryz.prog 254 [.win 1000000 0 l.length (some c),.d (.fn g cs)] [(1000000,.row R 3 false)] [(1000000,.row R 3 false)] (.int .i64 (ixF p l 0)):=by
 refine hcall_of Tryz.func254 2 rfl (by kernel_rfl) (by rfl) (w0 ?_);refine aloop (ι:=Nat) (fun k=>[(0,.win 1000000 0 l.length (some c)),(1,.d (.fn g cs)),(7,.d (.int .i64 l.length)),(8,.d (.int .i64 k))]) (fun _=>[(1000000,.row R 3 false)])
  (fun k=>k<=l.length/\ixF p (l.drop k) k=ixF p l 0) (fun k=>l.length-k) 0 ⟨Nat.zero_le _,rfl⟩ (le0 (le_of_cov ⟨rfl,rfl,rfl,rfl,trivial⟩ ⟨rfl,trivial⟩ ⟨rfl,rfl,rfl,rfl⟩)) ?_
 rintro k ⟨hk,hR⟩
 conv=>whnf
 refine bcase_p (fun h=>?_) (fun h=>?_)<;>conv=>whnf
 ·have hk2:k<l.length:=by omega
  have hg0:R[0+k]?=some (encCl l[k]):=by
   rw [Nat.zero_add]
   have:(R.take l.length)[k]?=some (encCl l[k]):=by rw [hRl,List.getElem?_map,List.getElem?_eq_getElem hk2];rfl
   rwa [List.getElem?_take_of_lt hk2] at this
  refine aO ?_;refine idxK_nat (by omega) (w0 ?_);refine getRow_of hg0 (aW ?_);rw [drop_cons hk2,ixF] at hR;refine callX_pure (hg l[k]) (w0 ?_)
  refine bcase_intro (fun h2=>?_) (fun h2=>?_)<;>conv=>whnf
  ·rw [if_pos h2] at hR;exact hret_of rfl (by rw [<-hR];rfl) rfl ⟨rfl,trivial⟩
  ·rw [if_neg (by rw [h2];decide)] at hR;refine aA ?_;exact ⟨k+1,⟨by omega,hR⟩,by omega,(le0 (le_of_cov ⟨rfl,rfl,rfl,rfl,trivial⟩ ⟨rfl,trivial⟩ ⟨rfl,rfl,rfl,rfl⟩))⟩
 ·have:k=l.length:=by omega
  subst this;simp [ixF] at hR;exact hret_of rfl (by rw [<-hR];rfl) rfl ⟨rfl,trivial⟩
theorem delCl (g:FuncId) (cs:List D) (p:Nat×Bool->Bool) (hg:∀ c:Nat×Bool,ACall Tryz.prog g (.agg (encCl c)::cs) (.bool (p c))) (l:List (Nat×Bool)) (hl:l.length<=1000000):WCall Tryz.prog 212 (l.map encCl) 3 [.d (.fn g cs)] [] [] ((l.filter fun x=>!p x).map encCl):=by
 refine wcall_of Tryz.func212 2 rfl (by kernel_rfl) (by rfl) ?_;refine ⟨fun cap hcap=>?_,fun h0=>?_⟩
 ·have hm:(l.map encCl).length=l.length:=List.length_map ..
  rw [hm] at hcap⊢;obtain ⟨F,hF⟩:∃ F,F=l.map encCl++List.replicate (cap-l.length) (List.replicate 3 D.unk):=⟨_,rfl⟩
  have hFl:F.length=cap:=by rw [hF];simp;omega
  have hFt:F.take l.length=l.map encCl:=by rw [hF];exact List.take_left' hm
  rw [<-hF]
  conv=>whnf
  refine callH_blk (ixClW g cs p hg l F cap hl hFt) [(1000000,1000004)] rfl ⟨rfl,trivial⟩ rfl (w0 ?_)
  rcases ixF_cases p l with e|⟨i,e⟩
  ·rw [e];refine aO ?_;refine wret_win rfl rfl rfl (by omega) ?_ rfl trivial;rw [hFt,List.filter_eq_self.2];intro x hx
   rw [ixF_m1 e x hx];rfl
  ·rw [e];obtain ⟨hi,hp,hb⟩:=ixF_first (i:=i) (k:=0) (by rw [e];congr 1;omega);obtain ⟨hD,hDl⟩:=DelI.init (enc:=encCl) (sz:=3) (n:=cap-l.length) hi hb hp (fun _=>rfl);rw [<-hF] at hD;refine aO ?_;refine aloop (ι:=Nat×List (List D)) (fun s=>[(0,.win 1000004 0 l.length (some cap)),(1,.d (.fn g cs)),(5,.d (.int .i64 ((l.take s.1).filter fun x=>!p x).length)),(6,.d (.int .i64 s.1))]) (fun s=>[(1000004,.row s.2 3 false)])
    (DelI encCl p 3 l F) (fun s=>l.length-s.1) (i+1,F) hD (le0 (le_of_cov ⟨rfl,rfl,by rw [hDl];rfl,rfl,trivial⟩ ⟨rfl,trivial⟩ ⟨rfl,rfl,rfl,rfl⟩)) ?_
   rintro ⟨j,R⟩ hI;have q1:=hI.le;have q2:=hI.len;have q3:=hI.fst;have q5:=hI.lt;simp only [] at q1 q2 q3 q5⊢
   conv=>whnf
   refine bcase_p (fun h5=>?_) (fun h5=>?_)<;>conv=>whnf
   ·have hj:j<l.length:=by omega
    have hq:R[0+j]?=some (encCl l[j]):=by rw [Nat.zero_add];rw [hF] at hI;exact hI.get hj
    refine idxK_nat (by omega) (w0 ?_);refine getRow_of hq (aO ?_);refine callX_pure (hg l[j]) (w0 ?_)
    cases h2:p l[j] with
    |true=>
     refine aO ?_;exact ⟨(j+1,R),hI.skip hj h2,by dsimp only;omega,le0 (le_of_cov ⟨rfl,rfl,by rw [filter_take_no hj h2];rfl,rfl,trivial⟩ ⟨rfl,trivial⟩ ⟨rfl,rfl,rfl,rfl⟩)⟩
    |false=>
     have hi3:((l.take j).filter fun x=>!p x).length<R.length:=by omega
     have hi4:((l.take j).filter fun x=>!p x).length<l.length:=by omega
     have hsz:=hI.sz _ (List.getElem_mem hi3);have hJ:=hI.put hj (by omega) h2 (fun _=>rfl);have es:=set_splice0 (R:=R) (j:=((l.take j).filter fun x=>!p x).length) (e:=R[((l.take j).filter fun x=>!p x).length]) (v:=encCl l[j]) hsz rfl;rw [<-es] at hJ
     have eN:((l.take (j+1)).filter fun x=>!p x).length=((l.take j).filter fun x=>!p x).length+1:=by rw [filter_take_yes hj h2,List.length_append];rfl
     refine aO ?_;refine idxK_nat (by omega) (w0 ?_);refine getRow_of (x:=R[((l.take j).filter fun x=>!p x).length]) (by rw [Nat.zero_add,List.getElem?_eq_getElem hi3]) (w0 ?_);refine bif_of (by rw [hsz];rfl) (aO ?_);refine ⟨(j+1,_),hJ,by dsimp only;omega,le0 (le_of_cov ⟨rfl,rfl,by rw [eN];rfl,rfl,trivial⟩ ⟨rfl,trivial⟩ ⟨rfl,rfl,rfl,rfl⟩)⟩
   ·have hjl:j=l.length:=by omega
    subst hjl;rw [List.take_length] at q3 q5⊢;refine aO ?_;refine winK_lo (by omega) (by show l.length<=cap;omega) (w0 ?_)
    have hfl:(l.filter fun x=>!p x).length<=l.length:=List.length_filter_le ..
    refine condK_of ⟨by omega,rfl⟩ (aO ?_);refine winK_hi (by show _<=cap;omega) (w0 ?_);refine wret_win rfl rfl rfl ?_ ?_ rfl trivial
    ·simp;omega
    ·rw [Nat.zero_add,<-q3];exact List.take_left' (by rw [List.length_take];omega)
 ·have:l=[]:=List.map_eq_nil_iff.1 h0;subst this
  conv=>whnf
  refine callX_pure (ixCl_ok g cs p hg [] (by simp)) (aO ?_);exact wret_nil rfl rfl rfl trivial
theorem ixTkW (g:FuncId) (cs:List D) (p:Nat->Bool) (hg:∀ c:Nat,ACall Tryz.prog g (.agg (encTk c)::cs) (.bool (p c))) (l:List (Nat)) (R:List (List D)) (c:Nat) (hl:l.length<=1000000) (hRl:R.take l.length=l.map encTk):
  HCall Tryz.prog 256 [.win 1000000 0 l.length (some c),.d (.fn g cs)] [(1000000,.row R 2 false)] [(1000000,.row R 2 false)] (.int .i64 (ixF p l 0)):=by
 refine hcall_of Tryz.func256 2 rfl (by kernel_rfl) (by rfl) (w0 ?_);refine aloop (ι:=Nat) (fun k=>[(0,.win 1000000 0 l.length (some c)),(1,.d (.fn g cs)),(7,.d (.int .i64 l.length)),(8,.d (.int .i64 k))]) (fun _=>[(1000000,.row R 2 false)])
  (fun k=>k<=l.length/\ixF p (l.drop k) k=ixF p l 0) (fun k=>l.length-k) 0 ⟨Nat.zero_le _,rfl⟩ (le0 (le_of_cov ⟨rfl,rfl,rfl,rfl,trivial⟩ ⟨rfl,trivial⟩ ⟨rfl,rfl,rfl,rfl⟩)) ?_
 rintro k ⟨hk,hR⟩
 conv=>whnf
 refine bcase_p (fun h=>?_) (fun h=>?_)<;>conv=>whnf
 ·have hk2:k<l.length:=by omega
  have hg0:R[0+k]?=some (encTk l[k]):=by
   rw [Nat.zero_add]
   have:(R.take l.length)[k]?=some (encTk l[k]):=by rw [hRl,List.getElem?_map,List.getElem?_eq_getElem hk2];rfl
   rwa [List.getElem?_take_of_lt hk2] at this
  refine aO ?_;refine idxK_nat (by omega) (w0 ?_);refine getRow_of hg0 (aW ?_);rw [drop_cons hk2,ixF] at hR;refine callX_pure (hg l[k]) (w0 ?_)
  refine bcase_intro (fun h2=>?_) (fun h2=>?_)<;>conv=>whnf
  ·rw [if_pos h2] at hR;exact hret_of rfl (by rw [<-hR];rfl) rfl ⟨rfl,trivial⟩
  ·rw [if_neg (by rw [h2];decide)] at hR;refine aA ?_;exact ⟨k+1,⟨by omega,hR⟩,by omega,(le0 (le_of_cov ⟨rfl,rfl,rfl,rfl,trivial⟩ ⟨rfl,trivial⟩ ⟨rfl,rfl,rfl,rfl⟩))⟩
 ·have:k=l.length:=by omega
  subst this;simp [ixF] at hR;exact hret_of rfl (by rw [<-hR];rfl) rfl ⟨rfl,trivial⟩
theorem delTk (g:FuncId) (cs:List D) (p:Nat->Bool) (hg:∀ c:Nat,ACall Tryz.prog g (.agg (encTk c)::cs) (.bool (p c))) (l:List (Nat)) (hl:l.length<=1000000):WCall Tryz.prog 214 (l.map encTk) 2 [.d (.fn g cs)] [] [] ((l.filter fun x=>!p x).map encTk):=by
 refine wcall_of Tryz.func214 2 rfl (by kernel_rfl) (by rfl) ?_;refine ⟨fun cap hcap=>?_,fun h0=>?_⟩
 ·have hm:(l.map encTk).length=l.length:=List.length_map ..
  rw [hm] at hcap⊢;obtain ⟨F,hF⟩:∃ F,F=l.map encTk++List.replicate (cap-l.length) (List.replicate 2 D.unk):=⟨_,rfl⟩
  have hFl:F.length=cap:=by rw [hF];simp;omega
  have hFt:F.take l.length=l.map encTk:=by rw [hF];exact List.take_left' hm
  rw [<-hF]
  conv=>whnf
  refine callH_blk (ixTkW g cs p hg l F cap hl hFt) [(1000000,1000004)] rfl ⟨rfl,trivial⟩ rfl (w0 ?_)
  rcases ixF_cases p l with e|⟨i,e⟩
  ·rw [e];refine aO ?_;refine wret_win rfl rfl rfl (by omega) ?_ rfl trivial;rw [hFt,List.filter_eq_self.2];intro x hx
   rw [ixF_m1 e x hx];rfl
  ·rw [e];obtain ⟨hi,hp,hb⟩:=ixF_first (i:=i) (k:=0) (by rw [e];congr 1;omega);obtain ⟨hD,hDl⟩:=DelI.init (enc:=encTk) (sz:=2) (n:=cap-l.length) hi hb hp (fun _=>rfl);rw [<-hF] at hD;refine aO ?_;refine aloop (ι:=Nat×List (List D)) (fun s=>[(0,.win 1000004 0 l.length (some cap)),(1,.d (.fn g cs)),(5,.d (.int .i64 ((l.take s.1).filter fun x=>!p x).length)),(6,.d (.int .i64 s.1))]) (fun s=>[(1000004,.row s.2 2 false)])
    (DelI encTk p 2 l F) (fun s=>l.length-s.1) (i+1,F) hD (le0 (le_of_cov ⟨rfl,rfl,by rw [hDl];rfl,rfl,trivial⟩ ⟨rfl,trivial⟩ ⟨rfl,rfl,rfl,rfl⟩)) ?_
   rintro ⟨j,R⟩ hI;have q1:=hI.le;have q2:=hI.len;have q3:=hI.fst;have q5:=hI.lt;simp only [] at q1 q2 q3 q5⊢
   conv=>whnf
   refine bcase_p (fun h5=>?_) (fun h5=>?_)<;>conv=>whnf
   ·have hj:j<l.length:=by omega
    have hq:R[0+j]?=some (encTk l[j]):=by rw [Nat.zero_add];rw [hF] at hI;exact hI.get hj
    refine idxK_nat (by omega) (w0 ?_);refine getRow_of hq (aO ?_);refine callX_pure (hg l[j]) (w0 ?_)
    cases h2:p l[j] with
    |true=>
     refine aO ?_;exact ⟨(j+1,R),hI.skip hj h2,by dsimp only;omega,le0 (le_of_cov ⟨rfl,rfl,by rw [filter_take_no hj h2];rfl,rfl,trivial⟩ ⟨rfl,trivial⟩ ⟨rfl,rfl,rfl,rfl⟩)⟩
    |false=>
     have hi3:((l.take j).filter fun x=>!p x).length<R.length:=by omega
     have hi4:((l.take j).filter fun x=>!p x).length<l.length:=by omega
     have hsz:=hI.sz _ (List.getElem_mem hi3);have hJ:=hI.put hj (by omega) h2 (fun _=>rfl);have es:=set_splice0 (R:=R) (j:=((l.take j).filter fun x=>!p x).length) (e:=R[((l.take j).filter fun x=>!p x).length]) (v:=encTk l[j]) hsz rfl;rw [<-es] at hJ
     have eN:((l.take (j+1)).filter fun x=>!p x).length=((l.take j).filter fun x=>!p x).length+1:=by rw [filter_take_yes hj h2,List.length_append];rfl
     refine aO ?_;refine idxK_nat (by omega) (w0 ?_);refine getRow_of (x:=R[((l.take j).filter fun x=>!p x).length]) (by rw [Nat.zero_add,List.getElem?_eq_getElem hi3]) (w0 ?_);refine bif_of (by rw [hsz];rfl) (aO ?_);refine ⟨(j+1,_),hJ,by dsimp only;omega,le0 (le_of_cov ⟨rfl,rfl,by rw [eN];rfl,rfl,trivial⟩ ⟨rfl,trivial⟩ ⟨rfl,rfl,rfl,rfl⟩)⟩
   ·have hjl:j=l.length:=by omega
    subst hjl;rw [List.take_length] at q3 q5⊢;refine aO ?_;refine winK_lo (by omega) (by show l.length<=cap;omega) (w0 ?_)
    have hfl:(l.filter fun x=>!p x).length<=l.length:=List.length_filter_le ..
    refine condK_of ⟨by omega,rfl⟩ (aO ?_);refine winK_hi (by show _<=cap;omega) (w0 ?_);refine wret_win rfl rfl rfl ?_ ?_ rfl trivial
    ·simp;omega
    ·rw [Nat.zero_add,<-q3];exact List.take_left' (by rw [List.length_take];omega)
 ·have:l=[]:=List.map_eq_nil_iff.1 h0;subst this
  conv=>whnf
  refine callX_pure (ixTk_ok g cs p hg [] (by simp)) (aO ?_);exact wret_nil rfl rfl rfl trivial
theorem ixNW (g:FuncId) (cs:List D) (p:Nat->Bool) (hg:∀ c:Nat,ACall Tryz.prog g (.int .i64 c::cs) (.bool (p c))) (l:List (Nat)) (R:List (List D)) (c:Nat) (hl:l.length<=1000000) (hRl:R.take l.length=l.map encN):
  HCall Tryz.prog 265 [.win 1000000 0 l.length (some c),.d (.fn g cs)] [(1000000,.row R 1 false)] [(1000000,.row R 1 false)] (.int .i64 (ixF p l 0)):=by
 refine hcall_of Tryz.func265 2 rfl (by kernel_rfl) (by rfl) (w0 ?_);refine aloop (ι:=Nat) (fun k=>[(0,.win 1000000 0 l.length (some c)),(1,.d (.fn g cs)),(7,.d (.int .i64 l.length)),(8,.d (.int .i64 k))]) (fun _=>[(1000000,.row R 1 false)])
  (fun k=>k<=l.length/\ixF p (l.drop k) k=ixF p l 0) (fun k=>l.length-k) 0 ⟨Nat.zero_le _,rfl⟩ (le0 (le_of_cov ⟨rfl,rfl,rfl,rfl,trivial⟩ ⟨rfl,trivial⟩ ⟨rfl,rfl,rfl,rfl⟩)) ?_
 rintro k ⟨hk,hR⟩
 conv=>whnf
 refine bcase_p (fun h=>?_) (fun h=>?_)<;>conv=>whnf
 ·have hk2:k<l.length:=by omega
  have hg0:R[0+k]?=some (encN l[k]):=by
   rw [Nat.zero_add]
   have:(R.take l.length)[k]?=some (encN l[k]):=by rw [hRl,List.getElem?_map,List.getElem?_eq_getElem hk2];rfl
   rwa [List.getElem?_take_of_lt hk2] at this
  refine aO ?_;refine idxK_nat (by omega) (w0 ?_);refine getRow_of hg0 (aW ?_);rw [drop_cons hk2,ixF] at hR;refine callX_pure (hg l[k]) (w0 ?_)
  refine bcase_intro (fun h2=>?_) (fun h2=>?_)<;>conv=>whnf
  ·rw [if_pos h2] at hR;exact hret_of rfl (by rw [<-hR];rfl) rfl ⟨rfl,trivial⟩
  ·rw [if_neg (by rw [h2];decide)] at hR;refine aA ?_;exact ⟨k+1,⟨by omega,hR⟩,by omega,(le0 (le_of_cov ⟨rfl,rfl,rfl,rfl,trivial⟩ ⟨rfl,trivial⟩ ⟨rfl,rfl,rfl,rfl⟩))⟩
 ·have:k=l.length:=by omega
  subst this;simp [ixF] at hR;exact hret_of rfl (by rw [<-hR];rfl) rfl ⟨rfl,trivial⟩
theorem delN (g:FuncId) (cs:List D) (p:Nat->Bool) (hg:∀ c:Nat,ACall Tryz.prog g (.int .i64 c::cs) (.bool (p c))) (l:List (Nat)) (hl:l.length<=1000000):WCall Tryz.prog 207 (l.map encN) 1 [.d (.fn g cs)] [] [] ((l.filter fun x=>!p x).map encN):=by
 refine wcall_of Tryz.func207 2 rfl (by kernel_rfl) (by rfl) ?_;refine ⟨fun cap hcap=>?_,fun h0=>?_⟩
 ·have hm:(l.map encN).length=l.length:=List.length_map ..
  rw [hm] at hcap⊢;obtain ⟨F,hF⟩:∃ F,F=l.map encN++List.replicate (cap-l.length) (List.replicate 1 D.unk):=⟨_,rfl⟩
  have hFl:F.length=cap:=by rw [hF];simp;omega
  have hFt:F.take l.length=l.map encN:=by rw [hF];exact List.take_left' hm
  rw [<-hF]
  conv=>whnf
  refine callH_blk (ixNW g cs p hg l F cap hl hFt) [(1000000,1000004)] rfl ⟨rfl,trivial⟩ rfl (w0 ?_)
  rcases ixF_cases p l with e|⟨i,e⟩
  ·rw [e];refine aO ?_;refine wret_win rfl rfl rfl (by omega) ?_ rfl trivial;rw [hFt,List.filter_eq_self.2];intro x hx
   rw [ixF_m1 e x hx];rfl
  ·rw [e];obtain ⟨hi,hp,hb⟩:=ixF_first (i:=i) (k:=0) (by rw [e];congr 1;omega);obtain ⟨hD,hDl⟩:=DelI.init (enc:=encN) (sz:=1) (n:=cap-l.length) hi hb hp (fun _=>rfl);rw [<-hF] at hD;refine aO ?_;refine aloop (ι:=Nat×List (List D)) (fun s=>[(0,.win 1000004 0 l.length (some cap)),(1,.d (.fn g cs)),(5,.d (.int .i64 ((l.take s.1).filter fun x=>!p x).length)),(6,.d (.int .i64 s.1))]) (fun s=>[(1000004,.row s.2 1 false)])
    (DelI encN p 1 l F) (fun s=>l.length-s.1) (i+1,F) hD (le0 (le_of_cov ⟨rfl,rfl,by rw [hDl];rfl,rfl,trivial⟩ ⟨rfl,trivial⟩ ⟨rfl,rfl,rfl,rfl⟩)) ?_
   rintro ⟨j,R⟩ hI;have q1:=hI.le;have q2:=hI.len;have q3:=hI.fst;have q5:=hI.lt;simp only [] at q1 q2 q3 q5⊢
   conv=>whnf
   refine bcase_p (fun h5=>?_) (fun h5=>?_)<;>conv=>whnf
   ·have hj:j<l.length:=by omega
    have hq:R[0+j]?=some (encN l[j]):=by rw [Nat.zero_add];rw [hF] at hI;exact hI.get hj
    refine idxK_nat (by omega) (w0 ?_);refine getRow_of hq (aO ?_);refine callX_pure (hg l[j]) (w0 ?_)
    cases h2:p l[j] with
    |true=>
     refine aO ?_;exact ⟨(j+1,R),hI.skip hj h2,by dsimp only;omega,le0 (le_of_cov ⟨rfl,rfl,by rw [filter_take_no hj h2];rfl,rfl,trivial⟩ ⟨rfl,trivial⟩ ⟨rfl,rfl,rfl,rfl⟩)⟩
    |false=>
     have hi3:((l.take j).filter fun x=>!p x).length<R.length:=by omega
     have hi4:((l.take j).filter fun x=>!p x).length<l.length:=by omega
     have hsz:=hI.sz _ (List.getElem_mem hi3);have hJ:=hI.put hj (by omega) h2 (fun _=>rfl);have es:=set_splice0 (R:=R) (j:=((l.take j).filter fun x=>!p x).length) (e:=R[((l.take j).filter fun x=>!p x).length]) (v:=encN l[j]) hsz rfl;rw [<-es] at hJ
     have eN:((l.take (j+1)).filter fun x=>!p x).length=((l.take j).filter fun x=>!p x).length+1:=by rw [filter_take_yes hj h2,List.length_append];rfl
     refine aO ?_;refine idxK_nat (by omega) (w0 ?_);refine getRow_of (x:=R[((l.take j).filter fun x=>!p x).length]) (by rw [Nat.zero_add,List.getElem?_eq_getElem hi3]) (w0 ?_);refine bif_of (by rw [hsz];rfl) (aO ?_);refine ⟨(j+1,_),hJ,by dsimp only;omega,le0 (le_of_cov ⟨rfl,rfl,by rw [eN];rfl,rfl,trivial⟩ ⟨rfl,trivial⟩ ⟨rfl,rfl,rfl,rfl⟩)⟩
   ·have hjl:j=l.length:=by omega
    subst hjl;rw [List.take_length] at q3 q5⊢;refine aO ?_;refine winK_lo (by omega) (by show l.length<=cap;omega) (w0 ?_)
    have hfl:(l.filter fun x=>!p x).length<=l.length:=List.length_filter_le ..
    refine condK_of ⟨by omega,rfl⟩ (aO ?_);refine winK_hi (by show _<=cap;omega) (w0 ?_);refine wret_win rfl rfl rfl ?_ ?_ rfl trivial
    ·simp;omega
    ·rw [Nat.zero_add,<-q3];exact List.take_left' (by rw [List.length_take];omega)
 ·have:l=[]:=List.map_eq_nil_iff.1 h0;subst this
  conv=>whnf
  refine callX_pure (ixN_ok g cs p hg [] (by simp)) (aO ?_);exact wret_nil rfl rfl rfl trivial
theorem ixWtW (g:FuncId) (cs:List D) (p:Nat×Bool->Bool) (hg:∀ c:Nat×Bool,ACall Tryz.prog g (.agg (encWt c)::cs) (.bool (p c))) (l:List (Nat×Bool)) (R:List (List D)) (c:Nat) (hl:l.length<=1000000) (hRl:R.take l.length=l.map encWt):
  HCall Tryz.prog 266 [.win 1000000 0 l.length (some c),.d (.fn g cs)] [(1000000,.row R 2 false)] [(1000000,.row R 2 false)] (.int .i64 (ixF p l 0)):=by
 refine hcall_of Tryz.func266 2 rfl (by kernel_rfl) (by rfl) (w0 ?_);refine aloop (ι:=Nat) (fun k=>[(0,.win 1000000 0 l.length (some c)),(1,.d (.fn g cs)),(7,.d (.int .i64 l.length)),(8,.d (.int .i64 k))]) (fun _=>[(1000000,.row R 2 false)])
  (fun k=>k<=l.length/\ixF p (l.drop k) k=ixF p l 0) (fun k=>l.length-k) 0 ⟨Nat.zero_le _,rfl⟩ (le0 (le_of_cov ⟨rfl,rfl,rfl,rfl,trivial⟩ ⟨rfl,trivial⟩ ⟨rfl,rfl,rfl,rfl⟩)) ?_
 rintro k ⟨hk,hR⟩
 conv=>whnf
 refine bcase_p (fun h=>?_) (fun h=>?_)<;>conv=>whnf
 ·have hk2:k<l.length:=by omega
  have hg0:R[0+k]?=some (encWt l[k]):=by
   rw [Nat.zero_add]
   have:(R.take l.length)[k]?=some (encWt l[k]):=by rw [hRl,List.getElem?_map,List.getElem?_eq_getElem hk2];rfl
   rwa [List.getElem?_take_of_lt hk2] at this
  refine aO ?_;refine idxK_nat (by omega) (w0 ?_);refine getRow_of hg0 (aW ?_);rw [drop_cons hk2,ixF] at hR;refine callX_pure (hg l[k]) (w0 ?_)
  refine bcase_intro (fun h2=>?_) (fun h2=>?_)<;>conv=>whnf
  ·rw [if_pos h2] at hR;exact hret_of rfl (by rw [<-hR];rfl) rfl ⟨rfl,trivial⟩
  ·rw [if_neg (by rw [h2];decide)] at hR;refine aA ?_;exact ⟨k+1,⟨by omega,hR⟩,by omega,(le0 (le_of_cov ⟨rfl,rfl,rfl,rfl,trivial⟩ ⟨rfl,trivial⟩ ⟨rfl,rfl,rfl,rfl⟩))⟩
 ·have:k=l.length:=by omega
  subst this;simp [ixF] at hR;exact hret_of rfl (by rw [<-hR];rfl) rfl ⟨rfl,trivial⟩
theorem delWt (g:FuncId) (cs:List D) (p:Nat×Bool->Bool) (hg:∀ c:Nat×Bool,ACall Tryz.prog g (.agg (encWt c)::cs) (.bool (p c))) (l:List (Nat×Bool)) (hl:l.length<=1000000):WCall Tryz.prog 210 (l.map encWt) 2 [.d (.fn g cs)] [] [] ((l.filter fun x=>!p x).map encWt):=by
 refine wcall_of Tryz.func210 2 rfl (by kernel_rfl) (by rfl) ?_;refine ⟨fun cap hcap=>?_,fun h0=>?_⟩
 ·have hm:(l.map encWt).length=l.length:=List.length_map ..
  rw [hm] at hcap⊢;obtain ⟨F,hF⟩:∃ F,F=l.map encWt++List.replicate (cap-l.length) (List.replicate 2 D.unk):=⟨_,rfl⟩
  have hFl:F.length=cap:=by rw [hF];simp;omega
  have hFt:F.take l.length=l.map encWt:=by rw [hF];exact List.take_left' hm
  rw [<-hF]
  conv=>whnf
  refine callH_blk (ixWtW g cs p hg l F cap hl hFt) [(1000000,1000004)] rfl ⟨rfl,trivial⟩ rfl (w0 ?_)
  rcases ixF_cases p l with e|⟨i,e⟩
  ·rw [e];refine aO ?_;refine wret_win rfl rfl rfl (by omega) ?_ rfl trivial;rw [hFt,List.filter_eq_self.2];intro x hx
   rw [ixF_m1 e x hx];rfl
  ·rw [e];obtain ⟨hi,hp,hb⟩:=ixF_first (i:=i) (k:=0) (by rw [e];congr 1;omega);obtain ⟨hD,hDl⟩:=DelI.init (enc:=encWt) (sz:=2) (n:=cap-l.length) hi hb hp (fun _=>rfl);rw [<-hF] at hD;refine aO ?_;refine aloop (ι:=Nat×List (List D)) (fun s=>[(0,.win 1000004 0 l.length (some cap)),(1,.d (.fn g cs)),(5,.d (.int .i64 ((l.take s.1).filter fun x=>!p x).length)),(6,.d (.int .i64 s.1))]) (fun s=>[(1000004,.row s.2 2 false)])
    (DelI encWt p 2 l F) (fun s=>l.length-s.1) (i+1,F) hD (le0 (le_of_cov ⟨rfl,rfl,by rw [hDl];rfl,rfl,trivial⟩ ⟨rfl,trivial⟩ ⟨rfl,rfl,rfl,rfl⟩)) ?_
   rintro ⟨j,R⟩ hI;have q1:=hI.le;have q2:=hI.len;have q3:=hI.fst;have q5:=hI.lt;simp only [] at q1 q2 q3 q5⊢
   conv=>whnf
   refine bcase_p (fun h5=>?_) (fun h5=>?_)<;>conv=>whnf
   ·have hj:j<l.length:=by omega
    have hq:R[0+j]?=some (encWt l[j]):=by rw [Nat.zero_add];rw [hF] at hI;exact hI.get hj
    refine idxK_nat (by omega) (w0 ?_);refine getRow_of hq (aO ?_);refine callX_pure (hg l[j]) (w0 ?_)
    cases h2:p l[j] with
    |true=>
     refine aO ?_;exact ⟨(j+1,R),hI.skip hj h2,by dsimp only;omega,le0 (le_of_cov ⟨rfl,rfl,by rw [filter_take_no hj h2];rfl,rfl,trivial⟩ ⟨rfl,trivial⟩ ⟨rfl,rfl,rfl,rfl⟩)⟩
    |false=>
     have hi3:((l.take j).filter fun x=>!p x).length<R.length:=by omega
     have hi4:((l.take j).filter fun x=>!p x).length<l.length:=by omega
     have hsz:=hI.sz _ (List.getElem_mem hi3);have hJ:=hI.put hj (by omega) h2 (fun _=>rfl);have es:=set_splice0 (R:=R) (j:=((l.take j).filter fun x=>!p x).length) (e:=R[((l.take j).filter fun x=>!p x).length]) (v:=encWt l[j]) hsz rfl;rw [<-es] at hJ
     have eN:((l.take (j+1)).filter fun x=>!p x).length=((l.take j).filter fun x=>!p x).length+1:=by rw [filter_take_yes hj h2,List.length_append];rfl
     refine aO ?_;refine idxK_nat (by omega) (w0 ?_);refine getRow_of (x:=R[((l.take j).filter fun x=>!p x).length]) (by rw [Nat.zero_add,List.getElem?_eq_getElem hi3]) (w0 ?_);refine bif_of (by rw [hsz];rfl) (aO ?_);refine ⟨(j+1,_),hJ,by dsimp only;omega,le0 (le_of_cov ⟨rfl,rfl,by rw [eN];rfl,rfl,trivial⟩ ⟨rfl,trivial⟩ ⟨rfl,rfl,rfl,rfl⟩)⟩
   ·have hjl:j=l.length:=by omega
    subst hjl;rw [List.take_length] at q3 q5⊢;refine aO ?_;refine winK_lo (by omega) (by show l.length<=cap;omega) (w0 ?_)
    have hfl:(l.filter fun x=>!p x).length<=l.length:=List.length_filter_le ..
    refine condK_of ⟨by omega,rfl⟩ (aO ?_);refine winK_hi (by show _<=cap;omega) (w0 ?_);refine wret_win rfl rfl rfl ?_ ?_ rfl trivial
    ·simp;omega
    ·rw [Nat.zero_add,<-q3];exact List.take_left' (by rw [List.length_take];omega)
 ·have:l=[]:=List.map_eq_nil_iff.1 h0;subst this
  conv=>whnf
  refine callX_pure (ixWt_ok g cs p hg [] (by simp)) (aO ?_);exact wret_nil rfl rfl rfl trivial
theorem index_ok (v:Int) (l:List Nat) (hl:l.length<=1000000):ACall Tryz.prog 258 [.lst (l.map encN),.int .i64 v] (.int .i64 (ixF (isT v) l 0)):=by
 refine acall_of Tryz.func258 2 rfl (by kernel_rfl) (w0 ?_);refine aloop (ι:=Nat) (fun k=>[(0,.d (.lst (l.map encN))),(1,.d (.int .i64 v)),(7,.d (.int .i64 (l.map encN).length)),(8,.d (.int .i64 k))]) (fun _=>[])
  (fun k=>k<=l.length/\ixF (isT v) (l.drop k) k=ixF (isT v) l 0) (fun k=>l.length-k) 0 ⟨Nat.zero_le _,rfl⟩ (le0 (le_of_cov ⟨rfl,rfl,rfl,rfl,trivial⟩ trivial ⟨rfl,rfl,rfl,rfl⟩)) ?_
 rintro k ⟨hk,hR⟩
 conv=>whnf
 refine bcase_p (fun h=>?_) (fun h=>?_)<;>conv=>whnf
 ·have hk2:k<l.length:=by simpa using h
  refine idxK_nat (by omega) (w0 ?_);refine getRow_of (x:=encN l[k]) (by simp [hk2]) (aW ?_);rw [drop_cons hk2,ixF] at hR
  refine bcase_p (fun h2=>?_) (fun h2=>?_)<;>conv=>whnf
  ·rw [if_pos (by rw [isT,h2];simp)] at hR;exact ret_of rfl (by rw [<-hR];rfl)
  ·rw [if_neg (by rw [isT];simpa using fun e=>h2 e.symm)] at hR;refine aA ?_;exact ⟨k+1,⟨by omega,hR⟩,by omega,(le0 (le_of_cov ⟨rfl,rfl,rfl,rfl,trivial⟩ trivial ⟨rfl,rfl,rfl,rfl⟩))⟩
 ·have:k=l.length:=by simp at h;omega
  subst this;simp [ixF] at hR;exact ret_of rfl (by rw [<-hR];rfl)
theorem contains_ok (v:Int) (l:List Nat) (hl:l.length<=1000000):ACall Tryz.prog 197 [.lst (l.map encN),.int .i64 v] (.bool (decide (0<=ixF (isT v) l 0))):=by
 refine acall_of Tryz.func197 2 rfl (by kernel_rfl) (w0 ?_);refine callX_pure (index_ok v l hl) (aW ?_);exact ret_of rfl rfl
theorem HOk.cls {h:HA} (o:HOk h):ClOk h.cl:=
 ⟨by have:=o.len;omega,fun c hc=>o.lt c.1 (List.mem_append_left _ (List.mem_map_of_mem hc)),(List.nodup_append.1 o.nd).1⟩
theorem HOk.qlt {h:HA} (o:HOk h) {k:Nat} (hk:k<h.q.length):h.q[k]<4:=o.lt _ (List.mem_append_right _ (List.getElem_mem hk))
theorem HOk.nocl {h:HA} (o:HOk h) {k:Nat} (hk:k<h.q.length):ixF (isC h.q[k]) h.cl 0=-1:=by
 refine ixF_no fun x hx=>?_
 have:=(List.nodup_append.1 o.nd).2.2 x.1 (List.mem_map_of_mem hx) h.q[k] (List.getElem_mem hk)
 rw [isC,decide_eq_false];omega
theorem HOk.notk {h:HA} (o:HOk h) {k:Nat} (hk:k<h.q.length):ixF (isT h.q[k]) (h.q.take k) 0=-1:=by
 refine ixF_no fun x hx=>?_
 obtain ⟨j,hj,rfl⟩:=List.mem_iff_getElem.1 hx;rw [List.length_take] at hj;have:=nd_ne (List.nodup_append.1 o.nd).2.1 (show j<k by omega) hk
 rw [List.getElem_take,isT,decide_eq_false];omega
theorem HOk.noopen {h:HA} (o:HOk h):openH h=false:=by
 have:=o.shut;rw [openH]
 split
 ·rfl
 ·rename_i e;rw [e] at this
  rcases this with g|g
  ·cases g
  ·rw [decide_eq_false];omega
theorem admitR_ok (h:HA) (o:HOk h):ACall Tryz.prog 192 [encHA h] (.bool true):=by
 have n1:=o.n1;have n8:=o.n8;have hlen:=o.len;have hheld:=o.held
 have hml:(h.cl.map encCl).length=h.cl.length:=List.length_map ..
 have hmq:(h.q.map encTk).length=h.q.length:=List.length_map ..
 refine acall_of Tryz.func192 1 rfl (by kernel_rfl) (aO ?_);refine callX_pure (bankR_ok h.cl o.cls) (aO ?_);refine aloop (ι:=Nat) (fun k=>[(1,.ptr 1 0 0),(41,.d (.lst (h.cl.map encCl))),(42,.d (.int .i64 (h.cl.map encCl).length)),(43,.d (.int .i64 k))]) (fun _=>[(1,.box (h.cells.map AV.d) false)])
  (fun k=>k<=h.cl.length) (fun k=>h.cl.length-k) 0 (Nat.zero_le _) (le0 (le_of_cov ⟨rfl,rfl,rfl,rfl,trivial⟩ ⟨rfl,trivial⟩ ⟨rfl,rfl,rfl,rfl⟩)) ?_
 intro k hk
 conv=>whnf
 refine bcase_p (fun h5=>?_) (fun h5=>?_)<;>conv=>whnf
 ·have hk2:k<h.cl.length:=by omega
  refine idxK_nat (by omega) (w0 ?_);refine getRow_of (x:=encCl h.cl[k]) (by simp [hk2]) (aW ?_);refine callX_pure (claimable_ok h n1) (aW ?_);exact ⟨k+1,by omega,by omega,(le0 (le_of_cov ⟨rfl,rfl,rfl,rfl,trivial⟩ ⟨rfl,trivial⟩ ⟨rfl,rfl,rfl,rfl⟩))⟩
 refine aO ?_;refine aloop (ι:=Nat) (fun k=>[(1,.ptr 1 0 0),(54,.d (.lst (h.q.map encTk))),(55,.d (.int .i64 (h.q.map encTk).length)),(56,.d (.int .i64 k))]) (fun _=>[(1,.box (h.cells.map AV.d) false)])
  (fun k=>k<=h.q.length) (fun k=>h.q.length-k) 0 (Nat.zero_le _) (le0 (le_of_cov ⟨rfl,rfl,rfl,rfl,trivial⟩ ⟨rfl,trivial⟩ ⟨rfl,rfl,rfl,rfl⟩)) ?_
 intro k hk
 conv=>whnf
 refine bcase_p (fun h5=>?_) (fun h5=>?_)<;>conv=>whnf
 ·have hk2:k<h.q.length:=by omega
  have hlt:=o.qlt hk2
  have ht:ACall Tryz.prog 195 [.lst (((h.q.map encTk).take k).drop 0),.int .i64 h.q[k]] (.int .i64 (ixF (isT h.q[k]) (h.q.take k) 0)):=by
   rw [List.drop_zero,<-List.map_take];exact ticket_ok _ _ (by rw [List.length_take];omega)
  rw [o.notk hk2] at ht;have hc:=client_ok (h.q[k]:Int) h.cl (by omega);rw [o.nocl hk2] at hc;refine idxK_nat (by omega) (w0 ?_);refine getRow_of (x:=encTk h.q[k]) (by simp [hk2]) (aW ?_);refine aO ?_;refine callX_pure (claimable_ok h n1) (aO ?_);refine callX_pure hc (aO ?_);refine condK_of (fun e he=>encTk_len he) (w0 ?_);refine sliceK_hi (by omega) (aO ?_);refine callX_pure ht (aO ?_);exact ⟨k+1,by omega,by omega,(le0 (le_of_cov ⟨rfl,rfl,rfl,rfl,trivial⟩ ⟨rfl,trivial⟩ ⟨rfl,rfl,rfl,rfl⟩))⟩
 refine aO ?_;refine callX_pure (left_ok h (by omega) (by omega)) (aO ?_);refine callX_pure (safe_ok _ h.cl o.cls (by omega) (by omega) (by omega)) (aO ?_);refine callX_pure (openH_ok h (by omega) (by omega)) (w0 ?_);rw [o.noopen];refine aO ?_;exact ret_of rfl rfl
def inH (n:Nat):List (Nat×Bool)->List Nat->List Nat
 |_,[]=>[]
 |cl,w::q=>if cl.length<2*n then w::inH n (cl++[(w,false)]) q else []
theorem inH_len (n:Nat):∀ (cl:List (Nat×Bool)) (q:List Nat),(inH n cl q).length<=q.length
 |_,[]=>Nat.le_refl _
 |cl,w::q=>by
  rw [inH];split
  ·have:=inH_len n (cl++[(w,false)]) q
   simp;omega
  ·exact Nat.zero_le _
structure EntI (n:Nat) (cl0:List (Nat×Bool)) (q0:List Nat) (s:List (Nat×Bool)×List Nat×List Nat):Prop where
 len:s.1.length+s.2.1.length=cl0.length+q0.length
 ins:s.2.2.length+s.2.1.length=q0.length
 eq:enterHA n s.1 s.2.1=enterHA n cl0 q0
 inn:s.2.2++inH n s.1 s.2.1=inH n cl0 q0
theorem enter_ok (h:HA) (h8:h.n<=8) (hl:h.cl.length+h.q.length<=7):ACall Tryz.prog 196 [encHA h] (.tup [encHA (mkH h.n (enterHA h.n h.cl h.q)),.lst ((inH h.n h.cl h.q).map encN)]):=by
 obtain ⟨n,cl0,q0⟩:=h;simp only [] at h8 hl⊢;refine acall_of Tryz.func196 1 rfl (by kernel_rfl) (aO ?_);refine callX_own (cloneCl (encCl_ok cl0) (by rw [List.length_map];show cl0.length<=1000000;omega)) (aO ?_);refine aloop (ι:=List (Nat×Bool)×List Nat×List Nat) (fun s=>[(1,.ptr 1 0 0),(2,.ptr 2 0 0),(4,.own 34)]) (fun s=>[(1,.box [.d (.int .i64 n),.d (.int .i64 1),.own 8,.d (.lst (s.2.1.map encTk))] false),(2,.box [.d (.int .i64 0),.d (.int .i64 0),.nil,.nil] false),(8,.row (s.1.map encCl) 3 false),(34,.row (s.2.2.map encN) 1 false)])
  (EntI n cl0 q0) (fun s=>s.2.1.length) (cl0,q0,[]) ⟨rfl,Nat.zero_add _,rfl,rfl⟩ (le1 (.row 4 34 1) ⟨rfl,rfl⟩ (le_of_cov ⟨rfl,rfl,rfl,trivial⟩ ⟨rfl,rfl,rfl,rfl,trivial⟩ ⟨rfl,rfl,rfl,rfl⟩)) ?_
 rintro ⟨cl,q,ins⟩ hI;obtain ⟨i1,i2,i3,i4⟩:=hI;simp only [] at i1 i2 i3 i4⊢;refine aO ?_;refine callX_pure (openH_ok ⟨n,cl,q⟩ (by show cl.length<=7;omega) (by show n<=1000;omega)) (w0 ?_)
 cases q with
 |nil=>
  rw [openH];refine aO ?_;rw [enterHA] at i3;rw [inH,List.append_nil] at i4;rw [<-i3,<-i4];exact ret_of rfl rfl
 |cons w q=>
  rw [openH]
  refine bcase_p (fun g=>?_) (fun g=>?_)<;>conv=>whnf
  ·replace g:(cl.length:Int)+1<=2*n:=g
   have es:((((w::q).map encTk).take ((w::q).map encTk).length).drop 1)=q.map encTk:=by rw [List.take_length];rfl
   refine aO ?_;refine idxK_nat (i:=0) (by simp) (w0 ?_);refine getRow_of (x:=encTk w) rfl (aO ?_);refine condK_of (fun e he=>encTk_len he) (w0 ?_);refine sliceK_lo (l:=1) (by simp) (aO ?_);simp only [List.length_cons] at i1 i2
   have hmc:(cl.map encCl).length=cl.length:=List.length_map ..
   have hmi:(ins.map encN).length=ins.length:=List.length_map ..
   refine roomK_le 1000 100 (by show (cl.map encCl).length+1<=1000;omega) (by decide) (by decide) (by decide) (aO ?_);refine roomK_le 1000 100 (by show (ins.map encN).length+1<=1000;omega) (by decide) (by decide) (by decide) (w0 ?_);rw [enterHA,if_pos (by omega)] at i3;rw [inH,if_pos (by omega)] at i4;refine ⟨(cl++[(w,false)],q,ins++[w]),⟨by simp;omega,by simp;omega,i3,by rw [<-i4];simp⟩,by simp,le0 (le_of_cov ⟨rfl,rfl,rfl,trivial⟩ ⟨by rw [<-es];rfl,rfl,by rw [List.map_append];rfl,by rw [List.map_append];rfl,trivial⟩ ⟨rfl,rfl,rfl,rfl⟩)⟩
  ·replace g:¬(cl.length:Int)+1<=2*n:=g;refine aO ?_;rw [enterHA,if_neg (by omega)] at i3;rw [inH,if_neg (by omega),List.append_nil] at i4;rw [<-i3,<-i4];exact ret_of rfl rfl
theorem no_cl {h:HA} {w:Nat} (hn:w∉h.all):ixF (isC w) h.cl 0=-1:=by
 refine ixF_no fun x hx=>?_
 rw [isC,decide_eq_false];intro e;exact hn (List.mem_append_left _ (List.mem_map.2 ⟨x,hx,by omega⟩))
theorem no_tk {h:HA} {w:Nat} (hn:w∉h.all):ixF (isT w) h.q 0=-1:=by
 refine ixF_no fun x hx=>?_
 rw [isT,decide_eq_false];intro e;exact hn (List.mem_append_right _ (by rw [<-show x=w by omega];exact hx))
theorem admitBegin_ok (h:HA) (o:HOk h) (w:Nat) (hw:w<4) (hn:w∉h.all) (hl:h.cl.length+h.q.length<=3):
  ACall Tryz.prog 137 [encHA h,.int .i64 w,.int .i64 1] (.tup [encHA (beginH h w),.bool (decide (0<=ixF (isT w) (inH h.n h.cl (h.q++[w])) 0)),.int .i64 0]):=by
 have n1:=o.n1;have n8:=o.n8;have hc:=client_ok (w:Int) h.cl (by omega);have ht:=ticket_ok (w:Int) h.q (by omega);rw [no_cl hn] at hc;rw [no_tk hn] at ht
 have hml:(h.cl.map encCl).length=h.cl.length:=List.length_map ..
 have hmq:(h.q.map encTk).length=h.q.length:=List.length_map ..
 have he:ACall Tryz.prog 196 [.agg [.int .i64 h.n,.int .i64 1,.lst (h.cl.map encCl),.lst (h.q.map encTk++[encTk w])]] (.tup [encHA (beginH h w),.lst ((inH h.n h.cl (h.q++[w])).map encN)]):=by
  have:=enter_ok ⟨h.n,h.cl,h.q++[w]⟩ n8 (by show h.cl.length+(h.q++[w]).length<=7;simp;omega)
  have e:(h.q++[w]).map encTk=h.q.map encTk++[encTk w]:=by rw [List.map_append];rfl
  rw [<-e];exact this
 have hin:=inH_len h.n h.cl (h.q++[w]);rw [List.length_append,List.length_singleton] at hin;refine acall_of Tryz.func137 3 rfl (by kernel_rfl) (aO ?_);refine callX_pure (admitR_ok h o) (aO ?_);refine callX_pure (claimable_ok h n1) (aO ?_);refine callX_pure hc (aO ?_);refine callX_pure ht (aO ?_);refine callX_own (cloneTk (encTk_ok h.q) (by omega)) (aO ?_);refine roomK_le 1000 100 (by show (h.q.map encTk).length+1<=1000;omega) (by decide) (by decide) (by decide) (aO ?_);refine callX_pure he (aO ?_);refine callX_pure (contains_ok (w:Int) (inH h.n h.cl (h.q++[w])) (by omega)) (aO ?_);exact ret_of rfl rfl
theorem cl_at {h:HA} (o:HOk h) {w:Nat} {b:Bool} (hm:(w,b)∈h.cl):∃ i,∃ hi:i<h.cl.length,ixF (isC w) h.cl 0=(i:Int) /\h.cl[i]=(w,b) /\ ∀ b',setH h.cl w b'=h.cl.set i (w,b'):=by
 obtain ⟨i,hi,e,hp⟩:=ixF_yes (p:=isC w) (l:=h.cl) (k:=0) ⟨_,hm,by simp [isC]⟩
 have hp2:h.cl[i].1=w:=by rw [isC,decide_eq_true_eq] at hp;omega
 obtain ⟨j,hj,ej⟩:=List.mem_iff_getElem.1 hm
 have eij:i=j:=by
  have hnd:=o.cls.nd
  rcases Nat.lt_trichotomy i j with g|g|g
  ·exact absurd (hp2.trans (by rw [ej])) (o.cls.ne g hj)
  ·exact g
  ·exact absurd ((by rw [ej]:h.cl[j].1=w).trans hp2.symm) (o.cls.ne g hi)
 subst eij;refine ⟨i,hi,by rw [e,Nat.zero_add],ej,fun b'=>?_⟩
 refine List.ext_getElem (by rw [setH,List.length_map,List.length_set]) fun k h1 h2=>?_
 rw [List.length_set] at h2;simp only [setH,List.getElem_map,List.getElem_set]
 by_cases g:i=k
 ·subst g;rw [if_pos hp2,if_pos rfl,hp2]
 ·rw [if_neg g,if_neg];intro e
  rcases Nat.lt_or_gt_of_ne g with g|g
  ·exact o.cls.ne g h2 (hp2.trans e.symm)
  ·exact o.cls.ne g hi (e.trans hp2.symm)
theorem cl_mem {h:HA} {w:Nat} (hc:isCl h w=true):(w,heldW h w)∈h.cl:=by
 obtain ⟨⟨a,b⟩,h1,h2⟩:=List.mem_map.1 (isCl_t.1 hc)
 cases h2
 cases hb:heldW h a with
 |true=>exact heldW_t.1 hb
 |false=>
  cases b with
  |false=>exact h1
  |true=>rw [heldW_t.2 h1] at hb;cases hb
def pinR (h:HA) (w:Nat):HA×Int:=if h.n<=heldN h.cl then (h,6) else (pinH h w,0)
theorem admitPin_ok (h:HA) (o:HOk h) (w:Nat) (hc:isCl h w=true) (hh:heldW h w=false):
  ACall Tryz.prog 143 [encHA h,.int .i64 w] (.tup [encHA (pinR h w).1,.int .i64 (pinR h w).2]):=by
 have n1:=o.n1;have n8:=o.n8;have hlen:=o.len;have hheld:=o.held;have hm:=cl_mem hc;rw [hh] at hm;obtain ⟨i,hi,ei,ec,es⟩:=cl_at o hm;have hcl:=client_ok (w:Int) h.cl (by omega);rw [ei] at hcl
 have hml:(h.cl.map encCl).length=h.cl.length:=List.length_map ..
 have hg:(h.cl.map encCl)[i]?=some (encCl (w,false)):=by rw [List.getElem?_map,List.getElem?_eq_getElem hi,ec];rfl
 refine acall_of Tryz.func143 2 rfl (by kernel_rfl) (aO ?_);refine callX_pure (admitR_ok h o) (aO ?_);refine callX_pure hcl (aO ?_);refine idxK_nat (by omega) (w0 ?_);refine getRow_of hg (aO ?_);refine idxK_nat (by omega) (w0 ?_);refine getRow_of hg (aO ?_);refine callX_pure (left_ok h (by omega) (by omega)) (w0 ?_);rw [pinR];refine aO ?_
 refine bcase_p (fun g=>?_) (fun g=>?_)<;>conv=>whnf
 ·rw [if_pos (show h.n<=heldN h.cl by omega)];refine aO ?_;exact ret_of rfl rfl
 ·rw [if_neg (show ¬h.n<=heldN h.cl by omega)];have op:=hok_pin o hc hh (by omega)
  have es2:(h.cl.map encCl).set i (splice (encCl (w,false)) 2 [D.int .i64 1])=(setH h.cl w true).map encCl:=by rw [es,List.map_set];rfl
  have hhN:=held_set (b:=true) o.cls.nd hm;simp only [if_pos,Bool.false_eq_true,if_false] at hhN;have hsf:=safe_ok ((h.n:Int)-heldN h.cl-1) (setH h.cl w true) op.cls (by omega) (by omega) (by omega);rw [<-es2] at hsf;refine aO ?_;refine callX_own (cloneCl (encCl_ok h.cl) (by omega)) (aO ?_);refine idxK_nat (by omega) (w0 ?_);refine getRow_of hg (aO ?_);refine idxK_nat (by omega) (w0 ?_);refine getRow_of hg (aO ?_);refine callX_pure hsf (aO ?_);refine ret_of rfl ?_;show _=D.tup [D.agg [.int .i64 h.n,.int .i64 1,D.lst ((setH h.cl w true).map encCl),.lst (h.q.map encTk)],.int .i64 0]
  rw [<-es2];rfl
theorem admitUnpin_ok (h:HA) (o:HOk h) (w:Nat) (hc:isCl h w=true) (hh:heldW h w=true):
  ACall Tryz.prog 147 [encHA h,.int .i64 w] (.tup [encHA (unpinH h w),.int .i64 0]):=by
 have n1:=o.n1;have n8:=o.n8;have hlen:=o.len;have hm:=cl_mem hc;rw [hh] at hm;obtain ⟨i,hi,ei,ec,es⟩:=cl_at o hm;have hcl:=client_ok (w:Int) h.cl (by omega);rw [ei] at hcl
 have hml:(h.cl.map encCl).length=h.cl.length:=List.length_map ..
 have hg:(h.cl.map encCl)[i]?=some (encCl (w,true)):=by rw [List.getElem?_map,List.getElem?_eq_getElem hi,ec];rfl
 have es2:(h.cl.map encCl).set i (splice (encCl (w,true)) 2 [D.int .i64 0])=(setH h.cl w false).map encCl:=by rw [es,List.map_set];rfl
 refine acall_of Tryz.func147 2 rfl (by kernel_rfl) (aO ?_);refine callX_pure (admitR_ok h o) (aO ?_);refine callX_pure hcl (aO ?_);refine idxK_nat (by omega) (w0 ?_);refine getRow_of hg (aO ?_);refine callX_own (cloneCl (encCl_ok h.cl) (by omega)) (aO ?_);refine idxK_nat (by omega) (w0 ?_);refine getRow_of hg (aO ?_);refine idxK_nat (by omega) (w0 ?_);refine getRow_of hg (aO ?_);refine ret_of rfl ?_;show _=D.tup [D.agg [.int .i64 h.n,.int .i64 1,D.lst ((setH h.cl w false).map encCl),.lst (h.q.map encTk)],.int .i64 0]
 rw [<-es2];rfl
theorem isC2_ok (who:Int) (c:Nat×Bool):ACall Tryz.prog 213 [.agg (encCl c),.dp [.int .i64 who] 0] (.bool (isC who c)):=by
 refine acall_of Tryz.func213 2 rfl (by kernel_rfl) (aO ?_);exact ret_of rfl rfl
theorem isT2_ok (who:Int) (c:Nat):ACall Tryz.prog 215 [.agg (encTk c),.dp [.int .i64 who] 0] (.bool (isT who c)):=by
 refine acall_of Tryz.func215 2 rfl (by kernel_rfl) (aO ?_);exact ret_of rfl rfl
theorem fil_C (w:Nat) (l:List (Nat×Bool)):(l.filter fun x=>!isC w x)=l.filter fun c=>c.1 !=w:=by
 congr 1;funext c;rw [Bool.eq_iff_iff];simp [isC];omega
theorem fil_T (w:Nat) (l:List Nat):(l.filter fun x=>!isT w x)=l.filter fun x=>x !=w:=by
 congr 1;funext c;rw [Bool.eq_iff_iff];simp [isT];omega
theorem admitEnd_ok (h:HA) (o:HOk h) (w:Nat) (hw:w<4) (hc:isCl h w=true):
  ∃ ins:List Nat,ACall Tryz.prog 149 [encHA h,.int .i64 w] (.tup [encHA (endH h w),.lst (ins.map encN),.int .i64 0]):=by
 have n1:=o.n1;have n8:=o.n8;have hlen:=o.len;obtain ⟨i,hi,ei,ec,es⟩:=cl_at o (cl_mem hc);have hcl:=client_ok (w:Int) h.cl (by omega);rw [ei] at hcl;have f1:=delCl 213 [.dp [.int .i64 w] 0] (isC w) (isC2_ok w) h.cl (by omega);have f2:=delTk 215 [.dp [.int .i64 w] 0] (isT w) (isT2_ok w) h.q (by omega);rw [fil_C] at f1;rw [fil_T] at f2;have l1:=List.length_filter_le (fun c:Nat×Bool=>c.1 !=w) h.cl;have l2:=List.length_filter_le (fun c:Nat=>c !=w) h.q;have he:=enter_ok ⟨h.n,h.cl.filter fun c=>c.1 !=w,h.q.filter fun x=>x !=w⟩ n8 (by show (h.cl.filter _).length+(h.q.filter _).length<=7;omega)
 have hml:(h.cl.map encCl).length=h.cl.length:=List.length_map ..
 have hmq:(h.q.map encTk).length=h.q.length:=List.length_map ..
 refine ⟨inH h.n (h.cl.filter fun c=>c.1 !=w) (h.q.filter fun x=>x !=w),?_⟩;refine acall_of Tryz.func149 2 rfl (by kernel_rfl) (aO ?_);refine callX_pure (admitR_ok h o) (aO ?_);refine callX_pure hcl (aO ?_);refine callX_own (cloneCl (encCl_ok h.cl) (by omega)) (aO ?_);refine callX_win f1 [] rfl ⟨rfl,trivial⟩ rfl (aO ?_);refine callX_own (cloneTk (encTk_ok h.q) (by omega)) (aO ?_);refine callX_win f2 [] rfl ⟨rfl,trivial⟩ rfl (aO ?_);refine callX_pure he (aO ?_);exact ret_of rfl rfl
theorem encWt_ok:∀ (l:List (Nat×Bool)),okRows 2 (l.map encWt)=true
 | []=>rfl
 |_::r=>encWt_ok r
theorem encN_ok:∀ (l:List Nat),okRows 1 (l.map encN)=true
 | []=>rfl
 |_::r=>encN_ok r
theorem encWt_len {l:List (Nat×Bool)} {e:List D} (h:e∈l.map encWt):e.length=2:=by
 obtain ⟨x,_,rfl⟩:=List.mem_map.1 h;rfl
theorem isW_ok (who:Int) (c:Nat×Bool):ACall Tryz.prog 261 [.agg (encWt c),.dp [.int .i64 who] 0] (.bool (isC who c)):=by
 refine acall_of Tryz.func261 2 rfl (by kernel_rfl) (aO ?_);exact ret_of rfl rfl
theorem waits_ok (who:Int) (l:List (Nat×Bool)) (hl:l.length<=1000000):ACall Tryz.prog 199 [.lst (l.map encWt),.int .i64 who] (.bool (decide (0<=ixF (isC who) l 0))):=by
 have h259:ACall Tryz.prog 260 [.lst (l.map encWt),.fn 261 [.dp [.int .i64 who] 0]] (.bool (decide (0<=ixF (isC who) l 0))):=by
  refine acall_of Tryz.func260 2 rfl (by kernel_rfl) (w0 ?_);refine callX_pure (ixWt_ok 261 _ _ (isW_ok who) l hl) (aW ?_);exact ret_of rfl rfl
 refine acall_of Tryz.func199 2 rfl (by kernel_rfl) (aO ?_);refine callX_pure h259 (aW ?_);exact ret_of rfl rfl
def openL (l:LA):Bool:=match l.q with
 | []=>false
 |x::_=>match l.hs with
  | []=>true
  |_::_=>!l.ex&&!x.2
theorem openL_ok (l:LA):ACall Tryz.prog 259 [encLA l] (.bool (openL l)):=by
 obtain ⟨hs,ex,q⟩:=l
 cases q with
 |nil=>
  refine acall_of Tryz.func259 1 rfl (by kernel_rfl) (aO ?_);exact ret_of rfl rfl
 |cons x q=>
  cases hs with
  |nil=>
   refine acall_of Tryz.func259 1 rfl (by kernel_rfl) (aO ?_);exact ret_of rfl rfl
  |cons y hs=>
   cases ex with
   |true=>
    refine acall_of Tryz.func259 1 rfl (by kernel_rfl) (aO ?_);exact ret_of rfl rfl
   |false=>
    refine acall_of Tryz.func259 1 rfl (by kernel_rfl) (aO ?_);refine idxK_nat (i:=0) (by simp) (w0 ?_);refine getRow_of (x:=encWt x) rfl (aO ?_);exact ret_of rfl rfl
theorem LOk.noopen {l:LA} (o:LOk l):openL l=false:=by
 have:=o.shut;rw [openL]
 split
 ·rfl
 ·rename_i x _ e;rw [e] at this
  rcases this with g|⟨g1,g2⟩
  ·cases g
  ·split
   ·rename_i e2;exact absurd e2 g1
   ·rcases g2 with g2|g2
    ·rw [g2];rfl
    ·rw [g2 x rfl];cases l.ex<;>rfl
def lastN (l:List Nat):Nat->Int
 |0=>-1
 |k+1=>((l[k]?.getD 0:Nat):Int)
theorem lastN_lt {l:List Nat} (h:l.Pairwise (·<·)) {k:Nat} (hk:k<l.length):lastN l k<(l[k]:Int):=by
 cases k with
 |zero=>rw [lastN];omega
 |succ k=>
  rw [lastN,List.getElem?_eq_getElem (by omega),Option.getD_some];have:=(List.pairwise_iff_getElem.1 h) k (k+1) (by omega) hk (by omega);omega
theorem lastN_succ {l:List Nat} {k:Nat} (hk:k<l.length):lastN l (k+1)=(l[k]:Int):=by
 rw [lastN,List.getElem?_eq_getElem hk,Option.getD_some]
theorem nohold {l:List Nat} {w:Nat} (h:w∉l):ixF (isT w) l 0=-1:=by
 refine ixF_no fun x hx=>?_
 rw [isT,decide_eq_false];intro e;exact h (by rw [<-show x=w by omega];exact hx)
theorem nowait {l:List (Nat×Bool)} {w:Nat} (h:w∉l.map (·.1)):ixF (isC w) l 0=-1:=by
 refine ixF_no fun x hx=>?_
 rw [isC,decide_eq_false];intro e;exact h (List.mem_map.2 ⟨x,hx,by omega⟩)
theorem latchR_ok (l:LA) (o:LOk l):ACall Tryz.prog 198 [encLA l] (.bool true):=by
 have hlen:=o.len;have h1:l.ex=true->l.hs.length=1:=o.one
 have hmh:(l.hs.map encN).length=l.hs.length:=List.length_map ..
 have hmq:(l.q.map encWt).length=l.q.length:=List.length_map ..
 have hnd:=List.nodup_append.1 o.nd;refine acall_of Tryz.func198 1 rfl (by kernel_rfl) (aO ?_)
 refine bcase_intro (fun g=>?_) (fun g=>?_)<;>conv=>whnf
 ·have:=h1 g;refine aO ?_;refine aloop (ι:=Nat) (fun k=>[(1,.ptr 1 0 0),(3,.d (.int .i64 (lastN l.hs k))),(25,.d (.lst (l.hs.map encN))),(26,.d (.int .i64 (l.hs.map encN).length)),(27,.d (.int .i64 k))]) (fun _=>[(1,.box (l.cells.map AV.d) false)])
   (fun k=>k<=l.hs.length) (fun k=>l.hs.length-k) 0 (Nat.zero_le _) (le0 (le_of_cov ⟨rfl,rfl,rfl,rfl,rfl,trivial⟩ ⟨rfl,trivial⟩ ⟨rfl,rfl,rfl,rfl⟩)) ?_
  intro k hk
  conv=>whnf
  refine bcase_p (fun h5=>?_) (fun h5=>?_)<;>conv=>whnf
  ·have hk2:k<l.hs.length:=by omega
   have hl1:=lastN_lt o.up hk2;have hl2:=o.lt l.hs[k] (List.mem_append_left _ (List.getElem_mem hk2));refine idxK_nat (by omega) (w0 ?_);refine getRow_of (x:=encN l.hs[k]) (by simp [hk2]) (aW ?_);refine aO ?_;exact ⟨k+1,by omega,by omega,le0 (le_of_cov ⟨rfl,by rw [lastN_succ hk2];rfl,rfl,rfl,rfl,trivial⟩ ⟨rfl,trivial⟩ ⟨rfl,rfl,rfl,rfl⟩)⟩
  refine aO ?_;refine aloop (ι:=Nat) (fun k=>[(1,.ptr 1 0 0),(41,.d (.lst (l.q.map encWt))),(42,.d (.int .i64 (l.q.map encWt).length)),(43,.d (.int .i64 k))]) (fun _=>[(1,.box (l.cells.map AV.d) false)])
   (fun k=>k<=l.q.length) (fun k=>l.q.length-k) 0 (Nat.zero_le _) (le0 (le_of_cov ⟨rfl,rfl,rfl,rfl,trivial⟩ ⟨rfl,trivial⟩ ⟨rfl,rfl,rfl,rfl⟩)) ?_
  intro k hk
  conv=>whnf
  refine bcase_p (fun h5=>?_) (fun h5=>?_)<;>conv=>whnf
  ·have hk2:k<l.q.length:=by omega
   have hmq2:l.q[k].1∈l.q.map (·.1):=List.mem_map_of_mem (List.getElem_mem hk2);have hl2:=o.lt l.q[k].1 (List.mem_append_right _ hmq2);have hc:=contains_ok (l.q[k].1:Int) l.hs (by omega);rw [nohold fun g=>hnd.2.2 _ g _ hmq2 rfl] at hc
   have hwt:ACall Tryz.prog 199 [.lst (((l.q.map encWt).take k).drop 0),.int .i64 l.q[k].1] (.bool (decide (0<=ixF (isC l.q[k].1) (l.q.take k) 0))):=by
    rw [List.drop_zero,<-List.map_take];exact waits_ok _ _ (by rw [List.length_take];omega)
   rw [nowait (w:=l.q[k].1) fun g=>by
    obtain ⟨x,hx,e⟩:=List.mem_map.1 g;obtain ⟨j,hj,rfl⟩:=List.mem_iff_getElem.1 hx;rw [List.length_take] at hj;rw [List.getElem_take] at e
    exact nd_ne hnd.2.1 (show j<k by omega) (by rw [List.length_map];exact hk2) (by simpa using e)] at hwt
   refine idxK_nat (by omega) (w0 ?_);refine getRow_of (x:=encWt l.q[k]) (by simp [hk2]) (aW ?_);refine aO ?_;refine callX_pure hc (aO ?_);refine condK_of (fun e he=>encWt_len he) (w0 ?_);refine sliceK_hi (by omega) (aO ?_);refine callX_pure hwt (aO ?_);exact ⟨k+1,by omega,by omega,(le0 (le_of_cov ⟨rfl,rfl,rfl,rfl,trivial⟩ ⟨rfl,trivial⟩ ⟨rfl,rfl,rfl,rfl⟩))⟩
  refine aO ?_;refine callX_pure (openL_ok l) (w0 ?_);rw [o.noopen];refine aO ?_;exact ret_of rfl rfl
 ·refine aO ?_;refine aloop (ι:=Nat) (fun k=>[(1,.ptr 1 0 0),(3,.d (.int .i64 (lastN l.hs k))),(25,.d (.lst (l.hs.map encN))),(26,.d (.int .i64 (l.hs.map encN).length)),(27,.d (.int .i64 k))]) (fun _=>[(1,.box (l.cells.map AV.d) false)])
   (fun k=>k<=l.hs.length) (fun k=>l.hs.length-k) 0 (Nat.zero_le _) (le0 (le_of_cov ⟨rfl,rfl,rfl,rfl,rfl,trivial⟩ ⟨rfl,trivial⟩ ⟨rfl,rfl,rfl,rfl⟩)) ?_
  intro k hk
  conv=>whnf
  refine bcase_p (fun h5=>?_) (fun h5=>?_)<;>conv=>whnf
  ·have hk2:k<l.hs.length:=by omega
   have hl1:=lastN_lt o.up hk2;have hl2:=o.lt l.hs[k] (List.mem_append_left _ (List.getElem_mem hk2));refine idxK_nat (by omega) (w0 ?_);refine getRow_of (x:=encN l.hs[k]) (by simp [hk2]) (aW ?_);refine aO ?_;exact ⟨k+1,by omega,by omega,le0 (le_of_cov ⟨rfl,by rw [lastN_succ hk2];rfl,rfl,rfl,rfl,trivial⟩ ⟨rfl,trivial⟩ ⟨rfl,rfl,rfl,rfl⟩)⟩
  refine aO ?_;refine aloop (ι:=Nat) (fun k=>[(1,.ptr 1 0 0),(41,.d (.lst (l.q.map encWt))),(42,.d (.int .i64 (l.q.map encWt).length)),(43,.d (.int .i64 k))]) (fun _=>[(1,.box (l.cells.map AV.d) false)])
   (fun k=>k<=l.q.length) (fun k=>l.q.length-k) 0 (Nat.zero_le _) (le0 (le_of_cov ⟨rfl,rfl,rfl,rfl,trivial⟩ ⟨rfl,trivial⟩ ⟨rfl,rfl,rfl,rfl⟩)) ?_
  intro k hk
  conv=>whnf
  refine bcase_p (fun h5=>?_) (fun h5=>?_)<;>conv=>whnf
  ·have hk2:k<l.q.length:=by omega
   have hmq2:l.q[k].1∈l.q.map (·.1):=List.mem_map_of_mem (List.getElem_mem hk2);have hl2:=o.lt l.q[k].1 (List.mem_append_right _ hmq2);have hc:=contains_ok (l.q[k].1:Int) l.hs (by omega);rw [nohold fun g=>hnd.2.2 _ g _ hmq2 rfl] at hc
   have hwt:ACall Tryz.prog 199 [.lst (((l.q.map encWt).take k).drop 0),.int .i64 l.q[k].1] (.bool (decide (0<=ixF (isC l.q[k].1) (l.q.take k) 0))):=by
    rw [List.drop_zero,<-List.map_take];exact waits_ok _ _ (by rw [List.length_take];omega)
   rw [nowait (w:=l.q[k].1) fun g=>by
    obtain ⟨x,hx,e⟩:=List.mem_map.1 g;obtain ⟨j,hj,rfl⟩:=List.mem_iff_getElem.1 hx;rw [List.length_take] at hj;rw [List.getElem_take] at e
    exact nd_ne hnd.2.1 (show j<k by omega) (by rw [List.length_map];exact hk2) (by simpa using e)] at hwt
   refine idxK_nat (by omega) (w0 ?_);refine getRow_of (x:=encWt l.q[k]) (by simp [hk2]) (aW ?_);refine aO ?_;refine callX_pure hc (aO ?_);refine condK_of (fun e he=>encWt_len he) (w0 ?_);refine sliceK_hi (by omega) (aO ?_);refine callX_pure hwt (aO ?_);exact ⟨k+1,by omega,by omega,(le0 (le_of_cov ⟨rfl,rfl,rfl,rfl,trivial⟩ ⟨rfl,trivial⟩ ⟨rfl,rfl,rfl,rfl⟩))⟩
  refine aO ?_;refine callX_pure (openL_ok l) (w0 ?_);rw [o.noopen];refine aO ?_;exact ret_of rfl rfl
theorem holds_ok (l:LA) (o:LOk l) (w:Nat):ACall Tryz.prog 142 [encLA l,.int .i64 w] (.tup [.bool (holdsL l w),.bool (holdsL l w&&l.ex)]):=by
 have hlen:=o.len;have hc:=contains_ok (w:Int) l.hs (by omega)
 have e:decide (0<=ixF (isT w) l.hs 0)=holdsL l w:=by
  rw [Bool.eq_iff_iff,decide_eq_true_eq,ixF_ge,holdsL];simp only [List.any_eq_true,List.contains_eq_any_beq]
  constructor
  ·rintro ⟨x,hx,g⟩;exact ⟨x,hx,by simp [isT] at g⊢;omega⟩
  ·rintro ⟨x,hx,g⟩;exact ⟨x,hx,by simp [isT] at g⊢;omega⟩
 rw [e] at hc;refine acall_of Tryz.func142 2 rfl (by kernel_rfl) (aO ?_);refine callX_pure (latchR_ok l o) (aO ?_);refine callX_pure hc (aO ?_)
 cases g:holdsL l w with
 |false=>
  refine aO ?_;exact ret_of rfl rfl
 |true=>
  refine aO ?_;refine ret_of rfl ?_;rw [Bool.true_and];rfl
def putD (s:List ByteArray) (x:Pg):List ByteArray:=setD s x.1.toNat ((putB x).extract 0 16) ((putB x).extract 16 32)
def rmD (s:List ByteArray) (p:Nat):List ByteArray:=setD s p ((nulB 32).extract 0 16) ((nulB 32).extract 16 32)
noncomputable def getR (s:List ByteArray) (p:Nat):Pg×Int:=
 if (takeM (raw s p)).2≠0 then (zP,(takeM (raw s p)).2) else if (takeM (raw s p)).1.1≠(p:Int) then (zP,9) else ((takeM (raw s p)).1,0)
theorem getS_rest {s:List ByteArray} (h:Rest s) {p:Nat} (h1:1<=p) (h16:p<=16):getS ⟨s,[]⟩ p=getR s p:=by
 rw [getS_yes ⟨h.us,by omega,by omega⟩]
 have e:rdS ⟨s,[]⟩ (2*(p:Int)+1)++rdS ⟨s,[]⟩ (2*(p:Int)+1+1)=raw s p:=by
  simp only [rdS,pick,List.foldl_nil,raw];rw [show (2*(p:Int)+1).toNat=2*p+1 by omega,show (2*(p:Int)+1+1).toNat=2*p+2 by omega]
 rw [e,getR]
theorem commit_rest {s:List ByteArray} (h:Rest s) {p:Nat} (h1:1<=p) (h16:p<=16) {x:ByteArray} (hx:x.size=32):commitM ⟨s,[]⟩ p x=(⟨setD s p (x.extract 0 16) (x.extract 16 32),[]⟩,0) /\planM ⟨s,[]⟩ p x=(planJ p x,0):=by
 have e:planM ⟨s,[]⟩ p x=(planJ p x,0):=by rw [planM,if_pos ⟨h.us,⟨by omega,by omega⟩,hx⟩,Int.toNat_natCast]
 refine ⟨?_,e⟩;rw [commitM,e,if_pos rfl,runM];simp only [Int.toNat_natCast,List.take_length];rw [plan_runs h h1 h16 hx]
theorem pg_nat {x:Pg} (h:pgR x=true):∃ p:Nat,x.1=(p:Int) /\1<=p/\p<=16:=by
 have:=pgR_out.1 h;exact ⟨x.1.toNat,by omega,by omega,by omega⟩
theorem setS_rest {s:List ByteArray} (h:Rest s) {x:Pg} (hx:pgR x=true):setS ⟨s,[]⟩ x=(⟨putD s x,[]⟩,0) /\stepsS ⟨s,[]⟩ x=planJ x.1.toNat (putB x) /\Rest (putD s x) /\ (putD s x).length=s.length:=by
 have hv:=pgR_out.1 hx;obtain ⟨p,ep,h1,h16⟩:=pg_nat hx;have hz:=putB_size hv.2.2.2.2;obtain ⟨z1,z2⟩:=ext_size hz;obtain ⟨c1,c2⟩:=commit_rest h h1 h16 hz;refine ⟨?_,?_,Rest.setD h z1 z2,setD_len _ _ _ _⟩
 ·rw [setS,if_pos hx,ep,c1,putD,ep,Int.toNat_natCast]
 ·rw [stepsS,if_pos (.inl (by omega)),if_pos hx,ep,c2,Int.toNat_natCast]
theorem delD_rest {s:List ByteArray} (h:Rest s) {p:Nat} (h1:1<=p) (h16:p<=16):delD ⟨s,[]⟩ p=(⟨rmD s p,[]⟩,0) /\stepsS ⟨s,[]⟩ ((p:Int),0,ByteArray.empty)=planJ p (nulB 32) /\Rest (rmD s p) /\ (rmD s p).length=s.length:=by
 have hz:(nulB 32).size=32:=nulB_size 32;obtain ⟨z1,z2⟩:=ext_size hz;obtain ⟨c1,c2⟩:=commit_rest h h1 h16 hz;refine ⟨by rw [delD,c1];rfl,?_,Rest.setD h z1 z2,setD_len _ _ _ _⟩;rw [stepsS,if_neg (by simp),c2]
theorem get_put {s:List ByteArray} (h:Rest s) {x:Pg} (hx:pgR x=true) {q:Nat} (h1:1<=q) (h16:q<=16):getR (putD s x) q=if x.1=(q:Int) then (x,0) else getR s q:=by
 obtain ⟨p,ep,p1,p16⟩:=pg_nat hx;have hz:=putB_size (pgR_out.1 hx).2.2.2.2;rw [putD,ep,Int.toNat_natCast]
 by_cases e:p=q
 ·subst e;rw [if_pos rfl,getR,raw_same h p1 p16,ext_app hz,take_put hx,if_neg (fun q=>q rfl),if_neg (fun q=>q ep)]
 ·rw [if_neg (by omega),getR,raw_other h1 e];rfl
theorem get_rm {s:List ByteArray} (h:Rest s) {p q:Nat} (p1:1<=p) (p16:p<=16) (h1:1<=q) (h16:q<=16):getR (rmD s p) q=if p=q then (zP,3) else getR s q:=by
 have hz:(nulB 32).size=32:=nulB_size 32;rw [rmD]
 by_cases e:p=q
 ·subst e;rw [if_pos rfl,getR,raw_same h p1 p16,ext_app hz,take_nul,if_pos (show (3:Int)≠0 by decide)]
 ·rw [if_neg e,getR,raw_other h1 e];rfl
theorem new_rest:Rest (List.replicate 35 nul16):=⟨by simp,by simp,fun i h=>by rw [List.getElem_replicate];exact nul16_size⟩
theorem nul_app:nul16++nul16=nulB 32:=bl_ext (by
 rw [bl_app,show bl nul16=_ from nulB_list 16,show bl (nulB 32)=_ from nulB_list 32];rfl)
theorem get_new {q:Nat} (h16:q<=16):getR (List.replicate 35 nul16) q=(zP,3):=by
 have e:raw (List.replicate 35 nul16) q=nulB 32:=by
  simp only [raw,List.getElem?_replicate];rw [if_pos (by omega),if_pos (by omega),Option.getD_some,nul_app]
 rw [getR,e,take_nul,if_pos (show (3:Int)≠0 by decide)]
theorem rec_rest {s:List ByteArray} (h:Rest s) (h0:s[0]?.getD ByteArray.empty=nul16):recM ⟨s,[]⟩=⟨s,[]⟩:=by
 have e:repairM ⟨s,[]⟩=[]:=by
  rw [repairM,if_pos h.us,if_pos];exact h0
 rw [recM,e];rfl
theorem setD_0 {s:List ByteArray} (h:Rest s) {p:Nat} {a b:ByteArray}:(setD s p a b)[0]?.getD ByteArray.empty=nul16:=by
 have:=h.n;simp only [setD,List.getElem?_set,List.length_set]
 rw [if_pos trivial,if_pos (by omega)];rfl
theorem find_none {f:FX} (h:FM f) {p:Int} (hp:p≠0) (hn:∀ i (hi:i<f.fr.length),f.fr[i].1≠p):Tb.findS f.tb p=(0,false):=by
 rcases h.find_cases hp with ⟨e,_⟩|⟨i,_,hA⟩
 ·exact e
 ·exact absurd hA.fr (hn i hA.hi)
theorem dirty_in {f:FX} (h:FM f) {x:Int×Int} (hx:x∈f.dt):∃ i,AtF f x.1 i:=by
 obtain ⟨k,hk⟩:=h.dirty x hx;have hv:=right_id h.dt hx;obtain ⟨i,_,hi,e⟩:=h.frame hv.1 hk;exact ⟨i,atF_of h (by omega) hi e⟩
theorem mark_new {f:FX} (h:FM f) {p t:Int} (hp1:1<=p) (hp16:p<=16) (h0:0<=t) (h1:t<=2147483647) (hn:∀ i (hi:i<f.fr.length),f.fr[i].1≠p) (ht:∀ x∈f.dt,x.2<=t):Dt.markG f.dt p t=(f.dt++[(p,t)],0):=by
 have hpl:¬0<=Dt.placeG f.dt p 0:=fun q=>by
  obtain ⟨x,hx,e⟩:=Dt.placeG_mem.1 q;obtain ⟨i,hA⟩:=dirty_in h hx;exact hn i hA.hi (hA.fr.trans e)
 have hl:Dt.lateB f.dt t=false:=by
  unfold Dt.lateB
  by_cases hz:0<f.dt.length
  ·have hm:=List.getElem_mem (show f.dt.length-1<f.dt.length by omega);have:=ht _ hm;rw [List.getElem?_eq_getElem (by omega),Option.getD_some]
   simp;omega
  ·simp [hz]
 rw [Dt.markG,if_neg,if_neg (by rw [hl];decide),if_neg hpl];intro q
 rcases q with q|q|q
 ·rw [h.dt] at q;cases q
 ·simp [Dt.pageB] at q;omega
 ·simp [Dt.timeB] at q;omega
theorem mark_old {f:FX} (h:FM f) {p t:Int} (hp1:1<=p) (hp16:p<=16) (h0:0<=t) (h1:t<=2147483647) (hd:0<=Dt.placeG f.dt p 0) (ht:∀ x∈f.dt,x.2<=t):Dt.markG f.dt p t=(f.dt,0):=by
 have hl:Dt.lateB f.dt t=false:=by
  unfold Dt.lateB
  by_cases hz:0<f.dt.length
  ·have hm:=List.getElem_mem (show f.dt.length-1<f.dt.length by omega);have:=ht _ hm;rw [List.getElem?_eq_getElem (by omega),Option.getD_some]
   simp;omega
  ·simp [hz]
 rw [Dt.markG,if_neg,if_neg (by rw [hl];decide),if_pos hd];intro q
 rcases q with q|q|q
 ·rw [h.dt] at q;cases q
 ·simp [Dt.pageB] at q;omega
 ·simp [Dt.timeB] at q;omega
theorem load_yes {f:FX} {p:Pg} {now:Int} (fresh:Bool) (h:FM f) (hp:pgR p=true) (h0:0<=now) (h1:now<=2147483647) (hn:∀ i (hi:i<f.fr.length),f.fr[i].1≠p.1) (hf:∃ i,∃ hi:i<f.fr.length,f.fr[i].1=0) (ht:∀ x∈f.dt,x.2<=now):
  ∃ i,∃ hi:i<f.fr.length,f.fr[i].1=0/\loadS f p now fresh=({inS f p i with dt:=bif fresh then f.dt++[(p.1,now)] else f.dt},0) /\
   FM {inS f p i with dt:=bif fresh then f.dt++[(p.1,now)] else f.dt} /\AtF {inS f p i with dt:=bif fresh then f.dt++[(p.1,now)] else f.dt} p.1 i:=by
 have hv:=pgR_out.1 hp;have hfn:=find_none h (show p.1≠0 by omega) hn
 rcases freeT_cases f.fr with ⟨_,hno⟩|⟨i,e,hi,hz⟩
 ·obtain ⟨i,hi,hz⟩:=hf;exact absurd hz (hno i hi)
 have hmk:=mark_new h hv.1 hv.2.1 h0 h1 hn ht;obtain ⟨l',e1,_⟩:=in_tb h hv.1 hv.2.1 hi hfn
 have hM:=FM.loaded (l:=bif fresh then f.dt++[(p.1,now)] else f.dt) h hp hi hz hfn (by
  cases fresh with
  |false=>exact h.dt
  |true=>
   have:=Dt.mark_keeps (l:=f.dt) (p:=p.1) (t:=now) (by rw [hmk])
   rwa [hmk] at this) (by
  intro y hy
  cases fresh with
  |false=>exact .inl hy
  |true=>
   rcases List.mem_append.1 hy with q|q
   ·exact .inl q
   ·rw [List.mem_singleton] at q;subst q;exact .inr rfl)
 refine ⟨i,hi,hz,?_,hM.1,hM.2⟩;rw [loadS,if_neg,hfn,if_neg (show ¬false=true by decide),e,if_neg (show ¬true=false by decide),Int.toNat_natCast,e1,if_neg (fun q=>q rfl)]
 ·cases fresh with
  |false=>rw [if_neg (by decide)];rfl
  |true=>rw [if_pos rfl,hmk,if_neg (fun q=>q rfl)];rfl
 ·intro q
  rcases q with q|q|q|q
  ·exact q (fm_iff.2 h)
  ·rw [hp] at q;cases q
  ·omega
  ·omega
theorem make_free {p:PS} (h:FM p.f) (hf:∃ i,∃ hi:i<p.f.fr.length,p.f.fr[i].1=0):makeM p=(p,[],0):=by
 rcases room_cases h with ⟨i,hi,_,e⟩|⟨hno,_⟩|⟨hno,_⟩
 ·show mrM (16+1) p []=_;rw [mrM,e,if_neg (fun q=>q rfl),if_pos rfl]
 ·obtain ⟨i,hi,hz⟩:=hf;exact absurd hz (hno i hi)
 ·obtain ⟨i,hi,hz⟩:=hf;exact absurd hz (hno i hi)
theorem make_busy {p:PS} (h:FM p.f) (hno:∀ i (hi:i<p.f.fr.length),p.f.fr[i].1≠0) (hpin:∀ i (hi:i<p.f.fr.length),p.f.fr[i].2.1≠0):makeM p=(p,[],6):=by
 rcases room_cases h with ⟨i,hi,hz,e⟩|⟨_,_,e⟩|⟨_,l,a,q,hA,_,_,h0,_⟩
 ·exact absurd hz (hno i hi)
 ·show mrM (16+1) p []=_;rw [mrM,e,if_pos (show (6:Int)≠0 by decide)]
 ·exact absurd h0 (hpin a hA.hi)
theorem unpinS_yes {f:FX} {p:Int} {i:Nat} (hA:AtF f p i) (hp:(f.fr[i]'hA.hi).2.1≠0):unpinS f p=(withF f i (downPin (f.fr[i]'hA.hi)),0):=by
 have hR:=hA.right
 have e:lookS f p=((i:Int),0):=by
  rw [lookS,if_pos (fm_iff.2 hR),(find_mem hR.tb).2 ⟨hA.p1,hA.mem⟩];rfl
 rw [unpinS,e,if_neg (fun q=>q rfl),Int.toNat_natCast,atF_eq hA.hi,if_neg hp]
theorem pinS_yes {f:FX} {p:Int} {i:Nat} (hA:AtF f p i) (hp:(f.fr[i]'hA.hi).2.1<2147483647):pinS f p=(withF f i (upPin (f.fr[i]'hA.hi)),0):=by
 have hR:=hA.right
 have e:lookS f p=((i:Int),0):=by
  rw [lookS,if_pos (fm_iff.2 hR),(find_mem hR.tb).2 ⟨hA.p1,hA.mem⟩];rfl
 rw [pinS,e,if_neg (fun q=>q rfl),Int.toNat_natCast,atF_eq hA.hi,if_neg (by omega)]
structure PJ (p:PS):Prop where
 fm:FM p.f
 rest:Rest p.d.sec
 ca:p.d.ca=[]
 z0:p.d.sec[0]?.getD ByteArray.empty=nul16
 n0:0<=p.now
 n1:p.now<=2147483647
 dt:∀ x∈p.f.dt,x.2<=p.now
theorem PJ.d {p:PS} (h:PJ p):p.d=⟨p.d.sec,[]⟩:=by
 obtain ⟨f,⟨s,c⟩,n⟩:=p;have:=h.ca;simp only at this;subst this;rfl
theorem PJ.get {p:PS} (h:PJ p) {q:Nat} (h1:1<=q) (h16:q<=16):getS p.d q=getR p.d.sec q:=by
 have:=getS_rest h.rest h1 h16
 rw [<-h.d] at this;exact this
def pg1' (id:Int):Pg:=(id,1,ByteArray.empty)
theorem pg1_ok {id:Int} (h1:1<=id) (h16:id<=16):pgR (pg1' id)=true:=pgR_out.2 ⟨h1,h16,show (1:Int) <=1 by decide,show (1:Int) <=2147483647 by decide,show ByteArray.empty.size<=16 by decide⟩
theorem do_pinned {p:PS} {k id:Int} {b:ByteArray} (h1:1<=id) (h16:id<=16) (hk:k=3\/k=4\/k=5):poolDo p (k,id,b)=((pinnedM p (k,id,b)).1,(pinnedM p (k,id,b)).2.1,[],(pinnedM p (k,id,b)).2.2):=by
 rw [poolDo,if_neg (by simp only [];omega),if_neg (by simp only [];omega),if_neg (by simp only [];omega),if_neg (by simp only [];omega),if_neg (by simp only [];omega),if_neg (by simp only [];omega),if_neg (by simp only [];omega)]
theorem load_after {p r:PS} {l:List Jo} {x:Pg} (hm:makeM p=(r,l,0)) (hr:FM r.f) (hx:pgR x=true) (h0:0<=r.now) (h1:r.now<=2147483647) (fresh:Bool) (hn:∀ i (hi:i<r.f.fr.length),r.f.fr[i].1≠x.1) (hf:∃ i,∃ hi:i<r.f.fr.length,r.f.fr[i].1=0) (ht:∀ y∈r.f.dt,y.2<=r.now):
  ∃ i,∃ hi:i<r.f.fr.length,r.f.fr[i].1=0/\poolLoad p x fresh=(⟨{inS r.f x i with dt:=bif fresh then r.f.dt++[(x.1,r.now)] else r.f.dt},r.d,r.now⟩,x,l,0) /\
   FM {inS r.f x i with dt:=bif fresh then r.f.dt++[(x.1,r.now)] else r.f.dt} /\AtF {inS r.f x i with dt:=bif fresh then r.f.dt++[(x.1,r.now)] else r.f.dt} x.1 i:=by
 obtain ⟨i,hi,hz,e,m1,m2⟩:=load_yes fresh hr hx h0 h1 hn hf ht;refine ⟨i,hi,hz,?_,m1,m2⟩;rw [poolLoad,hm,if_neg (fun q=>q rfl)];simp only [];rw [e,if_neg (fun q=>q rfl)]
theorem pinned_at {p:PS} {a:PAct} {i:Nat} (hA:AtF p.f a.2.1 i) (hp:(p.f.fr[i]'hA.hi).2.1≠0):pinnedM p a=
  if a.1=4 then (if (writeS p.f a.2.1 a.2.2 p.now).2≠0 then (p,zP,(writeS p.f a.2.1 a.2.2 p.now).2) else (⟨(writeS p.f a.2.1 a.2.2 p.now).1,p.d,p.now⟩,atP (writeS p.f a.2.1 a.2.2 p.now).1.pg i,0))
  else if a.1=5 then (if (unpinS p.f a.2.1).2≠0 then (p,zP,(unpinS p.f a.2.1).2) else (⟨(unpinS p.f a.2.1).1,p.d,p.now⟩,zP,0))
  else (p,p.f.pg[i]'hA.hp,0):=by
 rw [pinnedM,findF_at hA,if_neg,Int.toNat_natCast,atP_eq hA.hp];rintro (g|g)
 ·cases g
 ·rw [Int.toNat_natCast,atF_eq hA.hi] at g;exact hp g
def ud {α:Type} (P:Nat->α) (q:Nat) (x:α):Nat->α:=fun k=>if k=q then x else P k
theorem ud_at {α:Type} (P:Nat->α) (q:Nat) (x:α):ud P q x q=x:=if_pos rfl
theorem ud_ne {α:Type} (P:Nat->α) {q k:Nat} (x:α) (h:k≠q):ud P q x k=P k:=if_neg h
structure OnD (s:List ByteArray) (l:List (Int×Int)) (P:Nat->Pg) (v:Int):Prop where
 dsk:∀ q:Nat,1<=q->q<=16->(∀ x∈l,x.1≠(q:Int))->getR s q=if (P q).1=0 then (zP,3) else (P q,0)
 okp:∀ q:Nat,1<=q->q<=16->P q=zP\/ (pgR (P q)=true/\ (P q).1=(q:Int))
 vb:∀ q,(P q).2.1<=v
structure Inv (p:PS) (P:Nat->Pg) (W:Nat->Int) (v u:Int):Prop where
 pj:PJ p
 pins:PinsL p.f.fr W
 at_:∀ (q:Nat) (i:Nat) (hA:AtF p.f (q:Int) i),p.f.pg[i]'hA.hp=P q
 on:OnD p.d.sec p.f.dt P v
 ub:∀ q,W q<=u
theorem OnD.nz {s l P v} (h:OnD s l P v) {q:Nat} (h1:1<=q) (h16:q<=16) (hz:(P q).1≠0):pgR (P q)=true/\ (P q).1=(q:Int):=by
 rcases h.okp q h1 h16 with e|e
 ·rw [e] at hz;exact absurd rfl hz
 ·exact e
theorem Inv.out {p P W v u} (h:Inv p P W v u) {q:Nat} (h1:1<=q) (hn:∀ i (hi:i<p.f.fr.length),p.f.fr[i].1≠(q:Int)):∀ x∈p.f.dt,x.1≠(q:Int):=fun x hx e=>by
 obtain ⟨i,hA⟩:=dirty_in h.pj.fm hx;exact hn i hA.hi (hA.fr.trans e)
theorem Inv.wout {p P W v u} (h:Inv p P W v u) {q:Nat} (h1:1<=q) (h16:q<=16) (hn:∀ i (hi:i<p.f.fr.length),p.f.fr[i].1≠(q:Int)):W q=0:=by
 rcases h.pins q h1 h16 with ⟨i,hi,e,_⟩|⟨_,e⟩
 ·exact absurd e (hn i hi)
 ·exact e
theorem Inv.wat {p P W v u} (h:Inv p P W v u) {q i:Nat} (hA:AtF p.f (q:Int) i):W q=(p.f.fr[i]'hA.hi).2.1:=by
 have:=h.pins.at hA
 rwa [Int.toNat_natCast] at this
theorem Inv.swp {p P W v u} (h:Inv p P W v u) {l:List Fr} {a:Nat} (hs:Swp p.f.fr p.f.hand.toNat l a):Inv ⟨swept p.f (l,a),p.d,p.now⟩ P W v u:=by
 obtain ⟨o1,o2,o3,o4⟩:=hs.out;have hm:=h.pj.fm.swp (q:=(l,a)) hs;refine ⟨⟨hm,h.pj.rest,h.pj.ca,h.pj.z0,h.pj.n0,h.pj.n1,h.pj.dt⟩,PinsL.same h.pins o1 o3,fun q i hA=>?_,h.on,h.ub⟩;have hi:i<l.length:=hA.hi
 have hq:(q:Int)≠0:=by have:=hA.p1;omega
 have e:l[i].1=(q:Int):=hA.fr;exact h.at_ q i (atF_of h.pj.fm hq (by omega) (by rw [<-(o3 i (by omega) hi).1];exact e))
theorem Inv.clean {p P W v u} (h:Inv p P W v u) {q i:Nat} (hA:AtF p.f (q:Int) i):Inv ⟨cleanD p.f q,⟨putD p.d.sec (p.f.pg[i]'hA.hp),[]⟩,p.now⟩ P W v u:=by
 have hm:=cleanD_fm h.pj.fm q;obtain ⟨s1,s2,s3,s4⟩:=setS_rest h.pj.rest hA.pgr;have hpg:=hA.pg
 have hq:1<=q:=by have:=hA.p1;omega
 refine ⟨⟨hm,s3,rfl,setD_0 h.pj.rest,h.pj.n0,h.pj.n1,fun x hx=>h.pj.dt x (List.mem_filter.1 hx).1⟩,h.pins,fun k j hB=>?_,⟨fun k h1 h16 hn=>?_,h.on.okp,h.on.vb⟩,h.ub⟩
 ·exact h.at_ k j (atF_of h.pj.fm (by have:=hB.p1;omega) hB.hi hB.fr)
 ·show getR (putD p.d.sec (p.f.pg[i]'hA.hp)) k=_;rw [get_put h.pj.rest hA.pgr h1 h16]
  by_cases e:(p.f.pg[i]'hA.hp).1=(k:Int)
  ·rw [if_pos e]
   have ek:q=k:=by omega
   subst ek;rw [<-h.at_ q i hA,if_neg (by omega)]
  ·rw [if_neg e]
   refine h.on.dsk k h1 h16 fun x hx ex=>hn x (List.mem_filter.2 ⟨hx,?_⟩) ex
   simp only [bne_iff_ne,ne_eq];omega
theorem Inv.rel {p P W v u} (h:Inv p P W v u) {q i:Nat} (hA:AtF p.f (q:Int) i) (h0:(p.f.fr[i]'hA.hi).2.1=0) {s':List ByteArray} {P':Nat->Pg} (hs:Rest s') (hz:s'[0]?.getD ByteArray.empty=nul16)
  (hP:∀ k,k≠q->P' k=P k) (hg:∀ k,1<=k->k<=16->k≠q->getR s' k=getR p.d.sec k) (hq:getR s' q=if (P' q).1=0 then (zP,3) else (P' q,0)) (hok:P' q=zP\/ (pgR (P' q)=true/\ (P' q).1=(q:Int))) (hv:(P' q).2.1<=v):
  Inv ⟨relS p.f i q,⟨s',[]⟩,p.now⟩ P' W v u:=by
 have hm:=FM.rel hA
 have hq1:1<=q:=by have:=hA.p1;omega
 have hi:=hA.hi;obtain ⟨c1,c2⟩:=clean_cases (p:=(q:Int)) h.pj.fm.dt;have hd:∀ x,x∈(relS p.f i q).dt↔x∈p.f.dt/\x.1≠(q:Int):=c2;have hfr:(relS p.f i q).fr=p.f.fr.set i (0,0,false):=rfl;have hpg:(relS p.f i q).pg=p.f.pg.set i noPg:=rfl;refine ⟨⟨hm,hs,rfl,hz,h.pj.n0,h.pj.n1,fun x hx=>h.pj.dt x ((hd x).1 hx).1⟩,?_,fun k j hB=>?_,⟨fun k h1 h16 hn=>?_,fun k h1 h16=>?_,fun k=>?_⟩,h.ub⟩
 ·show PinsL (p.f.fr.set i (0,0,false)) W
  refine PinsL.set h.pins hi hA.uniq fun k h1 h16=>⟨fun e=>?_,fun _ e=>?_,fun _ _=>rfl⟩
  ·have e:(0:Int)=k:=e;omega
  ·have ek:k=q:=by rw [hA.fr] at e;omega
   subst ek;rw [h.wat hA,h0]
 ·have hj:j<(p.f.fr.set i (0,0,false)).length:=hB.hi;have ef:(p.f.fr.set i (0,0,false))[j].1=(k:Int):=hB.fr;have hk1:=hB.p1
  have hne:i≠j:=fun e=>by
   subst e;rw [List.getElem_set_self] at ef;have ef:(0:Int)=k:=ef;omega
  rw [List.getElem_set_ne hne] at ef
  have hj':j<p.f.fr.length:=by rw [List.length_set] at hj;exact hj
  have hC:=atF_of h.pj.fm (by omega) hj' ef;have hj2:j<(p.f.pg.set i noPg).length:=hB.hp;show (p.f.pg.set i noPg)[j]'hj2=_;rw [List.getElem_set_ne hne,h.at_ k j hC,hP];intro e;subst e;exact hne (hA.uni hj' ef).symm
 ·show getR s' k=_
  by_cases e:k=q
  ·subst e;exact hq
  ·rw [hg k h1 h16 e,hP k e]
   exact h.on.dsk k h1 h16 fun x hx ex=>hn x ((hd x).2 ⟨hx,by omega⟩) ex
 ·by_cases e:k=q
  ·subst e;exact hok
  ·rw [hP k e];exact h.on.okp k h1 h16
 ·by_cases e:k=q
  ·subst e;exact hv
  ·rw [hP k e];exact h.on.vb k
theorem Inv.rel0 {p P W v u} (h:Inv p P W v u) {q i:Nat} (hA:AtF p.f (q:Int) i) (h0:(p.f.fr[i]'hA.hi).2.1=0) (hn:∀ x∈p.f.dt,x.1≠(q:Int)):Inv ⟨relS p.f i q,p.d,p.now⟩ P W v u:=by
 have hq1:1<=q:=by have:=hA.p1;omega
 have hq16:q<=16:=by have:=hA.p16;omega
 have:=h.rel hA h0 (s':=p.d.sec) (P':=P) h.pj.rest h.pj.z0 (fun _ _=>rfl) (fun _ _ _ _=>rfl) (h.on.dsk q hq1 hq16 hn) (h.on.okp q hq1 hq16) (h.on.vb q)
 rw [<-h.pj.d] at this;exact this
theorem Inv.rm {p P W v u} (h:Inv p P W v u) {q:Nat} (h1:1<=q) (h16:q<=16) (hv:0<=v) (hn:∀ i (hi:i<p.f.fr.length),p.f.fr[i].1≠(q:Int)):Inv ⟨p.f,⟨rmD p.d.sec q,[]⟩,p.now⟩ (ud P q zP) W v u:=by
 obtain ⟨d1,d2,d3,d4⟩:=delD_rest h.pj.rest h1 h16;refine ⟨⟨h.pj.fm,d3,rfl,setD_0 h.pj.rest,h.pj.n0,h.pj.n1,h.pj.dt⟩,h.pins,fun k j hA=>?_,⟨fun k k1 k16 hk=>?_,fun k k1 k16=>?_,fun k=>?_⟩,h.ub⟩
 ·have:k≠q:=fun e=>by subst e;exact hn j hA.hi hA.fr
  rw [ud_ne _ _ this];exact h.at_ k j hA
 ·show getR (rmD p.d.sec q) k=_;rw [get_rm h.pj.rest h1 h16 k1 k16]
  by_cases e:q=k
  ·subst e;rw [if_pos rfl,ud_at,if_pos (show zP.1=0 from rfl)]
  ·rw [if_neg e,ud_ne _ _ (fun q=>e q.symm)];exact h.on.dsk k k1 k16 hk
 ·by_cases e:k=q
  ·subst e;rw [ud_at];exact .inl rfl
  ·rw [ud_ne _ _ e];exact h.on.okp k k1 k16
 ·by_cases e:k=q
  ·subst e;rw [ud_at];exact hv
  ·rw [ud_ne _ _ e];exact h.on.vb k
theorem Inv.pin {p P W v u} (h:Inv p P W v u) {q i:Nat} (hA:AtF p.f (q:Int) i) {y:Fr} (hy:frOk y=true) (h1:y.1=(q:Int)) {u':Int} (hu:y.2.1<=u') (huu:u<=u'):Inv ⟨withF p.f i y,p.d,p.now⟩ P (ud W q y.2.1) v u':=by
 have hm:=FM.pins hA hy h1;have hi:=hA.hi;refine ⟨⟨hm,h.pj.rest,h.pj.ca,h.pj.z0,h.pj.n0,h.pj.n1,h.pj.dt⟩,?_,fun k j hB=>?_,h.on,fun k=>?_⟩
 ·show PinsL (p.f.fr.set i y) _
  refine PinsL.set h.pins hi hA.uniq fun k k1 k16=>⟨fun e=>?_,fun e1 e2=>?_,fun e1 e2=>?_⟩
  ·have:k=q:=by omega
   subst this;exact ud_at _ _ _
  ·rw [hA.fr] at e2;omega
  ·exact ud_ne _ _ (by omega)
 ·have hj:j<(p.f.fr.set i y).length:=hB.hi;have ef:(p.f.fr.set i y)[j].1=(k:Int):=hB.fr
  have hj':j<p.f.fr.length:=by rw [List.length_set] at hj;exact hj
  refine h.at_ k j (atF_of h.pj.fm (by have:=hB.p1;omega) hj' ?_)
  by_cases e:i=j
  ·subst e;rw [List.getElem_set_self] at ef;rw [hA.fr,<-h1,ef]
  ·rw [List.getElem_set_ne e] at ef;exact ef
 ·by_cases e:k=q
  ·subst e;rw [ud_at];exact hu
  ·rw [ud_ne _ _ e];have:=h.ub k;omega
theorem Inv.load {p P W v u} (h:Inv p P W v u) {q i:Nat} (h1:1<=q) (h16:q<=16) (hi:i<p.f.fr.length) (hz:p.f.fr[i].1=0) (hn:∀ j (hj:j<p.f.fr.length),p.f.fr[j].1≠(q:Int)) {x:Pg} (hx:pgR x=true) (hxq:x.1=(q:Int)) (fresh:Bool) (hf:fresh=false->x=P q) (hv:x.2.1<=v) (hu:1<=u)
  (hm:FM {inS p.f x i with dt:=bif fresh then p.f.dt++[(x.1,p.now)] else p.f.dt}):
  Inv ⟨{inS p.f x i with dt:=bif fresh then p.f.dt++[(x.1,p.now)] else p.f.dt},p.d,p.now⟩ (ud P q x) (ud W q 1) v u:=by
 refine ⟨⟨hm,h.pj.rest,h.pj.ca,h.pj.z0,h.pj.n0,h.pj.n1,fun y hy=>?_⟩,?_,fun k j hB=>?_,⟨fun k k1 k16 hk=>?_,fun k k1 k16=>?_,fun k=>?_⟩,fun k=>?_⟩
 ·cases fresh with
  |false=>exact h.pj.dt y hy
  |true=>
   rcases List.mem_append.1 hy with e|e
   ·exact h.pj.dt y e
   ·rw [List.mem_singleton] at e;subst e;exact Int.le_refl _
 ·show PinsL (p.f.fr.set i (x.1,1,true)) _
  refine PinsL.set h.pins hi (fun j hj e0 e1=>absurd (e1.trans hz) e0) fun k k1 k16=>⟨fun e=>?_,fun _ e=>?_,fun e _=>?_⟩
  ·have e:x.1=(k:Int):=e
   have:k=q:=by omega
   subst this;exact ud_at _ _ _
  ·rw [hz] at e;omega
  ·have e:x.1≠(k:Int):=e;exact ud_ne _ _ (by omega)
 ·have hj:j<(p.f.fr.set i (x.1,1,true)).length:=hB.hi;have ef:(p.f.fr.set i (x.1,1,true))[j].1=(k:Int):=hB.fr
  have hj':j<p.f.fr.length:=by rw [List.length_set] at hj;exact hj
  have hk1:=hB.p1;have hj2:j<(p.f.pg.set i x).length:=hB.hp;show (p.f.pg.set i x)[j]'hj2=_
  by_cases e:i=j
  ·subst e;rw [List.getElem_set_self] at ef⊢;have ef:x.1=(k:Int):=ef
   have:k=q:=by omega
   subst this;rw [ud_at]
  ·rw [List.getElem_set_ne e] at ef⊢
   have:k≠q:=fun e2=>by subst e2;exact hn j hj' ef
   rw [ud_ne _ _ this];exact h.at_ k j (atF_of h.pj.fm (by omega) hj' ef)
 ·have hk':∀ y∈p.f.dt,y.1≠(k:Int):=fun y hy=>hk y (by
   cases fresh with
   |false=>exact hy
   |true=>exact List.mem_append_left _ hy)
  by_cases e:k=q
  ·subst e
   cases fresh with
   |true=>exact absurd hxq (hk (x.1,p.now) (List.mem_append_right _ (List.mem_singleton.2 rfl)))
   |false=>
    rw [ud_at];have:=h.on.dsk k k1 k16 hk'
    rwa [<-hf rfl] at this
  ·rw [ud_ne _ _ e];exact h.on.dsk k k1 k16 hk'
 ·by_cases e:k=q
  ·subst e;rw [ud_at];exact .inr ⟨hx,hxq⟩
  ·rw [ud_ne _ _ e];exact h.on.okp k k1 k16
 ·by_cases e:k=q
  ·subst e;rw [ud_at];exact hv
  ·rw [ud_ne _ _ e];exact h.on.vb k
 ·by_cases e:k=q
  ·subst e;rw [ud_at];exact hu
  ·rw [ud_ne _ _ e];exact h.ub k
noncomputable def runL (d:DS) (l:List Jo):DS:=l.foldl stepJ d
theorem runL_app (d:DS) (a b:List Jo):runL d (a++b)=runL (runL d a) b:=List.foldl_append ..
theorem wb_inv {p P W v u} (h:Inv p P W v u) {q i:Nat} (hA:AtF p.f (q:Int) i) (hd:∃ x∈p.f.dt,x.1=(q:Int)):
  ∃ p' l,wbM p q=(p',l,0) /\Inv p' P W v u/\p'.f=cleanD p.f q/\p'.now=p.now/\runL p.d l=p'.d/\l.length=10:=by
 have hpg:=hA.pg;obtain ⟨s1,s2,s3,s4⟩:=setS_rest h.pj.rest hA.pgr;have hw:=wb_at hA;rw [if_pos (Dt.placeG_mem.2 hd),h.pj.d,s1,if_neg (fun q=>q rfl),s2,hpg,Int.toNat_natCast] at hw;refine ⟨_,_,hw,h.clean hA,rfl,rfl,?_,rfl⟩;have:=(pgR_out.1 hA.pgr);have hz:=putB_size this.2.2.2.2;have e:=plan_runs h.pj.rest (p:=q) (by omega) (by omega) hz;rw [runL,h.pj.d];show _=DS.mk (putD p.d.sec (p.f.pg[i]'hA.hp)) [];rw [e,putD,hpg,Int.toNat_natCast]
theorem Inv.loose0 {p P W v u} (h:Inv p P W v u) {i:Nat} (hi:i<p.f.fr.length) (hz:p.f.fr[i].1=0):p.f.fr[i].2.1=0:=by
 rcases h.pj.fm.place i hi hi (by rw [h.pj.fm.len];exact hi) with q|⟨q,_⟩
 ·exact q.2.1
 ·omega
theorem mr_inv:∀ (n:Nat) {p P W v u} (l:List Jo),Inv p P W v u->p.f.dt.length<n->(∃ i,∃ hi:i<p.f.fr.length,p.f.fr[i].2.1=0)->
  ∃ p' l',mrM n p l=(p',l++l',0) /\Inv p' P W v u/\ (∃ i,∃ hi:i<p'.f.fr.length,p'.f.fr[i].1=0) /\p'.now=p.now/\p'.f.fr.length=p.f.fr.length/\runL p.d l'=p'.d/\l'.length<=10*n/\
   (∀ q,q≠0->(∀ i (hi:i<p.f.fr.length),p.f.fr[i].1≠q)->∀ i (hi:i<p'.f.fr.length),p'.f.fr[i].1≠q)
 |0,p,P,W,v,u,l,h,hn,_=>absurd hn (Nat.not_lt_zero _)
 |n+1,p,P,W,v,u,l,h,hn,hlo=>by
  rw [mrM]
  rcases room_cases h.pj.fm with ⟨i,hi,hz,e⟩|⟨_,hb,e⟩|⟨hno,t,a,q,hA,hs,hA2,h0,e⟩
  ·rw [e,if_neg (fun q=>q rfl),if_pos rfl];exact ⟨p,[],by rw [List.append_nil],h,⟨i,hi,hz⟩,rfl,rfl,rfl,by simp,fun _ _ g=>g⟩
  ·obtain ⟨i,hi,hz⟩:=hlo;exact absurd hz (hb i hi)
  obtain ⟨o1,o2,o3,o4,o5⟩:=hs.out;have hI:=h.swp hs;obtain ⟨qn,rfl⟩:∃ qn:Nat,q=qn:=⟨q.toNat,by have:=hA.p1;omega⟩;have hpg:(p.f.pg[a]'hA.hp).1=qn:=hA.pg
  by_cases hsin:(Dt.sinceG p.f.dt qn).2=true
  ·rw [if_pos hsin] at e;rw [e,if_neg (fun q=>q rfl),if_neg (show ¬true=false by decide)];simp only [hpg];have hd:=Dt.placeG_mem.1 (since_place hsin);obtain ⟨p',l1,e1,i1,f1,n1,r1,len1⟩:=wb_inv (p:=⟨swept p.f (t,a),p.d,p.now⟩) hI hA2 hd;rw [e1,if_neg (fun q=>q rfl)];simp only [];have hlt:=cleanD_lt (f:=swept p.f (t,a)) (p:=qn) (since_place hsin);have hlt:(cleanD (swept p.f (t,a)) qn).dt.length<p.f.dt.length:=hlt
   have hfr:p'.f.fr=t:=by rw [f1];rfl
   obtain ⟨p2,l2,e2,i2,g2,n2,m2,r2,len2,out2⟩:=mr_inv n (l++l1) i1 (by rw [f1];exact Nat.lt_of_lt_of_le hlt (Nat.le_of_lt_succ hn)) ⟨a,by rw [hfr];exact o4,by simp only [hfr];exact o5⟩;refine ⟨p2,l1++l2,by rw [e2,List.append_assoc],i2,g2,n2.trans n1,by rw [m2,hfr,o1],by rw [runL_app,r1,r2],by simp only [List.length_append];omega,fun q hq hn=>out2 q hq ?_⟩;intro i hi
   have hi':i<t.length:=by rw [<-hfr];exact hi
   simp only [hfr];rw [(o3 i (by omega) hi').1];exact hn i (by omega)
  ·rw [if_neg hsin] at e;rw [e,if_neg (fun q=>q rfl),if_pos rfl]
   have hnd:∀ x∈(PS.mk (swept p.f (t,a)) p.d p.now).f.dt,x.1≠(qn:Int):=fun x hx ex=>hsin (by
    have hx:x∈p.f.dt:=hx
    rw [Dt.since_yes h.pj.fm.dt (p:=(qn:Int)) (t:=x.2) (by rw [<-ex];exact hx)])
   have i1:=hI.rel0 hA2 (by have h3:=(o3 a o2 o4).2;exact h3.trans h0) hnd;refine ⟨_,[],by rw [List.append_nil],i1,?_,rfl,?_,rfl,by simp,fun q hq hn i hi=>?_⟩
   ·refine ⟨a,by show a<(t.set a (0,0,false)).length;rw [List.length_set];exact o4,?_⟩;show ((t.set a (0,0,false))[a]'(by rw [List.length_set];exact o4)).1=0;rw [List.getElem_set_self]
   ·show (t.set a (0,0,false)).length=_
    rw [List.length_set];exact o1
   ·have hi':i<(t.set a (0,0,false)).length:=hi;show ((t.set a (0,0,false))[i]'hi').1≠q;rw [List.getElem_set]
    split
    ·exact fun g=>hq g.symm
    ·rw [(o3 i (by rw [List.length_set] at hi';omega) (by rw [List.length_set] at hi';exact hi')).1];exact hn i _
theorem make_inv {p P W v u} (h:Inv p P W v u):
  ((∀ i (hi:i<p.f.fr.length),p.f.fr[i].2.1≠0) /\makeM p=(p,[],6)) \/ ((∃ i,∃ hi:i<p.f.fr.length,p.f.fr[i].2.1=0) /\
  ∃ p' l',makeM p=(p',l',0) /\Inv p' P W v u/\ (∃ i,∃ hi:i<p'.f.fr.length,p'.f.fr[i].1=0) /\p'.now=p.now/\p'.f.fr.length=p.f.fr.length/\runL p.d l'=p'.d/\l'.length<=170/\
   (∀ q,q≠0->(∀ i (hi:i<p.f.fr.length),p.f.fr[i].1≠q)->∀ i (hi:i<p'.f.fr.length),p'.f.fr[i].1≠q)):=by
 by_cases hb:∀ i (hi:i<p.f.fr.length),p.f.fr[i].2.1≠0
 ·exact .inl ⟨hb,make_busy h.pj.fm (fun i hi e=>hb i hi (h.loose0 hi e)) hb⟩
 ·refine .inr ?_;obtain ⟨i,hi⟩:=Classical.not_forall.1 hb;obtain ⟨hi,he⟩:=Classical.not_forall.1 hi;have he:p.f.fr[i].2.1=0:=Classical.byContradiction he;have hl:=(Dt.rightB_out h.pj.fm.dt).1;obtain ⟨p',l',e1,r⟩:=mr_inv 17 [] h (Nat.lt_succ_of_le hl) ⟨i,hi,he⟩;exact ⟨⟨i,hi,he⟩,p',l',e1,r⟩
theorem nodup_le:∀ {a b:List Int},a.Nodup->(∀ x∈a,x∈b)->a.length<=b.length
 | [],b,_,_=>Nat.zero_le _
 |y::r,b,hn,hs=>by
  rw [List.nodup_cons] at hn;have hy:=hs y (List.mem_cons_self ..)
  have:=nodup_le (b:=b.erase y) hn.2 fun z hz=>(List.mem_erase_of_ne (fun e=>hn.1 (by rw [<-e];exact hz))).2 (hs z (List.mem_cons_of_mem _ hz))
  rw [List.length_erase_of_mem hy] at this;have hb:0<b.length:=List.length_pos_of_mem hy
  simp only [List.length_cons];omega
def bn (W:Nat->Int):Nat->Nat
 |0=>0
 |k+1=>bn W k+(if 0<W (k+1) then 1 else 0)
def bl' (W:Nat->Int):Nat->List Int
 |0=>[]
 |k+1=>if 0<W (k+1) then ((k+1:Nat):Int)::bl' W k else bl' W k
theorem bl'_len (W:Nat->Int):∀ k,(bl' W k).length=bn W k
 |0=>rfl
 |k+1=>by
  rw [bl',bn,<-bl'_len W k]
  split<;>simp
theorem bl'_mem {W:Nat->Int} {x:Int}:∀ {k:Nat},x∈bl' W k↔∃ q:Nat,x=q/\1<=q/\q<=k/\0<W q
 |0=>by simp [bl'];omega
 |k+1=>by
  rw [bl']
  constructor
  ·intro hx
   split at hx
   ·rename_i hw
    rcases List.mem_cons.1 hx with e|e
    ·exact ⟨k+1,e,by omega,by omega,hw⟩
    ·obtain ⟨q,a,b,c,d⟩:=bl'_mem.1 e;exact ⟨q,a,b,by omega,d⟩
   ·obtain ⟨q,a,b,c,d⟩:=bl'_mem.1 hx;exact ⟨q,a,b,by omega,d⟩
  ·rintro ⟨q,a,b,c,d⟩
   by_cases e:q=k+1
   ·subst e;rw [if_pos d,a];exact List.mem_cons_self ..
   ·have:=bl'_mem (W:=W) (k:=k) (x:=x) |>.2 ⟨q,a,b,by omega,d⟩
    split
    ·exact List.mem_cons_of_mem _ this
    ·exact this
theorem bl'_nodup (W:Nat->Int):∀ k,(bl' W k).Nodup
 |0=>List.nodup_nil
 |k+1=>by
  rw [bl']
  split
  ·rw [List.nodup_cons];refine ⟨fun h=>?_,bl'_nodup W k⟩;obtain ⟨q,a,_,c,_⟩:=bl'_mem.1 h;omega
  ·exact bl'_nodup W k
def pinned (l:List Fr):List Int:=(l.filter fun x=>!decide (x.2.1=0)).map (·.1)
theorem pinned_mem {l:List Fr} {p:Int}:p∈pinned l↔∃ i,∃ h:i<l.length,l[i].1=p/\l[i].2.1≠0:=by
 unfold pinned;rw [List.mem_map]
 constructor
 ·rintro ⟨x,hx,rfl⟩;obtain ⟨h1,h2⟩:=List.mem_filter.1 hx;obtain ⟨i,hi,rfl⟩:=List.mem_iff_getElem.1 h1;exact ⟨i,hi,rfl,by simpa using h2⟩
 ·rintro ⟨i,hi,rfl,h0⟩;exact ⟨l[i],List.mem_filter.2 ⟨List.getElem_mem hi,by simpa using h0⟩,rfl⟩
theorem pinned_nodup:∀ {l:List Fr},(∀ i j,(hi:i<l.length)->(hj:j<l.length)->l[i].2.1≠0->l[i].1=l[j].1->i=j)->(pinned l).Nodup
 | [],_=>by simp [pinned]
 |x::r,h=>by
  have ih:=pinned_nodup (l:=r) fun i j hi hj h0 e=>by
   have:=h (i+1) (j+1) (by simpa using hi) (by simpa using hj) (by simpa using h0) (by simpa using e);omega
  unfold pinned at ih⊢
  by_cases hx:x.2.1=0
  ·rw [List.filter_cons_of_neg (by simp [hx])];exact ih
  ·rw [List.filter_cons_of_pos (by simp [hx]),List.map_cons,List.nodup_cons];refine ⟨fun hm=>?_,ih⟩;obtain ⟨j,hj,e,_⟩:=pinned_mem.1 hm;have:=h 0 (j+1) (by simp) (by simpa using hj) (by simpa using hx) (by simpa using e.symm);omega
theorem Inv.busy {p P W v u} (h:Inv p P W v u):bn W 16=p.f.fr.length↔∀ i (hi:i<p.f.fr.length),p.f.fr[i].2.1≠0:=by
 have hfr:∀ i (hi:i<p.f.fr.length),p.f.fr[i].2.1≠0->1<=p.f.fr[i].1/\p.f.fr[i].1<=16:=fun i hi h0=>by
  have hne:p.f.fr[i].1≠0:=fun e=>h0 (h.loose0 hi e)
  have hA:=atF_of h.pj.fm hne hi rfl;exact ⟨hA.p1,hA.p16⟩
 have hnd:(pinned p.f.fr).Nodup:=pinned_nodup fun i j hi hj h0 e=>h.pj.fm.uni hi hj (by have:=hfr i hi h0;omega) e
 have s1:∀ x∈pinned p.f.fr,x∈bl' W 16:=fun x hx=>by
  obtain ⟨i,hi,e,h0⟩:=pinned_mem.1 hx;have hb:=hfr i hi h0;have hA:=atF_of h.pj.fm (p:=((x.toNat:Nat):Int)) (by omega) hi (by omega);have hw:=h.wat hA;have hk:=frOk_out.1 (h.pj.fm.ck.all i hi);exact bl'_mem.2 ⟨x.toNat,by omega,by omega,by omega,by rw [hw];omega⟩
 have s2:∀ x∈bl' W 16,x∈pinned p.f.fr:=fun x hx=>by
  obtain ⟨q,e,q1,q16,hw⟩:=bl'_mem.1 hx
  rcases h.pins q q1 q16 with ⟨i,hi,e1,e2⟩|⟨_,e2⟩
  ·exact pinned_mem.2 ⟨i,hi,by rw [e1,e],by omega⟩
  ·omega
 have hlen:(pinned p.f.fr).length=bn W 16:=by
  rw [<-bl'_len];exact Nat.le_antisymm (nodup_le hnd s1) (nodup_le (bl'_nodup W 16) s2)
 rw [<-hlen];unfold pinned;rw [List.length_map,List.length_filter_eq_length_iff]
 constructor
 ·intro g i hi
  simpa using g _ (List.getElem_mem hi)
 ·intro g x hx;obtain ⟨i,hi,rfl⟩:=List.mem_iff_getElem.1 hx
  simpa using g i hi
def newP (q:Nat):Pg:=((q:Int),1,ByteArray.empty)
abbrev R3:=(Nat->Pg)×(Nat->Int)×Pg×Int
def thereM (P:Nat->Pg) (W:Nat->Int) (n:Nat) (k:Int) (q:Nat):R3:=
 if k=1/\ (P q).1=0 then (P,W,zP,3)
 else if k=2/\ (P q).1≠0 then (P,W,zP,4)
 else if W q=0/\bn W 16=n then (P,W,zP,6)
 else if k=2 then (ud P q (newP q),ud W q (W q+1),newP q,0)
 else (ud P q (P q),ud W q (W q+1),P q,0)
theorem ud_self {α:Type} (P:Nat->α) (q:Nat):ud P q (P q)=P:=by
 funext k
 rw [ud]
 split
 ·rename_i h;rw [h]
 ·rfl
theorem Inv.mono {p P W v u v' u'} (h:Inv p P W v u) (hv:v<=v') (hu:u<=u'):Inv p P W v' u':=
 ⟨h.pj,h.pins,h.at_,⟨h.on.dsk,h.on.okp,fun q=>Int.le_trans (h.on.vb q) hv⟩,fun q=>Int.le_trans (h.ub q) hu⟩
structure Did (p:PS) (v u:Int) (m:R3) (r:R4):Prop where
 told:r.2.1=m.2.2.1
 err:r.2.2.2=m.2.2.2
 inv:Inv r.1 m.1 m.2.1 v u
 now:r.1.now=p.now
 len:r.1.f.fr.length=p.f.fr.length
 run:runL p.d r.2.2.1=r.1.d
 few:r.2.2.1.length<=170
 none:r.2.2.2≠0->r.2.2.1=[]
theorem Did.same {p P W v u} (h:Inv p P W v u) (x:Pg) (e:Int):Did p v u (P,W,x,e) (p,x,[],e):=⟨rfl,rfl,h,rfl,rfl,rfl,by simp,fun _=>rfl⟩
theorem Inv.where {p P W v u} (h:Inv p P W v u) {q:Nat} (h1:1<=q):(∀ i (hi:i<p.f.fr.length),p.f.fr[i].1≠(q:Int)) \/ ∃ i,AtF p.f (q:Int) i:=by
 have hq0:(q:Int)≠0:=by omega
 by_cases hn:∀ i (hi:i<p.f.fr.length),p.f.fr[i].1≠(q:Int)
 ·exact .inl hn
 ·obtain ⟨i,hi⟩:=Classical.not_forall.1 hn;obtain ⟨hi,he⟩:=Classical.not_forall.1 hi;exact .inr ⟨i,atF_of h.pj.fm hq0 hi (Classical.byContradiction he)⟩
theorem Inv.nz {p P W v u} (h:Inv p P W v u) {q i:Nat} (hA:AtF p.f (q:Int) i):(P q).1≠0:=by
 rw [<-h.at_ q i hA,hA.pg];have:=hA.p1;omega
theorem load_did {p P W v u} (h:Inv p P W v u) (hu:1<=u) {q:Nat} (h1:1<=q) (h16:q<=16) (hn:∀ i (hi:i<p.f.fr.length),p.f.fr[i].1≠(q:Int)) {x:Pg} (hx:pgR x=true) (hxq:x.1=(q:Int)) (fresh:Bool) (hf:fresh=false->x=P q) (hv:x.2.1<=v) {n:Nat} (hl:p.f.fr.length=n):
  Did p v u (if W q=0/\bn W 16=n then (P,W,zP,6) else (ud P q x,ud W q (W q+1),x,0)) (poolLoad p x fresh):=by
 have hw:=h.wout h1 h16 hn
 rcases make_inv h with ⟨hb,e⟩|⟨hlo,p',l',e,i',⟨i,hi,hz⟩,hnow,hlen,hrun,hfew,hout⟩
 ·rw [if_pos ⟨hw,by rw [<-hl];exact h.busy.2 hb⟩,poolLoad,e,if_pos (show (6:Int)≠0 by decide)];exact Did.same h zP 6
 ·have hbz:¬(W q=0/\bn W 16=n):=fun g=>by
   rw [<-hl] at g;obtain ⟨j,hj,ej⟩:=hlo;exact h.busy.1 g.2 j hj ej
  have hq0:(q:Int)≠0:=by omega
  have hn':=hout q hq0 hn;obtain ⟨j,hj,hz',e2,m1,m2⟩:=load_after e i'.pj.fm hx i'.pj.n0 i'.pj.n1 fresh (by rw [hxq];exact hn') ⟨i,hi,hz⟩ i'.pj.dt;rw [if_neg hbz,e2,hw];exact ⟨rfl,rfl,i'.load h1 h16 hj hz' hn' hx hxq fresh hf hv hu m1,hnow,by show (p'.f.fr.set j _).length=_;rw [List.length_set,hlen],hrun,hfew,fun g=>absurd rfl g⟩
theorem mark_any {f:FX} (h:FM f) {p t:Int} (hp1:1<=p) (hp16:p<=16) (h0:0<=t) (h1:t<=2147483647) (ht:∀ x∈f.dt,x.2<=t):Dt.markG f.dt p t=(if 0<=Dt.placeG f.dt p 0 then f.dt else f.dt++[(p,t)],0):=by
 by_cases hd:0<=Dt.placeG f.dt p 0
 ·rw [if_pos hd];exact mark_old h hp1 hp16 h0 h1 hd ht
 ·rw [if_neg hd]
  have hl:Dt.lateB f.dt t=false:=by
   unfold Dt.lateB
   by_cases hz:0<f.dt.length
   ·have hm:=List.getElem_mem (show f.dt.length-1<f.dt.length by omega);have:=ht _ hm;rw [List.getElem?_eq_getElem (by omega),Option.getD_some]
    simp;omega
   ·simp [hz]
  rw [Dt.markG,if_neg,if_neg (by rw [hl];decide),if_neg hd];intro q
  rcases q with q|q|q
  ·rw [h.dt] at q;cases q
  ·simp [Dt.pageB] at q;omega
  ·simp [Dt.timeB] at q;omega
theorem del_run {s:List ByteArray} (h:Rest s) {q:Nat} (h1:1<=q) (h16:q<=16):runL ⟨s,[]⟩ (planJ q (nulB 32))=⟨rmD s q,[]⟩:=
 plan_runs h h1 h16 (nulB_size 32)
theorem delete_did {p P W v u} (h:Inv p P W v u) (hv:0<=v) {q:Nat} (h1:1<=q) (h16:q<=16):Did p v u (if 0<W q then (P,W,zP,6) else if (P q).1=0 then (P,W,zP,3) else (ud P q zP,W,zP,0)) (poolRemove p q):=by
 obtain ⟨d1,d2,d3,d4⟩:=delD_rest h.pj.rest h1 h16;have hr:=del_run h.pj.rest h1 h16;rw [poolRemove]
 rcases h.where h1 with hn|⟨i,hA⟩
 ·rw [findF_no h.pj.fm hn (by omega),if_neg (show ¬false=true by decide),h.pj.get h1 h16,h.on.dsk q h1 h16 (h.out h1 hn),h.wout h1 h16 hn,if_neg (show ¬(0:Int)<0 by decide)]
  by_cases hz:(P q).1=0
  ·rw [if_pos hz,if_pos hz,if_pos (show (3:Int)≠0 by decide)];exact Did.same h zP 3
  ·rw [if_neg hz,if_neg hz,if_neg (show ¬((0:Int)≠0) from fun g=>g rfl),delTail,h.pj.get h1 h16,h.on.dsk q h1 h16 (h.out h1 hn),if_neg hz,if_neg (show ¬(0:Int)=3 by decide)];rw [h.pj.d,d1,d2,if_neg (show ¬((0:Int)≠0) from fun g=>g rfl)];exact ⟨rfl,rfl,h.rm h1 h16 hv hn,rfl,rfl,by rw [h.pj.d];exact hr,show (10:Nat) <=170 by decide,fun g=>absurd rfl g⟩
 ·have hi:=hA.hi;have hw:=h.wat hA;have hk:=frOk_out.1 (h.pj.fm.ck.all i hi);rw [findF_at hA,if_pos rfl,Int.toNat_natCast,atF_eq hi,hw]
  by_cases hz:0<p.f.fr[i].2.1
  ·rw [if_pos hz,if_pos hz];exact Did.same h zP 6
  rw [if_neg hz,if_neg hz,if_neg (h.nz hA)]
  have e:lookS p.f q=((i:Int),0):=by
   rw [lookS,if_pos (fm_iff.2 hA.right),(find_mem hA.right.tb).2 ⟨hA.p1,hA.mem⟩];rfl
  have ed:dropS p.f q=(relS p.f i q,0):=by
   rw [dropS,e,if_neg (fun g=>g rfl),Int.toNat_natCast,atF_eq hi,if_neg hz]
  rw [ed,if_neg (show ¬((0:Int)≠0) from fun g=>g rfl),delTail,h.pj.get h1 h16]
  have h0:p.f.fr[i].2.1=0:=by omega
  by_cases hg:(getR p.d.sec q).2=3
  ·rw [if_pos hg]
   have hg2:getR p.d.sec q=(zP,3):=by
    have e3:∀ a:ByteArray,(takeM a).2≠0->True:=fun _ _=>trivial
    rw [getR] at hg⊢
    split
    ·rename_i g;rw [if_pos g] at hg;rw [hg]
    ·rename_i g;rw [if_neg g] at hg
     split at hg<;>exact absurd hg (show ¬_=(3:Int) by simp only [];decide)
   have:=h.rel hA h0 (s':=p.d.sec) (P':=ud P q zP) h.pj.rest h.pj.z0 (fun k hk=>ud_ne _ _ hk) (fun _ _ _ _=>rfl) (by rw [ud_at,if_pos (show zP.1=0 from rfl)];exact hg2) (by rw [ud_at];exact .inl rfl) (by rw [ud_at];exact hv);rw [<-h.pj.d] at this;exact ⟨rfl,rfl,this,rfl,by show (p.f.fr.set i _).length=_;rw [List.length_set],rfl,by simp,fun g=>absurd rfl g⟩
  ·rw [if_neg hg,h.pj.d,d1,d2,if_neg (show ¬((0:Int)≠0) from fun g=>g rfl)];have:=h.rel hA h0 (s':=rmD p.d.sec q) (P':=ud P q zP) d3 (setD_0 h.pj.rest) (fun k hk=>ud_ne _ _ hk) (fun k k1 k16 hne=>by rw [get_rm h.pj.rest h1 h16 k1 k16,if_neg (fun e=>hne e.symm)]) (by rw [ud_at,if_pos (show zP.1=0 from rfl),get_rm h.pj.rest h1 h16 h1 h16,if_pos rfl]) (by rw [ud_at];exact .inl rfl) (by rw [ud_at];exact hv);exact ⟨rfl,rfl,this,rfl,by show (p.f.fr.set i _).length=_;rw [List.length_set],by rw [h.pj.d];exact hr,show (10:Nat) <=170 by decide,fun g=>absurd rfl g⟩
theorem age_run {p0:PS}:∀ {ids:List Int} {q P W v u} {l:List Jo},Inv q P W v u->ids.Nodup->(∀ id∈ids,∃ x∈q.f.dt,x.1=id)->
  ∃ q' l',ageL p0 ids q l=(q',zP,l++l',0) /\Inv q' P W v u/\q'.now=q.now/\q'.f.fr.length=q.f.fr.length/\runL q.d l'=q'.d/\l'.length<=10*ids.length/\ ∀ x,x∈q'.f.dt↔x∈q.f.dt/\x.1∉ids
 | [],q,P,W,v,u,l,h,_,_=>⟨q,[],by rw [ageL,List.append_nil],h,rfl,rfl,rfl,by simp,fun x=>by simp⟩
 |id::r,q,P,W,v,u,l,h,hn,hd=>by
  rw [List.nodup_cons] at hn;obtain ⟨x,hx,ex⟩:=hd id (List.mem_cons_self ..);obtain ⟨i,hA⟩:=dirty_in h.pj.fm hx;rw [ex] at hA;obtain ⟨qn,rfl⟩:∃ qn:Nat,id=qn:=⟨id.toNat,by have:=hA.p1;omega⟩;obtain ⟨p',l1,e,i1,f1,n1,r1,len1⟩:=wb_inv h hA ⟨x,hx,ex⟩
  have hmem:∀ y,y∈p'.f.dt↔y∈q.f.dt/\y.1≠(qn:Int):=fun y=>by
   rw [f1];show y∈q.f.dt.filter _↔_;rw [List.mem_filter];simp
  obtain ⟨q2,l2,e2,i2,n2,m2,r2,len2,d2⟩:=age_run (p0:=p0) (l:=l++l1) i1 hn.2 fun id' hid'=>by
   obtain ⟨y,hy,ey⟩:=hd id' (List.mem_cons_of_mem _ hid');exact ⟨y,(hmem y).2 ⟨hy,fun g=>hn.1 (by rw [<-g,ey];exact hid')⟩,ey⟩
  refine ⟨q2,l1++l2,?_,i2,n2.trans n1,by rw [m2,f1];rfl,by rw [runL_app,r1,r2],by simp only [List.length_append,List.length_cons];omega,fun y=>?_⟩
  ·rw [ageL,e,if_neg (show ¬((0:Int)≠0) from fun g=>g rfl),e2,List.append_assoc]
  ·rw [d2,hmem,List.mem_cons]
   constructor
   ·rintro ⟨⟨a,b⟩,c⟩;exact ⟨a,fun g=>g.elim b c⟩
   ·rintro ⟨a,b⟩;exact ⟨⟨a,fun g=>b (.inl g)⟩,fun g=>b (.inr g)⟩
theorem due_nodup {now age:Int}:∀ {l:List (Int×Int)},l.Pairwise (fun a b=>a.1≠b.1)->(l.filterMap (Dt.dueF now age)).Nodup
 | [],_=>List.nodup_nil
 |x::r,h=>by
  rw [List.pairwise_cons] at h;have ih:=due_nodup (now:=now) (age:=age) h.2;rw [List.filterMap_cons]
  split
  ·exact ih
  ·rename_i b e;rw [List.nodup_cons];refine ⟨fun hm=>?_,ih⟩;obtain ⟨y,hy,ey⟩:=List.mem_filterMap.1 hm;rw [Dt.dueF] at e ey
   split at e
   ·split at ey
    ·exact h.1 y hy ((Option.some.inj e).trans (Option.some.inj ey).symm)
    ·cases ey
   ·cases e
theorem due_nd {l:List (Int×Int)} (h:Dt.rightB l=true) (now age:Int):(Dt.dueG l now age).Nodup:=by
 rw [Dt.dueG]
 split
 ·exact List.nodup_nil
 ·exact due_nodup (Dt.rightB_iff.1 h).2.2.1
theorem age_did {p P W v u} (h:Inv p P W v u) (age:Int):Did p v u (P,W,zP,0) (poolAge p age) /\ (0<=age->∀ x,x∈(poolAge p age).1.f.dt↔x∈p.f.dt/\p.now-x.2<age):=by
 obtain ⟨q',l',e,i1,n1,m1,r1,len1,d1⟩:=age_run (p0:=p) (l:=[]) h (due_nd h.pj.fm.dt p.now age) fun id hid=>by
  obtain ⟨_,t,ht,_⟩:=due_ids hid;exact ⟨_,ht,rfl⟩
 have h16:=due_len (now:=p.now) (age:=age) h.pj.fm.dt;rw [poolAge,e];refine ⟨⟨rfl,rfl,i1,n1,m1,r1,by simp only [List.nil_append];omega,fun g=>absurd rfl g⟩,fun h0 x=>?_⟩;simp only [];rw [d1]
 constructor
 ·rintro ⟨a,b⟩;refine ⟨a,Classical.byContradiction fun g=>b ?_⟩;rw [Dt.dueG,if_neg]
  ·exact List.mem_filterMap.2 ⟨x,a,by rw [Dt.dueF,if_pos (by omega)]⟩
  ·rintro (g|g|g)
   ·omega
   ·have:=h.pj.n0;omega
   ·rw [h.pj.fm.dt] at g;cases g
 ·rintro ⟨a,b⟩;refine ⟨a,fun g=>?_⟩;obtain ⟨_,t,ht,hl⟩:=due_ids g;have s1:=Dt.since_yes h.pj.fm.dt ht;rw [Dt.since_yes h.pj.fm.dt (p:=x.1) (t:=x.2) a] at s1
  cases s1
  omega
end Go.Lk
