/-
  What is proved here: what functions of the program compute, and what follows; no condition beyond each theorem's own.
-/
import Derived.Test.YtaofmndhdmkgkaaGreatHAl
import Derived.Test.YtaofmndhdmkgkaaGreatHAm
import Derived.Test.YtaofmndhdmkgkaaGreatHAr
set_option linter.unusedSimpArgs false
set_option linter.unusedVariables false
set_option linter.unnecessarySimpa false
set_option linter.unusedSectionVars false
namespace Go.Lk.Tb
open Go Go.Proofs Go.RowKit Go.Lk
abbrev Slots:=List (Int×Int)
def encS (x:Int×Int):D:=.agg (encI x)
def encT (l:Slots):D:=.agg [encIs l]
def freeB (x:Int×Int):Bool:=decide (x.1=0)&&decide (x.2=0)
def fitsB (p f:Int):Bool:=decide (1<=p)&&(decide (p<=2147483647)&&(decide (0<=f)&&decide (f<=2147483647)))
theorem free_ok (x:Int×Int):ACall Tryz.prog 226 [encS x] (.bool (freeB x)):=by
 refine acall_of Tryz.func226 1 rfl (by kernel_rfl) (aW ?_)
 refine bcase_p (fun h=>?_) (fun h=>?_)<;>conv=>whnf
 ·refine aA ?_;exact ret_of rfl (by simp [freeB,h])
 ·refine aA ?_;exact ret_of rfl (by simp [freeB,h])
theorem fits_ok (p f:Int):ACall Tryz.prog 227 [.int .i64 p,.int .i64 f] (.bool (fitsB p f)):=by
 refine acall_of Tryz.func227 2 rfl (by kernel_rfl) (w0 ?_)
 refine bcase_p (fun h=>?_) (fun h=>?_)<;>conv=>whnf
 ·refine bcase_p (fun h2=>?_) (fun h2=>?_)<;>conv=>whnf
  ·refine bcase_p (fun h3=>?_) (fun h3=>?_)<;>conv=>whnf
   ·exact ret_of rfl (by simp [fitsB,h,h2,h3])
   ·exact ret_of rfl (by simp [fitsB,h,h2,h3])
  ·refine aA ?_;exact ret_of rfl (by simp [fitsB,h,h2])
 ·refine aA ?_;exact ret_of rfl (by simp [fitsB,h])
theorem home_ok (n:Int) (h:0<=n):ACall Tryz.prog 228 [.int .i64 n] (.int .i64 (n%16)):=by
 refine acall_of Tryz.func228 1 rfl (by kernel_rfl) (w0 ?_);refine divK_rem (by decide) h (w0 ?_);exact ret_of rfl rfl
theorem behind_ok (n:Int) (h:0<=n) (h1:n<=100):ACall Tryz.prog 229 [.int .i64 n] (.int .i64 ((n+1)%16)):=by
 refine acall_of Tryz.func229 1 rfl (by kernel_rfl) (aW ?_);refine divK_rem (by decide) (by omega) (w0 ?_);exact ret_of rfl rfl
theorem way_ok (a b:Int) (h:0<=a) (h1:a<=15) (h2:0<=b) (h3:b<=15):ACall Tryz.prog 300 [.int .i64 a,.int .i64 b] (.int .i64 ((b-a+16)%16)):=by
 refine acall_of Tryz.func300 2 rfl (by kernel_rfl) (aW ?_);refine divK_rem (by decide) (by omega) (w0 ?_);exact ret_of rfl rfl
theorem clone_ok (l:Slots) (hl:l.length<=1000000):OCall Tryz.prog 60 [encIs l] (l.map encI) 2:=by
 refine ocall_of Tryz.func60 1 rfl (by kernel_rfl) (w0 ?_);refine nilK_of (w0 ?_);intro r hr
 conv=>whnf
 refine bcase_intro (fun h=>?_) (fun h=>?_)<;>conv=>whnf
 ·have:=hr h;exact ⟨2,rfl,.inr ⟨rfl,this⟩⟩
 ·refine aA ?_;refine condK_of (encI_ok l) (w0 ?_);refine roomK_le 1000100 100 (by show 0+List.length _<=1000100;simp;omega) (by decide) (by decide) (by decide) (w0 ?_);exact ⟨2,rfl,.inl ⟨5,rfl,rfl⟩⟩
theorem new_ok:ACall Tryz.prog 186 [] (encT (List.replicate 16 (0,0))):=by
 refine acall_of Tryz.func186 0 rfl (by kernel_rfl) (aW ?_);refine roomK_le 100 100 (by decide) (by decide) (by decide) (by decide) (aW ?_);exact ret_of rfl rfl
def placeG (l:Slots) (n:Int) (k:Nat):Int:=
 match l with
 | []=>-1
 |p::r=>if p.1=n then (k:Int) else placeG r n (k+1)
def placeT (l:Slots) (p:Int):Int×Bool:=if p<1\/placeG l p 0<0 then (0,false) else (placeG l p 0,true)
theorem place_ok (l:Slots) (n:Int) (hl:l.length<=1000000):ACall Tryz.prog 233 [encT l,.int .i64 n] (.tup [.int .i64 (placeT l n).1,.bool (placeT l n).2]):=by
 refine acall_of Tryz.func233 2 rfl (by kernel_rfl) (w0 ?_)
 refine bcase_p (fun h0=>?_) (fun h0=>?_)<;>conv=>whnf
 ·exact ret_of rfl (by simp [placeT,h0];rfl)
 refine aA ?_;refine aloop (ι:=Nat) (fun k=>[(1,.d (.int .i64 n)),(11,.d (encIs l)),(12,.d (.int .i64 (l.map encI).length)),(13,.d (.int .i64 k))]) (fun _=>[])
  (fun k=>k<=l.length/\placeG (l.drop k) n k=placeG l n 0) (fun k=>l.length-k) 0 ⟨Nat.zero_le _,rfl⟩ (le0 (le_of_cov ⟨rfl,rfl,rfl,rfl,trivial⟩ trivial ⟨rfl,rfl,rfl,rfl⟩)) ?_
 rintro k ⟨hk,hR⟩
 conv=>whnf
 refine bcase_p (fun h=>?_) (fun h=>?_)<;>conv=>whnf
 ·have hk2:k<l.length:=by simpa using h
  refine idxK_nat (by simpa using hk2) (w0 ?_);refine getRow_of (x:=encI l[k]) (by simp [hk2]) (aW ?_);rw [drop_cons hk2,placeG] at hR
  refine bcase_p (fun h2=>?_) (fun h2=>?_)<;>conv=>whnf
  ·rw [if_pos h2] at hR;refine ret_of rfl ?_
   have:placeT l n=((k:Int),true):=by rw [placeT,<-hR,if_neg (by omega)]
   rw [this];rfl
  ·rw [if_neg h2] at hR;refine aA ?_;exact ⟨k+1,⟨by omega,hR⟩,by omega,le0 (le_of_cov ⟨rfl,rfl,rfl,rfl,trivial⟩ trivial ⟨rfl,rfl,rfl,rfl⟩)⟩
 ·have:k=l.length:=by simp at h;omega
  subst this;simp [placeG] at hR;refine ret_of rfl ?_
  have:placeT l n=(0,false):=by rw [placeT,<-hR,if_pos (by omega)]
  rw [this];rfl
def at' (l:Slots) (i:Nat):Int×Int:=l[i]?.getD (0,0)
theorem at_eq {l:Slots} {i:Nat} (h:i<l.length):at' l i=l[i]:=by simp [at',h]
def homeN (p:Int):Nat:=(p%16).toNat
def wayN (a b:Nat):Nat:=(b+16-a)%16
def SlotP (x:Int×Int):Prop:=freeB x=true\/fitsB x.1 x.2=true
def PlaceP (l:Slots) (i:Nat):Prop:=freeB (at' l i)=true\/ ((∀ j,j<i->(at' l j).1≠(at' l i).1) /\ ∀ d,d<wayN (homeN (at' l i).1) i->freeB (at' l ((homeN (at' l i).1+d)%16))=false)
structure RT (l:Slots):Prop where
 len:l.length=16
 slots:∀ i,i<16->SlotP (at' l i)
 places:∀ i,i<16->PlaceP l i
open Classical in
noncomputable def rightB (l:Slots):Bool:=decide (RT l)
theorem rightB_t {l:Slots}:rightB l=true↔RT l:=by simp [rightB]
theorem rightB_f {l:Slots}:rightB l=false↔¬RT l:=by simp [rightB]
theorem fits_out {p f:Int}:fitsB p f=true↔1<=p/\p<=2147483647/\0<=f/\f<=2147483647:=by simp [fitsB]
theorem free_out {x:Int×Int}:freeB x=true↔x.1=0/\x.2=0:=by simp [freeB]
theorem right_ok (l:Slots) (hl:l.length<=1000000):ACall Tryz.prog 164 [encT l] (.bool (rightB l)):=by
 refine acall_of Tryz.func164 1 rfl (by kernel_rfl) (w0 ?_)
 have hm:(l.map encI).length=l.length:=List.length_map ..
 refine aA ?_
 refine bcase_n (fun h0=>?_) (fun h0=>?_)<;>conv=>whnf
 ·exact ret_of rfl (congrArg D.bool (rightB_f.2 fun h=>h0 (by rw [hm,h.len];rfl)).symm)
 have hlen:l.length=16:=by omega
 refine aA ?_;refine aloop (ι:=Nat) (fun k=>[(1,.ptr 1 0 0),(15,.d (encIs l)),(16,.d (.int .i64 (l.map encI).length)),(17,.d (.int .i64 k))]) (fun _=>[(1,.box [.d (encIs l)] false)])
  (fun k=>k<=16/\ ∀ j,j<k->SlotP (at' l j)) (fun k=>16-k) 0 ⟨Nat.zero_le _,fun j h=>absurd h (Nat.not_lt_zero _)⟩ (le0 (le_of_cov ⟨rfl,rfl,rfl,rfl,trivial⟩ ⟨rfl,trivial⟩ ⟨rfl,rfl,rfl,rfl⟩)) ?_
 rintro k ⟨hk,hR⟩
 conv=>whnf
 refine bcase_p (fun h=>?_) (fun h=>?_)<;>conv=>whnf
 ·have hk2:k<l.length:=by omega
  have hat:=at_eq hk2
  have hlast (hs:SlotP l[k]):∀ j,j<k+1->SlotP (at' l j):=fun j hj=>(Nat.lt_succ_iff_lt_or_eq.1 hj).elim (hR j) (fun e=>by subst e;rw [hat];exact hs)
  refine idxK_nat (by omega) (w0 ?_);refine getRow_of (x:=encI l[k]) (by simp [hk2]) (aW ?_);refine callX_pure (free_ok l[k]) (w0 ?_)
  refine bcase_intro (fun h1=>?_) (fun h1=>?_)<;>conv=>whnf
  ·refine aA ?_;refine callX_pure (fits_ok _ _) (w0 ?_)
   refine bcase_intro (fun h2=>?_) (fun h2=>?_)<;>conv=>whnf
   ·refine ret_of rfl (congrArg D.bool (rightB_f.2 fun h=>?_).symm);have:=h.slots k (by omega);rw [hat] at this;simp [SlotP] at this h1 h2;rw [h1,h2] at this;simp at this
   ·refine aA ?_;simp at h2;exact ⟨k+1,⟨by omega,hlast (.inr h2)⟩,by omega,le0 (le_of_cov ⟨rfl,rfl,rfl,rfl,trivial⟩ ⟨rfl,trivial⟩ ⟨rfl,rfl,rfl,rfl⟩)⟩
  ·refine aA ?_;simp at h1;exact ⟨k+1,⟨by omega,hlast (.inl h1)⟩,by omega,le0 (le_of_cov ⟨rfl,rfl,rfl,rfl,trivial⟩ ⟨rfl,trivial⟩ ⟨rfl,rfl,rfl,rfl⟩)⟩
 have hS:∀ j,j<16->SlotP (at' l j):=fun j hj=>hR j (by omega)
 clear hR hk h
 refine aA ?_;refine aloop (ι:=Nat) (fun k=>[(1,.ptr 1 0 0),(34,.d (encIs l)),(35,.d (.int .i64 (l.map encI).length)),(36,.d (.int .i64 k))]) (fun _=>[(1,.box [.d (encIs l)] false)])
  (fun k=>k<=16/\ ∀ j,j<k->PlaceP l j) (fun k=>16-k) 0 ⟨Nat.zero_le _,fun j h=>absurd h (Nat.not_lt_zero _)⟩ (le0 (le_of_cov ⟨rfl,rfl,rfl,rfl,trivial⟩ ⟨rfl,trivial⟩ ⟨rfl,rfl,rfl,rfl⟩)) ?_
 rintro k ⟨hk,hR⟩
 conv=>whnf
 refine bcase_p (fun h=>?_) (fun h=>?_)<;>conv=>whnf
 ·have hk2:k<l.length:=by omega
  have hat:=at_eq hk2
  have hlast (hs:PlaceP l k):∀ j,j<k+1->PlaceP l j:=fun j hj=>(Nat.lt_succ_iff_lt_or_eq.1 hj).elim (hR j) (fun e=>by subst e;exact hs)
  have hsl:=hS k (by omega);refine idxK_nat (by omega) (w0 ?_);refine getRow_of (x:=encI l[k]) (by simp [hk2]) (aW ?_);refine callX_pure (free_ok l[k]) (w0 ?_)
  refine bcase_intro (fun h1=>?_) (fun h1=>?_)<;>conv=>whnf
  ·refine aA ?_;exact ⟨k+1,⟨by omega,hlast (.inl (by rw [hat];exact h1))⟩,by omega,le0 (le_of_cov ⟨rfl,rfl,rfl,rfl,trivial⟩ ⟨rfl,trivial⟩ ⟨rfl,rfl,rfl,rfl⟩)⟩
  have hfit:1<=l[k].1:=by
   rcases hsl with h2|h2
   ·rw [hat,h1] at h2;cases h2
   ·rw [hat] at h2;exact (fits_out.1 h2).1
  refine aA ?_;refine condK_of (fun e he=>encI_len he) (w0 ?_);refine sliceK_hi (by omega) (aW ?_)
  have hlt:(List.drop 0 (List.take k (l.map encI))).length=k:=by simp;omega
  refine aloop (ι:=Nat) (fun q=>[(1,.ptr 1 0 0),(5,.d (.int .i64 k)),(6,.ptr 6 0 0),(34,.d (encIs l)),(35,.d (.int .i64 (l.map encI).length)),(36,.d (.int .i64 k)),(46,.d (.lst (List.drop 0 (List.take k (l.map encI))))),(47,.d (.int .i64 (List.drop 0 (List.take k (l.map encI))).length)),(48,.d (.int .i64 q))]) (fun _=>[(1,.box [.d (encIs l)] false),(6,.box [.d (.int .i64 l[k].1),.d (.int .i64 l[k].2)] false)])
   (fun q=>q<=k/\ ∀ j,j<q->(at' l j).1≠(at' l k).1) (fun q=>k-q) 0 ⟨Nat.zero_le _,fun j h=>absurd h (Nat.not_lt_zero _)⟩ (le0 (le_of_cov ⟨rfl,rfl,rfl,rfl,rfl,rfl,rfl,rfl,rfl,trivial⟩ ⟨rfl,rfl,trivial⟩ ⟨rfl,rfl,rfl,rfl⟩)) ?_
  rintro q ⟨hq,hQ⟩
  conv=>whnf
  refine bcase_p (fun h2=>?_) (fun h2=>?_)<;>conv=>whnf
  ·have hq2:q<k:=by omega
   have hq3:q<l.length:=by omega
   refine idxK_nat (by omega) (w0 ?_);refine getRow_of (x:=encI l[q]) (by rw [List.drop_zero,List.getElem?_take_of_lt hq2,List.getElem?_map,List.getElem?_eq_getElem hq3];rfl) (aW ?_)
   refine bcase_p (fun h3=>?_) (fun h3=>?_)<;>conv=>whnf
   ·refine ret_of rfl (congrArg D.bool (rightB_f.2 fun h=>?_).symm)
    rcases h.places k (by omega) with h4|⟨h4,_⟩
    ·rw [hat,h1] at h4;cases h4
    ·exact h4 q hq2 (by rw [at_eq hq3,hat,h3])
   ·refine aA ?_;exact ⟨q+1,⟨by omega,fun j hj=>(Nat.lt_succ_iff_lt_or_eq.1 hj).elim (hQ j) (fun e=>by subst e;rw [at_eq hq3,hat];exact h3)⟩,by omega,le0 (le_of_cov ⟨rfl,rfl,rfl,rfl,rfl,rfl,rfl,rfl,rfl,trivial⟩ ⟨rfl,rfl,trivial⟩ ⟨rfl,rfl,rfl,rfl⟩)⟩
  have hQk:∀ j,j<k->(at' l j).1≠(at' l k).1:=fun j hj=>hQ j (by omega)
  clear hQ hq h2
  refine aA ?_;refine callX_pure (home_ok l[k].1 (by omega)) (w0 ?_)
  have hhm:((homeN l[k].1:Nat):Int)=l[k].1%16:=by simp [homeN];omega
  have hh16:homeN l[k].1<16:=by simp [homeN];omega
  refine aloop (ι:=Nat) (fun d=>[(1,.ptr 1 0 0),(5,.d (.int .i64 k)),(9,.d (.int .i64 (((homeN l[k].1+d)%16:Nat):Int))),(34,.d (encIs l)),(35,.d (.int .i64 (l.map encI).length)),(36,.d (.int .i64 k))]) (fun _=>[(1,.box [.d (encIs l)] false)])
   (fun d=>d<=wayN (homeN l[k].1) k/\ ∀ d',d'<d->freeB (at' l ((homeN l[k].1+d')%16))=false) (fun d=>16-d) 0 ⟨Nat.zero_le _,fun j h=>absurd h (Nat.not_lt_zero _)⟩ (le0 (le_of_cov ⟨rfl,rfl,by
    show _=AV.d (.int .i64 (((homeN l[k].1+0)%16:Nat):Int));rw [show (((homeN l[k].1+0)%16:Nat):Int)=l[k].1%16 by omega];rfl,rfl,rfl,rfl,trivial⟩ ⟨rfl,trivial⟩ ⟨rfl,rfl,rfl,rfl⟩)) ?_
  rintro d ⟨hd,hD⟩
  conv=>whnf
  have hw16:wayN (homeN l[k].1) k<16:=by simp [wayN];omega
  refine bcase_n (fun h2=>?_) (fun h2=>?_)<;>conv=>whnf
  ·have hd2:d<wayN (homeN l[k].1) k:=by
    by_cases e:d=wayN (homeN l[k].1) k
    ·exfalso;apply h2;rw [e];simp only [wayN];omega
    ·omega
   have hj:(homeN l[k].1+d)%16<l.length:=by omega
   refine aA ?_;refine idxK_nat (by omega) (w0 ?_);refine getRow_of (x:=encI l[(homeN l[k].1+d)%16]) (by simp [hj]) (aW ?_);refine callX_pure (free_ok l[(homeN l[k].1+d)%16]) (w0 ?_)
   refine bcase_intro (fun h3=>?_) (fun h3=>?_)<;>conv=>whnf
   ·refine ret_of rfl (congrArg D.bool (rightB_f.2 fun h=>?_).symm)
    rcases h.places k (by omega) with h4|⟨_,h4⟩
    ·rw [hat,h1] at h4;cases h4
    ·rw [hat] at h4;have:=h4 d hd2;rw [at_eq hj,h3] at this
     cases this
   ·refine callX_pure (behind_ok (((homeN l[k].1+d)%16:Nat):Int) (by omega) (by omega)) (w0 ?_)
    exact ⟨d+1,⟨by omega,fun j hj'=>(Nat.lt_succ_iff_lt_or_eq.1 hj').elim (hD j) (fun e=>by subst e;rw [at_eq hj];exact h3)⟩,by omega,le0 (le_of_cov ⟨rfl,rfl,by
     show _=AV.d (.int .i64 (((homeN l[k].1+(d+1))%16:Nat):Int))
     rw [show (((homeN l[k].1+(d+1))%16:Nat):Int)=((((homeN l[k].1+d)%16:Nat):Int)+1)%16 by omega];rfl,rfl,rfl,rfl,trivial⟩ ⟨rfl,trivial⟩ ⟨rfl,rfl,rfl,rfl⟩)⟩
  ·have hd3:d=wayN (homeN l[k].1) k:=by simp only [wayN] at hd hw16⊢;omega
   refine aA ?_;refine ⟨k+1,⟨by omega,hlast (.inr ⟨hQk,?_⟩)⟩,by omega,le0 (le_of_cov ⟨rfl,rfl,rfl,rfl,trivial⟩ ⟨rfl,trivial⟩ ⟨rfl,rfl,rfl,rfl⟩)⟩
   rw [hat,<-hd3];exact hD
 exact ret_of rfl (congrArg D.bool (rightB_t.2 ⟨hlen,hS,fun j hj=>hR j (by omega)⟩).symm)
theorem placeG_lt {l:Slots} {n:Int}:∀ {k:Nat},placeG l n k<0\/ ∃ i:Nat,placeG l n k=((k+i:Nat):Int) /\ ∃ h:i<l.length,l[i].1=n:=by
 induction l with
 |nil=>intro k;exact .inl (show (-1:Int)<0 by decide)
 |cons p r ih=>
  intro k;simp only [placeG]
  by_cases h:p.1=n
  ·exact .inr ⟨0,by simp [h],by simp,by simpa using h⟩
  ·rw [if_neg h]
   rcases ih (k:=k+1) with h1|⟨i,h1,h2,h3⟩
   ·exact .inl h1
   ·exact .inr ⟨i+1,by rw [h1];simp;omega,by simpa using h2,by simpa using h3⟩
def ffree (l:Slots) (h d:Nat):Nat->Option Nat
 |0=>none
 |n+1=>if freeB (at' l ((h+d)%16))=true then some ((h+d)%16) else ffree l h (d+1) n
noncomputable def putS (l:Slots) (p f:Int):Slots×Int:=
 if rightB l=false\/fitsB p f=false then (l,1) else if (placeT l p).2=true then (l,4) else match ffree l (homeN p) 0 16 with
  |some i=>(l.set i (p,f),0)
  |none=>(l,7)
theorem set_enc (l:Slots) (i:Nat) (x:Int×Int):(l.map encI).set i (encI x)=(l.set i x).map encI:=by rw [List.map_set]
theorem put_ok (l:Slots) (p f:Int) (hl:l.length<=1000000):ACall Tryz.prog 277 [encT l,.int .i64 p,.int .i64 f] (.tup [encT (putS l p f).1,.int .i64 (putS l p f).2]):=by
 refine acall_of Tryz.func277 3 rfl (by kernel_rfl) (aW ?_);refine callX_pure (right_ok l hl) (w0 ?_)
 refine bcase_intro (fun h1=>?_) (fun h1=>?_)<;>conv=>whnf
 ·refine aA ?_;simp at h1;exact ret_of rfl (by simp [putS,h1];rfl)
 simp at h1;refine callX_pure (fits_ok p f) (w0 ?_)
 refine bcase_intro (fun h2=>?_) (fun h2=>?_)<;>conv=>whnf
 ·refine aA ?_;simp at h2;exact ret_of rfl (by simp [putS,h2];rfl)
 simp at h2;refine aA ?_;refine callX_pure (place_ok l p hl) (w0 ?_)
 refine bcase_intro (fun h3=>?_) (fun h3=>?_)<;>conv=>whnf
 ·refine aA ?_;exact ret_of rfl (by simp [putS,h1,h2,h3];rfl)
 have hp:=fits_out.1 h2;have hlen:=(rightB_t.1 h1).len
 have hm:(l.map encI).length=l.length:=List.length_map ..
 have hhm:((homeN p:Nat):Int)=p%16:=by simp [homeN];omega
 have hh16:homeN p<16:=by simp [homeN];omega
 refine callX_pure (home_ok p (by omega)) (w0 ?_);refine aloop (ι:=Nat) (fun d=>[(1,.d (.int .i64 p)),(2,.d (.int .i64 f)),(3,.ptr 3 0 0),(6,.ptr 6 0 0),(10,.d (.int .i64 (((homeN p+d)%16:Nat):Int))),(32,.d (.int .i64 d))]) (fun _=>[(3,.box [.d (encIs l)] false),(6,.box [.nil] false)])
  (fun d=>d<=16/\ffree l (homeN p) d (16-d)=ffree l (homeN p) 0 16) (fun d=>16-d) 0 ⟨Nat.zero_le _,rfl⟩ (le0 (le_of_cov ⟨rfl,rfl,rfl,rfl,by
   show AV.d (.int .i64 (p%16))=AV.d (.int .i64 (((homeN p+0)%16:Nat):Int));rw [show (((homeN p+0)%16:Nat):Int)=p%16 by omega],rfl,trivial⟩ ⟨rfl,rfl,trivial⟩ ⟨rfl,rfl,rfl,rfl⟩)) ?_
 rintro d ⟨hd,hD⟩
 conv=>whnf
 refine bcase_p (fun h=>?_) (fun h=>?_)<;>conv=>whnf
 ·have hj:(homeN p+d)%16<l.length:=by omega
  rw [show 16-d=(16-(d+1))+1 by omega,ffree,at_eq hj] at hD;refine aA ?_;refine idxK_nat (by omega) (w0 ?_);refine getRow_of (x:=encI l[(homeN p+d)%16]) (by simp [hj]) (aW ?_);refine callX_pure (free_ok l[(homeN p+d)%16]) (w0 ?_)
  refine bcase_intro (fun h4=>?_) (fun h4=>?_)<;>conv=>whnf
  ·rw [if_pos h4] at hD
   have hput:putS l p f=(l.set ((homeN p+d)%16) (p,f),0):=by simp [putS,h1,h2,h3,<-hD]
   rw [hput];refine aA ?_;refine callX_own (clone_ok l hl) (w0 ?_);refine idxK_nat (by omega) (w0 ?_);refine getRow_of (x:=encI l[(homeN p+d)%16]) (by simp [hj]) (aW ?_);refine ret_of rfl ?_;show D.tup [.agg [.lst ((l.map encI).set _ (encI (p,f)))],.int .i64 0]=_
   rw [set_enc];rfl
  ·rw [if_neg (by simp [h4])] at hD;refine callX_pure (behind_ok (((homeN p+d)%16:Nat):Int) (by omega) (by omega)) (aW ?_)
   exact ⟨d+1,⟨by omega,hD⟩,by omega,le0 (le_of_cov ⟨rfl,rfl,rfl,rfl,by
    show _=AV.d (.int .i64 (((homeN p+(d+1))%16:Nat):Int))
    rw [show (((homeN p+(d+1))%16:Nat):Int)=((((homeN p+d)%16:Nat):Int)+1)%16 by omega];rfl,rfl,trivial⟩ ⟨rfl,rfl,trivial⟩ ⟨rfl,rfl,rfl,rfl⟩)⟩
 ·have hd2:d=16:=by omega
  subst hd2
  have hput:putS l p f=(l,7):=by
   simp only [putS,h1,h2,h3,<-hD];rfl
  rw [hput];refine aA ?_;exact ret_of rfl rfl
def delG (l:Slots) (hole i:Nat):Nat->Slots
 |0=>l
 |n+1=>if freeB (at' l ((i+1)%16))=true then l
  else if wayN (homeN (at' l ((i+1)%16)).1) hole<wayN (homeN (at' l ((i+1)%16)).1) ((i+1)%16) then delG ((l.set hole (at' l ((i+1)%16))).set ((i+1)%16) (0,0)) ((i+1)%16) ((i+1)%16) n
  else delG l hole ((i+1)%16) n
noncomputable def delS (l:Slots) (p:Int):Slots×Int:=
 if rightB l=false then (l,1) else if (placeT l p).2=false then (l,3) else (delG (l.set (placeT l p).1.toNat (0,0)) (placeT l p).1.toNat (placeT l p).1.toNat 15,0)
theorem way_eq {a b:Nat} (ha:a<16) (hb:b<16):((b:Int)-(a:Int)+16)%16=((wayN a b:Nat):Int):=by simp only [wayN];omega
theorem placeT_t {l:Slots} {p:Int} (h:(placeT l p).2=true):∃ i:Nat,(placeT l p).1=i/\ ∃ h:i<l.length,l[i].1=p:=by
 unfold placeT at h⊢
 by_cases e:p<1\/placeG l p 0<0
 ·rw [if_pos e] at h;cases h
 ·rw [if_neg e]
  obtain h4|⟨i,h4,h5,h6⟩:=placeG_lt (l:=l) (n:=p) (k:=0)
  ·exact absurd (.inr h4) e
  ·exact ⟨i,by simpa using h4,h5,h6⟩
theorem slot_zero:SlotP (0,0):=.inl rfl
theorem del_ok (l:Slots) (p:Int) (hl:l.length<=1000000):ACall Tryz.prog 278 [encT l,.int .i64 p] (.tup [encT (delS l p).1,.int .i64 (delS l p).2]):=by
 refine acall_of Tryz.func278 2 rfl (by kernel_rfl) (aW ?_);refine callX_pure (right_ok l hl) (w0 ?_)
 refine bcase_intro (fun h1=>?_) (fun h1=>?_)<;>conv=>whnf
 ·refine aA ?_;simp at h1;exact ret_of rfl (by simp [delS,h1];rfl)
 simp at h1;refine aA ?_;refine callX_pure (place_ok l p hl) (w0 ?_)
 refine bcase_intro (fun h3=>?_) (fun h3=>?_)<;>conv=>whnf
 ·refine aA ?_;simp at h3;exact ret_of rfl (by simp [delS,h1,h3];rfl)
 simp at h3;have hR:=rightB_t.1 h1;have hlen:=hR.len
 have hm:(l.map encI).length=l.length:=List.length_map ..
 obtain ⟨a,ha,ha2,ha3⟩:=placeT_t h3
 have hdel:delS l p=(delG (l.set a (0,0)) a a 15,0):=by simp [delS,h1,h3,ha]
 rw [hdel,ha];refine aA ?_;refine callX_own (clone_ok l hl) (aW ?_);refine idxK_nat (by omega) (w0 ?_);refine getRow_of (x:=encI l[a]) (by simp [ha2]) (w0 ?_);refine aloop (ι:=Nat×Slots×Nat×Nat) (fun s=>[(4,.ptr 4 0 0),(6,.d (.int .i64 s.2.2.1)),(8,.own 26),(9,.d (.int .i64 s.2.2.2)),(32,.d (.int .i64 s.1))]) (fun s=>[(4,.box [.nil] false),(26,.row (s.2.1.map encI) 2 false)])
  (fun s=>s.1<=15/\s.2.1.length=16/\s.2.2.1<16/\s.2.2.2<16/\ (∀ j,j<16->SlotP (at' s.2.1 j)) /\delG s.2.1 s.2.2.1 s.2.2.2 (15-s.1)=delG (l.set a (0,0)) a a 15) (fun s=>15-s.1) (0,l.set a (0,0),a,a)
  ⟨Nat.zero_le _,by simp [hlen],by simp only [];omega,by simp only [];omega,fun j hj=>?_,rfl⟩ (le0 (le_of_cov ⟨rfl,rfl,rfl,rfl,rfl,trivial⟩ ⟨rfl,by
   show some (Blk.row ((l.map encI).set a (encI (0,0))) 2 false)=_;rw [set_enc],trivial⟩ ⟨rfl,rfl,rfl,rfl⟩)) ?_
 ·show SlotP (at' (l.set a (0,0)) j);unfold at';rw [List.getElem?_set]
  split
  ·first|exact slot_zero|(split<;>exact slot_zero)
  ·exact hR.slots j hj
 rintro ⟨n,l',h,i⟩ ⟨hn,hlen',hh,hi,hS,hD⟩;simp only at hn hlen' hh hi hS hD⊢
 have hm':(l'.map encI).length=l'.length:=List.length_map ..
 conv=>whnf
 refine bcase_p (fun hlt=>?_) (fun hlt=>?_)<;>conv=>whnf
 ·rw [show 15-n=(15-(n+1))+1 by omega,delG] at hD
  have hj16:(i+1)%16<16:=by omega
  have hj:(i+1)%16<l'.length:=by omega
  generalize hij:(i+1)%16=i' at hD hj hj16
  have hcast:((i:Int)+1)%16=(i':Int):=by omega
  rw [at_eq hj] at hD;refine callX_pure (d:=.int .i64 (i':Int)) (by rw [<-hcast];exact behind_ok (i:Int) (by omega) (by omega)) (aW ?_);refine idxK_nat (by omega) (w0 ?_);refine getRow_of (x:=encI l'[i']) (by simp [hj]) (aW ?_);refine callX_pure (free_ok l'[i']) (w0 ?_)
  refine bcase_intro (fun h4=>?_) (fun h4=>?_)<;>conv=>whnf
  ·rw [if_pos h4] at hD;rw [<-hD];refine aA ?_;exact ret_of rfl rfl
  rw [if_neg (by simp [h4])] at hD
  have hp1:1<=l'[i'].1:=by
   rcases hS i' hj16 with h2|h2
   ·rw [at_eq hj,h4] at h2;cases h2
   ·rw [at_eq hj] at h2;exact (fits_out.1 h2).1
  have hhm:((homeN l'[i'].1:Nat):Int)=l'[i'].1%16:=by simp [homeN];omega
  have hh16:homeN l'[i'].1<16:=by simp [homeN];omega
  refine aA ?_;refine idxK_nat (by omega) (w0 ?_);refine getRow_of (x:=encI l'[i']) (by simp [hj]) (aW ?_);refine callX_pure (d:=.int .i64 ((homeN l'[i'].1:Nat):Int)) (by rw [hhm];exact home_ok l'[i'].1 (by omega)) (aW ?_);refine callX_pure (d:=.int .i64 ((wayN (homeN l'[i'].1) h:Nat):Int)) (by rw [<-way_eq hh16 hh];exact way_ok _ _ (by omega) (by omega) (by omega) (by omega)) (aW ?_);refine callX_pure (d:=.int .i64 ((wayN (homeN l'[i'].1) i':Nat):Int)) (by rw [<-way_eq hh16 hj16];exact way_ok _ _ (by omega) (by omega) (by omega) (by omega)) (w0 ?_)
  refine bcase_p (fun h5=>?_) (fun h5=>?_)<;>conv=>whnf
  ·rw [if_pos (by omega)] at hD;refine aA ?_;refine idxK_nat (by omega) (w0 ?_);refine getRow_of (x:=encI l'[i']) (by simp [hj]) (aW ?_);refine idxK_nat (by omega) (w0 ?_);refine getRow_of (x:=encI (at' l' h)) (by simp [at',show h<l'.length by omega]) (aW ?_);refine idxK_nat (by rw [List.length_set];omega) (w0 ?_);refine getRow_of (x:=encI (at' (l'.set h l'[i']) i')) ?_ ?_
   ·show ((l'.map encI).set h (encI l'[i']))[i']?=_
    rw [set_enc,List.getElem?_map,at',List.getElem?_eq_getElem (by simpa using hj)];rfl
   conv=>whnf
   refine aA ?_
   refine ⟨(n+1,(l'.set h l'[i']).set i' (0,0),i',i'),⟨by simp only [];omega,by simpa using hlen',hj16,hj16,fun j hj'=>?_,hD⟩,by simp only [];omega,le0 (le_of_cov ⟨rfl,rfl,rfl,rfl,rfl,trivial⟩ ⟨rfl,by
    show some (Blk.row (((l'.map encI).set h (encI l'[i'])).set i' (encI (0,0))) 2 false)=_;rw [set_enc,set_enc],trivial⟩ ⟨rfl,rfl,rfl,rfl⟩)⟩
   unfold at';simp only [];rw [List.getElem?_set]
   split
   ·first|exact slot_zero|(split<;>exact slot_zero)
   ·rw [List.getElem?_set];have h6:=hS i' hj16;rw [at_eq hj] at h6
    split
    ·first|exact h6|(split;exact h6;exact slot_zero)
    ·exact hS j hj'
  ·rw [if_neg (by omega)] at hD;refine aA ?_;exact ⟨(n+1,l',h,i'),⟨by simp only [];omega,hlen',hh,hj16,hS,hD⟩,by simp only [];omega,le0 (le_of_cov ⟨rfl,rfl,rfl,rfl,rfl,trivial⟩ ⟨rfl,rfl,trivial⟩ ⟨rfl,rfl,rfl,rfl⟩)⟩
 ·have:n=15:=by omega
  subst this;replace hD:l'=delG (l.set a (0,0)) a a 15:=hD;rw [<-hD];refine aA ?_;exact ret_of rfl rfl
end Go.Lk.Tb
namespace Go.Lk.Dt
open Go Go.Proofs Go.RowKit Go.Lk
theorem due_ok (l:List (Int×Int)) (now age:Int) (hl:l.length<=1000000) (hn:now<=9223372036854775807):ACall Tryz.prog 175 [encIs l,.int .i64 now,.int .i64 age] (encNs (dueG l now age)):=by
 refine acall_of Tryz.func175 3 rfl (by kernel_rfl) (w0 ?_)
 refine bcase_p (fun h1=>?_) (fun h1=>?_)<;>conv=>whnf
 ·exact ret_of rfl (by simp [dueG,h1];rfl)
 refine bcase_p (fun h2=>?_) (fun h2=>?_)<;>conv=>whnf
 ·exact ret_of rfl (by simp [dueG,h2];rfl)
 refine callX_pure (right_ok l hl) (w0 ?_)
 refine bcase_intro (fun h3=>?_) (fun h3=>?_)<;>conv=>whnf
 ·exact ret_of rfl (by simp at h3;simp [dueG,h3];rfl)
 simp at h3;obtain ⟨hlen,hR⟩:=rightB_out h3
 have hG:dueG l now age=l.filterMap (dueF now age):=by simp [dueG,h1,h2,h3]
 refine aloop (ι:=Nat) (fun k=>[(1,.d (.int .i64 now)),(2,.d (.int .i64 age)),(7,.own 37),(21,.d (encIs l)),(22,.d (.int .i64 (l.map encI).length)),(23,.d (.int .i64 k))]) (fun k=>[(37,.row (((l.take k).filterMap (dueF now age)).map enc1) 1 false)])
  (fun k=>k<=l.length) (fun k=>l.length-k) 0 (Nat.zero_le _) (le1 (.row 7 37 1) ⟨rfl,rfl⟩ (le_of_cov ⟨rfl,rfl,rfl,rfl,rfl,rfl,trivial⟩ ⟨rfl,trivial⟩ ⟨rfl,rfl,rfl,rfl⟩)) ?_
 intro k hk
 conv=>whnf
 refine bcase_p (fun h=>?_) (fun h=>?_)<;>conv=>whnf
 ·have hk2:k<l.length:=by simpa using h
  obtain ⟨hok,b1,b2,b3,b4⟩:=hR k hk2;refine idxK_nat (by simpa using hk2) (w0 ?_);refine getRow_of (x:=encI l[k]) (by simp [hk2]) (w0 ?_);refine condK_of rfl (aW ?_);have hcov (x:List (Int×Int)) (hx:l.take (k+1)=x):True:=trivial
  refine bcase_p (fun h5=>?_) (fun h5=>?_)<;>conv=>whnf
  ·refine aA ?_;have hl2:=List.length_filterMap_le (dueF now age) (l.take k);refine roomK_le 100 100 (by show List.length _+1<=100;simp at hl2⊢;omega) (by decide) (by decide) (by decide) (aW ?_);exact ⟨k+1,by omega,by omega,le0 (le_of_cov ⟨rfl,rfl,rfl,rfl,rfl,rfl,trivial⟩ ⟨by rw [take_snoc hk2,List.filterMap_append,List.map_append];simp [dueF,h5];rfl,trivial⟩ ⟨rfl,rfl,rfl,rfl⟩)⟩
  ·refine aA ?_;exact ⟨k+1,by omega,by omega,le0 (le_of_cov ⟨rfl,rfl,rfl,rfl,rfl,rfl,trivial⟩ ⟨by rw [take_snoc hk2,List.filterMap_append];simp [dueF,h5];rfl,trivial⟩ ⟨rfl,rfl,rfl,rfl⟩)⟩
 ·have:k=l.length:=by simp at h;omega
  subst this;exact ret_of rfl (by rw [hG,List.take_length];rfl)
end Go.Lk.Dt
namespace Go.Lk
open Go Go.Proofs Go.RowKit
theorem hcall_of {f:FuncId} {fn:Func} {args:List AV} {pre post:List (Nat×Blk)} {d:D} (hf:Tryz.prog.funcs[f]?=some fn) (n:Nat) (hn:args.length=n) (hc:fnChk fn n=true)
  (hpl:(plainVs args&&(plainH pre&&(sameN pre post&&nodupN post)))=true) (h:AFnH T Tryz.prog fn args pre post d):HCall Tryz.prog f args pre post d:=
 hcall_sound tabOk mixed hf (by subst hn;exact hc) hpl h
theorem wcall_of {f:FuncId} {fn:Func} {l l':List (List D)} {sz:Nat} {rest:List AV} {pre post:List (Nat×Blk)} (hf:Tryz.prog.funcs[f]?=some fn) (n:Nat) (hn:rest.length+1=n) (hc:fnChk fn n=true)
  (hpl:(plainVs rest&&(!killV.parts 1000004 rest&&(plainH ((1000004,.row l sz false)::pre)&&(sameN pre post&&(nodupN ((1000004,.row l' sz false)::post)&&(rowsH pre&&rowsH post))))))=true) (h:AFnW T Tryz.prog fn l sz rest pre post l'):WCall Tryz.prog f l sz rest pre post l':=
 wcall_sound tabOk mixed hf (by subst hn;exact hc) hpl h
theorem pcall_of {f:FuncId} {fn:Func} {args:List D} {cs:List SC} {rs:List D} (hf:Tryz.prog.funcs[f]?=some fn) (n:Nat) (hn:args.length=n) (hc:fnChk fn n=true) (h:AFnP T Tryz.prog fn args cs rs):PCall Tryz.prog f args cs rs:=
 pcall_sound tabOk mixed hf (by subst hn;exact hc) h
theorem ncall_of {f:FuncId} {fn:Func} {args:List AV} {l:List (List D)} {sz:Nat} (hf:Tryz.prog.funcs[f]?=some fn) (n:Nat) (hn:args.length=n) (hc:fnChk fn n=true) (hfl:flatAs args=true) (h:AFnN T Tryz.prog fn args l sz) (hp:Nat->Option Blk) (t:Nat):
  ECall Tryz.prog f args hp ⟨.own t,[(t,.row l sz false)],some t⟩:=
 ncall_sound tabOk mixed hf (by subst hn;exact hc) hfl h hp t
end Go.Lk
