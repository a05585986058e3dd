/-
  What is proved here: what functions of the program compute, and what follows; no condition beyond each theorem's own.
-/
import Derived.Test.YtaofmndhdmkgkaaGreatIAq
import Derived.Test.YtaofmndhdmkgkaaGreatIAr
import Derived.Test.YtaofmndhdmkgkaaGreatIAs
import Derived.Shelf.Slices.In.SortNone
import Derived.Test.YtaofmndhdmkgkaaGreatProg
set_option linter.unusedSimpArgs false
set_option linter.unusedVariables false
set_option linter.unnecessarySimpa false
set_option linter.unusedSectionVars false
namespace Go.Lk
open Go Go.Proofs Go.Shelf
def yVn:Ren:=
{
 f:=fun x=>
  match x with
  |189=>234
  |125=>274
  |257=>273
  |128=>297
  |129=>298
  |294=>289
  |295=>290
  |296=>291
  |297=>292
  |298=>293
  |299=>294
  |216=>283
  |300=>295
  |301=>296
  |328=>303
  |329=>304
  |330=>305
  |331=>306
  |332=>307
  |215=>189
  |343=>311
  |n=>n,
 t:=fun x=>
  match x with
  |28=>25
  |3=>3
  |46=>223
  |0=>0
  |51=>296
  |53=>299
  |4=>4
  |183=>398
  |182=>397
  |131=>133
  |5=>5
  |9=>9
  |218=>407
  |222=>411
  |228=>415
  |229=>416
  |n=>n,
 g:=fun x=>
  x}
theorem yCo:Lays.n189 Tryz.prog yVn:=
{mixed:=by kernel_rfl,
 f125:=
  Eq.trans Tryz.func274 (congrArg some (by kernel_rfl)),
 f128:=
  Eq.trans Tryz.func297 (congrArg some (by kernel_rfl)),
 f129:=
  Eq.trans Tryz.func298 (congrArg some (by kernel_rfl)),
 f189:=
  Eq.trans Tryz.func234 (congrArg some (by kernel_rfl)),
 f215:=
  Eq.trans Tryz.func189 (congrArg some (by kernel_rfl)),
 f216:=
  Eq.trans Tryz.func283 (congrArg some (by kernel_rfl)),
 f257:=
  Eq.trans Tryz.func273 (congrArg some (by kernel_rfl)),
 f294:=
  Eq.trans Tryz.func289 (congrArg some (by kernel_rfl)),
 f295:=
  Eq.trans Tryz.func290 (congrArg some (by kernel_rfl)),
 f296:=
  Eq.trans Tryz.func291 (congrArg some (by kernel_rfl)),
 f297:=
  Eq.trans Tryz.func292 (congrArg some (by kernel_rfl)),
 f298:=
  Eq.trans Tryz.func293 (congrArg some (by kernel_rfl)),
 f299:=
  Eq.trans Tryz.func294 (congrArg some (by kernel_rfl)),
 f300:=
  Eq.trans Tryz.func295 (congrArg some (by kernel_rfl)),
 f301:=
  Eq.trans Tryz.func296 (congrArg some (by kernel_rfl)),
 f328:=
  Eq.trans Tryz.func303 (congrArg some (by kernel_rfl)),
 f329:=
  Eq.trans Tryz.func304 (congrArg some (by kernel_rfl)),
 f330:=
  Eq.trans Tryz.func305 (congrArg some (by kernel_rfl)),
 f331:=
  Eq.trans Tryz.func306 (congrArg some (by kernel_rfl)),
 f332:=
  Eq.trans Tryz.func307 (congrArg some (by kernel_rfl)),
 f343:=
  Eq.trans Tryz.func311 (congrArg some (by kernel_rfl)),
 t0:=Tryz.underlying0,a0:=Tryz.isAgg0,z0:=Tryz.sizeOf0,
 v0:=Tryz.zeroValue0,t3:=Tryz.underlying3,a3:=Tryz.isAgg3,
 z3:=Tryz.sizeOf3,v3:=Tryz.zeroValue3,t4:=Tryz.underlying4,
 a4:=Tryz.isAgg4,z4:=Tryz.sizeOf4,v4:=Tryz.zeroValue4,
 t5:=Tryz.underlying5,a5:=Tryz.isAgg5,z5:=Tryz.sizeOf5,
 v5:=Tryz.zeroValue5,t9:=Tryz.underlying9,a9:=Tryz.isAgg9,
 z9:=Tryz.sizeOf9,v9:=Tryz.zeroValue9,t28:=Tryz.underlying25,
 a28:=Tryz.isAgg25,z28:=Tryz.sizeOf25,v28:=Tryz.zeroValue25,
 t46:=Tryz.underlying223,a46:=Tryz.isAgg223,z46:=Tryz.sizeOf223,
 v46:=Tryz.zeroValue223,t51:=Tryz.underlying296,a51:=Tryz.isAgg296,
 z51:=Tryz.sizeOf296,v51:=Tryz.zeroValue296,t53:=Tryz.underlying299,
 a53:=Tryz.isAgg299,z53:=Tryz.sizeOf299,v53:=Tryz.zeroValue299,
 t131:=Tryz.underlying133,a131:=Tryz.isAgg133,z131:=Tryz.sizeOf133,
 v131:=Tryz.zeroValue133,t182:=Tryz.underlying397,a182:=Tryz.isAgg397,
 z182:=Tryz.sizeOf397,v182:=Tryz.zeroValue397,t183:=Tryz.underlying398,
 a183:=Tryz.isAgg398,z183:=Tryz.sizeOf398,v183:=Tryz.zeroValue398,
 t218:=Tryz.underlying407,a218:=Tryz.isAgg407,z218:=Tryz.sizeOf407,
 v218:=Tryz.zeroValue407,t222:=Tryz.underlying411,a222:=Tryz.isAgg411,
 z222:=Tryz.sizeOf411,v222:=Tryz.zeroValue411,t228:=Tryz.underlying415,
 a228:=Tryz.isAgg415,z228:=Tryz.sizeOf415,v228:=Tryz.zeroValue415,
 t229:=Tryz.underlying416,a229:=Tryz.isAgg416,z229:=Tryz.sizeOf416,
 v229:=Tryz.zeroValue416}
theorem sort_ok {hp:Nat->Option Blk} {b:Nat} {zs:List Int} (hb:hp b=some (.row (zs.map enc1) 1 false)) (hz:zs.length<4611686018427387904):
  zSe Tryz.prog 234 [.own b] hp ⟨.tup [],[(b,.row ((zKb zs).map enc1) 1 false)],none⟩:=
 sort_ecall yCo ⟨Tryz.f234,Tryz.func234,rfl,by kernel_rfl⟩ (fun p cap w=>Any.slices_Sort_int_none yCo p cap w) hb hz
end Go.Lk
namespace Go.Lk.Tb
open Go Go.Proofs Go.RowKit Go.Lk
noncomputable def findS (l:zBd) (p:Int):Int×Bool:=if rightB l=false\/ (placeT l p).2=false then (0,false) else ((at' l (placeT l p).1.toNat).2,true)
theorem find_ok (l:zBd) (p:Int) (hl:l.length<=1000000):zAi Tryz.prog 166 [encT l,.int .i64 p] (.tup [.int .i64 (findS l p).1,.bool (findS l p).2]):=by
 refine zAe Tryz.func166 2 rfl (by kernel_rfl) (aW ?_);refine zAa (right_ok l hl) (w0 ?_)
 refine zAf (fun h1=>?_) (fun h1=>?_)<;>conv=>whnf
 ·refine aA ?_;simp at h1;exact ret_of rfl (by simp [findS,h1];rfl)
 simp at h1;refine aA ?_;refine zAa (place_ok l p hl) (w0 ?_)
 refine zAf (fun h3=>?_) (fun h3=>?_)<;>conv=>whnf
 ·refine aA ?_;simp at h3;exact ret_of rfl (by simp [findS,h3];rfl)
 simp at h3;obtain ⟨a,ha,ha2,ha3⟩:=placeT_t h3;rw [ha];refine aA ?_;refine zAd (by simpa using ha2) (w0 ?_);refine zAc (x:=encI l[a]) (by simp [ha2]) (aW ?_);exact ret_of rfl (by simp [findS,h1,h3,ha,at_eq ha2];rfl)
def zHl (x:Int×Int):Option Int:=if freeB x=true then none else some x.1
noncomputable def pagesS (l:zBd):List Int:=if rightB l=false then [] else zKb (l.filterMap zHl)
theorem pages_ok (l:zBd) (hl:l.length<=1000000):zAi Tryz.prog 167 [encT l] (yDz (pagesS l)):=by
 refine zAe Tryz.func167 1 rfl (by kernel_rfl) (aW ?_);refine zAa (right_ok l hl) (w0 ?_)
 refine zAf (fun h1=>?_) (fun h1=>?_)<;>conv=>whnf
 ·refine aA ?_;simp at h1;exact ret_of rfl (by simp [pagesS,h1];rfl)
 simp at h1;have hlen:=(rightB_t.1 h1).len
 have hm:(l.map encI).length=l.length:=List.length_map ..
 refine aA ?_;refine zAq (ι:=Nat) (fun k=>[(3,.own 23),(10,.d (zCe l)),(11,.d (.int .i64 (l.map encI).length)),(12,.d (.int .i64 k))]) (fun k=>[(23,.row (((l.take k).filterMap zHl).map enc1) 1 false)])
  (fun k=>k<=l.length) (fun k=>l.length-k) 0 (Nat.zero_le _) (le1 (.row 3 23 1) ⟨rfl,rfl⟩ (zAb ⟨rfl,rfl,rfl,rfl,trivial⟩ ⟨rfl,trivial⟩ ⟨rfl,rfl,rfl,rfl⟩)) ?_
 intro k hk
 conv=>whnf
 refine bcase_p (fun h=>?_) (fun h=>?_)<;>conv=>whnf
 ·have hk2:k<l.length:=by omega
  refine zAd (by omega) (w0 ?_);refine zAc (x:=encI l[k]) (by simp [hk2]) (aW ?_);refine zAa (zQi l[k]) (w0 ?_)
  refine zAf (fun h2=>?_) (fun h2=>?_)<;>conv=>whnf
  ·refine aA ?_;simp at h2;have hl2:=List.length_filterMap_le zHl (l.take k);refine zAj 100 100 (by show List.length _+1<=100;simp at hl2⊢;omega) (by decide) (by decide) (by decide) (aW ?_);exact ⟨k+1,by omega,by omega,le0 (zAb ⟨rfl,rfl,rfl,rfl,trivial⟩ ⟨by rw [zAs hk2,List.filterMap_append,List.map_append];simp [zHl,h2];rfl,trivial⟩ ⟨rfl,rfl,rfl,rfl⟩)⟩
  ·refine aA ?_;simp at h2;exact ⟨k+1,by omega,by omega,le0 (zAb ⟨rfl,rfl,rfl,rfl,trivial⟩ ⟨by rw [zAs hk2,List.filterMap_append,List.map_append];simp [zHl,h2];rfl,trivial⟩ ⟨rfl,rfl,rfl,rfl⟩)⟩
 have hl2:=List.length_filterMap_le zHl (l.take k)
 have hk3:k=l.length:=by omega
 refine zIf (sort_ok (zs:=(l.take k).filterMap zHl) rfl (by simp at hl2;omega)) (w0 ?_);refine ret_of rfl ?_;rw [hk3,List.take_length,oneD1];show D.lst _=yDz _;simp [pagesS,h1,yDz]
end Go.Lk.Tb
namespace Go.Lk.Tb
open Go Go.RowKit Go.Lk
theorem zRo {l:zBd} {i j:Nat} {x:Int×Int} (hi:i<l.length):at' (l.set i x) j=if j=i then x else at' l j:=by
 unfold at';rw [List.getElem?_set]
 by_cases h:i=j
 ·subst h;simp [hi]
 ·rw [if_neg h,if_neg (fun e=>h e.symm)]
theorem zJj {p:Int} (h:0<=p):homeN p<16:=by simp [homeN];omega
theorem zHh {x:Int×Int} (h:zPv x) (hf:freeB x=false):1<=x.1:=by
 rcases h with h|h
 ·rw [hf] at h;cases h
 ·exact (fits_out.1 h).1
theorem zKq {p f:Int} (h:zKp p f=true):freeB (p,f)=false:=by
 have:=fits_out.1 h
 simp [freeB];omega
def pos (z j:Nat):Nat:=(j+15-z)%16
def z6c (l:zBd) (z:Nat):Prop:=z<16/\ ∀ i,i<16->freeB (at' l i)=false->pos z (homeN (at' l i).1) <=pos z i
def Cut (l:zBd):Prop:=∃ z,z6c l z
def zSl (l:zBd):Prop:=∀ i j,i<16->j<16->freeB (at' l i)=false->freeB (at' l j)=false->(at' l i).1=(at' l j).1->i=j
theorem RT.distinct {l:zBd} (h:RT l):zSl l:=by
 intro i j hi hj fi fj e
 rcases Nat.lt_trichotomy i j with h1|h1|h1
 ·rcases h.places j hj with h2|⟨h2,_⟩
  ·rw [fj] at h2;cases h2
  ·exact absurd e (h2 i h1)
 ·exact h1
 ·rcases h.places i hi with h2|⟨h2,_⟩
  ·rw [fi] at h2;cases h2
  ·exact absurd e.symm (h2 j h1)
theorem RT.path {l:zBd} (h:RT l) {i:Nat} (hi:i<16) (fi:freeB (at' l i)=false) {d:Nat} (hd:d<wayN (homeN (at' l i).1) i):freeB (at' l ((homeN (at' l i).1+d)%16))=false:=by
 rcases h.places i hi with h2|⟨_,h2⟩
 ·rw [fi] at h2;cases h2
 ·exact h2 d hd
theorem RT.mk' {l:zBd} (hl:l.length=16) (hs:∀ i,i<16->zPv (at' l i)) (hd:zSl l) (hp:∀ i,i<16->freeB (at' l i)=false->∀ d,d<wayN (homeN (at' l i).1) i->freeB (at' l ((homeN (at' l i).1+d)%16))=false):RT l:=by
 refine ⟨hl,hs,fun i hi=>?_⟩
 cases fi:freeB (at' l i) with
 |true=>exact .inl fi
 |false=>
  refine .inr ⟨fun j hj e=>?_,hp i hi fi⟩
  have fj:freeB (at' l j)=false:=by
   cases fj:freeB (at' l j) with
   |false=>rfl
   |true=>
    have h1:=zHh (hs i hi) fi;have h2:=zZu.1 fj;omega
  have:=hd j i (by omega) hi fj fi e;omega
theorem yCc {z h i k:Nat} (hz:z<16) (hh:h<16) (hi:i<16) (hk:k<16) (hle:pos z h<=pos z i):(∃ d,d<wayN h i/\ (h+d)%16=k)↔pos z h<=pos z k/\pos z k<pos z i:=by
 simp only [pos,wayN] at*
 constructor
 ·rintro ⟨d,h1,h2⟩;omega
 ·intro h1;exact ⟨(k+16-h)%16,by omega,by omega⟩
theorem pos_lt {z j:Nat}:pos z j<16:=Nat.mod_lt _ (by decide)
theorem yKj {z i j:Nat} (hz:z<16) (hi:i<16) (hj:j<16) (h:pos z i=pos z j):i=j:=by simp only [pos] at h;omega
theorem free_cut {l:zBd} (h:RT l) {z:Nat} (hz:z<16) (fz:freeB (at' l z)=true):z6c l z:=by
 refine ⟨hz,fun i hi fi=>?_⟩;have hh:=zJj (p:=(at' l i).1) (by have:=zHh (h.slots i hi) fi;omega)
 by_cases hle:pos z (homeN (at' l i).1) <=pos z i
 ·exact hle
 ·exfalso
  have hne:i≠z:=fun e=>by subst e;rw [fi] at fz;cases fz
  have:=h.path hi fi (d:=(z+16-homeN (at' l i).1)%16) (by simp only [pos,wayN] at*;omega);rw [show (homeN (at' l i).1+(z+16-homeN (at' l i).1)%16)%16=z by omega,fz] at this
  cases this
theorem RT.of_cut {l:zBd} {z:Nat} (hl:l.length=16) (hs:∀ i,i<16->zPv (at' l i)) (hd:zSl l) (hc:z6c l z) (hp:∀ i k,i<16->k<16->freeB (at' l i)=false->pos z (homeN (at' l i).1) <=pos z k->pos z k<pos z i->freeB (at' l k)=false):RT l:=by
 refine .mk' hl hs hd fun i hi fi d hdd=>?_
 have hh:=zJj (p:=(at' l i).1) (by have:=zHh (hs i hi) fi;omega);obtain ⟨h1,h2⟩:=(yCc hc.1 hh hi (Nat.mod_lt _ (by decide)) (hc.2 i hi fi)).1 ⟨d,hdd,rfl⟩;exact hp i _ hi (Nat.mod_lt _ (by decide)) fi h1 h2
theorem RT.cut_path {l:zBd} {z i k:Nat} (h:RT l) (hc:z6c l z) (hi:i<16) (hk:k<16) (fi:freeB (at' l i)=false) (h1:pos z (homeN (at' l i).1) <=pos z k) (h2:pos z k<pos z i):freeB (at' l k)=false:=by
 have hh:=zJj (p:=(at' l i).1) (by have:=zHh (h.slots i hi) fi;omega);obtain ⟨d,h3,h4⟩:=(yCc hc.1 hh hi hk (hc.2 i hi fi)).2 ⟨h1,h2⟩;have:=h.path hi fi h3;rw [h4] at this;exact this
theorem zUg {l:zBd} {h:Nat}:∀ {n d i:Nat},zKn l h d n=some i->∃ e,e<n/\i=(h+(d+e))%16/\freeB (at' l i)=true/\ ∀ e',e'<e->freeB (at' l ((h+(d+e'))%16))=false
 |0,d,i,hf=>by cases hf
 |n+1,d,i,hf=>by
  simp only [zKn] at hf
  by_cases e:freeB (at' l ((h+d)%16))=true
  ·rw [if_pos e] at hf
   cases hf
   exact ⟨0,by omega,rfl,e,fun e' h=>by omega⟩
  ·rw [if_neg e] at hf;obtain ⟨e2,h1,h2,h3,h4⟩:=zUg hf;refine ⟨e2+1,by omega,by rw [h2];congr 1;omega,h3,fun e' h5=>?_⟩
   cases e' with
   |zero=>simpa using e
   |succ e'=>rw [show h+(d+(e'+1))=h+(d+1+e') by omega];exact h4 e' (by omega)
theorem zXm {l:zBd} {h:Nat}:∀ {n d:Nat},zKn l h d n=none->∀ e,e<n->freeB (at' l ((h+(d+e))%16))=false
 |0,d,_,e,he=>by omega
 |n+1,d,hf,e,he=>by
  simp only [zKn] at hf
  by_cases e1:freeB (at' l ((h+d)%16))=true
  ·rw [if_pos e1] at hf;cases hf
  ·rw [if_neg e1] at hf
   cases e with
   |zero=>simpa using e1
   |succ e=>rw [show h+(d+(e+1))=h+(d+1+e) by omega];exact zXm hf e (by omega)
theorem yRk {l:zBd} {p f:Int} {i:Nat} (h:RT l) (hf:zKp p f=true) (hn:∀ j,j<16->freeB (at' l j)=false->(at' l j).1≠p) (hi:zKn l (homeN p) 0 16=some i):
  i<16/\freeB (at' l i)=true/\RT (l.set i (p,f)) /\Cut (l.set i (p,f)):=by
 obtain ⟨e,h1,h2,h3,h4⟩:=zUg hi;have hp:=fits_out.1 hf;have hh:=zJj (p:=p) (by omega)
 have hi16:i<16:=by omega
 have hil:i<l.length:=by rw [h.len];exact hi16
 have hc:=free_cut h hi16 h3;have nf:=zKq hf
 have hat:∀ j,at' (l.set i (p,f)) j=if j=i then (p,f) else at' l j:=fun j=>zRo hil
 have hcut:z6c (l.set i (p,f)) i:=by
  refine ⟨hi16,fun j hj fj=>?_⟩;rw [hat] at fj⊢
  by_cases e1:j=i
  ·subst e1;rw [if_pos rfl];simp only [pos];omega
  ·rw [if_neg e1] at fj⊢;exact hc.2 j hj fj
 refine ⟨hi16,h3,?_,i,hcut⟩;refine .of_cut (by rw [List.length_set];exact h.len) (fun j hj=>?_) ?_ hcut ?_
 ·rw [hat]
  by_cases e1:j=i
  ·rw [if_pos e1];exact .inr hf
  ·rw [if_neg e1];exact h.slots j hj
 ·intro a b ha hb fa fb e1;rw [hat] at fa fb;rw [hat,hat] at e1
  by_cases ea:a=i
  ·by_cases eb:b=i
   ·rw [ea,eb]
   ·rw [if_pos ea,if_neg eb] at e1;rw [if_neg eb] at fb;exact absurd e1.symm (hn b hb fb)
  ·by_cases eb:b=i
   ·rw [if_neg ea,if_pos eb] at e1;rw [if_neg ea] at fa;exact absurd e1 (hn a ha fa)
   ·rw [if_neg ea] at fa;rw [if_neg eb] at fb;rw [if_neg ea,if_neg eb] at e1;exact h.distinct a b ha hb fa fb e1
 ·intro j k hj hk fj h5 h6;rw [hat] at fj h5;rw [hat]
  by_cases ek:k=i
  ·rw [if_pos ek];exact nf
  ·rw [if_neg ek]
   by_cases ej:j=i
   ·rw [if_pos ej] at h5;subst ej;have:=h4 ((k+16-homeN p)%16) (by simp only [pos] at*;omega);rw [show (homeN p+(0+(k+16-homeN p)%16))%16=k by omega] at this;exact this
   ·rw [if_neg ej] at fj h5;exact h.cut_path hc hj hk fj h5 h6
def cntS (l:zBd):Nat:=l.countP fun x=>!freeB x
theorem zTt {l:zBd} {i:Nat} {x:Int×Int} (h:i<l.length):cntS (l.set i x)+(if freeB (at' l i)=true then 0 else 1)=cntS l+(if freeB x=true then 0 else 1):=by
 have hle:(if (!freeB l[i])=true then 1 else 0) <=cntS l:=by
  cases hf:freeB l[i] with
  |true=>simp
  |false=>
   have:0<cntS l:=List.countP_pos_iff.2 ⟨l[i],List.getElem_mem h,by simp [hf]⟩
   simp;omega
 unfold cntS at*
 rw [List.countP_set h,at_eq h];generalize l.countP (fun x=>!freeB x)=c at hle⊢
 cases hf:freeB l[i]<;>cases hx:freeB x<;>rw [hf] at hle<;>simp only [Bool.not_true,Bool.not_false,if_true,Bool.false_eq_true,if_false] at hle⊢<;>omega
def SameS (l0 l:zBd):Prop:=∀ x,freeB x=false->((∃ j,j<16/\at' l j=x)↔∃ j,j<16/\at' l0 j=x)
structure DInv (z:Nat) (l0 l:zBd) (hole i:Nat):Prop where
 len:l.length=16
 slots:∀ j,j<16->zPv (at' l j)
 hole16:hole<16
 i16:i<16
 free:freeB (at' l hole)=true
 dist:zSl l
 cut:z6c l z
 ph:pos z hole<=pos z i
 paths:∀ j k,j<16->k<16->freeB (at' l j)=false->pos z (homeN (at' l j).1) <=pos z k->pos z k<pos z j->freeB (at' l k)=true->k=hole/\pos z i<pos z j
 same:SameS l0 l
 cnt:cntS l=cntS l0
structure Done (l0 l:zBd):Prop where
 rt:RT l
 free:∃ j,j<16/\freeB (at' l j)=true
 same:SameS l0 l
 cnt:cntS l=cntS l0
theorem DInv.done {z:Nat} {l0 l:zBd} {hole i:Nat} (h:DInv z l0 l hole i) (hp:∀ j k,j<16->k<16->freeB (at' l j)=false->pos z (homeN (at' l j).1) <=pos z k->pos z k<pos z j->freeB (at' l k)=false):Done l0 l:=
 ⟨.of_cut h.len h.slots h.dist h.cut hp,⟨hole,h.hole16,h.free⟩,h.same,h.cnt⟩
theorem zQa {l:zBd} (h:RT l) {hole:Nat} (h16:hole<16) (hf:freeB (at' l hole)=true):∀ (n i:Nat),delG l hole i n=l
 |0,i=>rfl
 |n+1,i=>by
  rw [delG]
  by_cases f:freeB (at' l ((i+1)%16))=true
  ·rw [if_pos f]
  ·have f':freeB (at' l ((i+1)%16))=false:=by simpa using f
   have hi:(i+1)%16<16:=Nat.mod_lt _ (by decide);have hh:=zJj (p:=(at' l ((i+1)%16)).1) (by have:=zHh (h.slots _ hi) f';omega);rw [if_neg f,if_neg,zQa h h16 hf n];intro hw;have:=h.path hi f' hw;rw [show (homeN (at' l ((i+1)%16)).1+wayN (homeN (at' l ((i+1)%16)).1) hole)%16=hole by simp only [wayN];omega,hf] at this
   cases this
theorem delG_done {z:Nat} {l0:zBd}:∀ (n:Nat) {l:zBd} {hole i:Nat},DInv z l0 l hole i->15<=pos z i+n->Done l0 (delG l hole i n):=by
 intro n
 induction n with
 |zero=>
  intro l hole i h hn
  have h15:pos z i=15:=by have:=pos_lt (z:=z) (j:=i);omega
  exact h.done fun j k hj hk fj h1 h2=>by
   cases fk:freeB (at' l k) with
   |false=>rfl
   |true=>
    have:=(h.paths j k hj hk fj h1 h2 fk).2;have:=pos_lt (z:=z) (j:=j);omega
 |succ n ih=>
  intro l hole i h hn;have hz:=h.cut.1;have hi:=h.i16
  by_cases h15:pos z i=15
  ·have hd:=h.done fun j k hj hk fj h1 h2=>by
    cases fk:freeB (at' l k) with
    |false=>rfl
    |true=>
     have:=(h.paths j k hj hk fj h1 h2 fk).2;have:=pos_lt (z:=z) (j:=j);omega
   rw [zQa hd.rt h.hole16 h.free];exact hd
  ·rw [delG];have hi':(i+1)%16<16:=Nat.mod_lt _ (by decide)
   have hpi:pos z ((i+1)%16)=pos z i+1:=by simp only [pos] at*;omega
   generalize (i+1)%16=i' at hi' hpi
   have hne:hole≠i':=fun e=>by have:=h.ph;rw [e,hpi] at this;omega
   by_cases f:freeB (at' l i')=true
   ·rw [if_pos f]
    refine h.done fun j k hj hk fj h1 h2=>?_
    cases fk:freeB (at' l k) with
    |false=>rfl
    |true=>
     obtain ⟨e1,e2⟩:=h.paths j k hj hk fj h1 h2 fk;exfalso;subst e1
     have hji:j≠i':=fun e=>by subst e;rw [fj] at f;cases f
     have hpj:pos z j≠pos z i':=fun e=>hji (yKj hz hj hi' e)
     have:=(h.paths j i' hj hi' fj (by have:=h.ph;omega) (by omega) f).1;exact hne this.symm
   ·have f':freeB (at' l i')=false:=by simpa using f
    have hpg:=zHh (h.slots i' hi') f';have hh:=zJj (p:=(at' l i').1) (by omega);have hci:=h.cut.2 i' hi' f'
    have hway:wayN (homeN (at' l i').1) hole<wayN (homeN (at' l i').1) i'↔pos z (homeN (at' l i').1) <=pos z hole:=by
     have h1:=h.ph;have h2:=h.hole16
     simp only [pos,wayN] at*
     omega
    rw [if_neg f]
    by_cases hw:wayN (homeN (at' l i').1) hole<wayN (homeN (at' l i').1) i'
    ·rw [if_pos hw];have hw':=hway.1 hw
     have hhl:hole<l.length:=by rw [h.len];exact h.hole16
     have hil:i'<(l.set hole (at' l i')).length:=by rw [List.length_set,h.len];exact hi'
     have hat:∀ j,at' ((l.set hole (at' l i')).set i' (0,0)) j=if j=i' then (0,0) else if j=hole then at' l i' else at' l j:=fun j=>by
      rw [zRo hil]
      by_cases e:j=i'
      ·rw [if_pos e,if_pos e]
      ·rw [if_neg e,if_neg e,zRo hhl]
     refine ih ⟨by simp [h.len],fun j hj=>?_,hi',hi',by rw [hat,if_pos rfl];rfl,?_,⟨hz,fun j hj fj=>?_⟩,Nat.le_refl _,?_,?_,?_⟩ (by omega)
     ·rw [hat]
      by_cases e:j=i'
      ·rw [if_pos e];exact zFz
      ·rw [if_neg e]
       by_cases e2:j=hole
       ·rw [if_pos e2];exact h.slots i' hi'
       ·rw [if_neg e2];exact h.slots j hj
     ·intro a b ha hb fa fb e;rw [hat] at fa fb;rw [hat,hat] at e
      by_cases ea:a=i'
      ·rw [if_pos ea] at fa;cases fa
      ·by_cases eb:b=i'
       ·rw [if_pos eb] at fb;cases fb
       ·rw [if_neg ea] at fa;rw [if_neg eb] at fb;rw [if_neg ea,if_neg eb] at e
        by_cases ea2:a=hole
        ·by_cases eb2:b=hole
         ·rw [ea2,eb2]
         ·rw [if_pos ea2,if_neg eb2] at e;rw [if_neg eb2] at fb
          exact absurd (h.dist i' b hi' hb f' fb e).symm eb
        ·by_cases eb2:b=hole
         ·rw [if_neg ea2,if_pos eb2] at e;rw [if_neg ea2] at fa
          exact absurd (h.dist a i' ha hi' fa f' e) ea
         ·rw [if_neg ea2] at fa;rw [if_neg eb2] at fb;rw [if_neg ea2,if_neg eb2] at e
          exact h.dist a b ha hb fa fb e
     ·rw [hat] at fj⊢
      by_cases e:j=i'
      ·rw [if_pos e] at fj;cases fj
      ·rw [if_neg e] at fj⊢
       by_cases e2:j=hole
       ·rw [if_pos e2];rw [e2];exact hw'
       ·rw [if_neg e2] at fj⊢;exact h.cut.2 j hj fj
     ·intro j k hj hk fj h1 h2 fk;rw [hat] at fj h1 fk
      by_cases e:j=i'
      ·rw [if_pos e] at fj;cases fj
      ·rw [if_neg e] at fj h1
       by_cases ek:k=i'
       ·refine ⟨ek,?_⟩
        rw [ek] at h2;exact h2
       ·rw [if_neg ek] at fk
        by_cases ek2:k=hole
        ·rw [if_pos ek2,f'] at fk;cases fk
        ·rw [if_neg ek2] at fk;exfalso
         by_cases e2:j=hole
         ·rw [if_pos e2] at h1;have:=(h.paths i' k hi' hk f' h1 (by have:=h.ph;rw [e2] at h2;omega) fk).1;exact ek2 this
         ·rw [if_neg e2] at fj h1;exact ek2 (h.paths j k hj hk fj h1 h2 fk).1
     ·intro x hx;rw [<-h.same x hx]
      constructor
      ·rintro ⟨j,hj,rfl⟩;rw [hat] at hx⊢
       by_cases e:j=i'
       ·rw [if_pos e] at hx;cases hx
       ·rw [if_neg e] at hx⊢
        by_cases e2:j=hole
        ·rw [if_pos e2];exact ⟨i',hi',rfl⟩
        ·rw [if_neg e2];exact ⟨j,hj,rfl⟩
      ·rintro ⟨j,hj,rfl⟩
       by_cases e:j=i'
       ·exact ⟨hole,h.hole16,by rw [hat,if_neg hne,if_pos rfl,e]⟩
       ·have e2:j≠hole:=fun e2=>by rw [e2,h.free] at hx;cases hx
        exact ⟨j,hj,by rw [hat,if_neg e,if_neg e2]⟩
     ·have c1:=zTt (x:=at' l i') hhl;have c2:=zTt (x:=(0,0)) hil;rw [zRo hhl,if_neg hne.symm] at c2;rw [h.free,f'] at c1;rw [f',show freeB (0,0)=true from rfl] at c2;simp at c1 c2;have:=h.cnt;omega
    ·rw [if_neg hw]
     have hw':¬pos z (homeN (at' l i').1) <=pos z hole:=fun e=>hw (hway.2 e)
     refine ih ⟨h.len,h.slots,h.hole16,hi',h.free,h.dist,h.cut,by have:=h.ph;omega,fun j k hj hk fj h1 h2 fk=>?_,h.same,h.cnt⟩ (by omega);obtain ⟨e1,e2⟩:=h.paths j k hj hk fj h1 h2 fk;refine ⟨e1,?_⟩
     have hji:j≠i':=fun e=>by subst e;rw [e1] at h1;exact hw' h1
     have hpj:pos z j≠pos z i':=fun e=>hji (yKj hz hj hi' e)
     omega
theorem del_rt {l:zBd} {a z:Nat} (h:RT l) (hc:z6c l z) (ha:a<16) (fa:freeB (at' l a)=false):Done (l.set a (0,0)) (delG (l.set a (0,0)) a a 15):=by
 have hal:a<l.length:=by rw [h.len];exact ha
 have hat:∀ j,at' (l.set a (0,0)) j=if j=a then (0,0) else at' l j:=fun j=>zRo hal
 refine delG_done (z:=z) 15 ⟨by simp [h.len],fun j hj=>?_,ha,ha,by rw [hat,if_pos rfl];rfl,?_,⟨hc.1,fun j hj fj=>?_⟩,Nat.le_refl _,?_,fun x hx=>Iff.rfl,rfl⟩ (by omega)
 ·rw [hat]
  by_cases e:j=a
  ·rw [if_pos e];exact zFz
  ·rw [if_neg e];exact h.slots j hj
 ·intro i j hi hj fi fj e;rw [hat] at fi fj;rw [hat,hat] at e
  by_cases ei:i=a
  ·rw [if_pos ei] at fi;cases fi
  ·by_cases ej:j=a
   ·rw [if_pos ej] at fj;cases fj
   ·rw [if_neg ei] at fi;rw [if_neg ej] at fj;rw [if_neg ei,if_neg ej] at e
    exact h.distinct i j hi hj fi fj e
 ·rw [hat] at fj⊢
  by_cases e:j=a
  ·rw [if_pos e] at fj;cases fj
  ·rw [if_neg e] at fj⊢;exact hc.2 j hj fj
 ·intro j k hj hk fj h1 h2 fk;rw [hat] at fj h1 fk
  by_cases e:j=a
  ·rw [if_pos e] at fj;cases fj
  ·rw [if_neg e] at fj h1
   by_cases ek:k=a
   ·exact ⟨ek,by rw [ek] at h2;exact h2⟩
   ·rw [if_neg ek] at fk;have:=h.cut_path hc hj hk fj h1 h2
    rw [fk] at this;cases this
theorem placeG_mem {l:zBd} {n:Int}:∀ {k:Nat},0<=placeG l n k↔∃ j,j<l.length/\ (at' l j).1=n:=by
 have key:∀ {k:Nat},0<=placeG l n k↔∃ x∈l,x.1=n:=by
  induction l with
  |nil=>intro k;exact ⟨fun h=>absurd h (show ¬(0<= (-1:Int)) by decide),fun ⟨x,h,_⟩=>by cases h⟩
  |cons p r ih=>
   intro k;simp only [placeG]
   by_cases h:p.1=n
   ·rw [if_pos h];exact ⟨fun _=>⟨p,List.mem_cons_self ..,h⟩,fun _=>by omega⟩
   ·rw [if_neg h,ih]
    constructor
    ·rintro ⟨x,h1,h2⟩;exact ⟨x,List.mem_cons_of_mem _ h1,h2⟩
    ·rintro ⟨x,h1,h2⟩
     rcases List.mem_cons.1 h1 with rfl|h1
     ·exact absurd h2 h
     ·exact ⟨x,h1,h2⟩
 intro k;rw [key]
 constructor
 ·rintro ⟨x,hx,e⟩;obtain ⟨j,hj,rfl⟩:=List.mem_iff_getElem.1 hx;exact ⟨j,hj,by rw [at_eq hj];exact e⟩
 ·rintro ⟨j,hj,e⟩;exact ⟨l[j],List.getElem_mem hj,by rw [<-at_eq hj];exact e⟩
theorem zYj {l:zBd} {p:Int} (hp:1<=p):(placeT l p).2=true↔∃ j,j<l.length/\ (at' l j).1=p:=by
 rw [<-placeG_mem (k:=0)];unfold placeT
 by_cases h:placeG l p 0<0
 ·rw [if_pos (.inr h)];simp;omega
 ·rw [if_neg (by omega)];simp;omega
theorem zVm {l:zBd} {p:Int} (h:∀ j,j<l.length->(at' l j).1≠p):(placeT l p).2=false:=by
 cases e:(placeT l p).2 with
 |false=>rfl
 |true=>
  obtain ⟨i,_,hi,e2⟩:=placeT_t e;exact absurd (by rw [at_eq hi];exact e2) (h i hi)
theorem page_nonfree {x:Int×Int} (h:1<=x.1):freeB x=false:=by simp [freeB];omega
theorem z0v {l:zBd} (h:RT l) {p:Int} {j:Nat} (hp:1<=p) (hj:j<16) (e:(at' l j).1=p):(placeT l p).2=true/\ (placeT l p).1=j:=by
 have h2:=(zYj hp).2 ⟨j,by rw [h.len];exact hj,e⟩;obtain ⟨i,e1,hi,e2⟩:=placeT_t h2
 have hi16:i<16:=by rw [h.len] at hi;exact hi
 rw [<-at_eq hi] at e2;have:=h.distinct i j hi16 hj (page_nonfree (by omega)) (page_nonfree (by omega)) (by rw [e2,e]);exact ⟨h2,by rw [e1,this]⟩
theorem find_yes {l:zBd} (h:RT l) {p f:Int} {j:Nat} (hp:1<=p) (hj:j<16) (e:at' l j=(p,f)):findS l p=(f,true):=by
 obtain ⟨h1,h2⟩:=z0v h hp hj (by rw [e]);simp [findS,rightB_t.2 h,h1,h2,e]
theorem cnt_full {l:zBd} (h:l.length=16):cntS l=16↔∀ j,j<16->freeB (at' l j)=false:=by
 rw [<-h];unfold cntS;rw [List.countP_eq_length]
 constructor
 ·intro h1 j hj;have:=h1 l[j] (List.getElem_mem hj)
  rw [at_eq hj];simpa using this
 ·intro h1 x hx;obtain ⟨j,hj,rfl⟩:=List.mem_iff_getElem.1 hx
  rw [<-at_eq hj,h1 j hj];rfl
theorem zXl {l:zBd} {p:Int} (hl:l.length=16) (hp:0<=p):zKn l (homeN p) 0 16=none↔cntS l=16:=by
 rw [cnt_full hl];have hh:=zJj hp
 constructor
 ·intro h j hj;have:=zXm h ((j+16-homeN p)%16) (by omega);rw [show (homeN p+(0+(j+16-homeN p)%16))%16=j by omega] at this;exact this
 ·intro h
  cases e:zKn l (homeN p) 0 16 with
  |none=>rfl
  |some i=>
   obtain ⟨d,h1,h2,h3,h4⟩:=zUg e
   rw [h i (by omega)] at h3;cases h3
theorem new_rt:RT (List.replicate 16 (0,0)):=by
 have hat:∀ j,at' (List.replicate 16 (0,0)) j=(0,0):=fun j=>by
  unfold at';rw [List.getElem?_replicate]
  split<;>rfl
 exact ⟨by simp,fun i _=>by rw [hat];exact zFz,fun i _=>.inl (by rw [hat];rfl)⟩
theorem pages_len {l:zBd} (h:RT l):(pagesS l).length=cntS l:=by
 rw [pagesS,if_neg (by simp [rightB_t.2 h]),zKb,List.length_mergeSort]
 have:∀ l:zBd,(l.filterMap zHl).length=cntS l:=by
  intro l
  induction l with
  |nil=>rfl
  |cons x r ih=>
   rw [List.filterMap_cons,cntS,List.countP_cons]
   cases e:freeB x with
   |true=>simp only [zHl,e,if_true];rw [ih];simp [cntS]
   |false=>simp only [zHl,e];simp [ih,cntS]
 exact this l
theorem yVa {l:zBd} {p f:Int} {i:Nat} (h:RT l) (hf:zKp p f=true) (hpl:(placeT l p).2=false) (hff:zKn l (homeN p) 0 16=some i):putS l p f=(l.set i (p,f),0):=by
 rw [putS,if_neg (by simp [rightB_t.2 h,hf]),if_neg (by simp [hpl]),hff]
def MemS (l:zBd) (x:Int×Int):Prop:=∃ j,j<16/\at' l j=x
theorem put_gen {l:zBd} {p f:Int} (h:RT l) (hf:zKp p f=true) (hn:∀ j,j<16->(at' l j).1≠p) (hc:cntS l<16):
  ∃ l' i,i<16/\freeB (at' l i)=true/\l'=l.set i (p,f) /\putS l p f=(l',0) /\RT l'/\Cut l'/\cntS l'=cntS l+1/\ ∀ x,freeB x=false->(MemS l' x↔x=(p,f) \/MemS l x):=by
 have hp:=fits_out.1 hf;have hpl:=zVm (p:=p) (fun j hj=>hn j (by rw [h.len] at hj;exact hj))
 cases hff:zKn l (homeN p) 0 16 with
 |none=>have:=(zXl h.len (by omega)).1 hff;omega
 |some i=>
  obtain ⟨hi16,fi,hrt,hcut⟩:=yRk h hf (fun j hj _=>hn j hj) hff
  have hil:i<l.length:=by rw [h.len];exact hi16
  have hat:∀ j,at' (l.set i (p,f)) j=if j=i then (p,f) else at' l j:=fun j=>zRo hil
  refine ⟨_,i,hi16,fi,rfl,yVa h hf hpl hff,hrt,hcut,?_,fun x hx=>?_⟩
  ·have c:=zTt (x:=(p,f)) hil;rw [fi,zKq hf] at c;simp at c;exact c
  ·constructor
   ·rintro ⟨j,hj,e⟩;rw [hat] at e
    by_cases ej:j=i
    ·rw [if_pos ej] at e;exact .inl e.symm
    ·rw [if_neg ej] at e;exact .inr ⟨j,hj,e⟩
   ·rintro (e|⟨j,hj,e⟩)
    ·exact ⟨i,hi16,by rw [hat,if_pos rfl,e]⟩
    ·refine ⟨j,hj,?_⟩;rw [hat,if_neg (fun e'=>by rw [e'] at e;rw [e,hx] at fi;cases fi),e]
theorem del_gen {l:zBd} {p f:Int} (h:RT l) (hc:Cut l) (hp:1<=p) (hm:MemS l (p,f)):
  ∃ l',delS l p=(l',0) /\RT l'/\Cut l'/\cntS l'+1=cntS l/\ ∀ x,freeB x=false->(MemS l' x↔x.1≠p/\MemS l x):=by
 obtain ⟨a,ha,e4⟩:=hm;obtain ⟨hpl,hpa⟩:=z0v h hp ha (by rw [e4])
 have base:delS l p=(delG (l.set a (0,0)) a a 15,0):=by
  rw [delS,if_neg (by simp [rightB_t.2 h]),if_neg (by simp [hpl]),hpa];rfl
 obtain ⟨z,hz⟩:=hc
 have fa:freeB (at' l a)=false:=by rw [e4];exact page_nonfree hp
 have hd:=del_rt h hz ha fa
 have hal:a<l.length:=by rw [h.len];exact ha
 have hat:∀ j,at' (l.set a (0,0)) j=if j=a then (0,0) else at' l j:=fun j=>zRo hal
 have c:=zTt (x:=(0,0)) hal;rw [fa,show freeB (0,0)=true from rfl] at c;simp at c;obtain ⟨z',hz',fz'⟩:=hd.free;refine ⟨_,base,hd.rt,⟨z',free_cut hd.rt hz' fz'⟩,by have:=hd.cnt;omega,fun x hx=>?_⟩;unfold MemS;rw [hd.same x hx]
 constructor
 ·rintro ⟨j,hj,e⟩;rw [hat] at e
  by_cases ej:j=a
  ·rw [if_pos ej] at e;subst e;cases hx
  ·rw [if_neg ej] at e;refine ⟨fun e5=>ej (h.distinct j a hj ha (by rw [e];exact hx) fa (by rw [e,e4,e5])),j,hj,e⟩
 ·rintro ⟨e5,j,hj,e⟩;exact ⟨j,hj,by rw [hat,if_neg (fun ej=>by rw [ej,e4] at e;subst e;exact e5 rfl)];exact e⟩
end Go.Lk.Tb
namespace Go.Lk
open Go Go.Proofs Go.RowKit Go.Lk
structure FX where
 fr:List Fr
 hand:Int
 tb:List (Int×Int)
 pg:List Pg
 dt:List (Int×Int)
def FX.cells (f:FX):List D:=[.lst (f.fr.map encF),.int .i64 f.hand,zCe f.tb,.lst (f.pg.map encP),zCe f.dt]
def zGk (f:FX):D:=.agg f.cells
def FX.box (f:FX):List AV:=[.d (.lst (f.fr.map encF)),.d (.int .i64 f.hand),.d (zCe f.tb),.d (.lst (f.pg.map encP)),.d (zCe f.dt)]
def noPg:Pg:=(0,0,.empty)
def z9t (f:FX) (i:Nat):Prop:=∀ (h:i<f.fr.length) (h2:i<f.pg.length),(f.fr[i].1=0/\f.fr[i].2.1=0/\f.pg[i]=noPg) \/ (f.fr[i].1≠0/\f.fr[i].1=f.pg[i].1/\pgR f.pg[i]=true/\Tb.findS f.tb f.pg[i].1=((i:Int),true))
def nFr (l:List Fr):Nat:=l.countP fun x=>!decide (x.1=0)
structure zHm (f:FX):Prop where
 ck:zNh f.fr f.hand
 tb:Tb.RT f.tb
 dt:Dt.rightB f.dt=true
 len:f.pg.length=f.fr.length
 place:∀ i,i<f.fr.length->z9t f i
 cnt:Tb.cntS f.tb=nFr f.fr
 dirty:∀ i (h:i<f.dt.length),(Tb.findS f.tb f.dt[i].1).2=true
open Classical in
noncomputable def zKs (f:FX):Bool:=decide (zHm f)
theorem zHb {f:FX}:zKs f=true↔zHm f:=by simp [zKs]
theorem zKt {f:FX}:zKs f=false↔¬zHm f:=by simp [zKs]
theorem notF {f:FX} (h:¬zHm f):D.bool false=D.bool (zKs f):=congrArg D.bool (zKt.2 h).symm
theorem yOc {l:List Fr} {k:Nat} (h:k<l.length):nFr (l.take (k+1))=nFr (l.take k)+(if l[k].1=0 then 0 else 1):=by
 unfold nFr;rw [zAs h,List.countP_append,List.countP_cons,List.countP_nil]
 by_cases e:l[k].1=0<;>simp [e]
theorem zKu (f:FX) (h1:f.tb.length<=1000000) (h2:f.dt.length<=1000000):zAi Tryz.prog 100 [zGk f] (.bool (zKs f)):=by
 refine zAe Tryz.func100 1 rfl (by kernel_rfl) (w0 ?_)
 have hmf:(f.fr.map encF).length=f.fr.length:=List.length_map ..
 have hmp:(f.pg.map encP).length=f.pg.length:=List.length_map ..
 have hmd:(f.dt.map encI).length=f.dt.length:=List.length_map ..
 refine aA ?_;refine zAa (zJe f.fr f.hand) (w0 ?_)
 refine zAf (fun g1=>?_) (fun g1=>?_)<;>conv=>whnf
 ·refine aA ?_;exact ret_of rfl (notF fun h=>by have:=zSo.2 h.ck;simp [this] at g1)
 simp at g1;refine aA ?_;refine zAa (Tb.right_ok f.tb h1) (w0 ?_)
 refine zAf (fun g2=>?_) (fun g2=>?_)<;>conv=>whnf
 ·refine aA ?_;exact ret_of rfl (notF fun h=>by have:=Tb.rightB_t.2 h.tb;simp [this] at g2)
 simp at g2;refine aA ?_;refine zAa (Dt.right_ok f.dt h2) (w0 ?_)
 refine zAf (fun g3=>?_) (fun g3=>?_)<;>conv=>whnf
 ·refine aA ?_;exact ret_of rfl (notF fun h=>by have:=h.dt;simp [this] at g3)
 simp at g3;have hC:=zSo.1 g1;have hT:=Tb.rightB_t.1 g2;have hl8:=hC.most;refine aA ?_
 refine bcase_n (fun g4=>?_) (fun g4=>?_)<;>conv=>whnf
 ·exact ret_of rfl (notF fun h=>g4 (by rw [hmp,hmf,h.len]))
 have hlen:f.pg.length=f.fr.length:=by omega
 refine aA ?_;refine zAq (ι:=Nat) (fun k=>[(1,.ptr 1 0 0),(3,.d (.int .i64 (nFr (f.fr.take k)))),(39,.d (.lst (f.fr.map encF))),(40,.d (.int .i64 (f.fr.map encF).length)),(41,.d (.int .i64 k))]) (fun _=>[(1,.box f.box false)])
  (fun k=>k<=f.fr.length/\ ∀ i,i<k->z9t f i) (fun k=>f.fr.length-k) 0 ⟨Nat.zero_le _,fun j h=>absurd h (Nat.not_lt_zero _)⟩ (le0 (zAb ⟨rfl,rfl,rfl,rfl,rfl,trivial⟩ ⟨rfl,trivial⟩ ⟨rfl,rfl,rfl,rfl⟩)) ?_
 rintro k ⟨hk,hR⟩;have hck:nFr (f.fr.take k) <=8:=Nat.le_trans List.countP_le_length (by simp;omega)
 conv=>whnf
 refine bcase_p (fun h=>?_) (fun h=>?_)<;>conv=>whnf
 ·have hk2:k<f.fr.length:=by omega
  have hk3:k<f.pg.length:=by omega
  have hcs:=yOc hk2
  have hlast (hs:z9t f k):∀ j,j<k+1->z9t f j:=fun j hj=>(Nat.lt_succ_iff_lt_or_eq.1 hj).elim (hR j) (fun e=>by subst e;exact hs)
  refine zAd (by omega) (w0 ?_);refine zAc (x:=encF f.fr[k]) (by simp [hk2]) (aW ?_);refine zAd (by omega) (w0 ?_);refine zAc (x:=encP f.pg[k]) (by simp [hk3]) (aW ?_)
  refine bcase_p (fun g5=>?_) (fun g5=>?_)<;>conv=>whnf
  ·refine aA ?_
   refine bcase_n (fun g6=>?_) (fun g6=>?_)<;>conv=>whnf
   ·refine aA ?_;exact ret_of rfl (notF fun h=>by rcases h.place k hk2 hk2 hk3 with ⟨_,e,_⟩|⟨e,_⟩;exact g6 e;exact e g5)
   refine aA ?_;have hpg:f.pg[k]=noPg↔(f.pg[k].1=0/\f.pg[k].2.1=0/\f.pg[k].2.2=ByteArray.empty):=⟨fun e=>by rw [e];exact ⟨rfl,rfl,rfl⟩,fun ⟨a,b,c⟩=>Prod.ext a (Prod.ext b c)⟩
   refine zAf (fun g7=>?_) (fun g7=>?_)<;>conv=>whnf
   ·refine ret_of rfl (notF fun h=>?_)
    rcases h.place k hk2 hk2 hk3 with ⟨_,_,e⟩|⟨e,_⟩
    ·have:=hpg.1 e;simp [this] at g7
    ·exact e g5
   ·refine aA ?_;have hz:f.pg[k]=noPg:=hpg.2 (by simpa using g7)
    exact ⟨k+1,⟨by omega,hlast fun _ _=>.inl ⟨g5,by omega,hz⟩⟩,by omega,le0 (zAb ⟨rfl,by
     show AV.d (.int .i64 (nFr (f.fr.take k)))=AV.d (.int .i64 (nFr (f.fr.take (k+1))));rw [hcs,if_pos g5];rfl,rfl,rfl,rfl,trivial⟩ ⟨rfl,trivial⟩ ⟨rfl,rfl,rfl,rfl⟩)⟩
  ·have hbad (hb:¬(f.fr[k].1≠0/\f.fr[k].1=f.pg[k].1/\pgR f.pg[k]=true/\Tb.findS f.tb f.pg[k].1=((k:Int),true))):¬zHm f:=fun h=>by
    rcases h.place k hk2 hk2 hk3 with ⟨e,_⟩|e
    ·exact g5 e
    ·exact hb e
   refine aA ?_
   refine bcase_n (fun g8=>?_) (fun g8=>?_)<;>conv=>whnf
   ·refine aA ?_;exact ret_of rfl (notF (hbad fun e=>g8 e.2.1))
   refine aA ?_;refine zAa (pageRight_ok f.pg[k]) (w0 ?_)
   refine zAf (fun g9=>?_) (fun g9=>?_)<;>conv=>whnf
   ·refine aA ?_;exact ret_of rfl (notF (hbad fun e=>by rw [e.2.2.1] at g9;cases g9))
   simp at g9;refine aA ?_;refine zAa (Tb.find_ok f.tb f.pg[k].1 h1) (aW ?_)
   refine zAf (fun g10=>?_) (fun g10=>?_)<;>conv=>whnf
   ·refine aA ?_;exact ret_of rfl (notF (hbad fun e=>by rw [e.2.2.2] at g10;cases g10))
   refine aA ?_
   refine bcase_n (fun g11=>?_) (fun g11=>?_)<;>conv=>whnf
   ·refine aA ?_;exact ret_of rfl (notF (hbad fun e=>g11 (by rw [e.2.2.2])))
   refine aA ?_;have hfi:Tb.findS f.tb f.pg[k].1=((k:Int),true):=Prod.ext (by simpa using g11) (by simpa using g10)
   exact ⟨k+1,⟨by omega,hlast fun _ _=>.inr ⟨g5,by omega,g9,hfi⟩⟩,by omega,le0 (zAb ⟨rfl,by
     show AV.d (.int .i64 ((nFr (f.fr.take k):Int)+1))=AV.d (.int .i64 (nFr (f.fr.take (k+1))));rw [hcs,if_neg g5];rfl,rfl,rfl,rfl,trivial⟩ ⟨rfl,trivial⟩ ⟨rfl,rfl,rfl,rfl⟩)⟩
 have hkl:k=f.fr.length:=by omega
 subst hkl;rw [List.take_length]
 have hpl:((Tb.pagesS f.tb).map enc1).length=Tb.cntS f.tb:=by rw [List.length_map,Tb.pages_len hT]
 refine aA ?_;refine zAa (Tb.pages_ok f.tb h1) (aW ?_)
 refine bcase_n (fun g12=>?_) (fun g12=>?_)<;>conv=>whnf
 ·exact ret_of rfl (notF fun h=>g12 (by rw [hpl,h.cnt]))
 have hcnt:Tb.cntS f.tb=nFr f.fr:=by omega
 refine aA ?_;refine zAq (ι:=Nat) (fun k=>[(1,.ptr 1 0 0),(97,.d (zCe f.dt)),(98,.d (.int .i64 (f.dt.map encI).length)),(99,.d (.int .i64 k))]) (fun _=>[(1,.box f.box false)])
  (fun k=>k<=f.dt.length/\ ∀ i,i<k->∀ h:i<f.dt.length,(Tb.findS f.tb f.dt[i].1).2=true) (fun k=>f.dt.length-k) 0 ⟨Nat.zero_le _,fun j h=>absurd h (Nat.not_lt_zero _)⟩ (le0 (zAb ⟨rfl,rfl,rfl,rfl,trivial⟩ ⟨rfl,trivial⟩ ⟨rfl,rfl,rfl,rfl⟩)) ?_
 rintro q ⟨hq,hQ⟩
 conv=>whnf
 refine bcase_p (fun g13=>?_) (fun g13=>?_)<;>conv=>whnf
 ·have hq2:q<f.dt.length:=by omega
  refine zAd (by omega) (w0 ?_);refine zAc (x:=encI f.dt[q]) (by simp [hq2]) (aW ?_);refine zAa (Tb.find_ok f.tb f.dt[q].1 h1) (aW ?_)
  refine zAf (fun g14=>?_) (fun g14=>?_)<;>conv=>whnf
  ·refine aA ?_;exact ret_of rfl (notF fun h=>by have:=h.dirty q hq2;rw [this] at g14;cases g14)
  ·refine aA ?_;exact ⟨q+1,⟨by omega,fun j hj hj2=>(Nat.lt_succ_iff_lt_or_eq.1 hj).elim (fun h=>hQ j h hj2) (fun e=>by subst e;simpa using g14)⟩,by omega,le0 (zAb ⟨rfl,rfl,rfl,rfl,trivial⟩ ⟨rfl,trivial⟩ ⟨rfl,rfl,rfl,rfl⟩)⟩
 ·exact ret_of rfl (congrArg D.bool (zHb.2 ⟨hC,hT,g3,hlen,fun i hi=>hR i hi,hcnt,fun i hi=>hQ i (by omega) hi⟩).symm)
def freeAt (l:List Fr) (k:Nat):Int:=
 match l with
 | []=>-1
 |p::r=>if p.1=0 then (k:Int) else freeAt r (k+1)
def zMd (l:List Fr):Int×Bool:=if freeAt l 0<0 then (0,false) else (freeAt l 0,true)
theorem freeAt_lt {l:List Fr}:∀ {k:Nat},(freeAt l k<0/\ ∀ i (h:i<l.length),l[i].1≠0) \/ ∃ i:Nat,freeAt l k=((k+i:Nat):Int) /\ ∃ h:i<l.length,l[i].1=0:=by
 induction l with
 |nil=>intro k;exact .inl ⟨show (-1:Int)<0 by decide,fun i h=>absurd h (Nat.not_lt_zero _)⟩
 |cons p r ih=>
  intro k;simp only [freeAt]
  by_cases h:p.1=0
  ·exact .inr ⟨0,by simp [h],by simp,by simpa using h⟩
  ·rw [if_neg h]
   rcases ih (k:=k+1) with ⟨h1,h0⟩|⟨i,h1,h2,h3⟩
   ·refine .inl ⟨h1,fun i hi=>?_⟩
    cases i with
    |zero=>exact h
    |succ i=>simpa using h0 i (by simpa using hi)
   ·exact .inr ⟨i+1,by rw [h1];simp;omega,by simpa using h2,by simpa using h3⟩
theorem zRs (f:FX) (hl:f.fr.length<=1000000):zAi Tryz.prog 276 [zGk f] (.tup [.int .i64 (zMd f.fr).1,.bool (zMd f.fr).2]):=by
 refine zAe Tryz.func276 1 rfl (by kernel_rfl) (aW ?_)
 have hmf:(f.fr.map encF).length=f.fr.length:=List.length_map ..
 refine zAq (ι:=Nat) (fun k=>[(8,.d (.lst (f.fr.map encF))),(9,.d (.int .i64 (f.fr.map encF).length)),(10,.d (.int .i64 k))]) (fun _=>[])
  (fun k=>k<=f.fr.length/\freeAt (f.fr.drop k) k=freeAt f.fr 0) (fun k=>f.fr.length-k) 0 ⟨Nat.zero_le _,rfl⟩ (le0 (zAb ⟨rfl,rfl,rfl,trivial⟩ trivial ⟨rfl,rfl,rfl,rfl⟩)) ?_
 rintro k ⟨hk,hR⟩
 conv=>whnf
 refine bcase_p (fun h=>?_) (fun h=>?_)<;>conv=>whnf
 ·have hk2:k<f.fr.length:=by omega
  refine zAd (by omega) (w0 ?_);refine zAc (x:=encF f.fr[k]) (by simp [hk2]) (aW ?_);rw [zBf hk2,freeAt] at hR
  refine bcase_p (fun h2=>?_) (fun h2=>?_)<;>conv=>whnf
  ·rw [if_pos h2] at hR;refine ret_of rfl ?_
   have:zMd f.fr=((k:Int),true):=by rw [zMd,<-hR,if_neg (by omega)]
   rw [this];rfl
  ·rw [if_neg h2] at hR;refine aA ?_;exact ⟨k+1,⟨by omega,hR⟩,by omega,le0 (zAb ⟨rfl,rfl,rfl,trivial⟩ trivial ⟨rfl,rfl,rfl,rfl⟩)⟩
 ·have hkl:k=f.fr.length:=by omega
  subst hkl;simp [freeAt] at hR;refine ret_of rfl ?_
  have:zMd f.fr=(0,false):=by rw [zMd,<-hR,if_pos (by omega)]
  rw [this];rfl
theorem zZr (f:FX) (p:Int) (h1:f.tb.length<=1000000):zAi Tryz.prog 101 [zGk f,.int .i64 p] (.tup [.int .i64 (Tb.findS f.tb p).1,.bool (Tb.findS f.tb p).2]):=by
 refine zAe Tryz.func101 2 rfl (by kernel_rfl) (aW ?_);refine zAa (Tb.find_ok f.tb p h1) (aW ?_);exact ret_of rfl rfl
open Classical in
noncomputable def zCc (f:FX) (p:Int):Int×Int:=if zHm f then (if (Tb.findS f.tb p).2=true then ((Tb.findS f.tb p).1,0) else (0,3)) else (0,1)
theorem zV (f:FX) (p:Int) (h1:f.tb.length<=1000000) (h2:f.dt.length<=1000000):zAi Tryz.prog 235 [zGk f,.int .i64 p] (.tup [.int .i64 (zCc f p).1,.int .i64 (zCc f p).2]):=by
 refine zAe Tryz.func235 2 rfl (by kernel_rfl) (aW ?_);refine zAa (zKu f h1 h2) (w0 ?_)
 refine zAf (fun g1=>?_) (fun g1=>?_)<;>conv=>whnf
 ·refine aA ?_;simp at g1;exact ret_of rfl (by rw [zCc,if_neg (zKt.1 g1)];rfl)
 refine aA ?_;simp at g1;have hR:=zHb.1 g1;refine zAa (zZr f p h1) (aW ?_)
 refine zAf (fun g2=>?_) (fun g2=>?_)<;>conv=>whnf
 ·refine aA ?_;simp at g2;exact ret_of rfl (by rw [zCc,if_pos hR,if_neg (by simp [g2])];rfl)
 ·refine aA ?_;simp at g2;exact ret_of rfl (by rw [zCc,if_pos hR,if_pos g2];rfl)
open Classical in
noncomputable def zFh (f:FX) (p:Int):Int×Bool:=if zHm f then Tb.findS f.tb p else (0,false)
theorem zGu (f:FX) (p:Int) (h1:f.tb.length<=1000000) (h2:f.dt.length<=1000000):zAi Tryz.prog 52 [zGk f,.int .i64 p] (.tup [.int .i64 (zFh f p).1,.bool (zFh f p).2]):=by
 refine zAe Tryz.func52 2 rfl (by kernel_rfl) (aW ?_);refine zAa (zKu f h1 h2) (w0 ?_)
 refine zAf (fun g1=>?_) (fun g1=>?_)<;>conv=>whnf
 ·refine aA ?_;simp at g1;exact ret_of rfl (by rw [zFh,if_neg (zKt.1 g1)];rfl)
 refine aA ?_;simp at g1;have hR:=zHb.1 g1;refine zAa (zZr f p h1) (aW ?_);exact ret_of rfl (by rw [zFh,if_pos hR];rfl)
theorem zL (f:FX) (h1:f.fr.length<=1000000) (h2:f.pg.length<=1000000):yFx Tryz.prog 236 [zGk f] [.row (f.fr.map encF) 3,.d (.int .i64 f.hand),.d (zCe f.tb),.row (f.pg.map encP) 3,.d (zCe f.dt)]:=by
 refine yOx Tryz.func236 1 rfl (by kernel_rfl) (aW ?_);refine zAn (zTs f.fr h1) (aW ?_);refine zAn (cloneP_ok f.pg h2) (aW ?_);exact ⟨_,_,rfl,rfl,.inl ⟨_,rfl,rfl,rfl,rfl,rfl,.inl ⟨_,rfl,rfl,rfl,rfl,trivial⟩⟩⟩
def zK (n:Nat):FX:=⟨List.replicate n (0,0,false),0,List.replicate 16 (0,0),List.replicate n noPg,[]⟩
def noFS:FX:=⟨[],0,[],[],[]⟩
theorem yQk:∀ {a b:List Int},a.Nodup->(∀ x∈a,x∈b)->b.length<=a.length->∀ x∈b,x∈a
 | [],b,_,_,h,x,hx=>by
  have:b=[]:=List.length_eq_zero_iff.1 (by simpa using h)
  rw [this] at hx;exact hx
 |y::r,b,hn,hs,h,x,hx=>by
  rw [List.nodup_cons] at hn;have hy:=hs y (List.mem_cons_self ..)
  by_cases e:x=y
  ·subst e;exact List.mem_cons_self ..
  ·refine List.mem_cons_of_mem _ (yQk (b:=b.erase y) hn.2 (fun z hz=>?_) ?_ x ?_)
   ·exact (List.mem_erase_of_ne (fun e=>hn.1 (by rw [<-e];exact hz))).2 (hs z (List.mem_cons_of_mem _ hz))
   ·rw [List.length_erase_of_mem hy];simp at h;omega
   ·exact (List.mem_erase_of_ne e).2 hx
theorem zCa {l:List (Int×Int)} (h:Tb.RT l) {p i:Int}:Tb.findS l p=(i,true)↔1<=p/\Tb.MemS l (p,i):=by
 constructor
 ·intro hf;have hr:=Tb.rightB_t.2 h;unfold Tb.findS at hf
  split at hf
  ·cases hf
  ·rename_i hn
   have hp:(Tb.placeT l p).2=true:=by
    cases e:(Tb.placeT l p).2 with
    |true=>rfl
    |false=>exact absurd (.inr e) hn
   obtain ⟨j,e1,e2,e3⟩:=Tb.placeT_t hp;rw [e1,Int.toNat_natCast] at hf
   have hj:j<16:=by rw [<-h.len];exact e2
   refine ⟨?_,j,hj,?_⟩
   ·unfold Tb.placeT at hp
    split at hp
    ·cases hp
    ·rename_i hq;omega
   ·have h1:=congrArg Prod.fst hf;simp only at h1;exact Prod.ext (by rw [Tb.at_eq e2];exact e3) h1
 ·rintro ⟨hp,j,hj,e⟩;exact Tb.find_yes h hp hj e
theorem yEa {l:List (Int×Int)} (h:Tb.RT l) {p:Int} (hp:1<=p):(Tb.findS l p).2=false↔∀ i,¬Tb.MemS l (p,i):=by
 constructor
 ·intro h1 i hm
  rw [(zCa h).2 ⟨hp,hm⟩] at h1;cases h1
 ·intro h1
  cases e:(Tb.findS l p).2 with
  |false=>rfl
  |true=>exact absurd ((zCa h).1 (Prod.ext rfl e)).2 (h1 _)
theorem zXn {l:List (Int×Int)} {p:Int} (h:(Tb.findS l p).2=false):Tb.findS l p=(0,false):=by
 unfold Tb.findS at h⊢
 split
 ·rfl
 ·rename_i hn;rw [if_neg hn] at h;cases h
theorem mem_uni {l:List (Int×Int)} (h:Tb.RT l) {p i j:Int} (hp:1<=p) (hi:Tb.MemS l (p,i)) (hj:Tb.MemS l (p,j)):i=j:=by
 have:=(zCa h).2 ⟨hp,hi⟩;rw [(zCa h).2 ⟨hp,hj⟩] at this;exact (congrArg Prod.fst this).symm
def PlaceM (f:FX) (i:Nat):Prop:=∀ (h:i<f.fr.length) (h2:i<f.pg.length),(f.fr[i].1=0/\f.fr[i].2.1=0/\f.pg[i]=noPg) \/ (1<=f.fr[i].1/\f.fr[i].1=f.pg[i].1/\pgR f.pg[i]=true/\Tb.MemS f.tb (f.fr[i].1,(i:Int)))
structure FM (f:FX):Prop where
 ck:zNh f.fr f.hand
 tb:Tb.RT f.tb
 dt:Dt.rightB f.dt=true
 len:f.pg.length=f.fr.length
 place:∀ i,i<f.fr.length->PlaceM f i
 cnt:Tb.cntS f.tb=nFr f.fr
 dirty:∀ x∈f.dt,∃ i,Tb.MemS f.tb (x.1,i)
theorem zGg {f:FX}:zHm f↔FM f:=by
 constructor
 ·intro h;refine ⟨h.ck,h.tb,h.dt,h.len,fun i hi h1 h2=>?_,h.cnt,fun x hx=>?_⟩
  ·rcases h.place i hi h1 h2 with e|⟨e1,e2,e3,e4⟩
   ·exact .inl e
   ·obtain ⟨q1,q2⟩:=(zCa h.tb).1 e4;exact .inr ⟨by rw [e2];exact q1,e2,e3,by rw [e2];exact q2⟩
  ·obtain ⟨i,hi,rfl⟩:=List.mem_iff_getElem.1 hx;exact ⟨_,((zCa h.tb).1 (Prod.ext rfl (h.dirty i hi))).2⟩
 ·intro h;refine ⟨h.ck,h.tb,h.dt,h.len,fun i hi h1 h2=>?_,h.cnt,fun i hi=>?_⟩
  ·rcases h.place i hi h1 h2 with e|⟨e1,e2,e3,e4⟩
   ·exact .inl e
   ·exact .inr ⟨by omega,e2,e3,(zCa h.tb).2 ⟨by omega,by rw [<-e2];exact e4⟩⟩
  ·obtain ⟨j,hj⟩:=h.dirty _ (List.getElem_mem hi);have hd:=(Dt.rightB_out h.dt).2 i hi;rw [(zCa h.tb).2 ⟨hd.2.1,hj⟩]
def zFl (l:List Fr):List Int:=(l.filter fun x=>!decide (x.1=0)).map (·.1)
theorem zMt (l:List Fr):(zFl l).length=nFr l:=by
 unfold zFl nFr;rw [List.length_map,List.countP_eq_length_filter]
theorem zMu {l:List Fr} {p:Int}:p∈zFl l↔p≠0/\ ∃ i,∃ h:i<l.length,l[i].1=p:=by
 unfold zFl;rw [List.mem_map]
 constructor
 ·rintro ⟨x,hx,rfl⟩;obtain ⟨h1,h2⟩:=List.mem_filter.1 hx;obtain ⟨i,hi,rfl⟩:=List.mem_iff_getElem.1 h1;exact ⟨by simpa using h2,i,hi,rfl⟩
 ·rintro ⟨h0,i,hi,rfl⟩;exact ⟨l[i],List.mem_filter.2 ⟨List.getElem_mem hi,by simpa using h0⟩,rfl⟩
theorem FM.uni {f:FX} (h:FM f) {i j:Nat} (hi:i<f.fr.length) (hj:j<f.fr.length) (h0:f.fr[i].1≠0) (e:f.fr[i].1=f.fr[j].1):i=j:=by
 rcases h.place i hi hi (by rw [h.len];exact hi) with q|⟨q1,_,_,q2⟩
 ·exact absurd q.1 h0
 rcases h.place j hj hj (by rw [h.len];exact hj) with r|⟨r1,_,_,r2⟩
 ·exact absurd (e.trans r.1) h0
 have:=mem_uni h.tb q1 q2 (e▸r2);omega
theorem zVd:∀ {l:List Fr},(∀ i j,(hi:i<l.length)->(hj:j<l.length)->l[i].1≠0->l[i].1=l[j].1->i=j)->(zFl l).Nodup
 | [],_=>by simp [zFl]
 |x::r,h=>by
  have ih:=zVd (l:=r) fun i j hi hj h0 e=>by
   have:=h (i+1) (j+1) (by simpa using hi) (by simpa using hj) (by simpa using h0) (by simpa using e);omega
  unfold zFl at ih⊢
  by_cases hx:x.1=0
  ·rw [List.filter_cons_of_neg (by simp [hx])];exact ih
  ·rw [List.filter_cons_of_pos (by simp [hx]),List.map_cons,List.nodup_cons];refine ⟨fun hm=>?_,ih⟩;obtain ⟨_,j,hj,e⟩:=zMu.1 hm;have:=h 0 (j+1) (by simp) (by simpa using hj) (by simpa using hx) (by simpa using e.symm);omega
def z9l (l:List (Int×Int)):List Int:=(l.filter fun x=>!Tb.freeB x).map (·.1)
theorem FM.frame {f:FX} (h:FM f) {p k:Int} (hp:1<=p) (hm:Tb.MemS f.tb (p,k)):∃ i:Nat,k=i/\ ∃ hi:i<f.fr.length,f.fr[i].1=p:=by
 have h16:=h.tb.len
 have hin:p∈z9l f.tb:=by
  obtain ⟨j,hj,e⟩:=hm;refine List.mem_map.2 ⟨(p,k),List.mem_filter.2 ⟨?_,by simp [Tb.page_nonfree (x:=(p,k)) hp]⟩,rfl⟩;rw [<-e,Tb.at_eq (by omega)];exact List.getElem_mem _
 have:=yQk (a:=zFl f.fr) (b:=z9l f.tb) (zVd fun i j hi hj h0 e=>h.uni hi hj h0 e) (fun x hx=>?_) (by
   rw [zMt,<-h.cnt];unfold z9l Tb.cntS
   rw [List.length_map,List.countP_eq_length_filter];exact Nat.le_refl _) p hin
 ·obtain ⟨h0,i,hi,e⟩:=zMu.1 this
  rcases h.place i hi hi (by rw [h.len];exact hi) with q|⟨q1,_,_,q2⟩
  ·exact absurd (e.symm.trans q.1) h0
  ·exact ⟨i,mem_uni h.tb hp hm (e▸q2),hi,e⟩
 ·obtain ⟨h0,i,hi,e⟩:=zMu.1 hx
  rcases h.place i hi hi (by rw [h.len];exact hi) with q|⟨q1,_,_,q2⟩
  ·exact absurd (e.symm.trans q.1) h0
  ·obtain ⟨j,hj,e2⟩:=q2;refine List.mem_map.2 ⟨(f.fr[i].1,(i:Int)),List.mem_filter.2 ⟨?_,by simp [Tb.page_nonfree (x:=(f.fr[i].1,(i:Int))) q1]⟩,e⟩;rw [<-e2,Tb.at_eq (by omega)];exact List.getElem_mem _
theorem FM.nfr {f:FX} (h:FM f):Tb.cntS f.tb<=8:=by
 rw [h.cnt];exact Nat.le_trans List.countP_le_length h.ck.most
theorem ySs {l:List (Int×Int)} (h:Tb.RT l) (hc:Tb.cntS l<16):Tb.Cut l:=by
 have:¬∀ j,j<16->Tb.freeB (Tb.at' l j)=false:=fun h1=>by have:=(Tb.cnt_full h.len).2 h1;omega
 obtain ⟨z,hz⟩:=Classical.not_forall.1 this;obtain ⟨hz1,hz2⟩:=Classical.not_imp.1 hz;exact ⟨z,Tb.free_cut h hz1 (by simpa using hz2)⟩
structure AtF (f:FX) (p:Int) (i:Nat):Prop where
 right:FM f
 hi:i<f.fr.length
 hp:i<f.pg.length
 p1:1<=p
 p16:p<=16
 fr:f.fr[i].1=p
 pg:f.pg[i].1=p
 pgr:pgR f.pg[i]=true
 mem:Tb.MemS f.tb (p,(i:Int))
theorem zEd {f:FX} {p:Int} {i:Nat} (h:FM f) (hp:p≠0) (hi:i<f.fr.length) (e:f.fr[i].1=p):AtF f p i:=by
 rcases h.place i hi hi (by rw [h.len];exact hi) with q|⟨q1,q2,q3,q4⟩
 ·exact absurd (e.symm.trans q.1) hp
 ·exact ⟨h,hi,by rw [h.len];exact hi,e▸q1,by have:=(pgR_out.1 q3).2.1;omega,e,by rw [<-q2];exact e,q3,e▸q4⟩
theorem zYb (f:FX) (p:Int):(¬zHm f/\zCc f p=(0,1)) \/ (zHm f/\Tb.findS f.tb p=(0,false) /\zCc f p=(0,3)) \/ ∃ i:Nat,Tb.findS f.tb p=((i:Int),true) /\zCc f p=((i:Int),0) /\AtF f p i:=by
 unfold zCc
 by_cases h:zHm f
 ·rw [if_pos h]
  cases e:(Tb.findS f.tb p).2 with
  |false=>exact .inr (.inl ⟨h,zXn e,by simp⟩)
  |true=>
   have hm:=zGg.1 h;obtain ⟨hp,hm2⟩:=(zCa hm.tb).1 (Prod.ext rfl e:Tb.findS f.tb p=((Tb.findS f.tb p).1,true));obtain ⟨i,e1,hi,e2⟩:=hm.frame hp hm2;exact .inr (.inr ⟨i,Prod.ext e1 e,by rw [if_pos rfl,e1],zEd hm (by omega) hi e2⟩)
 ·rw [if_neg h];exact .inl ⟨h,rfl⟩
noncomputable def relS (f:FX) (i:Nat) (p:Int):FX:=⟨f.fr.set i (0,0,false),f.hand,(Tb.delS f.tb p).1,f.pg.set i noPg,(Dt.cleanG f.dt p).1⟩
theorem zXf {l:List (Int×Int)} {p:Int} (h:(Dt.cleanG l p).2≠0):(Dt.cleanG l p).1=l:=by
 unfold Dt.cleanG at h⊢
 split
 ·rfl
 ·rename_i h1;rw [if_neg h1] at h
  split
  ·rfl
  ·rename_i h2;rw [if_neg h2] at h;exact absurd rfl h
theorem yAf {l:List (Int×Int)} {p:Int} (h:(Tb.delS l p).2≠0):(Tb.delS l p).1=l:=by
 unfold Tb.delS at h⊢
 split
 ·rfl
 ·rename_i h1;rw [if_neg h1] at h
  split
  ·rfl
  ·rename_i h2;rw [if_neg h2] at h;exact absurd rfl h
theorem zTe (l:List Fr) (i:Nat) (x:Fr):(l.map encF).set i (encF x)=(l.set i x).map encF:=by rw [List.map_set]
theorem z1n (l:List Pg) (i:Nat) (x:Pg):(l.map encP).set i (encP x)=(l.set i x).map encP:=by rw [List.map_set]
theorem zYm (f:FX) (i:Nat) (p:Int) (h:i<f.fr.length) (h2:i<f.pg.length) (hp:f.pg[i].1=p) (hf:f.fr.length<=1000000) (hg:f.pg.length<=1000000) (ht:f.tb.length<=1000000) (hd:f.dt.length<=1000000):
  zAi Tryz.prog 239 [zGk f,.int .i64 i] (zGk (relS f i p)):=by
 refine zAe Tryz.func239 2 rfl (by kernel_rfl) (w0 ?_)
 have hmf:(f.fr.map encF).length=f.fr.length:=List.length_map ..
 have hmp:(f.pg.map encP).length=f.pg.length:=List.length_map ..
 refine aA ?_;refine zAd (by omega) (w0 ?_);refine zAc (x:=encP f.pg[i]) (by simp [h2]) (aW ?_);rw [hp];refine zKh (zL f hf hg) (show 2<=8 by decide) (aW ?_);refine zAd (by omega) (w0 ?_);refine zAc (x:=encF f.fr[i]) (by simp [h]) (aW ?_);refine zAd (by omega) (w0 ?_);refine zAc (x:=encP f.pg[i]) (by simp [h2]) (aW ?_);refine zAa (Tb.del_ok f.tb p ht) (aW ?_);have k1:(f.fr.map encF).set i [.int .i64 0,.int .i64 0,.bool false]=(f.fr.set i (0,0,false)).map encF:=zTe f.fr i (0,0,false);have k2:(f.pg.map encP).set i [.int .i64 0,.int .i64 0,.str .empty]=(f.pg.set i noPg).map encP:=z1n f.pg i noPg
 refine bcase_p (fun g1=>?_) (fun g1=>?_)<;>conv=>whnf
 ·refine aA ?_;refine zAa (Dt.clean_ok f.dt p hd) (aW ?_)
  refine bcase_p (fun g2=>?_) (fun g2=>?_)<;>conv=>whnf
  ·refine aA ?_;refine ret_of rfl ?_;show D.agg [.lst ((f.fr.map encF).set i _),_,_,.lst ((f.pg.map encP).set i _),_]=_;rw [show ((f.fr.map encF).set i (zAx (encF f.fr[i]) 0 [.int .i64 0,.int .i64 0,.bool false]))=_ from k1];rw [show ((f.pg.map encP).set i (zAx (encP f.pg[i]) 0 [.int .i64 0,.int .i64 0,.str .empty]))=_ from k2];rfl
  ·refine aA ?_;refine ret_of rfl ?_;show D.agg [.lst ((f.fr.map encF).set i _),_,_,.lst ((f.pg.map encP).set i _),_]=_;rw [show ((f.fr.map encF).set i (zAx (encF f.fr[i]) 0 [.int .i64 0,.int .i64 0,.bool false]))=_ from k1];rw [show ((f.pg.map encP).set i (zAx (encP f.pg[i]) 0 [.int .i64 0,.int .i64 0,.str .empty]))=_ from k2];rw [show relS f i p=⟨f.fr.set i (0,0,false),f.hand,(Tb.delS f.tb p).1,f.pg.set i noPg,f.dt⟩ from by rw [relS,zXf g2]];rfl
 ·refine aA ?_;refine zAa (Dt.clean_ok f.dt p hd) (aW ?_)
  refine bcase_p (fun g2=>?_) (fun g2=>?_)<;>conv=>whnf
  ·refine aA ?_;refine ret_of rfl ?_;show D.agg [.lst ((f.fr.map encF).set i _),_,_,.lst ((f.pg.map encP).set i _),_]=_;rw [show ((f.fr.map encF).set i (zAx (encF f.fr[i]) 0 [.int .i64 0,.int .i64 0,.bool false]))=_ from k1];rw [show ((f.pg.map encP).set i (zAx (encP f.pg[i]) 0 [.int .i64 0,.int .i64 0,.str .empty]))=_ from k2];rw [show relS f i p=⟨f.fr.set i (0,0,false),f.hand,f.tb,f.pg.set i noPg,(Dt.cleanG f.dt p).1⟩ from by rw [relS,yAf g1]];rfl
  ·refine aA ?_;refine ret_of rfl ?_;show D.agg [.lst ((f.fr.map encF).set i _),_,_,.lst ((f.pg.map encP).set i _),_]=_;rw [show ((f.fr.map encF).set i (zAx (encF f.fr[i]) 0 [.int .i64 0,.int .i64 0,.bool false]))=_ from k1];rw [show ((f.pg.map encP).set i (zAx (encP f.pg[i]) 0 [.int .i64 0,.int .i64 0,.str .empty]))=_ from k2];rw [show relS f i p=⟨f.fr.set i (0,0,false),f.hand,f.tb,f.pg.set i noPg,f.dt⟩ from by rw [relS,yAf g1,zXf g2]];rfl
end Go.Lk
