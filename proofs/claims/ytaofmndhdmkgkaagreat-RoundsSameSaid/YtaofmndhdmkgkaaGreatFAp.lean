/-
  What is proved here: what functions of the program compute, and what follows; no condition beyond each theorem's own.
-/
import Derived.Test.YtaofmndhdmkgkaaGreatFAl
import Derived.Test.YtaofmndhdmkgkaaGreatFAm
import Derived.Shelf.Slices.In.SortNone
import Derived.Test.YtaofmndhdmkgkaaGreatProg
set_option linter.unusedSimpArgs false
set_option linter.unusedVariables false
set_option linter.unnecessarySimpa false
set_option linter.unusedSectionVars false
namespace Go.Lk
open Go Go.Proofs Go.Shelf
def sortRen:Ren:=
{
 f:=fun x=>
  match x with
  |189=>234
  |125=>274
  |257=>273
  |128=>297
  |129=>298
  |294=>289
  |295=>290
  |296=>291
  |297=>292
  |298=>293
  |299=>294
  |216=>283
  |300=>295
  |301=>296
  |328=>303
  |329=>304
  |330=>305
  |331=>306
  |332=>307
  |215=>189
  |343=>311
  |n=>n,
 t:=fun x=>
  match x with
  |28=>25
  |3=>3
  |46=>223
  |0=>0
  |51=>296
  |53=>299
  |4=>4
  |183=>398
  |182=>397
  |131=>133
  |5=>5
  |9=>9
  |218=>407
  |222=>411
  |228=>415
  |229=>416
  |n=>n,
 g:=fun x=>
  x}
theorem sortLays:Lays.n189 Tryz.prog sortRen:=
{mixed:=by kernel_rfl,
 f125:=
  Eq.trans Tryz.func274 (congrArg some (by kernel_rfl)),
 f128:=
  Eq.trans Tryz.func297 (congrArg some (by kernel_rfl)),
 f129:=
  Eq.trans Tryz.func298 (congrArg some (by kernel_rfl)),
 f189:=
  Eq.trans Tryz.func234 (congrArg some (by kernel_rfl)),
 f215:=
  Eq.trans Tryz.func189 (congrArg some (by kernel_rfl)),
 f216:=
  Eq.trans Tryz.func283 (congrArg some (by kernel_rfl)),
 f257:=
  Eq.trans Tryz.func273 (congrArg some (by kernel_rfl)),
 f294:=
  Eq.trans Tryz.func289 (congrArg some (by kernel_rfl)),
 f295:=
  Eq.trans Tryz.func290 (congrArg some (by kernel_rfl)),
 f296:=
  Eq.trans Tryz.func291 (congrArg some (by kernel_rfl)),
 f297:=
  Eq.trans Tryz.func292 (congrArg some (by kernel_rfl)),
 f298:=
  Eq.trans Tryz.func293 (congrArg some (by kernel_rfl)),
 f299:=
  Eq.trans Tryz.func294 (congrArg some (by kernel_rfl)),
 f300:=
  Eq.trans Tryz.func295 (congrArg some (by kernel_rfl)),
 f301:=
  Eq.trans Tryz.func296 (congrArg some (by kernel_rfl)),
 f328:=
  Eq.trans Tryz.func303 (congrArg some (by kernel_rfl)),
 f329:=
  Eq.trans Tryz.func304 (congrArg some (by kernel_rfl)),
 f330:=
  Eq.trans Tryz.func305 (congrArg some (by kernel_rfl)),
 f331:=
  Eq.trans Tryz.func306 (congrArg some (by kernel_rfl)),
 f332:=
  Eq.trans Tryz.func307 (congrArg some (by kernel_rfl)),
 f343:=
  Eq.trans Tryz.func311 (congrArg some (by kernel_rfl)),
 t0:=Tryz.underlying0,a0:=Tryz.isAgg0,z0:=Tryz.sizeOf0,
 v0:=Tryz.zeroValue0,t3:=Tryz.underlying3,a3:=Tryz.isAgg3,
 z3:=Tryz.sizeOf3,v3:=Tryz.zeroValue3,t4:=Tryz.underlying4,
 a4:=Tryz.isAgg4,z4:=Tryz.sizeOf4,v4:=Tryz.zeroValue4,
 t5:=Tryz.underlying5,a5:=Tryz.isAgg5,z5:=Tryz.sizeOf5,
 v5:=Tryz.zeroValue5,t9:=Tryz.underlying9,a9:=Tryz.isAgg9,
 z9:=Tryz.sizeOf9,v9:=Tryz.zeroValue9,t28:=Tryz.underlying25,
 a28:=Tryz.isAgg25,z28:=Tryz.sizeOf25,v28:=Tryz.zeroValue25,
 t46:=Tryz.underlying223,a46:=Tryz.isAgg223,z46:=Tryz.sizeOf223,
 v46:=Tryz.zeroValue223,t51:=Tryz.underlying296,a51:=Tryz.isAgg296,
 z51:=Tryz.sizeOf296,v51:=Tryz.zeroValue296,t53:=Tryz.underlying299,
 a53:=Tryz.isAgg299,z53:=Tryz.sizeOf299,v53:=Tryz.zeroValue299,
 t131:=Tryz.underlying133,a131:=Tryz.isAgg133,z131:=Tryz.sizeOf133,
 v131:=Tryz.zeroValue133,t182:=Tryz.underlying397,a182:=Tryz.isAgg397,
 z182:=Tryz.sizeOf397,v182:=Tryz.zeroValue397,t183:=Tryz.underlying398,
 a183:=Tryz.isAgg398,z183:=Tryz.sizeOf398,v183:=Tryz.zeroValue398,
 t218:=Tryz.underlying407,a218:=Tryz.isAgg407,z218:=Tryz.sizeOf407,
 v218:=Tryz.zeroValue407,t222:=Tryz.underlying411,a222:=Tryz.isAgg411,
 z222:=Tryz.sizeOf411,v222:=Tryz.zeroValue411,t228:=Tryz.underlying415,
 a228:=Tryz.isAgg415,z228:=Tryz.sizeOf415,v228:=Tryz.zeroValue415,
 t229:=Tryz.underlying416,a229:=Tryz.isAgg416,z229:=Tryz.sizeOf416,
 v229:=Tryz.zeroValue416}
theorem sort_ok {hp:Nat->Option Blk} {b:Nat} {zs:List Int} (hb:hp b=some (.row (zs.map enc1) 1 false)) (hz:zs.length<4611686018427387904):
  ECall Tryz.prog 234 [.own b] hp ⟨.tup [],[(b,.row ((sortI zs).map enc1) 1 false)],none⟩:=
 sort_ecall sortLays ⟨Tryz.f234,Tryz.func234,rfl,by kernel_rfl⟩ (fun p cap w=>Any.slices_Sort_int_none sortLays p cap w) hb hz
end Go.Lk
namespace Go.Lk.Tb
open Go Go.Proofs Go.RowKit Go.Lk
noncomputable def findS (l:Slots) (p:Int):Int×Bool:=if rightB l=false\/ (placeT l p).2=false then (0,false) else ((at' l (placeT l p).1.toNat).2,true)
theorem find_ok (l:Slots) (p:Int) (hl:l.length<=1000000):ACall Tryz.prog 166 [encT l,.int .i64 p] (.tup [.int .i64 (findS l p).1,.bool (findS l p).2]):=by
 refine acall_of Tryz.func166 2 rfl (by kernel_rfl) (aW ?_);refine callX_pure (right_ok l hl) (w0 ?_)
 refine bcase_intro (fun h1=>?_) (fun h1=>?_)<;>conv=>whnf
 ·refine aA ?_;simp at h1;exact ret_of rfl (by simp [findS,h1];rfl)
 simp at h1;refine aA ?_;refine callX_pure (place_ok l p hl) (w0 ?_)
 refine bcase_intro (fun h3=>?_) (fun h3=>?_)<;>conv=>whnf
 ·refine aA ?_;simp at h3;exact ret_of rfl (by simp [findS,h3];rfl)
 simp at h3;obtain ⟨a,ha,ha2,ha3⟩:=placeT_t h3;rw [ha];refine aA ?_;refine idxK_nat (by simpa using ha2) (w0 ?_);refine getRow_of (x:=encI l[a]) (by simp [ha2]) (aW ?_);exact ret_of rfl (by simp [findS,h1,h3,ha,at_eq ha2];rfl)
def pageF (x:Int×Int):Option Int:=if freeB x=true then none else some x.1
noncomputable def pagesS (l:Slots):List Int:=if rightB l=false then [] else sortI (l.filterMap pageF)
theorem pages_ok (l:Slots) (hl:l.length<=1000000):ACall Tryz.prog 167 [encT l] (encNs (pagesS l)):=by
 refine acall_of Tryz.func167 1 rfl (by kernel_rfl) (aW ?_);refine callX_pure (right_ok l hl) (w0 ?_)
 refine bcase_intro (fun h1=>?_) (fun h1=>?_)<;>conv=>whnf
 ·refine aA ?_;simp at h1;exact ret_of rfl (by simp [pagesS,h1];rfl)
 simp at h1;have hlen:=(rightB_t.1 h1).len
 have hm:(l.map encI).length=l.length:=List.length_map ..
 refine aA ?_;refine aloop (ι:=Nat) (fun k=>[(3,.own 23),(10,.d (encIs l)),(11,.d (.int .i64 (l.map encI).length)),(12,.d (.int .i64 k))]) (fun k=>[(23,.row (((l.take k).filterMap pageF).map enc1) 1 false)])
  (fun k=>k<=l.length) (fun k=>l.length-k) 0 (Nat.zero_le _) (le1 (.row 3 23 1) ⟨rfl,rfl⟩ (le_of_cov ⟨rfl,rfl,rfl,rfl,trivial⟩ ⟨rfl,trivial⟩ ⟨rfl,rfl,rfl,rfl⟩)) ?_
 intro k hk
 conv=>whnf
 refine bcase_p (fun h=>?_) (fun h=>?_)<;>conv=>whnf
 ·have hk2:k<l.length:=by omega
  refine idxK_nat (by omega) (w0 ?_);refine getRow_of (x:=encI l[k]) (by simp [hk2]) (aW ?_);refine callX_pure (free_ok l[k]) (w0 ?_)
  refine bcase_intro (fun h2=>?_) (fun h2=>?_)<;>conv=>whnf
  ·refine aA ?_;simp at h2;have hl2:=List.length_filterMap_le pageF (l.take k);refine roomK_le 100 100 (by show List.length _+1<=100;simp at hl2⊢;omega) (by decide) (by decide) (by decide) (aW ?_);exact ⟨k+1,by omega,by omega,le0 (le_of_cov ⟨rfl,rfl,rfl,rfl,trivial⟩ ⟨by rw [take_snoc hk2,List.filterMap_append,List.map_append];simp [pageF,h2];rfl,trivial⟩ ⟨rfl,rfl,rfl,rfl⟩)⟩
  ·refine aA ?_;simp at h2;exact ⟨k+1,by omega,by omega,le0 (le_of_cov ⟨rfl,rfl,rfl,rfl,trivial⟩ ⟨by rw [take_snoc hk2,List.filterMap_append,List.map_append];simp [pageF,h2];rfl,trivial⟩ ⟨rfl,rfl,rfl,rfl⟩)⟩
 have hl2:=List.length_filterMap_le pageF (l.take k)
 have hk3:k=l.length:=by omega
 refine callX_heap (sort_ok (zs:=(l.take k).filterMap pageF) rfl (by simp at hl2;omega)) (w0 ?_);refine ret_of rfl ?_;rw [hk3,List.take_length,oneD1];show D.lst _=encNs _;simp [pagesS,h1,encNs]
end Go.Lk.Tb
namespace Go.Lk.Tb
open Go Go.RowKit Go.Lk
theorem at_set {l:Slots} {i j:Nat} {x:Int×Int} (hi:i<l.length):at' (l.set i x) j=if j=i then x else at' l j:=by
 unfold at';rw [List.getElem?_set]
 by_cases h:i=j
 ·subst h;simp [hi]
 ·rw [if_neg h,if_neg (fun e=>h e.symm)]
theorem homeN_lt {p:Int} (h:0<=p):homeN p<16:=by simp [homeN];omega
theorem slot_page {x:Int×Int} (h:SlotP x) (hf:freeB x=false):1<=x.1:=by
 rcases h with h|h
 ·rw [hf] at h;cases h
 ·exact (fits_out.1 h).1
theorem fits_nonfree {p f:Int} (h:fitsB p f=true):freeB (p,f)=false:=by
 have:=fits_out.1 h
 simp [freeB];omega
def pos (z j:Nat):Nat:=(j+15-z)%16
def CutAt (l:Slots) (z:Nat):Prop:=z<16/\ ∀ i,i<16->freeB (at' l i)=false->pos z (homeN (at' l i).1) <=pos z i
def Cut (l:Slots):Prop:=∃ z,CutAt l z
def Distinct (l:Slots):Prop:=∀ i j,i<16->j<16->freeB (at' l i)=false->freeB (at' l j)=false->(at' l i).1=(at' l j).1->i=j
theorem RT.distinct {l:Slots} (h:RT l):Distinct l:=by
 intro i j hi hj fi fj e
 rcases Nat.lt_trichotomy i j with h1|h1|h1
 ·rcases h.places j hj with h2|⟨h2,_⟩
  ·rw [fj] at h2;cases h2
  ·exact absurd e (h2 i h1)
 ·exact h1
 ·rcases h.places i hi with h2|⟨h2,_⟩
  ·rw [fi] at h2;cases h2
  ·exact absurd e.symm (h2 j h1)
theorem RT.path {l:Slots} (h:RT l) {i:Nat} (hi:i<16) (fi:freeB (at' l i)=false) {d:Nat} (hd:d<wayN (homeN (at' l i).1) i):freeB (at' l ((homeN (at' l i).1+d)%16))=false:=by
 rcases h.places i hi with h2|⟨_,h2⟩
 ·rw [fi] at h2;cases h2
 ·exact h2 d hd
theorem RT.mk' {l:Slots} (hl:l.length=16) (hs:∀ i,i<16->SlotP (at' l i)) (hd:Distinct l) (hp:∀ i,i<16->freeB (at' l i)=false->∀ d,d<wayN (homeN (at' l i).1) i->freeB (at' l ((homeN (at' l i).1+d)%16))=false):RT l:=by
 refine ⟨hl,hs,fun i hi=>?_⟩
 cases fi:freeB (at' l i) with
 |true=>exact .inl fi
 |false=>
  refine .inr ⟨fun j hj e=>?_,hp i hi fi⟩
  have fj:freeB (at' l j)=false:=by
   cases fj:freeB (at' l j) with
   |false=>rfl
   |true=>
    have h1:=slot_page (hs i hi) fi;have h2:=free_out.1 fj;omega
  have:=hd j i (by omega) hi fj fi e;omega
theorem pos_path {z h i k:Nat} (hz:z<16) (hh:h<16) (hi:i<16) (hk:k<16) (hle:pos z h<=pos z i):(∃ d,d<wayN h i/\ (h+d)%16=k)↔pos z h<=pos z k/\pos z k<pos z i:=by
 simp only [pos,wayN] at*
 constructor
 ·rintro ⟨d,h1,h2⟩;omega
 ·intro h1;exact ⟨(k+16-h)%16,by omega,by omega⟩
theorem pos_lt {z j:Nat}:pos z j<16:=Nat.mod_lt _ (by decide)
theorem pos_inj {z i j:Nat} (hz:z<16) (hi:i<16) (hj:j<16) (h:pos z i=pos z j):i=j:=by simp only [pos] at h;omega
theorem free_cut {l:Slots} (h:RT l) {z:Nat} (hz:z<16) (fz:freeB (at' l z)=true):CutAt l z:=by
 refine ⟨hz,fun i hi fi=>?_⟩;have hh:=homeN_lt (p:=(at' l i).1) (by have:=slot_page (h.slots i hi) fi;omega)
 by_cases hle:pos z (homeN (at' l i).1) <=pos z i
 ·exact hle
 ·exfalso
  have hne:i≠z:=fun e=>by subst e;rw [fi] at fz;cases fz
  have:=h.path hi fi (d:=(z+16-homeN (at' l i).1)%16) (by simp only [pos,wayN] at*;omega);rw [show (homeN (at' l i).1+(z+16-homeN (at' l i).1)%16)%16=z by omega,fz] at this
  cases this
theorem RT.of_cut {l:Slots} {z:Nat} (hl:l.length=16) (hs:∀ i,i<16->SlotP (at' l i)) (hd:Distinct l) (hc:CutAt l z) (hp:∀ i k,i<16->k<16->freeB (at' l i)=false->pos z (homeN (at' l i).1) <=pos z k->pos z k<pos z i->freeB (at' l k)=false):RT l:=by
 refine .mk' hl hs hd fun i hi fi d hdd=>?_
 have hh:=homeN_lt (p:=(at' l i).1) (by have:=slot_page (hs i hi) fi;omega);obtain ⟨h1,h2⟩:=(pos_path hc.1 hh hi (Nat.mod_lt _ (by decide)) (hc.2 i hi fi)).1 ⟨d,hdd,rfl⟩;exact hp i _ hi (Nat.mod_lt _ (by decide)) fi h1 h2
theorem RT.cut_path {l:Slots} {z i k:Nat} (h:RT l) (hc:CutAt l z) (hi:i<16) (hk:k<16) (fi:freeB (at' l i)=false) (h1:pos z (homeN (at' l i).1) <=pos z k) (h2:pos z k<pos z i):freeB (at' l k)=false:=by
 have hh:=homeN_lt (p:=(at' l i).1) (by have:=slot_page (h.slots i hi) fi;omega);obtain ⟨d,h3,h4⟩:=(pos_path hc.1 hh hi hk (hc.2 i hi fi)).2 ⟨h1,h2⟩;have:=h.path hi fi h3;rw [h4] at this;exact this
theorem ffree_out {l:Slots} {h:Nat}:∀ {n d i:Nat},ffree l h d n=some i->∃ e,e<n/\i=(h+(d+e))%16/\freeB (at' l i)=true/\ ∀ e',e'<e->freeB (at' l ((h+(d+e'))%16))=false
 |0,d,i,hf=>by cases hf
 |n+1,d,i,hf=>by
  simp only [ffree] at hf
  by_cases e:freeB (at' l ((h+d)%16))=true
  ·rw [if_pos e] at hf
   cases hf
   exact ⟨0,by omega,rfl,e,fun e' h=>by omega⟩
  ·rw [if_neg e] at hf;obtain ⟨e2,h1,h2,h3,h4⟩:=ffree_out hf;refine ⟨e2+1,by omega,by rw [h2];congr 1;omega,h3,fun e' h5=>?_⟩
   cases e' with
   |zero=>simpa using e
   |succ e'=>rw [show h+(d+(e'+1))=h+(d+1+e') by omega];exact h4 e' (by omega)
theorem ffree_none {l:Slots} {h:Nat}:∀ {n d:Nat},ffree l h d n=none->∀ e,e<n->freeB (at' l ((h+(d+e))%16))=false
 |0,d,_,e,he=>by omega
 |n+1,d,hf,e,he=>by
  simp only [ffree] at hf
  by_cases e1:freeB (at' l ((h+d)%16))=true
  ·rw [if_pos e1] at hf;cases hf
  ·rw [if_neg e1] at hf
   cases e with
   |zero=>simpa using e1
   |succ e=>rw [show h+(d+(e+1))=h+(d+1+e) by omega];exact ffree_none hf e (by omega)
theorem put_rt {l:Slots} {p f:Int} {i:Nat} (h:RT l) (hf:fitsB p f=true) (hn:∀ j,j<16->freeB (at' l j)=false->(at' l j).1≠p) (hi:ffree l (homeN p) 0 16=some i):
  i<16/\freeB (at' l i)=true/\RT (l.set i (p,f)) /\Cut (l.set i (p,f)):=by
 obtain ⟨e,h1,h2,h3,h4⟩:=ffree_out hi;have hp:=fits_out.1 hf;have hh:=homeN_lt (p:=p) (by omega)
 have hi16:i<16:=by omega
 have hil:i<l.length:=by rw [h.len];exact hi16
 have hc:=free_cut h hi16 h3;have nf:=fits_nonfree hf
 have hat:∀ j,at' (l.set i (p,f)) j=if j=i then (p,f) else at' l j:=fun j=>at_set hil
 have hcut:CutAt (l.set i (p,f)) i:=by
  refine ⟨hi16,fun j hj fj=>?_⟩;rw [hat] at fj⊢
  by_cases e1:j=i
  ·subst e1;rw [if_pos rfl];simp only [pos];omega
  ·rw [if_neg e1] at fj⊢;exact hc.2 j hj fj
 refine ⟨hi16,h3,?_,i,hcut⟩;refine .of_cut (by rw [List.length_set];exact h.len) (fun j hj=>?_) ?_ hcut ?_
 ·rw [hat]
  by_cases e1:j=i
  ·rw [if_pos e1];exact .inr hf
  ·rw [if_neg e1];exact h.slots j hj
 ·intro a b ha hb fa fb e1;rw [hat] at fa fb;rw [hat,hat] at e1
  by_cases ea:a=i
  ·by_cases eb:b=i
   ·rw [ea,eb]
   ·rw [if_pos ea,if_neg eb] at e1;rw [if_neg eb] at fb;exact absurd e1.symm (hn b hb fb)
  ·by_cases eb:b=i
   ·rw [if_neg ea,if_pos eb] at e1;rw [if_neg ea] at fa;exact absurd e1 (hn a ha fa)
   ·rw [if_neg ea] at fa;rw [if_neg eb] at fb;rw [if_neg ea,if_neg eb] at e1;exact h.distinct a b ha hb fa fb e1
 ·intro j k hj hk fj h5 h6;rw [hat] at fj h5;rw [hat]
  by_cases ek:k=i
  ·rw [if_pos ek];exact nf
  ·rw [if_neg ek]
   by_cases ej:j=i
   ·rw [if_pos ej] at h5;subst ej;have:=h4 ((k+16-homeN p)%16) (by simp only [pos] at*;omega);rw [show (homeN p+(0+(k+16-homeN p)%16))%16=k by omega] at this;exact this
   ·rw [if_neg ej] at fj h5;exact h.cut_path hc hj hk fj h5 h6
def cntS (l:Slots):Nat:=l.countP fun x=>!freeB x
theorem cnt_set {l:Slots} {i:Nat} {x:Int×Int} (h:i<l.length):cntS (l.set i x)+(if freeB (at' l i)=true then 0 else 1)=cntS l+(if freeB x=true then 0 else 1):=by
 have hle:(if (!freeB l[i])=true then 1 else 0) <=cntS l:=by
  cases hf:freeB l[i] with
  |true=>simp
  |false=>
   have:0<cntS l:=List.countP_pos_iff.2 ⟨l[i],List.getElem_mem h,by simp [hf]⟩
   simp;omega
 unfold cntS at*
 rw [List.countP_set h,at_eq h];generalize l.countP (fun x=>!freeB x)=c at hle⊢
 cases hf:freeB l[i]<;>cases hx:freeB x<;>rw [hf] at hle<;>simp only [Bool.not_true,Bool.not_false,if_true,Bool.false_eq_true,if_false] at hle⊢<;>omega
def SameS (l0 l:Slots):Prop:=∀ x,freeB x=false->((∃ j,j<16/\at' l j=x)↔∃ j,j<16/\at' l0 j=x)
structure DInv (z:Nat) (l0 l:Slots) (hole i:Nat):Prop where
 len:l.length=16
 slots:∀ j,j<16->SlotP (at' l j)
 hole16:hole<16
 i16:i<16
 free:freeB (at' l hole)=true
 dist:Distinct l
 cut:CutAt l z
 ph:pos z hole<=pos z i
 paths:∀ j k,j<16->k<16->freeB (at' l j)=false->pos z (homeN (at' l j).1) <=pos z k->pos z k<pos z j->freeB (at' l k)=true->k=hole/\pos z i<pos z j
 same:SameS l0 l
 cnt:cntS l=cntS l0
structure Done (l0 l:Slots):Prop where
 rt:RT l
 free:∃ j,j<16/\freeB (at' l j)=true
 same:SameS l0 l
 cnt:cntS l=cntS l0
theorem DInv.done {z:Nat} {l0 l:Slots} {hole i:Nat} (h:DInv z l0 l hole i) (hp:∀ j k,j<16->k<16->freeB (at' l j)=false->pos z (homeN (at' l j).1) <=pos z k->pos z k<pos z j->freeB (at' l k)=false):Done l0 l:=
 ⟨.of_cut h.len h.slots h.dist h.cut hp,⟨hole,h.hole16,h.free⟩,h.same,h.cnt⟩
theorem delG_still {l:Slots} (h:RT l) {hole:Nat} (h16:hole<16) (hf:freeB (at' l hole)=true):∀ (n i:Nat),delG l hole i n=l
 |0,i=>rfl
 |n+1,i=>by
  rw [delG]
  by_cases f:freeB (at' l ((i+1)%16))=true
  ·rw [if_pos f]
  ·have f':freeB (at' l ((i+1)%16))=false:=by simpa using f
   have hi:(i+1)%16<16:=Nat.mod_lt _ (by decide);have hh:=homeN_lt (p:=(at' l ((i+1)%16)).1) (by have:=slot_page (h.slots _ hi) f';omega);rw [if_neg f,if_neg,delG_still h h16 hf n];intro hw;have:=h.path hi f' hw;rw [show (homeN (at' l ((i+1)%16)).1+wayN (homeN (at' l ((i+1)%16)).1) hole)%16=hole by simp only [wayN];omega,hf] at this
   cases this
theorem delG_done {z:Nat} {l0:Slots}:∀ (n:Nat) {l:Slots} {hole i:Nat},DInv z l0 l hole i->15<=pos z i+n->Done l0 (delG l hole i n):=by
 intro n
 induction n with
 |zero=>
  intro l hole i h hn
  have h15:pos z i=15:=by have:=pos_lt (z:=z) (j:=i);omega
  exact h.done fun j k hj hk fj h1 h2=>by
   cases fk:freeB (at' l k) with
   |false=>rfl
   |true=>
    have:=(h.paths j k hj hk fj h1 h2 fk).2;have:=pos_lt (z:=z) (j:=j);omega
 |succ n ih=>
  intro l hole i h hn;have hz:=h.cut.1;have hi:=h.i16
  by_cases h15:pos z i=15
  ·have hd:=h.done fun j k hj hk fj h1 h2=>by
    cases fk:freeB (at' l k) with
    |false=>rfl
    |true=>
     have:=(h.paths j k hj hk fj h1 h2 fk).2;have:=pos_lt (z:=z) (j:=j);omega
   rw [delG_still hd.rt h.hole16 h.free];exact hd
  ·rw [delG];have hi':(i+1)%16<16:=Nat.mod_lt _ (by decide)
   have hpi:pos z ((i+1)%16)=pos z i+1:=by simp only [pos] at*;omega
   generalize (i+1)%16=i' at hi' hpi
   have hne:hole≠i':=fun e=>by have:=h.ph;rw [e,hpi] at this;omega
   by_cases f:freeB (at' l i')=true
   ·rw [if_pos f]
    refine h.done fun j k hj hk fj h1 h2=>?_
    cases fk:freeB (at' l k) with
    |false=>rfl
    |true=>
     obtain ⟨e1,e2⟩:=h.paths j k hj hk fj h1 h2 fk;exfalso;subst e1
     have hji:j≠i':=fun e=>by subst e;rw [fj] at f;cases f
     have hpj:pos z j≠pos z i':=fun e=>hji (pos_inj hz hj hi' e)
     have:=(h.paths j i' hj hi' fj (by have:=h.ph;omega) (by omega) f).1;exact hne this.symm
   ·have f':freeB (at' l i')=false:=by simpa using f
    have hpg:=slot_page (h.slots i' hi') f';have hh:=homeN_lt (p:=(at' l i').1) (by omega);have hci:=h.cut.2 i' hi' f'
    have hway:wayN (homeN (at' l i').1) hole<wayN (homeN (at' l i').1) i'↔pos z (homeN (at' l i').1) <=pos z hole:=by
     have h1:=h.ph;have h2:=h.hole16
     simp only [pos,wayN] at*
     omega
    rw [if_neg f]
    by_cases hw:wayN (homeN (at' l i').1) hole<wayN (homeN (at' l i').1) i'
    ·rw [if_pos hw];have hw':=hway.1 hw
     have hhl:hole<l.length:=by rw [h.len];exact h.hole16
     have hil:i'<(l.set hole (at' l i')).length:=by rw [List.length_set,h.len];exact hi'
     have hat:∀ j,at' ((l.set hole (at' l i')).set i' (0,0)) j=if j=i' then (0,0) else if j=hole then at' l i' else at' l j:=fun j=>by
      rw [at_set hil]
      by_cases e:j=i'
      ·rw [if_pos e,if_pos e]
      ·rw [if_neg e,if_neg e,at_set hhl]
     refine ih ⟨by simp [h.len],fun j hj=>?_,hi',hi',by rw [hat,if_pos rfl];rfl,?_,⟨hz,fun j hj fj=>?_⟩,Nat.le_refl _,?_,?_,?_⟩ (by omega)
     ·rw [hat]
      by_cases e:j=i'
      ·rw [if_pos e];exact slot_zero
      ·rw [if_neg e]
       by_cases e2:j=hole
       ·rw [if_pos e2];exact h.slots i' hi'
       ·rw [if_neg e2];exact h.slots j hj
     ·intro a b ha hb fa fb e;rw [hat] at fa fb;rw [hat,hat] at e
      by_cases ea:a=i'
      ·rw [if_pos ea] at fa;cases fa
      ·by_cases eb:b=i'
       ·rw [if_pos eb] at fb;cases fb
       ·rw [if_neg ea] at fa;rw [if_neg eb] at fb;rw [if_neg ea,if_neg eb] at e
        by_cases ea2:a=hole
        ·by_cases eb2:b=hole
         ·rw [ea2,eb2]
         ·rw [if_pos ea2,if_neg eb2] at e;rw [if_neg eb2] at fb
          exact absurd (h.dist i' b hi' hb f' fb e).symm eb
        ·by_cases eb2:b=hole
         ·rw [if_neg ea2,if_pos eb2] at e;rw [if_neg ea2] at fa
          exact absurd (h.dist a i' ha hi' fa f' e) ea
         ·rw [if_neg ea2] at fa;rw [if_neg eb2] at fb;rw [if_neg ea2,if_neg eb2] at e
          exact h.dist a b ha hb fa fb e
     ·rw [hat] at fj⊢
      by_cases e:j=i'
      ·rw [if_pos e] at fj;cases fj
      ·rw [if_neg e] at fj⊢
       by_cases e2:j=hole
       ·rw [if_pos e2];rw [e2];exact hw'
       ·rw [if_neg e2] at fj⊢;exact h.cut.2 j hj fj
     ·intro j k hj hk fj h1 h2 fk;rw [hat] at fj h1 fk
      by_cases e:j=i'
      ·rw [if_pos e] at fj;cases fj
      ·rw [if_neg e] at fj h1
       by_cases ek:k=i'
       ·refine ⟨ek,?_⟩
        rw [ek] at h2;exact h2
       ·rw [if_neg ek] at fk
        by_cases ek2:k=hole
        ·rw [if_pos ek2,f'] at fk;cases fk
        ·rw [if_neg ek2] at fk;exfalso
         by_cases e2:j=hole
         ·rw [if_pos e2] at h1;have:=(h.paths i' k hi' hk f' h1 (by have:=h.ph;rw [e2] at h2;omega) fk).1;exact ek2 this
         ·rw [if_neg e2] at fj h1;exact ek2 (h.paths j k hj hk fj h1 h2 fk).1
     ·intro x hx;rw [<-h.same x hx]
      constructor
      ·rintro ⟨j,hj,rfl⟩;rw [hat] at hx⊢
       by_cases e:j=i'
       ·rw [if_pos e] at hx;cases hx
       ·rw [if_neg e] at hx⊢
        by_cases e2:j=hole
        ·rw [if_pos e2];exact ⟨i',hi',rfl⟩
        ·rw [if_neg e2];exact ⟨j,hj,rfl⟩
      ·rintro ⟨j,hj,rfl⟩
       by_cases e:j=i'
       ·exact ⟨hole,h.hole16,by rw [hat,if_neg hne,if_pos rfl,e]⟩
       ·have e2:j≠hole:=fun e2=>by rw [e2,h.free] at hx;cases hx
        exact ⟨j,hj,by rw [hat,if_neg e,if_neg e2]⟩
     ·have c1:=cnt_set (x:=at' l i') hhl;have c2:=cnt_set (x:=(0,0)) hil;rw [at_set hhl,if_neg hne.symm] at c2;rw [h.free,f'] at c1;rw [f',show freeB (0,0)=true from rfl] at c2;simp at c1 c2;have:=h.cnt;omega
    ·rw [if_neg hw]
     have hw':¬pos z (homeN (at' l i').1) <=pos z hole:=fun e=>hw (hway.2 e)
     refine ih ⟨h.len,h.slots,h.hole16,hi',h.free,h.dist,h.cut,by have:=h.ph;omega,fun j k hj hk fj h1 h2 fk=>?_,h.same,h.cnt⟩ (by omega);obtain ⟨e1,e2⟩:=h.paths j k hj hk fj h1 h2 fk;refine ⟨e1,?_⟩
     have hji:j≠i':=fun e=>by subst e;rw [e1] at h1;exact hw' h1
     have hpj:pos z j≠pos z i':=fun e=>hji (pos_inj hz hj hi' e)
     omega
theorem del_rt {l:Slots} {a z:Nat} (h:RT l) (hc:CutAt l z) (ha:a<16) (fa:freeB (at' l a)=false):Done (l.set a (0,0)) (delG (l.set a (0,0)) a a 15):=by
 have hal:a<l.length:=by rw [h.len];exact ha
 have hat:∀ j,at' (l.set a (0,0)) j=if j=a then (0,0) else at' l j:=fun j=>at_set hal
 refine delG_done (z:=z) 15 ⟨by simp [h.len],fun j hj=>?_,ha,ha,by rw [hat,if_pos rfl];rfl,?_,⟨hc.1,fun j hj fj=>?_⟩,Nat.le_refl _,?_,fun x hx=>Iff.rfl,rfl⟩ (by omega)
 ·rw [hat]
  by_cases e:j=a
  ·rw [if_pos e];exact slot_zero
  ·rw [if_neg e];exact h.slots j hj
 ·intro i j hi hj fi fj e;rw [hat] at fi fj;rw [hat,hat] at e
  by_cases ei:i=a
  ·rw [if_pos ei] at fi;cases fi
  ·by_cases ej:j=a
   ·rw [if_pos ej] at fj;cases fj
   ·rw [if_neg ei] at fi;rw [if_neg ej] at fj;rw [if_neg ei,if_neg ej] at e
    exact h.distinct i j hi hj fi fj e
 ·rw [hat] at fj⊢
  by_cases e:j=a
  ·rw [if_pos e] at fj;cases fj
  ·rw [if_neg e] at fj⊢;exact hc.2 j hj fj
 ·intro j k hj hk fj h1 h2 fk;rw [hat] at fj h1 fk
  by_cases e:j=a
  ·rw [if_pos e] at fj;cases fj
  ·rw [if_neg e] at fj h1
   by_cases ek:k=a
   ·exact ⟨ek,by rw [ek] at h2;exact h2⟩
   ·rw [if_neg ek] at fk;have:=h.cut_path hc hj hk fj h1 h2
    rw [fk] at this;cases this
theorem placeG_mem {l:Slots} {n:Int}:∀ {k:Nat},0<=placeG l n k↔∃ j,j<l.length/\ (at' l j).1=n:=by
 have key:∀ {k:Nat},0<=placeG l n k↔∃ x∈l,x.1=n:=by
  induction l with
  |nil=>intro k;exact ⟨fun h=>absurd h (show ¬(0<= (-1:Int)) by decide),fun ⟨x,h,_⟩=>by cases h⟩
  |cons p r ih=>
   intro k;simp only [placeG]
   by_cases h:p.1=n
   ·rw [if_pos h];exact ⟨fun _=>⟨p,List.mem_cons_self ..,h⟩,fun _=>by omega⟩
   ·rw [if_neg h,ih]
    constructor
    ·rintro ⟨x,h1,h2⟩;exact ⟨x,List.mem_cons_of_mem _ h1,h2⟩
    ·rintro ⟨x,h1,h2⟩
     rcases List.mem_cons.1 h1 with rfl|h1
     ·exact absurd h2 h
     ·exact ⟨x,h1,h2⟩
 intro k;rw [key]
 constructor
 ·rintro ⟨x,hx,e⟩;obtain ⟨j,hj,rfl⟩:=List.mem_iff_getElem.1 hx;exact ⟨j,hj,by rw [at_eq hj];exact e⟩
 ·rintro ⟨j,hj,e⟩;exact ⟨l[j],List.getElem_mem hj,by rw [<-at_eq hj];exact e⟩
theorem placeT_iff {l:Slots} {p:Int} (hp:1<=p):(placeT l p).2=true↔∃ j,j<l.length/\ (at' l j).1=p:=by
 rw [<-placeG_mem (k:=0)];unfold placeT
 by_cases h:placeG l p 0<0
 ·rw [if_pos (.inr h)];simp;omega
 ·rw [if_neg (by omega)];simp;omega
theorem placeT_no {l:Slots} {p:Int} (h:∀ j,j<l.length->(at' l j).1≠p):(placeT l p).2=false:=by
 cases e:(placeT l p).2 with
 |false=>rfl
 |true=>
  obtain ⟨i,_,hi,e2⟩:=placeT_t e;exact absurd (by rw [at_eq hi];exact e2) (h i hi)
theorem page_nonfree {x:Int×Int} (h:1<=x.1):freeB x=false:=by simp [freeB];omega
theorem place_at {l:Slots} (h:RT l) {p:Int} {j:Nat} (hp:1<=p) (hj:j<16) (e:(at' l j).1=p):(placeT l p).2=true/\ (placeT l p).1=j:=by
 have h2:=(placeT_iff hp).2 ⟨j,by rw [h.len];exact hj,e⟩;obtain ⟨i,e1,hi,e2⟩:=placeT_t h2
 have hi16:i<16:=by rw [h.len] at hi;exact hi
 rw [<-at_eq hi] at e2;have:=h.distinct i j hi16 hj (page_nonfree (by omega)) (page_nonfree (by omega)) (by rw [e2,e]);exact ⟨h2,by rw [e1,this]⟩
theorem find_yes {l:Slots} (h:RT l) {p f:Int} {j:Nat} (hp:1<=p) (hj:j<16) (e:at' l j=(p,f)):findS l p=(f,true):=by
 obtain ⟨h1,h2⟩:=place_at h hp hj (by rw [e]);simp [findS,rightB_t.2 h,h1,h2,e]
theorem cnt_full {l:Slots} (h:l.length=16):cntS l=16↔∀ j,j<16->freeB (at' l j)=false:=by
 rw [<-h];unfold cntS;rw [List.countP_eq_length]
 constructor
 ·intro h1 j hj;have:=h1 l[j] (List.getElem_mem hj)
  rw [at_eq hj];simpa using this
 ·intro h1 x hx;obtain ⟨j,hj,rfl⟩:=List.mem_iff_getElem.1 hx
  rw [<-at_eq hj,h1 j hj];rfl
theorem ffree_full {l:Slots} {p:Int} (hl:l.length=16) (hp:0<=p):ffree l (homeN p) 0 16=none↔cntS l=16:=by
 rw [cnt_full hl];have hh:=homeN_lt hp
 constructor
 ·intro h j hj;have:=ffree_none h ((j+16-homeN p)%16) (by omega);rw [show (homeN p+(0+(j+16-homeN p)%16))%16=j by omega] at this;exact this
 ·intro h
  cases e:ffree l (homeN p) 0 16 with
  |none=>rfl
  |some i=>
   obtain ⟨d,h1,h2,h3,h4⟩:=ffree_out e
   rw [h i (by omega)] at h3;cases h3
theorem new_rt:RT (List.replicate 16 (0,0)):=by
 have hat:∀ j,at' (List.replicate 16 (0,0)) j=(0,0):=fun j=>by
  unfold at';rw [List.getElem?_replicate]
  split<;>rfl
 exact ⟨by simp,fun i _=>by rw [hat];exact slot_zero,fun i _=>.inl (by rw [hat];rfl)⟩
theorem pages_len {l:Slots} (h:RT l):(pagesS l).length=cntS l:=by
 rw [pagesS,if_neg (by simp [rightB_t.2 h]),sortI,List.length_mergeSort]
 have:∀ l:Slots,(l.filterMap pageF).length=cntS l:=by
  intro l
  induction l with
  |nil=>rfl
  |cons x r ih=>
   rw [List.filterMap_cons,cntS,List.countP_cons]
   cases e:freeB x with
   |true=>simp only [pageF,e,if_true];rw [ih];simp [cntS]
   |false=>simp only [pageF,e];simp [ih,cntS]
 exact this l
theorem put_val {l:Slots} {p f:Int} {i:Nat} (h:RT l) (hf:fitsB p f=true) (hpl:(placeT l p).2=false) (hff:ffree l (homeN p) 0 16=some i):putS l p f=(l.set i (p,f),0):=by
 rw [putS,if_neg (by simp [rightB_t.2 h,hf]),if_neg (by simp [hpl]),hff]
def MemS (l:Slots) (x:Int×Int):Prop:=∃ j,j<16/\at' l j=x
theorem put_gen {l:Slots} {p f:Int} (h:RT l) (hf:fitsB p f=true) (hn:∀ j,j<16->(at' l j).1≠p) (hc:cntS l<16):
  ∃ l' i,i<16/\freeB (at' l i)=true/\l'=l.set i (p,f) /\putS l p f=(l',0) /\RT l'/\Cut l'/\cntS l'=cntS l+1/\ ∀ x,freeB x=false->(MemS l' x↔x=(p,f) \/MemS l x):=by
 have hp:=fits_out.1 hf;have hpl:=placeT_no (p:=p) (fun j hj=>hn j (by rw [h.len] at hj;exact hj))
 cases hff:ffree l (homeN p) 0 16 with
 |none=>have:=(ffree_full h.len (by omega)).1 hff;omega
 |some i=>
  obtain ⟨hi16,fi,hrt,hcut⟩:=put_rt h hf (fun j hj _=>hn j hj) hff
  have hil:i<l.length:=by rw [h.len];exact hi16
  have hat:∀ j,at' (l.set i (p,f)) j=if j=i then (p,f) else at' l j:=fun j=>at_set hil
  refine ⟨_,i,hi16,fi,rfl,put_val h hf hpl hff,hrt,hcut,?_,fun x hx=>?_⟩
  ·have c:=cnt_set (x:=(p,f)) hil;rw [fi,fits_nonfree hf] at c;simp at c;exact c
  ·constructor
   ·rintro ⟨j,hj,e⟩;rw [hat] at e
    by_cases ej:j=i
    ·rw [if_pos ej] at e;exact .inl e.symm
    ·rw [if_neg ej] at e;exact .inr ⟨j,hj,e⟩
   ·rintro (e|⟨j,hj,e⟩)
    ·exact ⟨i,hi16,by rw [hat,if_pos rfl,e]⟩
    ·refine ⟨j,hj,?_⟩;rw [hat,if_neg (fun e'=>by rw [e'] at e;rw [e,hx] at fi;cases fi),e]
theorem del_gen {l:Slots} {p f:Int} (h:RT l) (hc:Cut l) (hp:1<=p) (hm:MemS l (p,f)):
  ∃ l',delS l p=(l',0) /\RT l'/\Cut l'/\cntS l'+1=cntS l/\ ∀ x,freeB x=false->(MemS l' x↔x.1≠p/\MemS l x):=by
 obtain ⟨a,ha,e4⟩:=hm;obtain ⟨hpl,hpa⟩:=place_at h hp ha (by rw [e4])
 have base:delS l p=(delG (l.set a (0,0)) a a 15,0):=by
  rw [delS,if_neg (by simp [rightB_t.2 h]),if_neg (by simp [hpl]),hpa];rfl
 obtain ⟨z,hz⟩:=hc
 have fa:freeB (at' l a)=false:=by rw [e4];exact page_nonfree hp
 have hd:=del_rt h hz ha fa
 have hal:a<l.length:=by rw [h.len];exact ha
 have hat:∀ j,at' (l.set a (0,0)) j=if j=a then (0,0) else at' l j:=fun j=>at_set hal
 have c:=cnt_set (x:=(0,0)) hal;rw [fa,show freeB (0,0)=true from rfl] at c;simp at c;obtain ⟨z',hz',fz'⟩:=hd.free;refine ⟨_,base,hd.rt,⟨z',free_cut hd.rt hz' fz'⟩,by have:=hd.cnt;omega,fun x hx=>?_⟩;unfold MemS;rw [hd.same x hx]
 constructor
 ·rintro ⟨j,hj,e⟩;rw [hat] at e
  by_cases ej:j=a
  ·rw [if_pos ej] at e;subst e;cases hx
  ·rw [if_neg ej] at e;refine ⟨fun e5=>ej (h.distinct j a hj ha (by rw [e];exact hx) fa (by rw [e,e4,e5])),j,hj,e⟩
 ·rintro ⟨e5,j,hj,e⟩;exact ⟨j,hj,by rw [hat,if_neg (fun ej=>by rw [ej,e4] at e;subst e;exact e5 rfl)];exact e⟩
end Go.Lk.Tb
namespace Go.Lk
open Go Go.Proofs Go.RowKit Go.Lk
structure FX where
 fr:List Fr
 hand:Int
 tb:List (Int×Int)
 pg:List Pg
 dt:List (Int×Int)
def FX.cells (f:FX):List D:=[.lst (f.fr.map encF),.int .i64 f.hand,encIs f.tb,.lst (f.pg.map encP),encIs f.dt]
def encFS (f:FX):D:=.agg f.cells
def FX.box (f:FX):List AV:=[.d (.lst (f.fr.map encF)),.d (.int .i64 f.hand),.d (encIs f.tb),.d (.lst (f.pg.map encP)),.d (encIs f.dt)]
def noPg:Pg:=(0,0,.empty)
def FPlace (f:FX) (i:Nat):Prop:=∀ (h:i<f.fr.length) (h2:i<f.pg.length),(f.fr[i].1=0/\f.fr[i].2.1=0/\f.pg[i]=noPg) \/ (f.fr[i].1≠0/\f.fr[i].1=f.pg[i].1/\pgR f.pg[i]=true/\Tb.findS f.tb f.pg[i].1=((i:Int),true))
def nFr (l:List Fr):Nat:=l.countP fun x=>!decide (x.1=0)
structure FRight (f:FX):Prop where
 ck:CRight f.fr f.hand
 tb:Tb.RT f.tb
 dt:Dt.rightB f.dt=true
 len:f.pg.length=f.fr.length
 place:∀ i,i<f.fr.length->FPlace f i
 cnt:Tb.cntS f.tb=nFr f.fr
 dirty:∀ i (h:i<f.dt.length),(Tb.findS f.tb f.dt[i].1).2=true
open Classical in
noncomputable def frightB (f:FX):Bool:=decide (FRight f)
theorem frightB_t {f:FX}:frightB f=true↔FRight f:=by simp [frightB]
theorem frightB_f {f:FX}:frightB f=false↔¬FRight f:=by simp [frightB]
theorem notF {f:FX} (h:¬FRight f):D.bool false=D.bool (frightB f):=congrArg D.bool (frightB_f.2 h).symm
theorem nFr_take {l:List Fr} {k:Nat} (h:k<l.length):nFr (l.take (k+1))=nFr (l.take k)+(if l[k].1=0 then 0 else 1):=by
 unfold nFr;rw [take_snoc h,List.countP_append,List.countP_cons,List.countP_nil]
 by_cases e:l[k].1=0<;>simp [e]
theorem fright_ok (f:FX) (h1:f.tb.length<=1000000) (h2:f.dt.length<=1000000):ACall Tryz.prog 100 [encFS f] (.bool (frightB f)):=by
 refine acall_of Tryz.func100 1 rfl (by kernel_rfl) (w0 ?_)
 have hmf:(f.fr.map encF).length=f.fr.length:=List.length_map ..
 have hmp:(f.pg.map encP).length=f.pg.length:=List.length_map ..
 have hmd:(f.dt.map encI).length=f.dt.length:=List.length_map ..
 refine aA ?_;refine callX_pure (clockRight_ok f.fr f.hand) (w0 ?_)
 refine bcase_intro (fun g1=>?_) (fun g1=>?_)<;>conv=>whnf
 ·refine aA ?_;exact ret_of rfl (notF fun h=>by have:=clockB_t.2 h.ck;simp [this] at g1)
 simp at g1;refine aA ?_;refine callX_pure (Tb.right_ok f.tb h1) (w0 ?_)
 refine bcase_intro (fun g2=>?_) (fun g2=>?_)<;>conv=>whnf
 ·refine aA ?_;exact ret_of rfl (notF fun h=>by have:=Tb.rightB_t.2 h.tb;simp [this] at g2)
 simp at g2;refine aA ?_;refine callX_pure (Dt.right_ok f.dt h2) (w0 ?_)
 refine bcase_intro (fun g3=>?_) (fun g3=>?_)<;>conv=>whnf
 ·refine aA ?_;exact ret_of rfl (notF fun h=>by have:=h.dt;simp [this] at g3)
 simp at g3;have hC:=clockB_t.1 g1;have hT:=Tb.rightB_t.1 g2;have hl8:=hC.most;refine aA ?_
 refine bcase_n (fun g4=>?_) (fun g4=>?_)<;>conv=>whnf
 ·exact ret_of rfl (notF fun h=>g4 (by rw [hmp,hmf,h.len]))
 have hlen:f.pg.length=f.fr.length:=by omega
 refine aA ?_;refine aloop (ι:=Nat) (fun k=>[(1,.ptr 1 0 0),(3,.d (.int .i64 (nFr (f.fr.take k)))),(39,.d (.lst (f.fr.map encF))),(40,.d (.int .i64 (f.fr.map encF).length)),(41,.d (.int .i64 k))]) (fun _=>[(1,.box f.box false)])
  (fun k=>k<=f.fr.length/\ ∀ i,i<k->FPlace f i) (fun k=>f.fr.length-k) 0 ⟨Nat.zero_le _,fun j h=>absurd h (Nat.not_lt_zero _)⟩ (le0 (le_of_cov ⟨rfl,rfl,rfl,rfl,rfl,trivial⟩ ⟨rfl,trivial⟩ ⟨rfl,rfl,rfl,rfl⟩)) ?_
 rintro k ⟨hk,hR⟩;have hck:nFr (f.fr.take k) <=8:=Nat.le_trans List.countP_le_length (by simp;omega)
 conv=>whnf
 refine bcase_p (fun h=>?_) (fun h=>?_)<;>conv=>whnf
 ·have hk2:k<f.fr.length:=by omega
  have hk3:k<f.pg.length:=by omega
  have hcs:=nFr_take hk2
  have hlast (hs:FPlace f k):∀ j,j<k+1->FPlace f j:=fun j hj=>(Nat.lt_succ_iff_lt_or_eq.1 hj).elim (hR j) (fun e=>by subst e;exact hs)
  refine idxK_nat (by omega) (w0 ?_);refine getRow_of (x:=encF f.fr[k]) (by simp [hk2]) (aW ?_);refine idxK_nat (by omega) (w0 ?_);refine getRow_of (x:=encP f.pg[k]) (by simp [hk3]) (aW ?_)
  refine bcase_p (fun g5=>?_) (fun g5=>?_)<;>conv=>whnf
  ·refine aA ?_
   refine bcase_n (fun g6=>?_) (fun g6=>?_)<;>conv=>whnf
   ·refine aA ?_;exact ret_of rfl (notF fun h=>by rcases h.place k hk2 hk2 hk3 with ⟨_,e,_⟩|⟨e,_⟩;exact g6 e;exact e g5)
   refine aA ?_;have hpg:f.pg[k]=noPg↔(f.pg[k].1=0/\f.pg[k].2.1=0/\f.pg[k].2.2=ByteArray.empty):=⟨fun e=>by rw [e];exact ⟨rfl,rfl,rfl⟩,fun ⟨a,b,c⟩=>Prod.ext a (Prod.ext b c)⟩
   refine bcase_intro (fun g7=>?_) (fun g7=>?_)<;>conv=>whnf
   ·refine ret_of rfl (notF fun h=>?_)
    rcases h.place k hk2 hk2 hk3 with ⟨_,_,e⟩|⟨e,_⟩
    ·have:=hpg.1 e;simp [this] at g7
    ·exact e g5
   ·refine aA ?_;have hz:f.pg[k]=noPg:=hpg.2 (by simpa using g7)
    exact ⟨k+1,⟨by omega,hlast fun _ _=>.inl ⟨g5,by omega,hz⟩⟩,by omega,le0 (le_of_cov ⟨rfl,by
     show AV.d (.int .i64 (nFr (f.fr.take k)))=AV.d (.int .i64 (nFr (f.fr.take (k+1))));rw [hcs,if_pos g5];rfl,rfl,rfl,rfl,trivial⟩ ⟨rfl,trivial⟩ ⟨rfl,rfl,rfl,rfl⟩)⟩
  ·have hbad (hb:¬(f.fr[k].1≠0/\f.fr[k].1=f.pg[k].1/\pgR f.pg[k]=true/\Tb.findS f.tb f.pg[k].1=((k:Int),true))):¬FRight f:=fun h=>by
    rcases h.place k hk2 hk2 hk3 with ⟨e,_⟩|e
    ·exact g5 e
    ·exact hb e
   refine aA ?_
   refine bcase_n (fun g8=>?_) (fun g8=>?_)<;>conv=>whnf
   ·refine aA ?_;exact ret_of rfl (notF (hbad fun e=>g8 e.2.1))
   refine aA ?_;refine callX_pure (pageRight_ok f.pg[k]) (w0 ?_)
   refine bcase_intro (fun g9=>?_) (fun g9=>?_)<;>conv=>whnf
   ·refine aA ?_;exact ret_of rfl (notF (hbad fun e=>by rw [e.2.2.1] at g9;cases g9))
   simp at g9;refine aA ?_;refine callX_pure (Tb.find_ok f.tb f.pg[k].1 h1) (aW ?_)
   refine bcase_intro (fun g10=>?_) (fun g10=>?_)<;>conv=>whnf
   ·refine aA ?_;exact ret_of rfl (notF (hbad fun e=>by rw [e.2.2.2] at g10;cases g10))
   refine aA ?_
   refine bcase_n (fun g11=>?_) (fun g11=>?_)<;>conv=>whnf
   ·refine aA ?_;exact ret_of rfl (notF (hbad fun e=>g11 (by rw [e.2.2.2])))
   refine aA ?_;have hfi:Tb.findS f.tb f.pg[k].1=((k:Int),true):=Prod.ext (by simpa using g11) (by simpa using g10)
   exact ⟨k+1,⟨by omega,hlast fun _ _=>.inr ⟨g5,by omega,g9,hfi⟩⟩,by omega,le0 (le_of_cov ⟨rfl,by
     show AV.d (.int .i64 ((nFr (f.fr.take k):Int)+1))=AV.d (.int .i64 (nFr (f.fr.take (k+1))));rw [hcs,if_neg g5];rfl,rfl,rfl,rfl,trivial⟩ ⟨rfl,trivial⟩ ⟨rfl,rfl,rfl,rfl⟩)⟩
 have hkl:k=f.fr.length:=by omega
 subst hkl;rw [List.take_length]
 have hpl:((Tb.pagesS f.tb).map enc1).length=Tb.cntS f.tb:=by rw [List.length_map,Tb.pages_len hT]
 refine aA ?_;refine callX_pure (Tb.pages_ok f.tb h1) (aW ?_)
 refine bcase_n (fun g12=>?_) (fun g12=>?_)<;>conv=>whnf
 ·exact ret_of rfl (notF fun h=>g12 (by rw [hpl,h.cnt]))
 have hcnt:Tb.cntS f.tb=nFr f.fr:=by omega
 refine aA ?_;refine aloop (ι:=Nat) (fun k=>[(1,.ptr 1 0 0),(97,.d (encIs f.dt)),(98,.d (.int .i64 (f.dt.map encI).length)),(99,.d (.int .i64 k))]) (fun _=>[(1,.box f.box false)])
  (fun k=>k<=f.dt.length/\ ∀ i,i<k->∀ h:i<f.dt.length,(Tb.findS f.tb f.dt[i].1).2=true) (fun k=>f.dt.length-k) 0 ⟨Nat.zero_le _,fun j h=>absurd h (Nat.not_lt_zero _)⟩ (le0 (le_of_cov ⟨rfl,rfl,rfl,rfl,trivial⟩ ⟨rfl,trivial⟩ ⟨rfl,rfl,rfl,rfl⟩)) ?_
 rintro q ⟨hq,hQ⟩
 conv=>whnf
 refine bcase_p (fun g13=>?_) (fun g13=>?_)<;>conv=>whnf
 ·have hq2:q<f.dt.length:=by omega
  refine idxK_nat (by omega) (w0 ?_);refine getRow_of (x:=encI f.dt[q]) (by simp [hq2]) (aW ?_);refine callX_pure (Tb.find_ok f.tb f.dt[q].1 h1) (aW ?_)
  refine bcase_intro (fun g14=>?_) (fun g14=>?_)<;>conv=>whnf
  ·refine aA ?_;exact ret_of rfl (notF fun h=>by have:=h.dirty q hq2;rw [this] at g14;cases g14)
  ·refine aA ?_;exact ⟨q+1,⟨by omega,fun j hj hj2=>(Nat.lt_succ_iff_lt_or_eq.1 hj).elim (fun h=>hQ j h hj2) (fun e=>by subst e;simpa using g14)⟩,by omega,le0 (le_of_cov ⟨rfl,rfl,rfl,rfl,trivial⟩ ⟨rfl,trivial⟩ ⟨rfl,rfl,rfl,rfl⟩)⟩
 ·exact ret_of rfl (congrArg D.bool (frightB_t.2 ⟨hC,hT,g3,hlen,fun i hi=>hR i hi,hcnt,fun i hi=>hQ i (by omega) hi⟩).symm)
def freeAt (l:List Fr) (k:Nat):Int:=
 match l with
 | []=>-1
 |p::r=>if p.1=0 then (k:Int) else freeAt r (k+1)
def freeT (l:List Fr):Int×Bool:=if freeAt l 0<0 then (0,false) else (freeAt l 0,true)
theorem freeAt_lt {l:List Fr}:∀ {k:Nat},(freeAt l k<0/\ ∀ i (h:i<l.length),l[i].1≠0) \/ ∃ i:Nat,freeAt l k=((k+i:Nat):Int) /\ ∃ h:i<l.length,l[i].1=0:=by
 induction l with
 |nil=>intro k;exact .inl ⟨show (-1:Int)<0 by decide,fun i h=>absurd h (Nat.not_lt_zero _)⟩
 |cons p r ih=>
  intro k;simp only [freeAt]
  by_cases h:p.1=0
  ·exact .inr ⟨0,by simp [h],by simp,by simpa using h⟩
  ·rw [if_neg h]
   rcases ih (k:=k+1) with ⟨h1,h0⟩|⟨i,h1,h2,h3⟩
   ·refine .inl ⟨h1,fun i hi=>?_⟩
    cases i with
    |zero=>exact h
    |succ i=>simpa using h0 i (by simpa using hi)
   ·exact .inr ⟨i+1,by rw [h1];simp;omega,by simpa using h2,by simpa using h3⟩
theorem firstFree_ok (f:FX) (hl:f.fr.length<=1000000):ACall Tryz.prog 276 [encFS f] (.tup [.int .i64 (freeT f.fr).1,.bool (freeT f.fr).2]):=by
 refine acall_of Tryz.func276 1 rfl (by kernel_rfl) (aW ?_)
 have hmf:(f.fr.map encF).length=f.fr.length:=List.length_map ..
 refine aloop (ι:=Nat) (fun k=>[(8,.d (.lst (f.fr.map encF))),(9,.d (.int .i64 (f.fr.map encF).length)),(10,.d (.int .i64 k))]) (fun _=>[])
  (fun k=>k<=f.fr.length/\freeAt (f.fr.drop k) k=freeAt f.fr 0) (fun k=>f.fr.length-k) 0 ⟨Nat.zero_le _,rfl⟩ (le0 (le_of_cov ⟨rfl,rfl,rfl,trivial⟩ trivial ⟨rfl,rfl,rfl,rfl⟩)) ?_
 rintro k ⟨hk,hR⟩
 conv=>whnf
 refine bcase_p (fun h=>?_) (fun h=>?_)<;>conv=>whnf
 ·have hk2:k<f.fr.length:=by omega
  refine idxK_nat (by omega) (w0 ?_);refine getRow_of (x:=encF f.fr[k]) (by simp [hk2]) (aW ?_);rw [drop_cons hk2,freeAt] at hR
  refine bcase_p (fun h2=>?_) (fun h2=>?_)<;>conv=>whnf
  ·rw [if_pos h2] at hR;refine ret_of rfl ?_
   have:freeT f.fr=((k:Int),true):=by rw [freeT,<-hR,if_neg (by omega)]
   rw [this];rfl
  ·rw [if_neg h2] at hR;refine aA ?_;exact ⟨k+1,⟨by omega,hR⟩,by omega,le0 (le_of_cov ⟨rfl,rfl,rfl,trivial⟩ trivial ⟨rfl,rfl,rfl,rfl⟩)⟩
 ·have hkl:k=f.fr.length:=by omega
  subst hkl;simp [freeAt] at hR;refine ret_of rfl ?_
  have:freeT f.fr=(0,false):=by rw [freeT,<-hR,if_pos (by omega)]
  rw [this];rfl
theorem find0_ok (f:FX) (p:Int) (h1:f.tb.length<=1000000):ACall Tryz.prog 101 [encFS f,.int .i64 p] (.tup [.int .i64 (Tb.findS f.tb p).1,.bool (Tb.findS f.tb p).2]):=by
 refine acall_of Tryz.func101 2 rfl (by kernel_rfl) (aW ?_);refine callX_pure (Tb.find_ok f.tb p h1) (aW ?_);exact ret_of rfl rfl
open Classical in
noncomputable def lookS (f:FX) (p:Int):Int×Int:=if FRight f then (if (Tb.findS f.tb p).2=true then ((Tb.findS f.tb p).1,0) else (0,3)) else (0,1)
theorem look_ok (f:FX) (p:Int) (h1:f.tb.length<=1000000) (h2:f.dt.length<=1000000):ACall Tryz.prog 235 [encFS f,.int .i64 p] (.tup [.int .i64 (lookS f p).1,.int .i64 (lookS f p).2]):=by
 refine acall_of Tryz.func235 2 rfl (by kernel_rfl) (aW ?_);refine callX_pure (fright_ok f h1 h2) (w0 ?_)
 refine bcase_intro (fun g1=>?_) (fun g1=>?_)<;>conv=>whnf
 ·refine aA ?_;simp at g1;exact ret_of rfl (by rw [lookS,if_neg (frightB_f.1 g1)];rfl)
 refine aA ?_;simp at g1;have hR:=frightB_t.1 g1;refine callX_pure (find0_ok f p h1) (aW ?_)
 refine bcase_intro (fun g2=>?_) (fun g2=>?_)<;>conv=>whnf
 ·refine aA ?_;simp at g2;exact ret_of rfl (by rw [lookS,if_pos hR,if_neg (by simp [g2])];rfl)
 ·refine aA ?_;simp at g2;exact ret_of rfl (by rw [lookS,if_pos hR,if_pos g2];rfl)
open Classical in
noncomputable def findF (f:FX) (p:Int):Int×Bool:=if FRight f then Tb.findS f.tb p else (0,false)
theorem Find_ok (f:FX) (p:Int) (h1:f.tb.length<=1000000) (h2:f.dt.length<=1000000):ACall Tryz.prog 52 [encFS f,.int .i64 p] (.tup [.int .i64 (findF f p).1,.bool (findF f p).2]):=by
 refine acall_of Tryz.func52 2 rfl (by kernel_rfl) (aW ?_);refine callX_pure (fright_ok f h1 h2) (w0 ?_)
 refine bcase_intro (fun g1=>?_) (fun g1=>?_)<;>conv=>whnf
 ·refine aA ?_;simp at g1;exact ret_of rfl (by rw [findF,if_neg (frightB_f.1 g1)];rfl)
 refine aA ?_;simp at g1;have hR:=frightB_t.1 g1;refine callX_pure (find0_ok f p h1) (aW ?_);exact ret_of rfl (by rw [findF,if_pos hR];rfl)
theorem parted_ok (f:FX) (h1:f.fr.length<=1000000) (h2:f.pg.length<=1000000):SCall Tryz.prog 236 [encFS f] [.row (f.fr.map encF) 3,.d (.int .i64 f.hand),.d (encIs f.tb),.row (f.pg.map encP) 3,.d (encIs f.dt)]:=by
 refine scall_of Tryz.func236 1 rfl (by kernel_rfl) (aW ?_);refine callX_own (cloneF_ok f.fr h1) (aW ?_);refine callX_own (cloneP_ok f.pg h2) (aW ?_);exact ⟨_,_,rfl,rfl,.inl ⟨_,rfl,rfl,rfl,rfl,rfl,.inl ⟨_,rfl,rfl,rfl,rfl,trivial⟩⟩⟩
def newFS (n:Nat):FX:=⟨List.replicate n (0,0,false),0,List.replicate 16 (0,0),List.replicate n noPg,[]⟩
def noFS:FX:=⟨[],0,[],[],[]⟩
theorem all_in:∀ {a b:List Int},a.Nodup->(∀ x∈a,x∈b)->b.length<=a.length->∀ x∈b,x∈a
 | [],b,_,_,h,x,hx=>by
  have:b=[]:=List.length_eq_zero_iff.1 (by simpa using h)
  rw [this] at hx;exact hx
 |y::r,b,hn,hs,h,x,hx=>by
  rw [List.nodup_cons] at hn;have hy:=hs y (List.mem_cons_self ..)
  by_cases e:x=y
  ·subst e;exact List.mem_cons_self ..
  ·refine List.mem_cons_of_mem _ (all_in (b:=b.erase y) hn.2 (fun z hz=>?_) ?_ x ?_)
   ·exact (List.mem_erase_of_ne (fun e=>hn.1 (by rw [<-e];exact hz))).2 (hs z (List.mem_cons_of_mem _ hz))
   ·rw [List.length_erase_of_mem hy];simp at h;omega
   ·exact (List.mem_erase_of_ne e).2 hx
theorem find_mem {l:List (Int×Int)} (h:Tb.RT l) {p i:Int}:Tb.findS l p=(i,true)↔1<=p/\Tb.MemS l (p,i):=by
 constructor
 ·intro hf;have hr:=Tb.rightB_t.2 h;unfold Tb.findS at hf
  split at hf
  ·cases hf
  ·rename_i hn
   have hp:(Tb.placeT l p).2=true:=by
    cases e:(Tb.placeT l p).2 with
    |true=>rfl
    |false=>exact absurd (.inr e) hn
   obtain ⟨j,e1,e2,e3⟩:=Tb.placeT_t hp;rw [e1,Int.toNat_natCast] at hf
   have hj:j<16:=by rw [<-h.len];exact e2
   refine ⟨?_,j,hj,?_⟩
   ·unfold Tb.placeT at hp
    split at hp
    ·cases hp
    ·rename_i hq;omega
   ·have h1:=congrArg Prod.fst hf;simp only at h1;exact Prod.ext (by rw [Tb.at_eq e2];exact e3) h1
 ·rintro ⟨hp,j,hj,e⟩;exact Tb.find_yes h hp hj e
theorem find_nomem {l:List (Int×Int)} (h:Tb.RT l) {p:Int} (hp:1<=p):(Tb.findS l p).2=false↔∀ i,¬Tb.MemS l (p,i):=by
 constructor
 ·intro h1 i hm
  rw [(find_mem h).2 ⟨hp,hm⟩] at h1;cases h1
 ·intro h1
  cases e:(Tb.findS l p).2 with
  |false=>rfl
  |true=>exact absurd ((find_mem h).1 (Prod.ext rfl e)).2 (h1 _)
theorem find_false {l:List (Int×Int)} {p:Int} (h:(Tb.findS l p).2=false):Tb.findS l p=(0,false):=by
 unfold Tb.findS at h⊢
 split
 ·rfl
 ·rename_i hn;rw [if_neg hn] at h;cases h
theorem mem_uni {l:List (Int×Int)} (h:Tb.RT l) {p i j:Int} (hp:1<=p) (hi:Tb.MemS l (p,i)) (hj:Tb.MemS l (p,j)):i=j:=by
 have:=(find_mem h).2 ⟨hp,hi⟩;rw [(find_mem h).2 ⟨hp,hj⟩] at this;exact (congrArg Prod.fst this).symm
def PlaceM (f:FX) (i:Nat):Prop:=∀ (h:i<f.fr.length) (h2:i<f.pg.length),(f.fr[i].1=0/\f.fr[i].2.1=0/\f.pg[i]=noPg) \/ (1<=f.fr[i].1/\f.fr[i].1=f.pg[i].1/\pgR f.pg[i]=true/\Tb.MemS f.tb (f.fr[i].1,(i:Int)))
structure FM (f:FX):Prop where
 ck:CRight f.fr f.hand
 tb:Tb.RT f.tb
 dt:Dt.rightB f.dt=true
 len:f.pg.length=f.fr.length
 place:∀ i,i<f.fr.length->PlaceM f i
 cnt:Tb.cntS f.tb=nFr f.fr
 dirty:∀ x∈f.dt,∃ i,Tb.MemS f.tb (x.1,i)
theorem fm_iff {f:FX}:FRight f↔FM f:=by
 constructor
 ·intro h;refine ⟨h.ck,h.tb,h.dt,h.len,fun i hi h1 h2=>?_,h.cnt,fun x hx=>?_⟩
  ·rcases h.place i hi h1 h2 with e|⟨e1,e2,e3,e4⟩
   ·exact .inl e
   ·obtain ⟨q1,q2⟩:=(find_mem h.tb).1 e4;exact .inr ⟨by rw [e2];exact q1,e2,e3,by rw [e2];exact q2⟩
  ·obtain ⟨i,hi,rfl⟩:=List.mem_iff_getElem.1 hx;exact ⟨_,((find_mem h.tb).1 (Prod.ext rfl (h.dirty i hi))).2⟩
 ·intro h;refine ⟨h.ck,h.tb,h.dt,h.len,fun i hi h1 h2=>?_,h.cnt,fun i hi=>?_⟩
  ·rcases h.place i hi h1 h2 with e|⟨e1,e2,e3,e4⟩
   ·exact .inl e
   ·exact .inr ⟨by omega,e2,e3,(find_mem h.tb).2 ⟨by omega,by rw [<-e2];exact e4⟩⟩
  ·obtain ⟨j,hj⟩:=h.dirty _ (List.getElem_mem hi);have hd:=(Dt.rightB_out h.dt).2 i hi;rw [(find_mem h.tb).2 ⟨hd.2.1,hj⟩]
def frPages (l:List Fr):List Int:=(l.filter fun x=>!decide (x.1=0)).map (·.1)
theorem frPages_len (l:List Fr):(frPages l).length=nFr l:=by
 unfold frPages nFr;rw [List.length_map,List.countP_eq_length_filter]
theorem frPages_mem {l:List Fr} {p:Int}:p∈frPages l↔p≠0/\ ∃ i,∃ h:i<l.length,l[i].1=p:=by
 unfold frPages;rw [List.mem_map]
 constructor
 ·rintro ⟨x,hx,rfl⟩;obtain ⟨h1,h2⟩:=List.mem_filter.1 hx;obtain ⟨i,hi,rfl⟩:=List.mem_iff_getElem.1 h1;exact ⟨by simpa using h2,i,hi,rfl⟩
 ·rintro ⟨h0,i,hi,rfl⟩;exact ⟨l[i],List.mem_filter.2 ⟨List.getElem_mem hi,by simpa using h0⟩,rfl⟩
theorem FM.uni {f:FX} (h:FM f) {i j:Nat} (hi:i<f.fr.length) (hj:j<f.fr.length) (h0:f.fr[i].1≠0) (e:f.fr[i].1=f.fr[j].1):i=j:=by
 rcases h.place i hi hi (by rw [h.len];exact hi) with q|⟨q1,_,_,q2⟩
 ·exact absurd q.1 h0
 rcases h.place j hj hj (by rw [h.len];exact hj) with r|⟨r1,_,_,r2⟩
 ·exact absurd (e.trans r.1) h0
 have:=mem_uni h.tb q1 q2 (e▸r2);omega
theorem nodup_pages:∀ {l:List Fr},(∀ i j,(hi:i<l.length)->(hj:j<l.length)->l[i].1≠0->l[i].1=l[j].1->i=j)->(frPages l).Nodup
 | [],_=>by simp [frPages]
 |x::r,h=>by
  have ih:=nodup_pages (l:=r) fun i j hi hj h0 e=>by
   have:=h (i+1) (j+1) (by simpa using hi) (by simpa using hj) (by simpa using h0) (by simpa using e);omega
  unfold frPages at ih⊢
  by_cases hx:x.1=0
  ·rw [List.filter_cons_of_neg (by simp [hx])];exact ih
  ·rw [List.filter_cons_of_pos (by simp [hx]),List.map_cons,List.nodup_cons];refine ⟨fun hm=>?_,ih⟩;obtain ⟨_,j,hj,e⟩:=frPages_mem.1 hm;have:=h 0 (j+1) (by simp) (by simpa using hj) (by simpa using hx) (by simpa using e.symm);omega
def tbPages (l:List (Int×Int)):List Int:=(l.filter fun x=>!Tb.freeB x).map (·.1)
theorem FM.frame {f:FX} (h:FM f) {p k:Int} (hp:1<=p) (hm:Tb.MemS f.tb (p,k)):∃ i:Nat,k=i/\ ∃ hi:i<f.fr.length,f.fr[i].1=p:=by
 have h16:=h.tb.len
 have hin:p∈tbPages f.tb:=by
  obtain ⟨j,hj,e⟩:=hm;refine List.mem_map.2 ⟨(p,k),List.mem_filter.2 ⟨?_,by simp [Tb.page_nonfree (x:=(p,k)) hp]⟩,rfl⟩;rw [<-e,Tb.at_eq (by omega)];exact List.getElem_mem _
 have:=all_in (a:=frPages f.fr) (b:=tbPages f.tb) (nodup_pages fun i j hi hj h0 e=>h.uni hi hj h0 e) (fun x hx=>?_) (by
   rw [frPages_len,<-h.cnt];unfold tbPages Tb.cntS
   rw [List.length_map,List.countP_eq_length_filter];exact Nat.le_refl _) p hin
 ·obtain ⟨h0,i,hi,e⟩:=frPages_mem.1 this
  rcases h.place i hi hi (by rw [h.len];exact hi) with q|⟨q1,_,_,q2⟩
  ·exact absurd (e.symm.trans q.1) h0
  ·exact ⟨i,mem_uni h.tb hp hm (e▸q2),hi,e⟩
 ·obtain ⟨h0,i,hi,e⟩:=frPages_mem.1 hx
  rcases h.place i hi hi (by rw [h.len];exact hi) with q|⟨q1,_,_,q2⟩
  ·exact absurd (e.symm.trans q.1) h0
  ·obtain ⟨j,hj,e2⟩:=q2;refine List.mem_map.2 ⟨(f.fr[i].1,(i:Int)),List.mem_filter.2 ⟨?_,by simp [Tb.page_nonfree (x:=(f.fr[i].1,(i:Int))) q1]⟩,e⟩;rw [<-e2,Tb.at_eq (by omega)];exact List.getElem_mem _
theorem FM.nfr {f:FX} (h:FM f):Tb.cntS f.tb<=8:=by
 rw [h.cnt];exact Nat.le_trans List.countP_le_length h.ck.most
theorem cut_few {l:List (Int×Int)} (h:Tb.RT l) (hc:Tb.cntS l<16):Tb.Cut l:=by
 have:¬∀ j,j<16->Tb.freeB (Tb.at' l j)=false:=fun h1=>by have:=(Tb.cnt_full h.len).2 h1;omega
 obtain ⟨z,hz⟩:=Classical.not_forall.1 this;obtain ⟨hz1,hz2⟩:=Classical.not_imp.1 hz;exact ⟨z,Tb.free_cut h hz1 (by simpa using hz2)⟩
structure AtF (f:FX) (p:Int) (i:Nat):Prop where
 right:FM f
 hi:i<f.fr.length
 hp:i<f.pg.length
 p1:1<=p
 p16:p<=16
 fr:f.fr[i].1=p
 pg:f.pg[i].1=p
 pgr:pgR f.pg[i]=true
 mem:Tb.MemS f.tb (p,(i:Int))
theorem atF_of {f:FX} {p:Int} {i:Nat} (h:FM f) (hp:p≠0) (hi:i<f.fr.length) (e:f.fr[i].1=p):AtF f p i:=by
 rcases h.place i hi hi (by rw [h.len];exact hi) with q|⟨q1,q2,q3,q4⟩
 ·exact absurd (e.symm.trans q.1) hp
 ·exact ⟨h,hi,by rw [h.len];exact hi,e▸q1,by have:=(pgR_out.1 q3).2.1;omega,e,by rw [<-q2];exact e,q3,e▸q4⟩
theorem look_cases (f:FX) (p:Int):(¬FRight f/\lookS f p=(0,1)) \/ (FRight f/\Tb.findS f.tb p=(0,false) /\lookS f p=(0,3)) \/ ∃ i:Nat,Tb.findS f.tb p=((i:Int),true) /\lookS f p=((i:Int),0) /\AtF f p i:=by
 unfold lookS
 by_cases h:FRight f
 ·rw [if_pos h]
  cases e:(Tb.findS f.tb p).2 with
  |false=>exact .inr (.inl ⟨h,find_false e,by simp⟩)
  |true=>
   have hm:=fm_iff.1 h;obtain ⟨hp,hm2⟩:=(find_mem hm.tb).1 (Prod.ext rfl e:Tb.findS f.tb p=((Tb.findS f.tb p).1,true));obtain ⟨i,e1,hi,e2⟩:=hm.frame hp hm2;exact .inr (.inr ⟨i,Prod.ext e1 e,by rw [if_pos rfl,e1],atF_of hm (by omega) hi e2⟩)
 ·rw [if_neg h];exact .inl ⟨h,rfl⟩
noncomputable def relS (f:FX) (i:Nat) (p:Int):FX:=⟨f.fr.set i (0,0,false),f.hand,(Tb.delS f.tb p).1,f.pg.set i noPg,(Dt.cleanG f.dt p).1⟩
theorem clean_same {l:List (Int×Int)} {p:Int} (h:(Dt.cleanG l p).2≠0):(Dt.cleanG l p).1=l:=by
 unfold Dt.cleanG at h⊢
 split
 ·rfl
 ·rename_i h1;rw [if_neg h1] at h
  split
  ·rfl
  ·rename_i h2;rw [if_neg h2] at h;exact absurd rfl h
theorem del_same {l:List (Int×Int)} {p:Int} (h:(Tb.delS l p).2≠0):(Tb.delS l p).1=l:=by
 unfold Tb.delS at h⊢
 split
 ·rfl
 ·rename_i h1;rw [if_neg h1] at h
  split
  ·rfl
  ·rename_i h2;rw [if_neg h2] at h;exact absurd rfl h
theorem setF_enc (l:List Fr) (i:Nat) (x:Fr):(l.map encF).set i (encF x)=(l.set i x).map encF:=by rw [List.map_set]
theorem setP_enc (l:List Pg) (i:Nat) (x:Pg):(l.map encP).set i (encP x)=(l.set i x).map encP:=by rw [List.map_set]
theorem release_ok (f:FX) (i:Nat) (p:Int) (h:i<f.fr.length) (h2:i<f.pg.length) (hp:f.pg[i].1=p) (hf:f.fr.length<=1000000) (hg:f.pg.length<=1000000) (ht:f.tb.length<=1000000) (hd:f.dt.length<=1000000):
  ACall Tryz.prog 239 [encFS f,.int .i64 i] (encFS (relS f i p)):=by
 refine acall_of Tryz.func239 2 rfl (by kernel_rfl) (w0 ?_)
 have hmf:(f.fr.map encF).length=f.fr.length:=List.length_map ..
 have hmp:(f.pg.map encP).length=f.pg.length:=List.length_map ..
 refine aA ?_;refine idxK_nat (by omega) (w0 ?_);refine getRow_of (x:=encP f.pg[i]) (by simp [h2]) (aW ?_);rw [hp];refine callX_str (parted_ok f hf hg) (show 2<=8 by decide) (aW ?_);refine idxK_nat (by omega) (w0 ?_);refine getRow_of (x:=encF f.fr[i]) (by simp [h]) (aW ?_);refine idxK_nat (by omega) (w0 ?_);refine getRow_of (x:=encP f.pg[i]) (by simp [h2]) (aW ?_);refine callX_pure (Tb.del_ok f.tb p ht) (aW ?_);have k1:(f.fr.map encF).set i [.int .i64 0,.int .i64 0,.bool false]=(f.fr.set i (0,0,false)).map encF:=setF_enc f.fr i (0,0,false);have k2:(f.pg.map encP).set i [.int .i64 0,.int .i64 0,.str .empty]=(f.pg.set i noPg).map encP:=setP_enc f.pg i noPg
 refine bcase_p (fun g1=>?_) (fun g1=>?_)<;>conv=>whnf
 ·refine aA ?_;refine callX_pure (Dt.clean_ok f.dt p hd) (aW ?_)
  refine bcase_p (fun g2=>?_) (fun g2=>?_)<;>conv=>whnf
  ·refine aA ?_;refine ret_of rfl ?_;show D.agg [.lst ((f.fr.map encF).set i _),_,_,.lst ((f.pg.map encP).set i _),_]=_;rw [show ((f.fr.map encF).set i (splice (encF f.fr[i]) 0 [.int .i64 0,.int .i64 0,.bool false]))=_ from k1];rw [show ((f.pg.map encP).set i (splice (encP f.pg[i]) 0 [.int .i64 0,.int .i64 0,.str .empty]))=_ from k2];rfl
  ·refine aA ?_;refine ret_of rfl ?_;show D.agg [.lst ((f.fr.map encF).set i _),_,_,.lst ((f.pg.map encP).set i _),_]=_;rw [show ((f.fr.map encF).set i (splice (encF f.fr[i]) 0 [.int .i64 0,.int .i64 0,.bool false]))=_ from k1];rw [show ((f.pg.map encP).set i (splice (encP f.pg[i]) 0 [.int .i64 0,.int .i64 0,.str .empty]))=_ from k2];rw [show relS f i p=⟨f.fr.set i (0,0,false),f.hand,(Tb.delS f.tb p).1,f.pg.set i noPg,f.dt⟩ from by rw [relS,clean_same g2]];rfl
 ·refine aA ?_;refine callX_pure (Dt.clean_ok f.dt p hd) (aW ?_)
  refine bcase_p (fun g2=>?_) (fun g2=>?_)<;>conv=>whnf
  ·refine aA ?_;refine ret_of rfl ?_;show D.agg [.lst ((f.fr.map encF).set i _),_,_,.lst ((f.pg.map encP).set i _),_]=_;rw [show ((f.fr.map encF).set i (splice (encF f.fr[i]) 0 [.int .i64 0,.int .i64 0,.bool false]))=_ from k1];rw [show ((f.pg.map encP).set i (splice (encP f.pg[i]) 0 [.int .i64 0,.int .i64 0,.str .empty]))=_ from k2];rw [show relS f i p=⟨f.fr.set i (0,0,false),f.hand,f.tb,f.pg.set i noPg,(Dt.cleanG f.dt p).1⟩ from by rw [relS,del_same g1]];rfl
  ·refine aA ?_;refine ret_of rfl ?_;show D.agg [.lst ((f.fr.map encF).set i _),_,_,.lst ((f.pg.map encP).set i _),_]=_;rw [show ((f.fr.map encF).set i (splice (encF f.fr[i]) 0 [.int .i64 0,.int .i64 0,.bool false]))=_ from k1];rw [show ((f.pg.map encP).set i (splice (encP f.pg[i]) 0 [.int .i64 0,.int .i64 0,.str .empty]))=_ from k2];rw [show relS f i p=⟨f.fr.set i (0,0,false),f.hand,f.tb,f.pg.set i noPg,f.dt⟩ from by rw [relS,del_same g1,clean_same g2]];rfl
def atF (l:List Fr) (i:Nat):Fr:=l[i]?.getD (0,0,false)
def atP (l:List Pg) (i:Nat):Pg:=l[i]?.getD noPg
theorem atF_eq {l:List Fr} {i:Nat} (h:i<l.length):atF l i=l[i]:=by simp [atF,h]
theorem atP_eq {l:List Pg} {i:Nat} (h:i<l.length):atP l i=l[i]:=by simp [atP,h]
def upPin (x:Fr):Fr:=(x.1,x.2.1+1,true)
def downPin (x:Fr):Fr:=(x.1,x.2.1-1,x.2.2)
def withF (f:FX) (i:Nat) (x:Fr):FX:=⟨f.fr.set i x,f.hand,f.tb,f.pg,f.dt⟩
noncomputable def pinS (f:FX) (p:Int):FX×Int:=
 if (lookS f p).2≠0 then (f,(lookS f p).2)
 else if 2147483647<= (atF f.fr (lookS f p).1.toNat).2.1 then (f,7) else (withF f (lookS f p).1.toNat (upPin (atF f.fr (lookS f p).1.toNat)),0)
noncomputable def unpinS (f:FX) (p:Int):FX×Int:=
 if (lookS f p).2≠0 then (f,(lookS f p).2)
 else if (atF f.fr (lookS f p).1.toNat).2.1=0 then (f,12) else (withF f (lookS f p).1.toNat (downPin (atF f.fr (lookS f p).1.toNat)),0)
def wrPg (x:Pg) (b:ByteArray):Pg:=(x.1,x.2.1+1,b)
noncomputable def writeS (f:FX) (p:Int) (b:ByteArray) (now:Int):FX×Int:=
 if (lookS f p).2≠0 then (f,(lookS f p).2)
 else if (atF f.fr (lookS f p).1.toNat).2.1=0 then (f,12)
 else if 16<b.size then (f,5)
 else if 2147483647<= (atP f.pg (lookS f p).1.toNat).2.1 then (f,7)
 else if (Dt.markG f.dt p now).2≠0 then (f,(Dt.markG f.dt p now).2)
 else (⟨f.fr,f.hand,f.tb,f.pg.set (lookS f p).1.toNat (wrPg (atP f.pg (lookS f p).1.toNat) b),(Dt.markG f.dt p now).1⟩,0)
noncomputable def cleanF (f:FX) (p:Int):FX×Int:=
 if (lookS f p).2≠0 then (f,(lookS f p).2)
 else if (Dt.cleanG f.dt p).2≠0 then (f,12) else (⟨f.fr,f.hand,f.tb,f.pg,(Dt.cleanG f.dt p).1⟩,0)
noncomputable def dropS (f:FX) (p:Int):FX×Int:=
 if (lookS f p).2≠0 then (f,(lookS f p).2)
 else if 0<(atF f.fr (lookS f p).1.toNat).2.1 then (f,6) else (relS f (lookS f p).1.toNat p,0)
theorem look_split (f:FX) (p:Int):(lookS f p).2≠0\/ ∃ i:Nat,lookS f p=((i:Int),0) /\AtF f p i:=by
 rcases look_cases f p with ⟨_,e⟩|⟨_,_,e⟩|⟨i,_,e,h⟩
 ·exact .inl (by rw [e];decide)
 ·exact .inl (by rw [e];decide)
 ·exact .inr ⟨i,e,h⟩
theorem pin_ok (f:FX) (p:Int) (h1:f.tb.length<=1000000) (h2:f.dt.length<=1000000):ACall Tryz.prog 168 [encFS f,.int .i64 p] (.tup [encFS (pinS f p).1,.int .i64 (pinS f p).2]):=by
 refine acall_of Tryz.func168 2 rfl (by kernel_rfl) (w0 ?_)
 have hmf:(f.fr.map encF).length=f.fr.length:=List.length_map ..
 refine aA ?_;have hl:=look_ok f p h1 h2
 rcases look_split f p with e|⟨i,e,hA⟩
 ·refine callX_pure hl (aW ?_);refine bcase_t (by simp [e]) (aW ?_);exact ret_of rfl (by rw [pinS,if_pos e];rfl)
 have hi:=hA.hi;have hl8:=hA.right.ck.most;have hlen:=hA.right.len;have hk:=frOk_out.1 (hA.right.ck.all i hi);rw [e] at hl;refine callX_pure (d:=.tup [.int .i64 i,.int .i64 0]) hl (aW ?_);refine idxK_nat (by omega) (w0 ?_);refine getRow_of (x:=encF f.fr[i]) (by simp [hi]) (aW ?_)
 refine bcase_p (fun g1=>?_) (fun g1=>?_)<;>conv=>whnf
 ·refine aA ?_;exact ret_of rfl (by simp only [pinS,e,Int.toNat_natCast,atF_eq hi];rw [if_neg (by decide),if_pos (by exact g1)];rfl)
 refine aA ?_;refine callX_str (parted_ok f (by omega) (by omega)) (show 2<=8 by decide) (aW ?_);refine idxK_nat (by omega) (w0 ?_);refine getRow_of (x:=encF f.fr[i]) (by simp [hi]) (aW ?_);refine idxK_nat (by omega) (w0 ?_);refine getRow_of (x:=encF f.fr[i]) (by simp [hi]) (aW ?_);refine idxK_nat (by show i<(List.set _ _ _).length;rw [List.length_set];omega) (w0 ?_);refine getRow_of (x:=encF (f.fr[i].1,f.fr[i].2.1+1,f.fr[i].2.2)) (by rw [List.getElem?_set_self (by omega)];rfl) (aW ?_);refine ret_of rfl ?_;show D.tup [.agg [.lst (((f.fr.map encF).set i _).set i _),_,_,_,_],_]=_;rw [List.set_set];have k1:(f.fr.map encF).set i (encF (upPin f.fr[i]))=(f.fr.set i (upPin f.fr[i])).map encF:=setF_enc f.fr i _;simp only [pinS,e,Int.toNat_natCast,atF_eq hi];rw [if_neg (by decide),if_neg (by exact g1)];exact congrArg (fun q=>D.tup [.agg [.lst q,.int .i64 f.hand,encIs f.tb,.lst (f.pg.map encP),encIs f.dt],.int .i64 0]) k1
theorem unpin_ok (f:FX) (p:Int) (h1:f.tb.length<=1000000) (h2:f.dt.length<=1000000):ACall Tryz.prog 177 [encFS f,.int .i64 p] (.tup [encFS (unpinS f p).1,.int .i64 (unpinS f p).2]):=by
 refine acall_of Tryz.func177 2 rfl (by kernel_rfl) (w0 ?_)
 have hmf:(f.fr.map encF).length=f.fr.length:=List.length_map ..
 refine aA ?_;have hl:=look_ok f p h1 h2
 rcases look_split f p with e|⟨i,e,hA⟩
 ·refine callX_pure hl (aW ?_);refine bcase_t (by simp [e]) (aW ?_);exact ret_of rfl (by rw [unpinS,if_pos e];rfl)
 have hi:=hA.hi;have hl8:=hA.right.ck.most;have hlen:=hA.right.len;have hk:=frOk_out.1 (hA.right.ck.all i hi);rw [e] at hl;refine callX_pure (d:=.tup [.int .i64 i,.int .i64 0]) hl (aW ?_);refine idxK_nat (by omega) (w0 ?_);refine getRow_of (x:=encF f.fr[i]) (by simp [hi]) (aW ?_)
 refine bcase_p (fun g1=>?_) (fun g1=>?_)<;>conv=>whnf
 ·refine aA ?_;exact ret_of rfl (by simp only [unpinS,e,Int.toNat_natCast,atF_eq hi];rw [if_neg (by decide),if_pos (by exact g1)];rfl)
 refine aA ?_;refine callX_str (parted_ok f (by omega) (by omega)) (show 2<=8 by decide) (aW ?_);refine idxK_nat (by omega) (w0 ?_);refine getRow_of (x:=encF f.fr[i]) (by simp [hi]) (aW ?_);refine idxK_nat (by omega) (w0 ?_);refine getRow_of (x:=encF f.fr[i]) (by simp [hi]) (aW ?_);refine ret_of rfl ?_;have k1:(f.fr.map encF).set i (encF (downPin f.fr[i]))=(f.fr.set i (downPin f.fr[i])).map encF:=setF_enc f.fr i _;simp only [unpinS,e,Int.toNat_natCast,atF_eq hi];rw [if_neg (by decide),if_neg (by exact g1)];exact congrArg (fun q=>D.tup [.agg [.lst q,.int .i64 f.hand,encIs f.tb,.lst (f.pg.map encP),encIs f.dt],.int .i64 0]) k1
theorem clean_ok (f:FX) (p:Int) (h1:f.tb.length<=1000000) (h2:f.dt.length<=1000000):ACall Tryz.prog 243 [encFS f,.int .i64 p] (.tup [encFS (cleanF f p).1,.int .i64 (cleanF f p).2]):=by
 refine acall_of Tryz.func243 2 rfl (by kernel_rfl) (aW ?_);have hl:=look_ok f p h1 h2
 rcases look_split f p with e|⟨i,e,hA⟩
 ·refine callX_pure hl (aW ?_);refine bcase_t (by simp [e]) (aW ?_);exact ret_of rfl (by rw [cleanF,if_pos e];rfl)
 rw [e] at hl;refine callX_pure (d:=.tup [.int .i64 i,.int .i64 0]) hl (aW ?_);refine callX_pure (Dt.clean_ok f.dt p h2) (aW ?_)
 refine bcase_n (fun g1=>?_) (fun g1=>?_)<;>conv=>whnf
 ·refine aA ?_;exact ret_of rfl (by rw [cleanF,if_neg (by simp [e]),if_pos (by simpa using g1)];rfl)
 ·refine aA ?_;exact ret_of rfl (by rw [cleanF,if_neg (by simp [e]),if_neg (by simpa using g1)];rfl)
theorem drop_ok (f:FX) (p:Int) (h1:f.tb.length<=1000000) (h2:f.dt.length<=1000000):ACall Tryz.prog 170 [encFS f,.int .i64 p] (.tup [encFS (dropS f p).1,.int .i64 (dropS f p).2]):=by
 refine acall_of Tryz.func170 2 rfl (by kernel_rfl) (w0 ?_)
 have hmf:(f.fr.map encF).length=f.fr.length:=List.length_map ..
 refine aA ?_;have hl:=look_ok f p h1 h2
 rcases look_split f p with e|⟨i,e,hA⟩
 ·refine callX_pure hl (aW ?_);refine bcase_t (by simp [e]) (aW ?_);exact ret_of rfl (by rw [dropS,if_pos e];rfl)
 have hi:=hA.hi;have hl8:=hA.right.ck.most;have hlen:=hA.right.len;rw [e] at hl;refine callX_pure (d:=.tup [.int .i64 i,.int .i64 0]) hl (aW ?_);refine idxK_nat (by omega) (w0 ?_);refine getRow_of (x:=encF f.fr[i]) (by simp [hi]) (aW ?_)
 refine bcase_p (fun g1=>?_) (fun g1=>?_)<;>conv=>whnf
 ·refine aA ?_;exact ret_of rfl (by simp only [dropS,e,Int.toNat_natCast,atF_eq hi];rw [if_neg (by decide),if_pos (by exact g1)];rfl)
 refine aA ?_;refine callX_pure (release_ok f i p hi hA.hp hA.pg (by omega) (by omega) h1 h2) (aW ?_);exact ret_of rfl (by simp only [dropS,e,Int.toNat_natCast,atF_eq hi];rw [if_neg (by decide),if_neg (by exact g1)];rfl)
theorem write_ok (f:FX) (p:Int) (b:ByteArray) (now:Int) (h1:f.tb.length<=1000000) (h2:f.dt.length<=1000000):
  ACall Tryz.prog 176 [encFS f,.int .i64 p,.str b,.int .i64 now] (.tup [encFS (writeS f p b now).1,.int .i64 (writeS f p b now).2]):=by
 refine acall_of Tryz.func176 4 rfl (by kernel_rfl) (w0 ?_)
 have hmf:(f.fr.map encF).length=f.fr.length:=List.length_map ..
 have hmp:(f.pg.map encP).length=f.pg.length:=List.length_map ..
 refine aA ?_;have hl:=look_ok f p h1 h2
 rcases look_split f p with e|⟨i,e,hA⟩
 ·refine callX_pure hl (aW ?_);refine bcase_t (by simp [e]) (aW ?_);exact ret_of rfl (by rw [writeS,if_pos e];rfl)
 have hi:=hA.hi;have hip:=hA.hp;have hl8:=hA.right.ck.most;have hlen:=hA.right.len;have hpr:=pgR_out.1 hA.pgr;rw [e] at hl;refine callX_pure (d:=.tup [.int .i64 i,.int .i64 0]) hl (aW ?_);refine idxK_nat (by omega) (w0 ?_);refine getRow_of (x:=encF f.fr[i]) (by simp [hi]) (aW ?_)
 refine bcase_p (fun g1=>?_) (fun g1=>?_)<;>conv=>whnf
 ·refine aA ?_;exact ret_of rfl (by simp only [writeS,e,Int.toNat_natCast,atF_eq hi];rw [if_neg (by decide),if_pos (by exact g1)];rfl)
 refine aA ?_
 refine bcase_p (fun g2=>?_) (fun g2=>?_)<;>conv=>whnf
 ·refine aA ?_;exact ret_of rfl (by simp only [writeS,e,Int.toNat_natCast,atF_eq hi];rw [if_neg (by decide),if_neg (by exact g1),if_pos (by omega)];rfl)
 refine aA ?_;refine idxK_nat (by omega) (w0 ?_);refine getRow_of (x:=encP f.pg[i]) (by simp [hip]) (aW ?_)
 refine bcase_p (fun g3=>?_) (fun g3=>?_)<;>conv=>whnf
 ·refine aA ?_;exact ret_of rfl (by simp only [writeS,e,Int.toNat_natCast,atF_eq hi,atP_eq hip];rw [if_neg (by decide),if_neg (by exact g1),if_neg (by omega),if_pos (by exact g3)];rfl)
 refine aA ?_;refine callX_pure (Dt.mark_ok f.dt p now h2) (aW ?_)
 refine bcase_n (fun g4=>?_) (fun g4=>?_)<;>conv=>whnf
 ·refine aA ?_;exact ret_of rfl (by simp only [writeS,e,Int.toNat_natCast,atF_eq hi,atP_eq hip];rw [if_neg (by decide),if_neg (by exact g1),if_neg (by omega),if_neg (by exact g3),if_pos (by exact g4)];rfl)
 refine aA ?_;refine callX_str (parted_ok f (by omega) (by omega)) (show 2<=8 by decide) (aW ?_);refine idxK_nat (by omega) (w0 ?_);refine getRow_of (x:=encP f.pg[i]) (by simp [hip]) (aW ?_);refine idxK_nat (by show i<(List.set _ _ _).length;rw [List.length_set];omega) (w0 ?_);refine getRow_of (x:=[.int .i64 f.pg[i].1,.int .i64 f.pg[i].2.1,.str b]) (by rw [List.getElem?_set_self (by omega)];rfl) (aW ?_);refine idxK_nat (by show i<(List.set _ _ _).length;rw [List.length_set];omega) (w0 ?_);refine getRow_of (x:=[.int .i64 f.pg[i].1,.int .i64 f.pg[i].2.1,.str b]) (by rw [List.getElem?_set_self (by omega)];rfl) (aW ?_);refine ret_of rfl ?_;show D.tup [.agg [_,_,_,.lst (((f.pg.map encP).set i _).set i _),_],_]=_;rw [List.set_set];have k1:(f.pg.map encP).set i (encP (wrPg f.pg[i] b))=(f.pg.set i (wrPg f.pg[i] b)).map encP:=setP_enc f.pg i _;simp only [writeS,e,Int.toNat_natCast,atF_eq hi,atP_eq hip];rw [if_neg (by decide),if_neg (by exact g1),if_neg (by omega),if_neg (by exact g3),if_neg (by simpa using g4)];exact congrArg (fun q=>D.tup [.agg [.lst (f.fr.map encF),.int .i64 f.hand,encIs f.tb,.lst q,encIs (Dt.markG f.dt p now).1],.int .i64 0]) k1
def bad (f:FX) (p:Pg) (now:Int):Prop:=¬FRight f\/pgR p=false\/now<0\/2147483647<now
noncomputable def inS (f:FX) (p:Pg) (i:Nat):FX:=⟨f.fr.set i (p.1,1,true),f.hand,(Tb.putS f.tb p.1 i).1,f.pg.set i p,f.dt⟩
open Classical in
noncomputable def loadS (f:FX) (p:Pg) (now:Int) (fresh:Bool):FX×Int:=
 if bad f p now then (f,1)
 else if (Tb.findS f.tb p.1).2=true then (f,4)
 else if (freeT f.fr).2=false then (f,7)
 else if (Tb.putS f.tb p.1 (freeT f.fr).1.toNat).2≠0 then (f,(Tb.putS f.tb p.1 (freeT f.fr).1.toNat).2)
 else if fresh=true then (if (Dt.markG f.dt p.1 now).2≠0 then (f,(Dt.markG f.dt p.1 now).2) else ({inS f p (freeT f.fr).1.toNat with dt:=(Dt.markG f.dt p.1 now).1},0))
 else (inS f p (freeT f.fr).1.toNat,0)
theorem freeT_cases (l:List Fr):(freeT l=(0,false) /\ ∀ i (h:i<l.length),l[i].1≠0) \/ ∃ i:Nat,freeT l=((i:Int),true) /\ ∃ h:i<l.length,l[i].1=0:=by
 unfold freeT
 rcases freeAt_lt (l:=l) (k:=0) with ⟨h1,h2⟩|⟨i,h1,h2,h3⟩
 ·exact .inl ⟨if_pos h1,h2⟩
 ·rw [Nat.zero_add] at h1;exact .inr ⟨i,by rw [if_neg (by omega),h1],h2,h3⟩
theorem fsEq {a a' b b':List (List D)} {h t d e:D} (h1:a=a') (h2:b=b'):D.tup [.agg [.lst a,h,t,.lst b,d],e]=D.tup [.agg [.lst a',h,t,.lst b',d],e]:=by rw [h1,h2]
theorem load_ok (f:FX) (p:Pg) (now:Int) (fresh:Bool) (h1:f.tb.length<=1000000) (h2:f.dt.length<=1000000):
  ACall Tryz.prog 238 [encFS f,.agg (encP p),.int .i64 now,.bool fresh] (.tup [encFS (loadS f p now fresh).1,.int .i64 (loadS f p now fresh).2]):=by
 refine acall_of Tryz.func238 4 rfl (by kernel_rfl) (w0 ?_)
 have hmf:(f.fr.map encF).length=f.fr.length:=List.length_map ..
 have hmp:(f.pg.map encP).length=f.pg.length:=List.length_map ..
 have hB (hb:bad f p now):loadS f p now fresh=(f,1):=if_pos hb;refine aA ?_;have hr:=fright_ok f h1 h2
 cases hR:frightB f with
 |false=>
  rw [hR] at hr;refine callX_pure hr (aW ?_);exact ret_of rfl (by rw [hB (.inl (frightB_f.1 hR))];rfl)
 |true=>
 rw [hR] at hr;refine callX_pure hr (aW ?_);have hr:=pageRight_ok p
 cases hP:pgR p with
 |false=>
  rw [hP] at hr;refine callX_pure hr (aW ?_);exact ret_of rfl (by rw [hB (.inr (.inl hP))];rfl)
 |true=>
 rw [hP] at hr;refine callX_pure hr (aW ?_)
 refine bcase_p (fun g1=>?_) (fun g1=>?_)<;>conv=>whnf
 ·refine aA ?_;exact ret_of rfl (by rw [hB (.inr (.inr (.inl g1)))];rfl)
 refine aA ?_
 refine bcase_p (fun g2=>?_) (fun g2=>?_)<;>conv=>whnf
 ·refine aA ?_;exact ret_of rfl (by rw [hB (.inr (.inr (.inr g2)))];rfl)
 have hnb:¬bad f p now:=fun h=>by
  rcases h with h|h|h|h
  ·exact h (frightB_t.1 hR)
  ·rw [hP] at h;cases h
  ·exact g1 h
  ·exact g2 h
 have hF:=frightB_t.1 hR;have hl8:=hF.ck.most;have hlen:=hF.len;refine aA ?_;have hr:=find0_ok f p.1 h1
 cases hq:(Tb.findS f.tb p.1).2 with
 |true=>
  rw [hq] at hr;refine callX_pure hr (aW ?_);exact ret_of rfl (by rw [loadS,if_neg hnb,if_pos hq];rfl)
 |false=>
 rw [hq] at hr;refine callX_pure hr (aW ?_);have hr:=firstFree_ok f (by omega)
 rcases freeT_cases f.fr with ⟨e,hno⟩|⟨i,e,hi,hz⟩
 ·rw [e] at hr;refine callX_pure (d:=.tup [.int .i64 0,.bool false]) hr (aW ?_);exact ret_of rfl (by rw [loadS,if_neg hnb,if_neg (by simp [hq]),if_pos (by rw [e])];rfl)
 rw [e] at hr;refine callX_pure (d:=.tup [.int .i64 i,.bool true]) hr (aW ?_);refine callX_str (parted_ok f (by omega) (by omega)) (show 2<=8 by decide) (aW ?_);refine idxK_nat (by omega) (w0 ?_);refine getRow_of (x:=encF f.fr[i]) (by simp [hi]) (aW ?_)
 have hip:i<f.pg.length:=by omega
 refine idxK_nat (by omega) (w0 ?_);refine getRow_of (x:=encP f.pg[i]) (by simp [hip]) (aW ?_)
 have hL:loadS f p now fresh=if (Tb.putS f.tb p.1 i).2≠0 then (f,(Tb.putS f.tb p.1 i).2)
   else if fresh=true then (if (Dt.markG f.dt p.1 now).2≠0 then (f,(Dt.markG f.dt p.1 now).2) else ({inS f p i with dt:=(Dt.markG f.dt p.1 now).1},0))
   else (inS f p i,0):=by
  rw [loadS,if_neg hnb,if_neg (by simp [hq]),if_neg (by rw [e];simp),e];rfl
 rw [hL];have k1:(f.fr.map encF).set i (encF (p.1,1,true))=(f.fr.set i (p.1,1,true)).map encF:=setF_enc f.fr i _;have k2:(f.pg.map encP).set i (encP p)=(f.pg.set i p).map encP:=setP_enc f.pg i p;refine callX_pure (Tb.put_ok f.tb p.1 i h1) (aW ?_)
 refine bcase_n (fun g4=>?_) (fun g4=>?_)<;>conv=>whnf
 ·refine aA ?_;exact ret_of rfl (by rw [if_pos g4];rfl)
 refine aA ?_;rw [if_neg (by simpa using g4)]
 cases fresh with
 |false=>
  refine aA ?_;refine ret_of rfl ?_;rw [if_neg (by decide)];exact fsEq k1 k2
 |true=>
  rw [if_pos rfl];refine aA ?_;refine callX_pure (Dt.mark_ok f.dt p.1 now h2) (aW ?_)
  refine bcase_n (fun g5=>?_) (fun g5=>?_)<;>conv=>whnf
  ·refine aA ?_;exact ret_of rfl (by rw [if_pos g5];rfl)
  ·refine aA ?_;refine ret_of rfl ?_;rw [if_neg (by simpa using g5)];exact fsEq k1 k2
open Classical in
noncomputable def swpG (l:List Fr) (a:Nat):Option (List Fr×Nat):=if h:∃ q:List Fr×Nat,Swp l a q.1 q.2 then some (Classical.choose h) else none
def swept (f:FX) (q:List Fr×Nat):FX:=⟨q.1,(((q.2+1)%f.fr.length:Nat):Int),f.tb,f.pg,f.dt⟩
open Classical in
noncomputable def roomS (f:FX):FX×Pg×Bool×Int:=
 if ¬FRight f then (f,noPg,false,1)
 else if (freeT f.fr).2=true then (f,noPg,false,0)
 else match swpG f.fr f.hand.toNat with
  |none=>(f,noPg,false,6)
  |some q=>if (Dt.sinceG f.dt (atP f.pg q.2).1).2=true then (swept f q,atP f.pg q.2,true,0) else (relS (swept f q) q.2 (atP f.pg q.2).1,atP f.pg q.2,false,0)
theorem swpG_cases {l:List Fr} {h:Int} (hR:CRight l h):(swpG l h.toNat=none/\looseAt l 0<0) \/ ∃ q:List Fr×Nat,swpG l h.toNat=some q/\Swp l h.toNat q.1 q.2:=by
 unfold swpG
 by_cases hx:∃ q:List Fr×Nat,Swp l h.toNat q.1 q.2
 ·exact .inr ⟨_,dif_pos hx,Classical.choose_spec hx⟩
 ·refine .inl ⟨dif_neg hx,?_⟩
  rcases looseAt_lt (l:=l) (k:=0) with h1|⟨i,h1,hi,h2⟩
  ·exact h1
  ·obtain ⟨l2,a2,hs⟩:=swp_ex (j:=i) (mSw i l h.toNat+1) (l:=l) (a:=h.toNat) (by have:=hR.h0;have:=hR.h1;omega) hi h2 (by omega);exact absurd ⟨(l2,a2),hs⟩ hx
theorem room_ok (f:FX) (h1:f.tb.length<=1000000) (h2:f.dt.length<=1000000):
  ACall Tryz.prog 275 [encFS f] (.tup [encFS (roomS f).1,.agg (encP (roomS f).2.1),.bool (roomS f).2.2.1,.int .i64 (roomS f).2.2.2]):=by
 refine acall_of Tryz.func275 1 rfl (by kernel_rfl) (w0 ?_)
 have hmf:(f.fr.map encF).length=f.fr.length:=List.length_map ..
 have hmp:(f.pg.map encP).length=f.pg.length:=List.length_map ..
 refine aA ?_;have hr:=fright_ok f h1 h2
 cases hR:frightB f with
 |false=>
  rw [hR] at hr;refine callX_pure hr (aW ?_);exact ret_of rfl (by rw [roomS,if_pos (frightB_f.1 hR)];rfl)
 |true=>
 rw [hR] at hr;refine callX_pure hr (aW ?_);have hF:=frightB_t.1 hR;have hl1:=hF.ck.one;have hl8:=hF.ck.most;have hlen:=hF.len;have hr:=firstFree_ok f (by omega)
 rcases freeT_cases f.fr with ⟨e,hno⟩|⟨i,e,hi,hz⟩
 rotate_left
 ·rw [e] at hr;refine callX_pure (d:=.tup [.int .i64 i,.bool true]) hr (aW ?_);exact ret_of rfl (by rw [roomS,if_neg (by simpa using hF),if_pos (by rw [e])];rfl)
 rw [e] at hr;refine callX_pure (d:=.tup [.int .i64 0,.bool false]) hr (aW ?_)
 rcases swpG_cases hF.ck with ⟨eq,hlo⟩|⟨q,eq,hs⟩
 ·refine callX_pure (sweep_no f.fr f.hand (.inr hlo) (by omega)) (aW ?_);exact ret_of rfl (by rw [roomS,if_neg (by simpa using hF),if_neg (by rw [e];simp),eq];rfl)
 have hh:((f.hand.toNat:Nat):Int)=f.hand:=by have:=hF.ck.h0;omega
 have hsw:=sweep_yes f.fr f.hand.toNat (by rw [hh];exact hF.ck) hs;rw [hh] at hsw;obtain ⟨o1,o2,o3,o4,o5⟩:=hs.out
 have hip:q.2<f.pg.length:=by omega
 refine callX_pure hsw (aW ?_);refine idxK_nat (by omega) (w0 ?_);refine getRow_of (x:=encP f.pg[q.2]) (by simp [hip]) (aW ?_);have hr:=Dt.since_ok f.dt f.pg[q.2].1 h2
 cases hd:(Dt.sinceG f.dt f.pg[q.2].1).2 with
 |true=>
  rw [hd] at hr;refine callX_pure hr (aW ?_);refine ret_of rfl ?_;rw [roomS,if_neg (by simpa using hF),if_neg (by rw [e];simp),eq];simp only [atP_eq hip];rw [if_pos hd];rfl
 |false=>
  rw [hd] at hr;refine callX_pure hr (aW ?_);refine callX_pure (release_ok (swept f q) q.2 f.pg[q.2].1 (by show q.2<q.1.length;exact o4) hip rfl (by show q.1.length<=_;omega) (by show f.pg.length<=_;omega) h1 h2) (aW ?_);refine ret_of rfl ?_;rw [roomS,if_neg (by simpa using hF),if_neg (by rw [e];simp),eq];simp only [atP_eq hip];rw [if_neg (by rw [hd];decide)];rfl
theorem new_ok (n:Int):ACall Tryz.prog 127 [.int .i64 n] (.tup [encFS (if n<1\/8<n then noFS else newFS n.toNat),.int .i64 (if n<1\/8<n then 1 else 0)]):=by
 refine acall_of Tryz.func127 1 rfl (by kernel_rfl) (aW ?_)
 refine bcase_p (fun g1=>?_) (fun g1=>?_)<;>conv=>whnf
 ·refine aA ?_;exact ret_of rfl (by rw [if_pos (.inl g1),if_pos (.inl g1)];rfl)
 refine aA ?_
 refine bcase_p (fun g2=>?_) (fun g2=>?_)<;>conv=>whnf
 ·refine aA ?_;exact ret_of rfl (by rw [if_pos (.inr g2),if_pos (.inr g2)];rfl)
 refine aA ?_;obtain ⟨m,rfl⟩:∃ m:Nat,n=m:=⟨n.toNat,by omega⟩;rw [if_neg (by omega),if_neg (by omega)];refine aA ?_;refine roomK_le 8 100 (by omega) (by decide) (by decide) (by decide) (aW ?_);refine callX_pure Tb.new_ok (aW ?_);refine aA ?_;refine roomK_le 8 100 (by omega) (by decide) (by decide) (by decide) (aW ?_);refine ret_of rfl ?_;rw [show newFS (m:Int).toNat=newFS m from rfl]
 have k1:List.replicate (m:Int).toNat (T 148).zero=(List.replicate m (0,0,false)).map encF:=by rw [List.map_replicate];rfl
 have k2:List.replicate (m:Int).toNat (T 57).zero=(List.replicate m noPg).map encP:=by rw [List.map_replicate];rfl
 exact fsEq k1 k2
theorem nFr_set {l:List Fr} {i:Nat} {x:Fr} (h:i<l.length):nFr (l.set i x)+(if l[i].1=0 then 0 else 1)=nFr l+(if x.1=0 then 0 else 1):=by
 have hp:(if l[i].1=0 then 0 else 1) <=nFr l:=by
  by_cases e:l[i].1=0
  ·rw [if_pos e];exact Nat.zero_le _
  ·rw [if_neg e];exact List.countP_pos_iff.2 ⟨l[i],List.getElem_mem h,by simp [e]⟩
 have e0:nFr (l.set i x)=nFr l-(if (!decide (l[i].1=0))=true then 1 else 0)+(if (!decide (x.1=0))=true then 1 else 0):=by
  unfold nFr;exact List.countP_set h
 rw [e0];generalize nFr l=n at hp⊢
 by_cases e:l[i].1=0<;>by_cases e2:x.1=0<;>simp only [e,e2,if_true,if_false,decide_true,decide_false,Bool.not_true,Bool.not_false,Bool.false_eq_true] at hp⊢<;>omega
theorem ck_set {l:List Fr} {h:Int} {i:Nat} {x:Fr} (hR:CRight l h) (hx:frOk x=true):CRight (l.set i x) h:=by
 refine ⟨by rw [List.length_set];exact hR.one,by rw [List.length_set];exact hR.most,hR.h0,by rw [List.length_set];exact hR.h1,fun j hj=>?_⟩;rw [List.getElem_set]
 split
 ·exact hx
 ·exact hR.all j (by rw [List.length_set] at hj;exact hj)
theorem FM.pins {f:FX} {p:Int} {i:Nat} {x:Fr} (hA:AtF f p i) (hx:frOk x=true) (h1:x.1=p):FM (withF f i x):=by
 have h:=hA.right;have hi:=hA.hi;show FM ⟨f.fr.set i x,f.hand,f.tb,f.pg,f.dt⟩;refine ⟨ck_set h.ck hx,h.tb,h.dt,by show f.pg.length=(f.fr.set i x).length;rw [List.length_set];exact h.len,fun j hj hj1 hj2=>?_,?_,h.dirty⟩
 ·show ((f.fr.set i x)[j].1=0/\ (f.fr.set i x)[j].2.1=0/\f.pg[j]=noPg) \/ (1<= (f.fr.set i x)[j].1/\ (f.fr.set i x)[j].1=f.pg[j].1/\pgR f.pg[j]=true/\Tb.MemS f.tb ((f.fr.set i x)[j].1,(j:Int)))
  have hj':j<f.fr.length:=by have:j<(f.fr.set i x).length:=hj;rw [List.length_set] at this;exact this
  by_cases e:i=j
  ·subst e;rw [List.getElem_set_self,h1];exact .inr ⟨hA.p1,hA.pg.symm,hA.pgr,hA.mem⟩
  ·rw [List.getElem_set_ne e];exact h.place j hj' hj' hj2
 ·show Tb.cntS f.tb=nFr (f.fr.set i x);have:=nFr_set (x:=x) hi;rw [if_neg (by rw [hA.fr];have:=hA.p1;omega),if_neg (by rw [h1];have:=hA.p1;omega)] at this
  rw [h.cnt];omega
theorem FM.wrote {f:FX} {p:Int} {i:Nat} {x:Pg} {l:List (Int×Int)} (hA:AtF f p i) (hx:pgR x=true) (h1:x.1=p) (hl:Dt.rightB l=true) (hm:∀ y∈l,y∈f.dt\/y.1=p):FM ⟨f.fr,f.hand,f.tb,f.pg.set i x,l⟩:=by
 have h:=hA.right;refine ⟨h.ck,h.tb,hl,by show (f.pg.set i x).length=f.fr.length;rw [List.length_set];exact h.len,fun j hj hj1 hj2=>?_,h.cnt,fun y hy=>?_⟩
 ·show (f.fr[j].1=0/\f.fr[j].2.1=0/\ (f.pg.set i x)[j]=noPg) \/ (1<=f.fr[j].1/\f.fr[j].1=(f.pg.set i x)[j].1/\pgR (f.pg.set i x)[j]=true/\Tb.MemS f.tb (f.fr[j].1,(j:Int)))
  have hj':j<f.pg.length:=by have:j<(f.pg.set i x).length:=hj2;rw [List.length_set] at this;exact this
  by_cases e:i=j
  ·subst e;refine .inr ?_;rw [List.getElem_set_self];exact ⟨by rw [hA.fr];exact hA.p1,by rw [hA.fr,h1],hx,by rw [hA.fr];exact hA.mem⟩
  ·rw [List.getElem_set_ne e];exact h.place j hj hj hj'
 ·rcases hm y hy with q|q
  ·exact h.dirty y q
  ·exact ⟨_,by rw [q];exact hA.mem⟩
theorem FM.dirt {f:FX} {l:List (Int×Int)} (h:FM f) (hl:Dt.rightB l=true) (hm:∀ y∈l,y∈f.dt):FM ⟨f.fr,f.hand,f.tb,f.pg,l⟩:=
 ⟨h.ck,h.tb,hl,h.len,h.place,h.cnt,fun y hy=>h.dirty y (hm y hy)⟩
theorem clean_cases {l:List (Int×Int)} {p:Int} (h:Dt.rightB l=true):Dt.rightB (Dt.cleanG l p).1=true/\ ∀ x,x∈(Dt.cleanG l p).1↔x∈l/\x.1≠p:=by
 rw [Dt.clean_right h]
 by_cases e:0<=Dt.placeG l p 0
 ·rw [if_pos e];exact ⟨Dt.right_filter h _,fun x=>by simp [List.mem_filter]⟩
 ·rw [if_neg e];exact ⟨h,fun x=>⟨fun hx=>⟨hx,fun e2=>e (Dt.placeG_mem.2 ⟨x,hx,e2⟩)⟩,fun hx=>hx.1⟩⟩
theorem rel_tb {f:FX} {p:Int} {i:Nat} (hA:AtF f p i):∃ l',Tb.delS f.tb p=(l',0) /\Tb.RT l'/\Tb.Cut l'/\Tb.cntS l'+1=Tb.cntS f.tb/\ ∀ x,Tb.freeB x=false->(Tb.MemS l' x↔x.1≠p/\Tb.MemS f.tb x):=
 Tb.del_gen hA.right.tb (cut_few hA.right.tb (by have:=hA.right.nfr;omega)) hA.p1 hA.mem
theorem FM.rel {f:FX} {p:Int} {i:Nat} (hA:AtF f p i):FM (relS f i p):=by
 have h:=hA.right;have hi:=hA.hi;have hp1:=hA.p1;obtain ⟨l',e1,e2,_,e3,e4⟩:=rel_tb hA;obtain ⟨c1,c2⟩:=clean_cases (p:=p) h.dt
 have er:relS f i p=⟨f.fr.set i (0,0,false),f.hand,l',f.pg.set i noPg,(Dt.cleanG f.dt p).1⟩:=by rw [relS,e1]
 rw [er];refine ⟨ck_set h.ck (by decide),e2,c1,by simp [h.len],fun j hj hj1 hj2=>?_,?_,fun y hy=>?_⟩
 ·show ((f.fr.set i (0,0,false))[j].1=0/\ (f.fr.set i (0,0,false))[j].2.1=0/\ (f.pg.set i noPg)[j]=noPg) \/ (1<= (f.fr.set i (0,0,false))[j].1/\ (f.fr.set i (0,0,false))[j].1=(f.pg.set i noPg)[j].1/\pgR (f.pg.set i noPg)[j]=true/\Tb.MemS l' ((f.fr.set i (0,0,false))[j].1,(j:Int)))
  have hj':j<f.fr.length:=by have:j<(f.fr.set i (0,0,false)).length:=hj;rw [List.length_set] at this;exact this
  have hj2':j<f.pg.length:=by rw [h.len];exact hj'
  by_cases e:i=j
  ·subst e;rw [List.getElem_set_self,List.getElem_set_self];exact .inl ⟨rfl,rfl,rfl⟩
  ·rw [List.getElem_set_ne e,List.getElem_set_ne e]
   rcases h.place j hj' hj' hj2' with q|⟨q1,q2,q3,q4⟩
   ·exact .inl q
   ·refine .inr ⟨q1,q2,q3,(e4 _ (Tb.page_nonfree (x:=(f.fr[j].1,(j:Int))) q1)).2 ⟨fun e5=>e ?_,q4⟩⟩;exact h.uni hi hj' (by rw [hA.fr];omega) (by rw [hA.fr];exact e5.symm)
 ·show Tb.cntS l'=nFr (f.fr.set i (0,0,false));have:=nFr_set (x:=(0,0,false)) hi;rw [if_neg (by rw [hA.fr];omega)] at this;simp at this;have:=h.cnt;omega
 ·obtain ⟨y1,y2⟩:=(c2 y).1 hy;obtain ⟨k,hk⟩:=h.dirty y y1;refine ⟨k,(e4 _ ?_).2 ⟨y2,hk⟩⟩;obtain ⟨q,hq,rfl⟩:=List.mem_iff_getElem.1 y1;exact Tb.page_nonfree (x:=(f.dt[q].1,k)) ((Dt.rightB_out h.dt).2 q hq).2.1
theorem in_tb {f:FX} {p:Int} {i:Nat} (h:FM f) (hp1:1<=p) (hp2:p<=16) (hi:i<f.fr.length) (hf:Tb.findS f.tb p=(0,false)):
  ∃ l',Tb.putS f.tb p i=(l',0) /\Tb.RT l'/\Tb.cntS l'=Tb.cntS f.tb+1/\ ∀ x,Tb.freeB x=false->(Tb.MemS l' x↔x=(p,(i:Int)) \/Tb.MemS f.tb x):=by
 have hl8:=h.ck.most;obtain ⟨l',k,_,_,_,e1,e2,_,e3,e4⟩:=Tb.put_gen (p:=p) (f:=(i:Int)) h.tb (Tb.fits_out.2 ⟨hp1,by omega,by omega,by omega⟩) (fun j hj e=>(find_nomem h.tb hp1).1 (by rw [hf]) _ ⟨j,hj,Prod.ext e rfl⟩) (by have:=h.nfr;omega);exact ⟨l',e1,e2,e3,e4⟩
theorem FM.loaded {f:FX} {p:Pg} {i:Nat} {l:List (Int×Int)} (h:FM f) (hp:pgR p=true) (hi:i<f.fr.length) (hz:f.fr[i].1=0) (hf:Tb.findS f.tb p.1=(0,false)) (hl:Dt.rightB l=true) (hm:∀ y∈l,y∈f.dt\/y.1=p.1):
  FM {inS f p i with dt:=l} /\AtF {inS f p i with dt:=l} p.1 i:=by
 have hpr:=pgR_out.1 hp;obtain ⟨l',e1,e2,e3,e4⟩:=in_tb h hpr.1 hpr.2.1 hi hf
 have hip:i<f.pg.length:=by rw [h.len];exact hi
 have er:({inS f p i with dt:=l}:FX)=⟨f.fr.set i (p.1,1,true),f.hand,l',f.pg.set i p,l⟩:=by rw [inS,e1]
 have hnf:Tb.freeB (p.1,(i:Int))=false:=Tb.page_nonfree (x:=(p.1,(i:Int))) hpr.1
 have hM:FM {inS f p i with dt:=l}:=by
  rw [er];refine ⟨ck_set h.ck (frOk_out.2 ⟨by show 0<=p.1;omega,by show p.1<=16;omega,show (0:Int) <=1 by decide,show (1:Int) <=2147483647 by decide⟩),e2,hl,by simp [h.len],fun j hj hj1 hj2=>?_,?_,fun y hy=>?_⟩
  ·show ((f.fr.set i (p.1,1,true))[j].1=0/\ (f.fr.set i (p.1,1,true))[j].2.1=0/\ (f.pg.set i p)[j]=noPg) \/ (1<= (f.fr.set i (p.1,1,true))[j].1/\ (f.fr.set i (p.1,1,true))[j].1=(f.pg.set i p)[j].1/\pgR (f.pg.set i p)[j]=true/\Tb.MemS l' ((f.fr.set i (p.1,1,true))[j].1,(j:Int)))
   have hj':j<f.fr.length:=by have:j<(f.fr.set i (p.1,1,true)).length:=hj;rw [List.length_set] at this;exact this
   have hj2':j<f.pg.length:=by rw [h.len];exact hj'
   by_cases e:i=j
   ·subst e;rw [List.getElem_set_self,List.getElem_set_self];exact .inr ⟨hpr.1,rfl,hp,(e4 _ hnf).2 (.inl rfl)⟩
   ·rw [List.getElem_set_ne e,List.getElem_set_ne e]
    rcases h.place j hj' hj' hj2' with q|⟨q1,q2,q3,q4⟩
    ·exact .inl q
    ·exact .inr ⟨q1,q2,q3,(e4 _ (Tb.page_nonfree (x:=(f.fr[j].1,(j:Int))) q1)).2 (.inr q4)⟩
  ·show Tb.cntS l'=nFr (f.fr.set i (p.1,1,true));have:=nFr_set (x:=(p.1,1,true)) hi;rw [if_pos hz,if_neg (show ¬p.1=0 by omega)] at this;have:=h.cnt;omega
  ·rcases hm y hy with q|q
   ·obtain ⟨k,hk⟩:=h.dirty y q;obtain ⟨q',hq,rfl⟩:=List.mem_iff_getElem.1 q;exact ⟨k,(e4 _ (Tb.page_nonfree (x:=(f.dt[q'].1,k)) ((Dt.rightB_out h.dt).2 q' hq).2.1)).2 (.inr hk)⟩
   ·exact ⟨i,by rw [q];exact (e4 _ hnf).2 (.inl rfl)⟩
 exact ⟨hM,atF_of hM (by omega) (by show i<(f.fr.set i _).length;rw [List.length_set];exact hi) (by simp [inS])⟩
theorem mark_cases {l:List (Int×Int)} {p t:Int} (h:(Dt.markG l p t).2=0):Dt.rightB (Dt.markG l p t).1=true/\ (∀ y∈(Dt.markG l p t).1,y∈l\/y.1=p) /\ (∀ y∈l,y∈(Dt.markG l p t).1) /\ ∃ y∈(Dt.markG l p t).1,y.1=p:=by
 refine ⟨Dt.mark_keeps h,?_⟩;unfold Dt.markG at h⊢
 split
 ·rename_i h1;rw [if_pos h1] at h;cases h
 ·rename_i h1;rw [if_neg h1] at h
  split
  ·rename_i h2;rw [if_pos h2] at h;cases h
  ·rename_i h2;rw [if_neg h2] at h
   split
   ·rename_i h3;obtain ⟨x,hx,e⟩:=Dt.placeG_mem.1 h3;exact ⟨fun y hy=>.inl hy,fun y hy=>hy,x,hx,e⟩
   ·refine ⟨fun y hy=>?_,fun y hy=>List.mem_append_left _ hy,(p,t),by simp,rfl⟩
    rcases List.mem_append.1 hy with q|q
    ·exact .inl q
    ·exact .inr (by simp at q;rw [q])
theorem FM.swp {f:FX} {q:List Fr×Nat} (h:FM f) (hs:Swp f.fr f.hand.toNat q.1 q.2):FM (swept f q):=by
 obtain ⟨o1,o2,o3,o4,o5⟩:=hs.out;have hl1:=h.ck.one
 have hcnt:nFr q.1=nFr f.fr:=by
  rw [<-frPages_len,<-frPages_len]
  have:frPages q.1=frPages f.fr:=by
   have:∀ (a b:List Fr),a.length=b.length->(∀ i (hi:i<b.length) (hi2:i<a.length),a[i].1=b[i].1)->frPages a=frPages b:=by
    intro a
    induction a with
    |nil=>intro b hb _;cases b with
     |nil=>rfl
     |cons _ _=>simp at hb
    |cons x r ih=>
     intro b hb hx
     cases b with
     |nil=>simp at hb
     |cons y s=>
      have e0:x.1=y.1:=hx 0 (by simp) (by simp)
      have ih':=ih s (by simpa using hb) fun i hi hi2=>hx (i+1) (by simpa using hi) (by simpa using hi2)
      unfold frPages at ih'⊢
      by_cases hy:y.1=0
      ·rw [List.filter_cons_of_neg (by simp [e0,hy]),List.filter_cons_of_neg (by simp [hy])];exact ih'
      ·rw [List.filter_cons_of_pos (by simp [e0,hy]),List.filter_cons_of_pos (by simp [hy]),List.map_cons,List.map_cons,ih',e0]
   exact this _ _ o1 fun i hi hi2=>(o3 i hi hi2).1
  rw [this]
 refine ⟨⟨by show 1<=q.1.length;omega,by show q.1.length<=8;have:=h.ck.most;omega,Int.natCast_nonneg _,?_,fun j hj=>?_⟩,h.tb,h.dt,by show f.pg.length=q.1.length;rw [h.len,o1],fun j hj hj1 hj2=>?_,by show Tb.cntS f.tb=nFr q.1;rw [hcnt];exact h.cnt,h.dirty⟩
 ·show (((q.2+1)%f.fr.length:Nat):Int)<(q.1.length:Int);have:=Nat.mod_lt (q.2+1) (show 0<f.fr.length by omega);omega
 ·have hj':j<q.1.length:=hj;show frOk q.1[j]=true;have h3:=o3 j (by omega) hj';have:=frOk_out.1 (h.ck.all j (by omega));exact frOk_out.2 (by omega)
 ·have hj':j<q.1.length:=hj1;have h3:=o3 j (by omega) hj';show (q.1[j].1=0/\q.1[j].2.1=0/\f.pg[j]=noPg) \/ (1<=q.1[j].1/\q.1[j].1=f.pg[j].1/\pgR f.pg[j]=true/\Tb.MemS f.tb (q.1[j].1,(j:Int)));rw [h3.1,h3.2];exact h.place j (by omega) (by omega) hj2
theorem FM.new {n:Nat} (h1:1<=n) (h8:n<=8):FM (newFS n):=by
 refine ⟨⟨by simpa [newFS] using h1,by simpa [newFS] using h8,show (0:Int) <=0 by decide,by simp [newFS];omega,fun i hi=>by simp [newFS];decide⟩,Tb.new_rt,rfl,by simp [newFS],fun i hi hi1 hi2=>.inl (by simp [newFS]),?_,fun x hx=>by cases hx⟩;show Tb.cntS (List.replicate 16 (0,0))=nFr (List.replicate n (0,0,false))
 have:nFr (List.replicate n (0,0,false))=0:=by
  unfold nFr;rw [List.countP_eq_zero];intro x hx;rw [List.eq_of_mem_replicate hx]
  decide
 rw [this];decide
theorem FM.find_cases {f:FX} (h:FM f) {q:Int} (hq:q≠0):(Tb.findS f.tb q=(0,false) /\ ∀ i (hi:i<f.fr.length),f.fr[i].1≠q) \/ ∃ i:Nat,Tb.findS f.tb q=((i:Int),true) /\AtF f q i:=by
 rcases look_cases f q with ⟨h1,_⟩|⟨_,e,_⟩|⟨i,e,_,hA⟩
 ·exact absurd (fm_iff.2 h) h1
 ·refine .inl ⟨e,fun i hi e2=>?_⟩;have hA:=atF_of h hq hi e2;rw [(find_mem h.tb).2 ⟨hA.p1,hA.mem⟩] at e
  cases e
 ·exact .inr ⟨i,e,hA⟩
theorem findF_at {f:FX} {p:Int} {i:Nat} (h:AtF f p i):findF f p=((i:Int),true):=by
 rw [findF,if_pos (fm_iff.2 h.right)];exact (find_mem h.right.tb).2 ⟨h.p1,h.mem⟩
theorem findF_no {f:FX} {p:Int} (h:FM f) (hn:∀ i (hi:i<f.fr.length),f.fr[i].1≠p) (hp:p≠0):findF f p=(0,false):=by
 rw [findF,if_pos (fm_iff.2 h)]
 rcases h.find_cases hp with ⟨e,_⟩|⟨i,_,hA⟩
 ·exact e
 ·exact absurd hA.fr (hn i hA.hi)
theorem room_cases {f:FX} (h:FM f):(∃ i,∃ hi:i<f.fr.length,f.fr[i].1=0/\roomS f=(f,noPg,false,0)) \/
  ((∀ i (hi:i<f.fr.length),f.fr[i].1≠0) /\ (∀ i (hi:i<f.fr.length),f.fr[i].2.1≠0) /\roomS f=(f,noPg,false,6)) \/
  ((∀ i (hi:i<f.fr.length),f.fr[i].1≠0) /\ ∃ (l:List Fr) (a:Nat) (p:Int) (hA:AtF f p a),Swp f.fr f.hand.toNat l a/\AtF (swept f (l,a)) p a/\ (f.fr[a]'hA.hi).2.1=0/\
   roomS f=if (Dt.sinceG f.dt p).2=true then (swept f (l,a),f.pg[a]'hA.hp,true,0) else (relS (swept f (l,a)) a p,f.pg[a]'hA.hp,false,0)):=by
 have hF:=fm_iff.2 h
 rcases freeT_cases f.fr with ⟨e,hno⟩|⟨i,e,hi,hz⟩
 rotate_left
 ·exact .inl ⟨i,hi,hz,by rw [roomS,if_neg (by simpa using hF),if_pos (by rw [e])]⟩
 refine .inr ?_
 rcases swpG_cases h.ck with ⟨eq,hlo⟩|⟨⟨l,a⟩,eq,hs⟩
 ·exact .inl ⟨hno,fun i hi=>looseAt_no hlo i hi,by rw [roomS,if_neg (by simpa using hF),if_neg (by rw [e];simp),eq]⟩
 refine .inr ⟨hno,l,a,?_⟩;obtain ⟨o1,o2,o3,o4,o5⟩:=hs.out;have hA:=atF_of h (hno a o2) o2 rfl;have hM:=h.swp (q:=(l,a)) hs;have hA2:AtF (swept f (l,a)) f.fr[a].1 a:=atF_of hM (hno a o2) (by show a<l.length;exact o4) (o3 a o2 o4).1;refine ⟨f.fr[a].1,hA,hs,hA2,by rw [<-(o3 a o2 o4).2];exact o5,?_⟩;have hip:=hA.hp;rw [roomS,if_neg (by simpa using hF),if_neg (by rw [e];simp),eq];simp only [atP_eq hip];rw [hA.pg]
structure Act where
 kind:Int
 id:Int
 now:Int
 body:ByteArray
 p:Pg
def PinsL (l:List Fr) (w:Nat->Int):Prop:=∀ q:Nat,1<=q->q<=16->(∃ i,∃ hi:i<l.length,l[i].1=(q:Int) /\w q=l[i].2.1) \/ ((∀ i (hi:i<l.length),l[i].1≠(q:Int)) /\w q=0)
theorem PinsL.set {l:List Fr} {w w':Nat->Int} {i:Nat} {x:Fr} (h:PinsL l w) (hi:i<l.length) (hu:∀ j (hj:j<l.length),l[j].1≠0->l[j].1=l[i].1->j=i)
  (h':∀ q:Nat,1<=q->q<=16->(x.1=(q:Int)->w' q=x.2.1) /\ (x.1≠(q:Int)->l[i].1=(q:Int)->w' q=0) /\ (x.1≠(q:Int)->l[i].1≠(q:Int)->w' q=w q)):PinsL (l.set i x) w':=by
 intro q h1 h16;obtain ⟨a1,a2,a3⟩:=h' q h1 h16
 have hat:∀ j (hj:j<(l.set i x).length),(l.set i x)[j]=if i=j then x else l[j]'(by simpa using hj):=fun j hj=>by rw [List.getElem_set]
 by_cases e1:x.1=(q:Int)
 ·exact .inl ⟨i,by simpa using hi,by rw [hat,if_pos rfl];exact e1,by rw [hat,if_pos rfl];exact a1 e1⟩
 by_cases e2:l[i].1=(q:Int)
 ·refine .inr ⟨fun j hj e=>?_,a2 e1 e2⟩;rw [hat] at e
  by_cases e3:i=j
  ·rw [if_pos e3] at e;exact e1 e
  ·rw [if_neg e3] at e;exact e3 (hu j (by simpa using hj) (by rw [e];omega) (by rw [e,e2])).symm
 rcases h q h1 h16 with ⟨j,hj,e3,e4⟩|⟨e3,e4⟩
 ·have hne:i≠j:=fun e=>e2 (by subst e;exact e3)
  refine .inl ⟨j,by simpa using hj,?_,?_⟩
  ·rw [hat,if_neg hne];exact e3
  ·rw [hat,if_neg hne,a3 e1 e2];exact e4
 ·refine .inr ⟨fun j hj e=>?_,by rw [a3 e1 e2];exact e4⟩;rw [hat] at e
  by_cases e5:i=j
  ·rw [if_pos e5] at e;exact e1 e
  ·rw [if_neg e5] at e;exact e3 j (by simpa using hj) e
theorem PinsL.same {l l':List Fr} {w:Nat->Int} (h:PinsL l w) (hl:l'.length=l.length) (hs:∀ i (hi:i<l.length) (hi2:i<l'.length),l'[i].1=l[i].1/\l'[i].2.1=l[i].2.1):PinsL l' w:=by
 intro q h1 h16
 rcases h q h1 h16 with ⟨j,hj,e3,e4⟩|⟨e3,e4⟩
 ·have:=hs j hj (by omega);exact .inl ⟨j,by omega,by rw [this.1];exact e3,by rw [this.2];exact e4⟩
 ·exact .inr ⟨fun j hj=>by rw [(hs j (by omega) hj).1];exact e3 j (by omega),e4⟩
theorem AtF.uni {f:FX} {p:Int} {i j:Nat} (h:AtF f p i) (hj:j<f.fr.length) (e:f.fr[j].1=p):j=i:=
 h.right.uni hj h.hi (by rw [e];have:=h.p1;omega) (by rw [e,h.fr])
theorem AtF.uniq {f:FX} {p:Int} {i:Nat} (h:AtF f p i):∀ j (hj:j<f.fr.length),f.fr[j].1≠0->f.fr[j].1=(f.fr[i]'h.hi).1->j=i:=fun j hj h0 e=>h.right.uni hj h.hi h0 e
theorem PinsL.at {f:FX} {w:Nat->Int} {p:Int} {i:Nat} (h:PinsL f.fr w) (hA:AtF f p i):w p.toNat=(f.fr[i]'hA.hi).2.1:=by
 have hp1:=hA.p1;have hp16:=hA.p16;have hi:=hA.hi
 rcases h p.toNat (by omega) (by omega) with ⟨j,hj,e1,e2⟩|⟨e1,_⟩
 ·have e1:f.fr[j].1=p:=by rw [e1];omega
  have:=hA.uni hj e1;subst this;exact e2
 ·exact absurd (hA.fr.trans (by omega:p=((p.toNat:Nat):Int))) (e1 i hA.hi)
def setW (w:Nat->Int) (p v:Int):Nat->Int:=fun q=>if q=p.toNat then v else w q
def nextW (w:Nat->Int) (a:Act) (e:Int):Nat->Int:=
 if e≠0 then w else if a.kind=1 then setW w a.id (w a.id.toNat+1) else if a.kind=2 then setW w a.id (w a.id.toNat-1) else if a.kind=6 then setW w a.p.1 1 else w
theorem setW_at {w:Nat->Int} {p v:Int} {q:Nat} (h:p=(q:Int)):setW w p v q=v:=if_pos (by omega)
theorem setW_ne {w:Nat->Int} {p v:Int} {q:Nat} (hp:0<=p) (h:p≠(q:Int)):setW w p v q=w q:=if_neg (by omega)
structure Kept (f:FX) (w:Nat->Int) (a:Act) (r:FX×Int):Prop where
 fm:FM r.1
 pins:PinsL r.1.fr (nextW w a r.2)
 id:r.2=0->a.kind=1\/a.kind=2->1<=a.id/\a.id<=16/\0<=w a.id.toNat/\w a.id.toNat<=2147483647
 pg:r.2=0->a.kind=6->1<=a.p.1/\a.p.1<=16
theorem Kept.none {f:FX} {w:Nat->Int} {a:Act} {e:Int} (h:FM f) (hw:PinsL f.fr w) (he:e≠0):Kept f w a (f,e):=by
 refine ⟨h,?_,fun h=>absurd h he,fun h=>absurd h he⟩;show PinsL f.fr (nextW w a e)
 rw [nextW,if_pos he];exact hw
theorem Kept.pin {f:FX} {w:Nat->Int} {a:Act} (h:FM f) (hw:PinsL f.fr w) (hk:a.kind=1):Kept f w a (pinS f a.id):=by
 rcases look_split f a.id with e|⟨i,e,hA⟩
 ·rw [pinS,if_pos e];exact .none h hw e
 have hi:=hA.hi;have hp1:=hA.p1;have hfr:=frOk_out.1 (h.ck.all i hi);have hwa:=hw.at hA;rw [pinS,if_neg (by rw [e];simp),e,Int.toNat_natCast,atF_eq hi]
 by_cases g:2147483647<=f.fr[i].2.1
 ·rw [if_pos g];exact .none h hw (by decide)
 rw [if_neg g];refine ⟨FM.pins hA (frOk_out.2 ?_) hA.fr,?_,fun _ _=>⟨hA.p1,hA.p16,by omega,by omega⟩,fun _ h6=>by omega⟩
 ·show 0<=f.fr[i].1/\f.fr[i].1<=16/\0<=f.fr[i].2.1+1/\f.fr[i].2.1+1<=2147483647;omega
 ·show PinsL (f.fr.set i (upPin f.fr[i])) (nextW w a 0);rw [nextW,if_neg (by decide),if_pos hk]
  refine hw.set hi hA.uniq fun q h1 h16=>⟨fun e=>?_,fun e e2=>absurd e2 e,fun e e2=>?_⟩
  ·have e:f.fr[i].1=(q:Int):=e
   rw [setW_at (by rw [<-hA.fr];exact e),hwa];rfl
  ·rw [setW_ne (by omega) (by rw [<-hA.fr];exact e2)]
theorem Kept.unpin {f:FX} {w:Nat->Int} {a:Act} (h:FM f) (hw:PinsL f.fr w) (hk:a.kind=2):Kept f w a (unpinS f a.id):=by
 rcases look_split f a.id with e|⟨i,e,hA⟩
 ·rw [unpinS,if_pos e];exact .none h hw e
 have hi:=hA.hi;have hp1:=hA.p1;have hfr:=frOk_out.1 (h.ck.all i hi);have hwa:=hw.at hA;rw [unpinS,if_neg (by rw [e];simp),e,Int.toNat_natCast,atF_eq hi]
 by_cases g:f.fr[i].2.1=0
 ·rw [if_pos g];exact .none h hw (by decide)
 rw [if_neg g];refine ⟨FM.pins hA (frOk_out.2 ?_) hA.fr,?_,fun _ _=>⟨hA.p1,hA.p16,by omega,by omega⟩,fun _ h6=>by omega⟩
 ·show 0<=f.fr[i].1/\f.fr[i].1<=16/\0<=f.fr[i].2.1-1/\f.fr[i].2.1-1<=2147483647;omega
 ·show PinsL (f.fr.set i (downPin f.fr[i])) (nextW w a 0);rw [nextW,if_neg (by decide),if_neg (by omega),if_pos hk]
  refine hw.set hi hA.uniq fun q h1 h16=>⟨fun e=>?_,fun e e2=>absurd e2 e,fun e e2=>?_⟩
  ·have e:f.fr[i].1=(q:Int):=e
   rw [setW_at (by rw [<-hA.fr];exact e),hwa];rfl
  ·rw [setW_ne (by omega) (by rw [<-hA.fr];exact e2)]
theorem Kept.write {f:FX} {w:Nat->Int} {a:Act} (h:FM f) (hw:PinsL f.fr w) (hk:a.kind=3):Kept f w a (writeS f a.id a.body a.now):=by
 rcases look_split f a.id with e|⟨i,e,hA⟩
 ·rw [writeS,if_pos e];exact .none h hw e
 have hi:=hA.hi;have hip:=hA.hp;have hpr:=pgR_out.1 hA.pgr;rw [writeS,if_neg (by rw [e];simp),e,Int.toNat_natCast,atF_eq hi,atP_eq hip]
 by_cases g:f.fr[i].2.1=0
 ·rw [if_pos g];exact .none h hw (by decide)
 rw [if_neg g]
 by_cases g:16<a.body.size
 ·rw [if_pos g];exact .none h hw (by decide)
 rw [if_neg g]
 by_cases g:2147483647<=f.pg[i].2.1
 ·rw [if_pos g];exact .none h hw (by decide)
 rw [if_neg g]
 by_cases g:(Dt.markG f.dt a.id a.now).2≠0
 ·rw [if_pos g];exact .none h hw g
 rw [if_neg g];obtain ⟨m1,m2,_⟩:=mark_cases (show (Dt.markG f.dt a.id a.now).2=0 by simpa using g);refine ⟨FM.wrote hA (pgR_out.2 ?_) hA.pg m1 m2,?_,fun _ h6=>by omega,fun _ h6=>by omega⟩
 ·show 1<=f.pg[i].1/\f.pg[i].1<=16/\1<=f.pg[i].2.1+1/\f.pg[i].2.1+1<=2147483647/\a.body.size<=16;omega
 ·show PinsL f.fr (nextW w a 0)
  rw [nextW,if_neg (by decide),if_neg (by omega),if_neg (by omega),if_neg (by omega)];exact hw
theorem PinsL.rel {f:FX} {w:Nat->Int} {p:Int} {i:Nat} (hw:PinsL f.fr w) (hA:AtF f p i) (h0:(f.fr[i]'hA.hi).2.1=0):PinsL (relS f i p).fr w:=by
 have hi:=hA.hi;have hwa:=hw.at hA;have hp1:=hA.p1;show PinsL (f.fr.set i (0,0,false)) w
 refine hw.set hi hA.uniq fun q h1 h16=>⟨fun e=>?_,fun e e2=>?_,fun _ _=>rfl⟩
 ·have e:(0:Int)=(q:Int):=e;omega
 ·have:p.toNat=q:=by rw [<-hA.fr,e2];exact Int.toNat_natCast q
  rw [this] at hwa;rw [hwa,h0]
theorem Kept.drop {f:FX} {w:Nat->Int} {a:Act} (h:FM f) (hw:PinsL f.fr w) (hk:a.kind=5):Kept f w a (dropS f a.id):=by
 rcases look_split f a.id with e|⟨i,e,hA⟩
 ·rw [dropS,if_pos e];exact .none h hw e
 have hi:=hA.hi;have hfr:=frOk_out.1 (h.ck.all i hi);rw [dropS,if_neg (by rw [e];simp),e,Int.toNat_natCast,atF_eq hi]
 by_cases g:0<f.fr[i].2.1
 ·rw [if_pos g];exact .none h hw (by decide)
 rw [if_neg g];refine ⟨FM.rel hA,?_,fun _ h6=>by omega,fun _ h6=>by omega⟩;show PinsL (relS f i a.id).fr (nextW w a 0)
 rw [nextW,if_neg (by decide),if_neg (by omega),if_neg (by omega),if_neg (by omega)];exact hw.rel hA (by omega)
theorem load_cases (f:FX) (p:Pg) (now:Int) (fresh:Bool):((loadS f p now fresh).1=f/\ (loadS f p now fresh).2≠0) \/
  ∃ (i:Nat) (hi:i<f.fr.length) (l:List (Int×Int)),f.fr[i].1=0/\pgR p=true/\FM f/\freeT f.fr=((i:Int),true) /\Tb.findS f.tb p.1=(0,false) /\loadS f p now fresh=({inS f p i with dt:=l},0) /\FM {inS f p i with dt:=l} /\AtF {inS f p i with dt:=l} p.1 i/\
   (fresh=false->l=f.dt) /\ (fresh=true->l=(Dt.markG f.dt p.1 now).1):=by
 unfold loadS
 by_cases hb:bad f p now
 ·rw [if_pos hb];exact .inl ⟨rfl,show (1:Int)≠0 by decide⟩
 rw [if_neg hb]
 have hR:FRight f:=Classical.byContradiction fun h=>hb (.inl h)
 have hM:=fm_iff.1 hR
 have hP:pgR p=true:=by
  cases e:pgR p with
  |true=>rfl
  |false=>exact absurd (.inr (.inl e)) hb
 by_cases hf:(Tb.findS f.tb p.1).2=true
 ·rw [if_pos hf];exact .inl ⟨rfl,show (4:Int)≠0 by decide⟩
 rw [if_neg hf];have hff:=find_false (p:=p.1) (l:=f.tb) (by simpa using hf)
 rcases freeT_cases f.fr with ⟨e,hno⟩|⟨i,e,hi,hz⟩
 ·rw [if_pos (by rw [e])];exact .inl ⟨rfl,show (7:Int)≠0 by decide⟩
 rw [if_neg (by rw [e];simp),e,Int.toNat_natCast];obtain ⟨l',t1,_⟩:=in_tb hM (pgR_out.1 hP).1 (pgR_out.1 hP).2.1 hi hff;rw [if_neg (by rw [t1];simp)]
 cases fresh with
 |false=>
  rw [if_neg (by decide)]
  obtain ⟨m1,m2⟩:=hM.loaded hP hi hz hff hM.dt fun y hy=>.inl hy
  exact .inr ⟨i,hi,f.dt,hz,hP,hM,rfl,hff,rfl,m1,m2,fun _=>rfl,fun h=>by cases h⟩
 |true=>
  rw [if_pos rfl]
  by_cases g:(Dt.markG f.dt p.1 now).2≠0
  ·rw [if_pos g];exact .inl ⟨rfl,g⟩
  rw [if_neg g];obtain ⟨k1,k2,_⟩:=mark_cases (show (Dt.markG f.dt p.1 now).2=0 by simpa using g);obtain ⟨m1,m2⟩:=hM.loaded hP hi hz hff k1 k2;exact .inr ⟨i,hi,_,hz,hP,hM,rfl,hff,rfl,m1,m2,(fun h=>by cases h),fun _=>rfl⟩
theorem Kept.load {f:FX} {w:Nat->Int} {a:Act} (b:Bool) (h:FM f) (hw:PinsL f.fr w) (hk:a.kind=6):Kept f w a (loadS f a.p a.now b):=by
 rcases load_cases f a.p a.now b with ⟨e1,e2⟩|⟨i,hi,l,hz,hP,_,_,hff,e,m1,m2,_⟩
 ·have:=Kept.none (a:=a) h hw e2;rw [<-e1] at this;rw [e1] at this;exact (Prod.ext e1 rfl:loadS f a.p a.now b=(f,(loadS f a.p a.now b).2))▸this
 rw [e];have hp1:=m2.p1;refine ⟨m1,?_,fun _ h6=>by omega,fun _ _=>⟨m2.p1,m2.p16⟩⟩;show PinsL (f.fr.set i (a.p.1,1,true)) (nextW w a 0);rw [nextW,if_neg (by decide),if_neg (by omega),if_neg (by omega),if_pos hk]
 refine hw.set hi (fun j hj h0 e=>by rw [hz] at e;exact absurd e h0) fun q h1 h16=>⟨fun e=>?_,fun _ e2=>?_,fun e _=>?_⟩
 ·exact setW_at e
 ·rw [hz] at e2;omega
 ·exact setW_ne (by omega) e
end Go.Lk
