/-
  What is proved here: what functions of the program compute, and what follows; no condition beyond each theorem's own.
-/
import Derived.Test.YtaofmndhdmkgkaaGreatGAn
set_option linter.unusedSimpArgs false
set_option linter.unusedVariables false
set_option linter.unnecessarySimpa false
set_option linter.unusedSectionVars false
namespace Go.Lk.Hy
open Go Go.Proofs Go.RowKit Go.Lk Go.Lk.St
abbrev Pg:=Int×Int×ByteArray
def encP (x:Pg):List D:=[.int .i64 x.1,.int .i64 x.2.1,.str x.2.2]
theorem encP_ok:∀ (l:List Pg),okRows 3 (l.map encP)=true
 | []=>rfl
 |_::r=>encP_ok r
def pgR (x:Pg):Bool:=decide (1<=x.1)&&(decide (x.1<=16)&&(decide (1<=x.2.1)&&(decide (x.2.1<=2147483647)&&decide (x.2.2.size<=16))))
theorem pgR_out {x:Pg}:pgR x=true↔1<=x.1/\x.1<=16/\1<=x.2.1/\x.2.1<=2147483647/\x.2.2.size<=16:=by simp [pgR]
theorem pageRight_ok (x:Pg):zAj Tryz.prog 119 [.agg (encP x)] (.bool (pgR x)):=by
 refine zAe Tryz.func119 1 rfl (by kernel_rfl) (aW ?_)
 refine bcase_p (fun h1=>?_) (fun h1=>?_)<;>conv=>whnf
 ·exact ret_of rfl (congrArg D.bool (by simp [pgR];omega))
 refine aA ?_
 refine bcase_p (fun h2=>?_) (fun h2=>?_)<;>conv=>whnf
 ·exact ret_of rfl (congrArg D.bool (by simp [pgR];omega))
 refine aA ?_
 refine bcase_p (fun h3=>?_) (fun h3=>?_)<;>conv=>whnf
 ·exact ret_of rfl (congrArg D.bool (by simp [pgR];omega))
 refine aA ?_
 refine bcase_p (fun h4=>?_) (fun h4=>?_)<;>conv=>whnf
 ·exact ret_of rfl (congrArg D.bool (by simp [pgR];omega))
 refine aA ?_
 exact ret_of rfl (congrArg D.bool (by
  have e1:decide (1<=x.1)=true:=by simp;omega
  have e2:decide (x.1<=16)=true:=by simp;omega
  have e3:decide (1<=x.2.1)=true:=by simp;omega
  have e4:decide (x.2.1<=2147483647)=true:=by simp;omega
  rw [pgR,e1,e2,e3,e4];simp;omega))
theorem cloneP_ok (l:List Pg) (hl:l.length<=1000000):zDt Tryz.prog 61 [.lst (l.map encP)] (l.map encP) 3:=by
 refine zBk Tryz.func61 1 rfl (by kernel_rfl) (w0 ?_);refine zDn (w0 ?_);intro r hr
 conv=>whnf
 refine zAf (fun h=>?_) (fun h=>?_)<;>conv=>whnf
 ·have:=hr h;exact ⟨2,rfl,.inr ⟨rfl,this⟩⟩
 ·refine aA ?_;refine zAh (encP_ok l) (w0 ?_);refine zAk 1000100 100 (by show 0+List.length _<=1000100;simp;omega) (by decide) (by decide) (by decide) (w0 ?_);exact ⟨2,rfl,.inl ⟨5,rfl,rfl⟩⟩
theorem z4l (l:List Ev) (hl:l.length<=1000000):zDt Tryz.prog 75 [.lst (l.map encE)] (l.map encE) 11:=by
 refine zBk Tryz.func75 1 rfl (by kernel_rfl) (w0 ?_);refine zDn (w0 ?_);intro r hr
 conv=>whnf
 refine zAf (fun h=>?_) (fun h=>?_)<;>conv=>whnf
 ·have:=hr h;exact ⟨2,rfl,.inr ⟨rfl,this⟩⟩
 ·refine aA ?_;refine zAh (yKi l) (w0 ?_);refine zAk 1000100 1000 (by show 0+List.length _<=1000100;simp;omega) (by decide) (by decide) (by decide) (w0 ?_);exact ⟨2,rfl,.inl ⟨5,rfl,rfl⟩⟩
theorem sort_ok (l:List Ev) (hl:l.length<=1000000):zDt Tryz.prog 77 [.lst (l.map encE)] ((srt leD l).map encE) 11:=by
 refine zBk Tryz.func77 1 rfl (by kernel_rfl) (w0 ?_);refine zAn (z4l l hl) (aW ?_);refine zAu (zQi 134 leD cmpD l hl) [(1000000,5)] rfl ⟨rfl,trivial⟩ rfl (aW ?_);exact ⟨2,rfl,.inl ⟨5,rfl,rfl⟩⟩
structure MRight (l:List Pg):Prop where
 one:∀ x∈l,pgR x=true
 rise:∀ i,(hi:i+1<l.length)->l[i].1<l[i+1].1
open Classical in
noncomputable def mapB (l:List Pg):Bool:=decide (MRight l)
theorem mapB_t {l:List Pg}:mapB l=true↔MRight l:=by simp [mapB]
theorem yTz {l:List Pg}:mapB l=false↔¬MRight l:=by simp [mapB]
structure yGa (l:List Pg) (k:Nat):Prop where
 le:k<=l.length
 one:∀ i,i<k->(hi:i<l.length)->pgR l[i]=true
 rise:∀ i,i+1<k->(hi:i+1<l.length)->l[i].1<l[i+1].1
theorem yUb (l:List Pg):yGa l 0:=⟨by omega,by omega,by omega⟩
theorem z6d {l:List Pg} {k:Nat} (h:yGa l k) (hk:¬k<l.length):mapB l=true:=by
 have hk:k=l.length:=by have:=h.le;omega
 subst hk;refine mapB_t.2 ⟨fun x hx=>?_,fun i hi=>h.rise i hi hi⟩;obtain ⟨i,hi,rfl⟩:=List.mem_iff_getElem.1 hx;exact h.one i hi hi
theorem zMw {l:List Pg} {k:Nat} (h:yGa l k) (hk:k<l.length) (h1:pgR l[k]=true) (h2:∀ i,i+1=k->(hi:i<l.length)->l[i].1<l[k].1):yGa l (k+1):=by
 refine ⟨by omega,fun i hi hi2=>?_,fun i hi hi2=>?_⟩
 ·by_cases e:i=k
  ·subst e;exact h1
  ·exact h.one i (by omega) hi2
 ·by_cases e:i+1=k
  ·subst e;exact h2 i rfl (by omega)
  ·exact h.rise i (by omega) hi2
theorem yMc {l:List Pg} {k:Nat} (hk:k<l.length) (h1:pgR l[k]=false):mapB l=false:=yTz.2 fun h=>by
 have:=h.one l[k] (List.getElem_mem hk)
 rw [h1] at this;cases this
theorem map_no2 {l:List Pg} {i:Nat} (hi:i+1<l.length) (h:l[i+1].1<=l[i].1):mapB l=false:=yTz.2 fun hM=>by
 have:=hM.rise i hi;omega
theorem opsRight_ok (l:List Pg) (hl:l.length<=1000000):zAj Tryz.prog 68 [.agg [.lst (l.map encP)]] (.bool (mapB l)):=by
 refine zAe Tryz.func68 1 rfl (by kernel_rfl) (aW ?_)
 have hm:(l.map encP).length=l.length:=List.length_map ..
 refine zAq (ι:=Nat) (fun k=>[(1,.ptr 1 0 0),(6,.d (.lst (l.map encP))),(7,.d (.int .i64 (l.map encP).length)),(8,.d (.int .i64 k))]) (fun _=>[(1,.box [.d (.lst (l.map encP))] false)])
  (fun k=>yGa l k) (fun k=>l.length-k) 0 (yUb l) (le0 (zAb ⟨rfl,rfl,rfl,rfl,trivial⟩ ⟨rfl,trivial⟩ ⟨rfl,rfl,rfl,rfl⟩)) ?_
 intro k hk
 conv=>whnf
 refine bcase_p (fun h5=>?_) (fun h5=>?_)<;>conv=>whnf
 ·have hk2:k<l.length:=by omega
  refine zAd (by omega) (w0 ?_);refine zAc (x:=encP l[k]) (by simp [hk2]) (aW ?_);refine zAa (pageRight_ok l[k]) (aW ?_)
  refine zAf (fun g1=>?_) (fun g1=>?_)<;>conv=>whnf
  ·exact ret_of rfl (congrArg D.bool (yMc hk2 (by simpa using g1)).symm)
  have g1:pgR l[k]=true:=by simpa using g1
  refine aA ?_
  refine bcase_p (fun g2=>?_) (fun g2=>?_)<;>conv=>whnf
  ·obtain ⟨j,rfl⟩:∃ j,k=j+1:=⟨k-1,by omega⟩
   have ej:(((j+1:Nat):Int))-1=((j:Nat):Int):=by omega
   refine aA ?_;rw [ej];refine zAd (by omega) (w0 ?_);refine zAc (x:=encP l[j]) (by simp [(show j<l.length by omega)]) (aW ?_)
   refine bcase_p (fun g3=>?_) (fun g3=>?_)<;>conv=>whnf
   ·exact ret_of rfl (congrArg D.bool (map_no2 hk2 g3).symm)
   ·refine aA ?_
    exact ⟨j+2,zMw hk hk2 g1 fun i hi hi2=>by
     obtain rfl:i=j:=by omega
     omega,by omega,(le0 (zAb ⟨rfl,rfl,rfl,rfl,trivial⟩ ⟨rfl,trivial⟩ ⟨rfl,rfl,rfl,rfl⟩))⟩
  ·refine aA ?_;exact ⟨k+1,zMw hk hk2 g1 fun i hi hi2=>by omega,by omega,(le0 (zAb ⟨rfl,rfl,rfl,rfl,trivial⟩ ⟨rfl,trivial⟩ ⟨rfl,rfl,rfl,rfl⟩))⟩
 ·refine aA ?_;exact ret_of rfl (congrArg D.bool (z6d hk (by omega)).symm)
def plN (l:List Pg) (id:Int):Nat:=l.findIdx fun p=>decide (id<=p.1)
def plB (l:List Pg) (id:Int):Bool:=match l[plN l id]? with|some p=>decide (p.1=id)|none=>false
theorem yUm (l:List Pg) (id:Int):plN l id<=l.length:=List.findIdx_le_length
theorem plN_at {l:List Pg} {id:Int} {k:Nat} (hk:k<l.length) (h1:id<=l[k].1) (h:∀ i,i<k->(hi:i<l.length)->l[i].1<id):plN l id=k:=by
 unfold plN;rw [List.findIdx_eq hk];refine ⟨by simpa using h1,fun j hj=>?_⟩;have:=h j hj (by omega)
 simp;omega
theorem yY {l:List Pg} {id:Int} (h:∀ i,i<l.length->(hi:i<l.length)->l[i].1<id):plN l id=l.length:=by
 unfold plN;rw [List.findIdx_eq_length];intro x hx;obtain ⟨i,hi,rfl⟩:=List.mem_iff_getElem.1 hx;have:=h i hi hi
 simp;omega
theorem place_ok (l:List Pg) (id:Int) (hl:l.length<=1000000):zAj Tryz.prog 69 [.agg [.lst (l.map encP)],.int .i64 id] (.tup [.int .i64 (plN l id),.bool (plB l id)]):=by
 refine zAe Tryz.func69 2 rfl (by kernel_rfl) (aW ?_)
 have hm:(l.map encP).length=l.length:=List.length_map ..
 refine zAq (ι:=Nat) (fun k=>[(1,.d (.int .i64 id)),(2,.ptr 2 0 0),(9,.d (.lst (l.map encP))),(10,.d (.int .i64 (l.map encP).length)),(11,.d (.int .i64 k))]) (fun _=>[(2,.box [.d (.lst (l.map encP))] false)])
  (fun k=>k<=l.length/\ ∀ i,i<k->(hi:i<l.length)->l[i].1<id) (fun k=>l.length-k) 0 ⟨by omega,by omega⟩ (le0 (zAb ⟨rfl,rfl,rfl,rfl,rfl,trivial⟩ ⟨rfl,trivial⟩ ⟨rfl,rfl,rfl,rfl⟩)) ?_
 rintro k ⟨hk,hR⟩
 conv=>whnf
 refine bcase_p (fun h5=>?_) (fun h5=>?_)<;>conv=>whnf
 ·have hk2:k<l.length:=by omega
  refine zAd (by omega) (w0 ?_);refine zAc (x:=encP l[k]) (by simp [hk2]) (aW ?_)
  refine bcase_p (fun g=>?_) (fun g=>?_)<;>conv=>whnf
  ·refine aA ?_;have e:plN l id=k:=plN_at hk2 g hR
   have e2:plB l id=decide (l[k].1=id):=by simp [plB,e,hk2]
   rw [e2,e];exact ret_of rfl rfl
  ·refine aA ?_
   exact ⟨k+1,⟨by omega,fun i hi hi2=>by
    by_cases q:i=k
    ·subst q;omega
    ·exact hR i (by omega) hi2⟩,by omega,(le0 (zAb ⟨rfl,rfl,rfl,rfl,rfl,trivial⟩ ⟨rfl,trivial⟩ ⟨rfl,rfl,rfl,rfl⟩))⟩
 ·refine aA ?_
  have e:plN l id=l.length:=yY fun i hi hi2=>hR i (by omega) hi2
  have e2:plB l id=false:=by simp [plB,e]
  rw [e2,e,<-hm];exact ret_of rfl rfl
abbrev Op:=Int×Int×ByteArray
def encO (o:Op):List D:=[.int .i64 o.1,.int .i64 o.2.1,.str o.2.2]
abbrev Res:=Int×Pg
def zP:Pg:=(0,0,ByteArray.empty)
def encR (r:Res):List D:=[.int .i64 r.1,.int .i64 r.2.1,.int .i64 r.2.2.1,.str r.2.2.2]
noncomputable def doM (l:List Pg) (o:Op):List Pg×Res:=
 if mapB l=false\/o.1<1\/4<o.1\/o.2.1<1\/16<o.2.1 then (l,(1,zP)) else
 if o.1=1 then (if plB l o.2.1=true then (l,(4,zP)) else (l.take (plN l o.2.1)++(o.2.1,1,ByteArray.empty)::l.drop (plN l o.2.1),(0,(o.2.1,1,ByteArray.empty)))) else
 if plB l o.2.1=false then (l,(3,zP)) else
 match l[plN l o.2.1]? with
 |none=>(l,(0,zP))
 |some p=>if o.1=2 then (l,(0,p)) else
  if o.1=4 then (l.take (plN l o.2.1)++l.drop (plN l o.2.1+1),(0,zP)) else
  if 16<o.2.2.size then (l,(5,zP)) else
  if 2147483647<=p.2.1 then (l,(7,zP)) else (l.set (plN l o.2.1) (p.1,p.2.1+1,o.2.2),(0,(p.1,p.2.1+1,o.2.2)))
theorem opsDo_ok (l:List Pg) (o:Op) (hl:l.length<=1000):zAj Tryz.prog 78 [.agg [.lst (l.map encP)],.agg (encO o)] (.tup [.agg [.lst ((doM l o).1.map encP)],.agg (encR (doM l o).2)]):=by
 refine zAe Tryz.func78 2 rfl (by kernel_rfl) (aW ?_);refine zAa (opsRight_ok l (by omega)) (aW ?_)
 refine zAf (fun g0=>?_) (fun g0=>?_)<;>conv=>whnf
 ·refine aA ?_;have e:doM l o=(l,(1,zP)):=if_pos (.inl (by simpa using g0));rw [e];exact ret_of rfl rfl
 have g0:mapB l=true:=by simpa using g0
 refine aA ?_
 refine bcase_p (fun g1=>?_) (fun g1=>?_)<;>conv=>whnf
 ·refine aA ?_;have e:doM l o=(l,(1,zP)):=if_pos (.inr (.inl g1));rw [e];exact ret_of rfl rfl
 refine aA ?_
 refine bcase_p (fun g2=>?_) (fun g2=>?_)<;>conv=>whnf
 ·refine aA ?_;have e:doM l o=(l,(1,zP)):=if_pos (.inr (.inr (.inl g2)));rw [e];exact ret_of rfl rfl
 refine aA ?_
 refine bcase_p (fun g3=>?_) (fun g3=>?_)<;>conv=>whnf
 ·refine aA ?_;have e:doM l o=(l,(1,zP)):=if_pos (.inr (.inr (.inr (.inl g3))));rw [e];exact ret_of rfl rfl
 refine aA ?_
 refine bcase_p (fun g4=>?_) (fun g4=>?_)<;>conv=>whnf
 ·refine aA ?_;have e:doM l o=(l,(1,zP)):=if_pos (.inr (.inr (.inr (.inr g4))));rw [e];exact ret_of rfl rfl
 have e0:¬(mapB l=false\/o.1<1\/4<o.1\/o.2.1<1\/16<o.2.1):=by rw [g0];simp;omega
 refine aA ?_;refine zAa (place_ok l o.2.1 (by omega)) (aW ?_)
 refine bcase_p (fun k1=>?_) (fun k1=>?_)<;>conv=>whnf
 ·refine aA ?_
  refine zAf (fun b1=>?_) (fun b1=>?_)<;>conv=>whnf
  ·refine aA ?_
   have e:doM l o=(l,(4,zP)):=by rw [doM,if_neg e0,if_pos k1,if_pos b1]
   rw [e];exact ret_of rfl rfl
  refine aA ?_;refine zAn (cloneP_ok l (by omega)) (aW ?_)
  have hm:(l.map encP).length=l.length:=List.length_map ..
  refine zFa (yLo (l:=l.map encP) (vs:=[encP (o.2.1,1,ByteArray.empty)]) (i:=plN l o.2.1) (by rw [hm];exact yUm l o.2.1) (by omega) (Nat.lt_succ_self 0) (by simp) (encP_ok l) rfl) [(1000000,57)] rfl ⟨rfl,rfl,trivial⟩ rfl (aW ?_)
  have e:doM l o=(l.take (plN l o.2.1)++(o.2.1,1,ByteArray.empty)::l.drop (plN l o.2.1),(0,(o.2.1,1,ByteArray.empty))):=by rw [doM,if_neg e0,if_pos k1,if_neg (by rw [b1];decide)]
  rw [e]
  have e2:(l.take (plN l o.2.1)++(o.2.1,1,ByteArray.empty)::l.drop (plN l o.2.1)).map encP=(l.map encP).take (plN l o.2.1)++([encP (o.2.1,1,ByteArray.empty)]++(l.map encP).drop (plN l o.2.1)):=by simp [List.map_take,List.map_drop]
  show _=_;rw [e2];exact ret_of rfl rfl
 refine aA ?_
 refine zAf (fun b1=>?_) (fun b1=>?_)<;>conv=>whnf
 ·refine aA ?_
  have e:doM l o=(l,(3,zP)):=by rw [doM,if_neg e0,if_neg k1,if_pos (by simpa using b1)]
  rw [e];exact ret_of rfl rfl
 have b1:plB l o.2.1=true:=by simpa using b1
 obtain ⟨n,hn⟩:∃ n,plN l o.2.1=n:=⟨_,rfl⟩;rw [hn]
 have hm:(l.map encP).length=l.length:=List.length_map ..
 obtain ⟨hnl,hnp⟩:∃ h:n<l.length,l[n].1=o.2.1:=by
  have hb:=b1;unfold plB at hb;rw [hn] at hb
  cases hq:l[n]? with
  |none=>rw [hq] at hb;cases hb
  |some p=>
   rw [hq] at hb;obtain ⟨h1,h2⟩:=List.getElem?_eq_some_iff.1 hq;exact ⟨h1,by rw [h2];simpa using hb⟩
 have hD:doM l o=(if o.1=2 then (l,(0,l[n])) else
  if o.1=4 then (l.take n++l.drop (n+1),(0,zP)) else
  if 16<o.2.2.size then (l,(5,zP)) else
  if 2147483647<=l[n].2.1 then (l,(7,zP)) else (l.set n (l[n].1,l[n].2.1+1,o.2.2),(0,(l[n].1,l[n].2.1+1,o.2.2)))):=by
  rw [doM,if_neg e0,if_neg k1,if_neg (by rw [b1];decide),hn,List.getElem?_eq_getElem hnl]
 rw [hD]
 clear hD
 refine aA ?_;refine zAd (by omega) (w0 ?_);refine zAc (x:=encP l[n]) (by simp [hnl]) (aW ?_)
 refine bcase_p (fun k2=>?_) (fun k2=>?_)<;>conv=>whnf
 ·rw [if_pos k2];refine aA ?_;exact ret_of rfl rfl
 rw [if_neg k2];refine aA ?_
 refine bcase_p (fun k3=>?_) (fun k3=>?_)<;>conv=>whnf
 ·rw [if_pos k3];refine aA ?_;refine zAn (cloneP_ok l (by omega)) (aW ?_);refine zFa (yKc (l:=l.map encP) (i:=n) (j:=n+1) (by omega) (by omega) (by omega) (encP_ok l)) [] rfl ⟨rfl,trivial⟩ rfl (aW ?_);rw [List.map_append,List.map_take,List.map_drop];exact ret_of rfl rfl
 rw [if_neg k3];refine aA ?_
 refine bcase_p (fun k4=>?_) (fun k4=>?_)<;>conv=>whnf
 ·rw [if_pos (show 16<o.2.2.size by omega)];refine aA ?_;exact ret_of rfl rfl
 rw [if_neg (show ¬16<o.2.2.size by omega)];refine aA ?_
 refine bcase_p (fun k5=>?_) (fun k5=>?_)<;>conv=>whnf
 ·rw [if_pos k5];refine aA ?_;exact ret_of rfl rfl
 rw [if_neg k5];have hv:=pgR_out.1 ((mapB_t.1 g0).one l[n] (List.getElem_mem hnl));refine aA ?_;refine zAn (cloneP_ok l (by omega)) (aW ?_);refine zAd (by omega) (w0 ?_);refine zAc (x:=encP l[n]) (by simp [hnl]) (aW ?_)
 have e2:(l.set n (l[n].1,l[n].2.1+1,o.2.2)).map encP=(l.map encP).set n (encP (l[n].1,l[n].2.1+1,o.2.2)):=List.map_set ..
 refine ret_of rfl ?_;show D.tup [.agg [.lst ((l.map encP).set n (encP (l[n].1,l[n].2.1+1,o.2.2)))],.agg (encR (0,(l[n].1,l[n].2.1+1,o.2.2)))]=_;rw [<-e2]
def findP (l:List Pg) (j:Nat):Option Pg:=l.find? fun p=>decide (p.1=(j:Int))
def tabOf (l:List Pg):List Pg:=(List.range 17).map fun j=>(findP l j).getD zP
theorem zAz (l:List Pg):(tabOf l).length=17:=by simp [tabOf]
theorem zMj (l:List Pg) (j:Nat) (h:j<(tabOf l).length):(tabOf l)[j]=(findP l j).getD zP:=by simp [tabOf]
def colN (xs:List Pg) (k:Nat):List Pg:=((xs.take k).drop 1).filter fun p=>!decide (p.1=0)
noncomputable def rdM (l:List Pg) (o:Op):List Pg×Res:=
 if mapB l=false\/o.1<1\/4<o.1\/o.2.1<1\/16<o.2.1 then (l,(1,zP)) else
 let p:=(findP l o.2.1.toNat).getD zP
 if o.1=1/\p.1≠0 then (l,(4,zP)) else
 if 1<o.1/\p.1=0 then (l,(3,zP)) else
 if o.1=3/\16<o.2.2.size then (l,(5,zP)) else
 if o.1=3/\p.2.1=2147483647 then (l,(7,zP)) else
 let q:Pg:=if o.1=1 then (o.2.1,1,ByteArray.empty) else if o.1=3 then (p.1,p.2.1+1,o.2.2) else if o.1=4 then zP else p
 (colN ((tabOf l).set o.2.1.toNat q) 17,(0,q))
theorem zWg {l:List Pg} (h:MRight l):∀ (j i:Nat),(hi:i<j)->(hj:j<l.length)->(l[i]'(Nat.lt_trans hi hj)).1<l[j].1
 |j+1,i,hi,hj=>by
  have h1:=h.rise j hj
  by_cases e:i=j
  ·subst e;exact h1
  ·have:=zWg h j i (by omega) (by omega);omega
theorem zJe {l:List Pg} {j:Nat} (h:∀ x∈l,x.1≠(j:Int)):findP l j=none:=by
 unfold findP;rw [List.find?_eq_none];intro x hx
 simpa using h x hx
structure MR (l:List Pg):Prop where
 pw:l.Pairwise fun a b=>a.1<b.1
 one:∀ x∈l,pgR x=true
theorem mr_iff {l:List Pg}:MRight l↔MR l:=by
 constructor
 ·intro h;refine ⟨?_,h.one⟩;rw [List.pairwise_iff_getElem];intro i j hi hj hij;exact zWg h j i hij hj
 ·intro h;refine ⟨h.one,fun i hi=>?_⟩;exact (List.pairwise_iff_getElem.1 h.pw) i (i+1) (by omega) hi (by omega)
theorem findP_iff {l:List Pg} (h:l.Pairwise fun a b=>a.1<b.1) {j:Nat} {x:Pg}:findP l j=some x↔x∈l/\x.1=(j:Int):=by
 constructor
 ·intro e;exact ⟨List.mem_of_find?_eq_some e,by have:=List.find?_some e;simpa using this⟩
 ·rintro ⟨h1,h2⟩
  cases e:findP l j with
  |none=>
   unfold findP at e;rw [List.find?_eq_none] at e;have:=e x h1;simp [h2] at this
  |some y=>
   have e1:=List.mem_of_find?_eq_some e
   have e2:y.1=(j:Int):=by have:=List.find?_some e;simpa using this
   obtain ⟨i,hi,rfl⟩:=List.mem_iff_getElem.1 h1;obtain ⟨i',hi',rfl⟩:=List.mem_iff_getElem.1 e1;rw [List.pairwise_iff_getElem] at h
   rcases Nat.lt_trichotomy i i' with q|q|q
   ·have:=h i i' hi hi' q;omega
   ·subst q;rfl
   ·have:=h i' i hi' hi q;omega
theorem fm_congr {α β:Type} {f g:α->Option β}:∀ {xs:List α},(∀ j∈xs,f j=g j)->xs.filterMap f=xs.filterMap g
 | [],_=>rfl
 |x::r,h=>by rw [List.filterMap_cons,List.filterMap_cons,h x (List.mem_cons_self ..),fm_congr fun j hj=>h j (List.mem_cons_of_mem _ hj)]
theorem coll:∀ (n a:Nat) (L:List Pg),L.Pairwise (fun a b=>a.1<b.1)->(∀ x∈L,(a:Int) <=x.1/\x.1<((a+n:Nat):Int))->(List.range' a n).filterMap (fun j=>findP L j)=L
 |0,a,L,hp,h=>by
  cases L with
  |nil=>rfl
  |cons x r=>have:=h x (List.mem_cons_self ..);omega
 |n+1,a,L,hp,h=>by
  rw [List.range'_succ,List.filterMap_cons]
  cases L with
  |nil=>
   rw [zJe (by simp)];exact coll n (a+1) [] hp (by simp)
  |cons x r=>
   rw [List.pairwise_cons] at hp
   by_cases e:x.1=(a:Int)
   ·have e1:findP (x::r) a=some x:=by simp [findP,e]
    rw [e1]
    have ih:=coll n (a+1) r hp.2 fun y hy=>by
     have h1:=hp.1 y hy;have h2:=h y (List.mem_cons_of_mem _ hy);omega
    show x::(List.range' (a+1) n).filterMap (fun j=>findP (x::r) j)=x::r;rw [fm_congr (g:=fun j=>findP r j) fun j hj=>?_,ih];rw [List.mem_range'_1] at hj
    have:decide (x.1=(j:Int))=false:=by simp;omega
    simp [findP,this]
   ·have hx:=h x (List.mem_cons_self ..)
    rw [zJe (fun y hy=>by
     cases hy with
     |head=>exact e
     |tail _ hy=>have:=hp.1 y hy;omega)]
    exact coll n (a+1) (x::r) (List.pairwise_cons.2 hp) fun y hy=>by
     have h2:=h y hy
     cases hy with
     |head=>omega
     |tail _ hy=>have:=hp.1 y hy;omega
theorem z0p {L:List Pg} (hM:MR L):colN (tabOf L) 17=L:=by
 have h1:colN (tabOf L) 17=((List.range' 1 16).map fun j=>(findP L j).getD zP).filter fun p=>!decide (p.1=0):=by
  unfold colN tabOf;rw [List.take_of_length_le (by simp),<-List.map_drop];rfl
 rw [h1]
 have h2:∀ xs:List Nat,(∀ j∈xs,1<=j)->((xs.map fun j=>(findP L j).getD zP).filter fun p=>!decide (p.1=0))=xs.filterMap fun j=>findP L j:=by
  intro xs
  induction xs with
  |nil=>intro _;rfl
  |cons j r ih=>
   intro h;have hj:=h j (List.mem_cons_self ..);rw [List.map_cons,List.filterMap_cons,List.filter_cons,ih fun i hi=>h i (List.mem_cons_of_mem _ hi)]
   cases e:findP L j with
   |none=>simp [zP]
   |some x=>
    have:=((findP_iff hM.pw).1 e).2
    have h0:¬x.1=0:=by omega
    simp [h0]
 rw [h2 _ fun j hj=>(List.mem_range'_1.1 hj).1]
 exact coll 16 1 L hM.pw fun x hx=>by
  have:=pgR_out.1 (hM.one x hx);omega
theorem z3k {l L:List Pg} {n:Nat} {q:Pg} (hn:n<17) (h:∀ j,j<17->(findP L j).getD zP=if j=n then q else (findP l j).getD zP):(tabOf l).set n q=tabOf L:=by
 apply List.ext_getElem
 ·rw [List.length_set,zAz,zAz]
 ·intro j h1 h2;rw [zAz] at h2;rw [List.getElem_set,zMj,zMj,h j h2]
  by_cases e:n=j
  ·simp [e]
  ·rw [if_neg e,if_neg (fun h=>e h.symm)]
theorem z9d {l L:List Pg} (h1:MR l) (h2:MR L) {j:Nat} (h:∀ x:Pg,x.1=(j:Int)->(x∈L↔x∈l)):findP L j=findP l j:=by
 apply Option.ext;intro x;rw [findP_iff h1.pw,findP_iff h2.pw]
 constructor
 ·rintro ⟨a,b⟩;exact ⟨(h x b).1 a,b⟩
 ·rintro ⟨a,b⟩;exact ⟨(h x b).2 a,b⟩
theorem plN_lt {l:List Pg} {id:Int} {i:Nat} (hi:i<plN l id):∃ h:i<l.length,l[i].1<id:=by
 have h:i<l.length:=Nat.lt_of_lt_of_le hi (yUm l id);refine ⟨h,?_⟩;have:=List.not_of_lt_findIdx hi
 simpa using this
theorem plN_ge {l:List Pg} {id:Int} (h:plN l id<l.length):id<=l[plN l id].1:=by
 have:=List.findIdx_getElem (w:=h);exact of_decide_eq_true this
theorem plB_t {l:List Pg} {id:Int} (h:plB l id=true):∃ hk:plN l id<l.length,l[plN l id].1=id:=by
 unfold plB at h
 cases hq:l[plN l id]? with
 |none=>rw [hq] at h;cases h
 |some p=>
  rw [hq] at h;obtain ⟨h1,h2⟩:=List.getElem?_eq_some_iff.1 hq;exact ⟨h1,by rw [h2];simpa using h⟩
theorem plB_f {l:List Pg} {id:Int} (hM:MR l) (h:plB l id=false):(∀ x∈l.take (plN l id),x.1<id) /\ (∀ x∈l.drop (plN l id),id<x.1) /\ (∀ x∈l,x.1≠id):=by
 have h1:∀ x∈l.take (plN l id),x.1<id:=by
  intro x hx;obtain ⟨i,hi,rfl⟩:=List.mem_iff_getElem.1 hx;rw [List.length_take] at hi;rw [List.getElem_take];exact (plN_lt (by omega)).2
 have h2:∀ x∈l.drop (plN l id),id<x.1:=by
  intro x hx
  by_cases hk:plN l id<l.length
  ·have e1:=plN_ge hk
   have e2:l[plN l id].1≠id:=by
    intro e;unfold plB at h;rw [List.getElem?_eq_getElem hk] at h;simp [e] at h
   rw [List.drop_eq_getElem_cons hk] at hx
   cases hx with
   |head=>omega
   |tail _ hx=>
    have hp:=hM.pw;rw [<-List.take_append_drop (plN l id) l,List.pairwise_append,List.drop_eq_getElem_cons hk,List.pairwise_cons] at hp;have:=hp.2.1.1 x hx;omega
  ·rw [List.drop_of_length_le (by omega)] at hx
   cases hx
 refine ⟨h1,h2,fun x hx=>?_⟩;rw [<-List.take_append_drop (plN l id) l,List.mem_append] at hx
 rcases hx with hx|hx
 ·have:=h1 x hx;omega
 ·have:=h2 x hx;omega
theorem mr_ins {l:List Pg} {q:Pg} (hM:MR l) (h:plB l q.1=false) (hq:pgR q=true):MR (l.take (plN l q.1)++q::l.drop (plN l q.1)):=by
 obtain ⟨h1,h2,_⟩:=plB_f hM h;refine ⟨?_,fun x hx=>?_⟩
 ·rw [List.pairwise_append,List.pairwise_cons];refine ⟨hM.pw.sublist (List.take_sublist _ _),⟨h2,hM.pw.sublist (List.drop_sublist _ _)⟩,fun a ha b hb=>?_⟩;have:=h1 a ha
  cases hb with
  |head=>exact this
  |tail _ hb=>have:=h2 b hb;omega
 ·rw [List.mem_append,List.mem_cons] at hx
  rcases hx with hx|rfl|hx
  ·exact hM.one x (List.mem_of_mem_take hx)
  ·exact hq
  ·exact hM.one x (List.mem_of_mem_drop hx)
theorem yMf {l:List Pg} {q x:Pg} {k:Nat}:x∈l.take k++q::l.drop k↔x=q\/x∈l:=by
 rw [List.mem_append,List.mem_cons]
 have:x∈l↔x∈l.take k\/x∈l.drop k:=by rw [<-List.mem_append,List.take_append_drop]
 rw [this]
 constructor
 ·rintro (h|h|h)
  ·exact .inr (.inl h)
  ·exact .inl h
  ·exact .inr (.inr h)
 ·rintro (h|h|h)
  ·exact .inr (.inl h)
  ·exact .inl h
  ·exact .inr (.inr h)
theorem pw_at {l:List Pg} (hM:MR l) {i j:Nat} (hi:i<l.length) (hj:j<l.length) (h:l[i].1=l[j].1):i=j:=by
 have hp:=List.pairwise_iff_getElem.1 hM.pw
 rcases Nat.lt_trichotomy i j with q|q|q
 ·have:=hp i j hi hj q;omega
 ·exact q
 ·have:=hp j i hj hi q;omega
theorem mr_del {l:List Pg} (hM:MR l) (k:Nat):MR (l.take k++l.drop (k+1)):=by
 rw [<-List.eraseIdx_eq_take_drop_succ];exact ⟨hM.pw.sublist (List.eraseIdx_sublist _ _),fun x hx=>hM.one x (List.mem_of_mem_eraseIdx hx)⟩
theorem yMe {l:List Pg} (hM:MR l) {k:Nat} (hk:k<l.length) {x:Pg}:x∈l.take k++l.drop (k+1)↔x∈l/\x.1≠l[k].1:=by
 rw [<-List.eraseIdx_eq_take_drop_succ,List.mem_eraseIdx_iff_getElem]
 constructor
 ·rintro ⟨i,hi,hne,rfl⟩;exact ⟨List.getElem_mem hi,fun e=>hne (pw_at hM hi hk e)⟩
 ·rintro ⟨hx,hne⟩;obtain ⟨i,hi,rfl⟩:=List.mem_iff_getElem.1 hx;exact ⟨i,hi,fun e=>hne (by subst e;rfl),rfl⟩
theorem mr_set {l:List Pg} (hM:MR l) {k:Nat} (hk:k<l.length) {q:Pg} (h1:q.1=l[k].1) (hq:pgR q=true):MR (l.set k q):=by
 refine ⟨?_,fun x hx=>?_⟩
 ·rw [List.pairwise_iff_getElem];intro i j hi hj hij;have hp:=List.pairwise_iff_getElem.1 hM.pw i j (by simpa using hi) (by simpa using hj) hij;rw [List.getElem_set,List.getElem_set]
  by_cases a:k=i
  ·subst a;rw [if_pos rfl,if_neg (by omega),h1];exact hp
  ·by_cases b:k=j
   ·subst b;rw [if_neg a,if_pos rfl,h1];exact hp
   ·rw [if_neg a,if_neg b];exact hp
 ·rcases List.mem_or_eq_of_mem_set hx with h|h
  ·exact hM.one x h
  ·rw [h];exact hq
theorem yXk {l:List Pg} (hM:MR l) {k:Nat} (hk:k<l.length) {q x:Pg} (h:x.1≠l[k].1) (h1:q.1=l[k].1):x∈l.set k q↔x∈l:=by
 constructor
 ·intro hx
  rcases List.mem_or_eq_of_mem_set hx with h2|h2
  ·exact h2
  ·rw [h2] at h;exact absurd h1 h
 ·intro hx;obtain ⟨i,hi,rfl⟩:=List.mem_iff_getElem.1 hx
  have:k≠i:=fun e=>h (by subst e;rfl)
  rw [List.mem_iff_getElem];exact ⟨i,by simpa using hi,by rw [List.getElem_set,if_neg this]⟩
theorem rdM_eq (l:List Pg) (o:Op):rdM l o=doM l o:=by
 by_cases e0:mapB l=false\/o.1<1\/4<o.1\/o.2.1<1\/16<o.2.1
 ·rw [rdM,doM,if_pos e0,if_pos e0]
 ·have hM:MR l:=mr_iff.1 (mapB_t.1 (by
   cases hb:mapB l with
   |true=>rfl
   |false=>exact absurd (.inl hb) e0))
  obtain ⟨n,hn⟩:∃ n:Nat,o.2.1=n:=⟨o.2.1.toNat,by omega⟩
  have hn1:1<=n/\n<=16:=by omega
  rw [rdM,doM,if_neg e0,if_neg e0,hn];simp only [Int.toNat_natCast]
  cases hb:plB l (n:Int) with
  |false=>
   obtain ⟨h1,h2,h3⟩:=plB_f hM hb;have hf:findP l n=none:=zJe h3;rw [hf,Option.getD_none]
   by_cases k1:o.1=1
   ·rw [if_neg (show ¬(o.1=1/\zP.1≠0) from fun h=>h.2 rfl),if_neg (show ¬(1<o.1/\zP.1=0) from fun h=>by omega),if_neg (show ¬(o.1=3/\16<o.2.2.size) from fun h=>by omega),if_neg (show ¬(o.1=3/\zP.2.1=2147483647) from fun h=>by omega),if_pos k1,if_pos k1,if_neg (by decide)];have hq:pgR ((n:Int),1,ByteArray.empty)=true:=pgR_out.2 ⟨by simp only;omega,by simp only;omega,show (1:Int) <=1 by decide,show (1:Int) <=2147483647 by decide,show ByteArray.empty.size<=16 by decide⟩;have hL:=mr_ins (q:=((n:Int),1,ByteArray.empty)) hM hb hq
    have ht:(tabOf l).set n ((n:Int),1,ByteArray.empty)=tabOf (l.take (plN l n)++((n:Int),1,ByteArray.empty)::l.drop (plN l n)):=z3k (by omega) fun j hj=>by
     by_cases e:j=n
     ·subst e
      rw [if_pos rfl,(findP_iff hL.pw).2 ⟨yMf.2 (.inl rfl),rfl⟩];rfl
     ·rw [if_neg e,z9d hM hL];intro x hx;rw [yMf]
      constructor
      ·rintro (h|h)
       ·rw [h] at hx;exact absurd (by simp only at hx;omega) e
       ·exact h
      ·exact .inr
    rw [ht,z0p hL]
   ·rw [if_neg (show ¬(o.1=1/\zP.1≠0) from fun h=>k1 h.1),if_pos (show 1<o.1/\zP.1=0 from ⟨by omega,rfl⟩),if_neg k1,if_pos rfl]
  |true=>
   obtain ⟨hk,hk1⟩:=plB_t hb;have hf:findP l n=some l[plN l n]:=(findP_iff hM.pw).2 ⟨List.getElem_mem hk,hk1⟩;rw [hf,Option.getD_some,List.getElem?_eq_getElem hk];obtain ⟨k,hkd⟩:∃ k,plN l (n:Int)=k:=⟨_,rfl⟩;simp only [hkd] at hk hk1 hf⊢;have hk2:k<l.length:=hk;have hv:=pgR_out.1 (hM.one l[k] (List.getElem_mem hk))
   have hp0:l[k].1≠0:=by omega
   by_cases k1:o.1=1
   ·rw [if_pos (show o.1=1/\l[k].1≠0 from ⟨k1,hp0⟩),if_pos k1,if_pos trivial]
   ·rw [if_neg (show ¬(o.1=1/\l[k].1≠0) from fun h=>k1 h.1),if_neg (show ¬(1<o.1/\l[k].1=0) from fun h=>hp0 h.2),if_neg k1,if_neg k1,if_neg (show ¬(true=false) by decide)]
    by_cases k3:o.1=3
    ·by_cases q2:16<o.2.2.size
     ·rw [if_pos ⟨k3,q2⟩,if_neg (show ¬o.1=2 by omega),if_neg (show ¬o.1=4 by omega),if_pos q2]
     ·rw [if_neg (show ¬(o.1=3/\16<o.2.2.size) from fun h=>q2 h.2)]
      by_cases q3:l[k].2.1=2147483647
      ·rw [if_pos ⟨k3,q3⟩,if_neg (show ¬o.1=2 by omega),if_neg (show ¬o.1=4 by omega),if_neg q2,if_pos (show 2147483647<=l[k].2.1 by omega)]
      ·rw [if_neg (show ¬(o.1=3/\l[k].2.1=2147483647) from fun h=>q3 h.2),if_pos k3,if_neg (show ¬o.1=2 by omega),if_neg (show ¬o.1=4 by omega),if_neg q2,if_neg (show ¬2147483647<=l[k].2.1 by omega)];have hq:pgR (l[k].1,l[k].2.1+1,o.2.2)=true:=pgR_out.2 ⟨by simp only;omega,by simp only;omega,by simp only;omega,by simp only;omega,by simp only;omega⟩;have hL:=mr_set hM hk (q:=(l[k].1,l[k].2.1+1,o.2.2)) rfl hq
       have ht:(tabOf l).set n (l[k].1,l[k].2.1+1,o.2.2)=tabOf (l.set k (l[k].1,l[k].2.1+1,o.2.2)):=z3k (by omega) fun j hj=>by
        by_cases e:j=n
        ·subst e
         rw [if_pos rfl,(findP_iff (x:=(l[k].1,l[k].2.1+1,o.2.2)) hL.pw).2 ⟨List.mem_iff_getElem.2 ⟨k,by rw [List.length_set];exact hk2,List.getElem_set_self ..⟩,hk1⟩];rfl
        ·rw [if_neg e,z9d hM hL];intro x hx;exact yXk hM hk (by omega) rfl
       rw [ht,z0p hL]
    ·rw [if_neg (show ¬(o.1=3/\16<o.2.2.size) from fun h=>k3 h.1),if_neg (show ¬(o.1=3/\l[k].2.1=2147483647) from fun h=>k3 h.1),if_neg k3]
     by_cases k4:o.1=4
     ·rw [if_pos k4,if_neg (show ¬o.1=2 by omega),if_pos k4];have hL:=mr_del hM k
      have ht:(tabOf l).set n zP=tabOf (l.take k++l.drop (k+1)):=z3k (by omega) fun j hj=>by
       by_cases e:j=n
       ·subst e
        rw [if_pos rfl,zJe fun x hx=>by have:=((yMe hM hk2).1 hx).2;omega];rfl
       ·rw [if_neg e,z9d hM hL];intro x hx;rw [yMe hM hk];exact ⟨fun h=>h.1,fun h=>⟨h,by omega⟩⟩
      rw [ht,z0p hL]
     ·rw [if_neg k4,if_pos (show o.1=2 by omega)]
      have ht:(tabOf l).set n l[k]=tabOf l:=z3k (by omega) fun j hj=>by
       by_cases e:j=n
       ·subst e;rw [if_pos rfl,hf];rfl
       ·rw [if_neg e]
      rw [ht,z0p hM]
theorem same_ok (a b:List Pg) (ha:a.length<=1000000):zAj Tryz.prog 28 [.lst (a.map encP),.lst (b.map encP)] (.bool (decide (a=b))):=by
 refine zAe Tryz.func28 2 rfl (by kernel_rfl) (w0 ?_)
 have hma:(a.map encP).length=a.length:=List.length_map ..
 have hmb:(b.map encP).length=b.length:=List.length_map ..
 refine bcase_n (fun h1=>?_) (fun h1=>?_)<;>conv=>whnf
 ·exact ret_of rfl (congrArg D.bool (by
   rw [hma,hmb] at h1
   symm;rw [decide_eq_false_iff_not];intro e;subst e;exact h1 rfl))
 have hl:a.length=b.length:=by omega
 refine aA ?_;refine zAq (ι:=Nat) (fun k=>[(0,.d (.lst (a.map encP))),(1,.d (.lst (b.map encP))),(5,.d (.int .i64 k))]) (fun _=>[])
  (fun k=>k<=a.length/\ ∀ i,i<k->(hi:i<a.length)->a[i]=b[i]) (fun k=>a.length-k) 0 ⟨by omega,by omega⟩ (le0 (zAb ⟨rfl,rfl,rfl,trivial⟩ trivial ⟨rfl,rfl,rfl,rfl⟩)) ?_
 rintro k ⟨hk,hR⟩
 conv=>whnf
 refine bcase_p (fun h5=>?_) (fun h5=>?_)<;>conv=>whnf
 ·have hk2:k<a.length:=by omega
  have hk3:k<b.length:=by omega
  refine zAd (by omega) (w0 ?_);refine zAc (x:=encP a[k]) (by simp [hk2]) (aW ?_);refine zAd (by omega) (w0 ?_);refine zAc (x:=encP b[k]) (by simp [hk3]) (aW ?_)
  refine zAf (fun h6=>?_) (fun h6=>?_)<;>conv=>whnf
  ·refine aA ?_;refine ret_of rfl (congrArg D.bool ?_)
   symm;rw [decide_eq_false_iff_not];intro e;subst e
   simp at h6
  ·have e:a[k]=b[k]:=by
    refine Prod.ext ?_ (Prod.ext ?_ ?_)
    ·simp at h6;exact h6.1
    ·simp at h6;exact h6.2.1
    ·simp at h6;exact h6.2.2
   refine aA ?_
   exact ⟨k+1,⟨by omega,fun i hi hi2=>by
    by_cases q:i=k
    ·subst q;exact e
    ·exact hR i (by omega) hi2⟩,by omega,(le0 (zAb ⟨rfl,rfl,rfl,trivial⟩ trivial ⟨rfl,rfl,rfl,rfl⟩))⟩
 ·refine aA ?_;refine ret_of rfl (congrArg D.bool ?_)
  symm;rw [decide_eq_true_eq]
  exact List.ext_getElem hl fun i h1 h2=>hR i (by omega) h1
theorem yDe {le:Ev->Ev->Bool} (x:Ev):∀ l:List Ev,(ins le x l).Perm (x::l)
 | []=>.refl _
 |y::r=>by
  simp only [ins]
  split
  ·exact .refl _
  ·exact ((yDe x r).cons y).trans (.swap x y r)
theorem srt_perm {le:Ev->Ev->Bool}:∀ l:List Ev,(srt le l).Perm l
 | []=>.refl _
 |x::r=>(yDe x _).trans ((srt_perm r).cons x)
def evOk (x:Ev):Prop:=x.began<x.done/\x.done<x.ended
def RD (x y:Ev):Prop:=x.done≠y.done
def RW (x y:Ev):Prop:=x.who=y.who->x.ended<y.began\/y.ended<x.began
structure AP (l:List Ev):Prop where
 ok:∀ x∈l,evOk x
 rd:l.Pairwise RD
 rw_:l.Pairwise RW
theorem rd_sym {x y:Ev} (h:RD x y):RD y x:=fun e=>h e.symm
theorem yEt {x y:Ev} (h:RW x y):RW y x:=fun e=>(h e.symm).symm
theorem pw_srt {R:Ev->Ev->Prop} (hs:∀ {x y},R x y->R y x) (le:Ev->Ev->Bool) (l:List Ev):(srt le l).Pairwise R↔l.Pairwise R:=(srt_perm l).pairwise_iff hs
open Classical in
noncomputable def apB (l:List Ev):Bool:=decide (AP l)
theorem apB_t {l:List Ev}:apB l=true↔AP l:=by simp [apB]
theorem yIu {l:List Ev}:apB l=false↔¬AP l:=by simp [apB]
theorem rd_adj {s:List Ev} (hs:zBy leD s) (h:∀ i,(hi:i+1<s.length)->s[i].done≠s[i+1].done):s.Pairwise RD:=by
 rw [List.pairwise_iff_getElem];have hp:=List.pairwise_iff_getElem.1 hs
 have key:∀ (j i:Nat),(hij:i<j)->(hj:j<s.length)->(s[i]'(Nat.lt_trans hij hj)).done<s[j].done:=by
  intro j
  induction j with
  |zero=>intro i h;omega
  |succ j ih=>
   intro i hij hj;have h1:=hp j (j+1) (by omega) hj (by omega);have h2:=h j hj;simp only [leD,decide_eq_true_eq] at h1
   by_cases e:i=j
   ·subst e;omega
   ·have:=ih i (by omega) (by omega);omega
 intro i j hi hj hij e;have:=key j i hij hj;omega
theorem rw_adj {s:List Ev} (hs:zBy leW s) (hok:∀ x∈s,evOk x) (h:∀ i,(hi:i+1<s.length)->s[i].who=s[i+1].who->s[i].ended<s[i+1].began):s.Pairwise RW:=by
 rw [List.pairwise_iff_getElem];have hp:=List.pairwise_iff_getElem.1 hs
 have key:∀ (j i:Nat),(hij:i<j)->(hj:j<s.length)->(s[i]'(Nat.lt_trans hij hj)).who=s[j].who->(s[i]'(Nat.lt_trans hij hj)).ended<s[j].began:=by
  intro j
  induction j with
  |zero=>intro i h;omega
  |succ j ih=>
   intro i hij hj hw
   by_cases e:i=j
   ·subst e;exact h i hj hw
   ·have h0:=hp i j (by omega) (by omega) (by omega);have h1:=hp j (j+1) (by omega) hj (by omega);simp only [leW,decide_eq_true_eq] at h0 h1
    have hw2:s[i].who=s[j].who:=by omega
    have h3:=ih i (by omega) (by omega) hw2;have h4:=h j hj (by omega);have h5:=hok s[j] (List.getElem_mem (by omega));unfold evOk at h5;omega
 intro i j hi hj hij e;exact .inl (key j i hij hj e)
theorem rw_no {s:List Ev} (hs:zBy leW s) (hok:∀ x∈s,evOk x) (hp:s.Pairwise RW) {i:Nat} (hi:i+1<s.length) (hw:s[i].who=s[i+1].who):s[i].ended<s[i+1].began:=by
 have h1:=List.pairwise_iff_getElem.1 hs i (i+1) (by omega) hi (by omega);have h2:=List.pairwise_iff_getElem.1 hp i (i+1) (by omega) hi (by omega) hw;have h3:=hok s[i+1] (List.getElem_mem hi);simp only [leW,decide_eq_true_eq] at h1;unfold evOk at h3;omega
theorem rd_no {s:List Ev} (hp:s.Pairwise RD) {i:Nat} (hi:i+1<s.length):s[i].done≠s[i+1].done:=
 List.pairwise_iff_getElem.1 hp i (i+1) (by omega) hi (by omega)
set_option maxHeartbeats 4000000 in
theorem z0j (l:List Ev) (hl:l.length<=1000):zAj Tryz.prog 76 [.lst (l.map encE)] (.bool (apB l)):=by
 refine zAe Tryz.func76 1 rfl (by kernel_rfl) (w0 ?_)
 have hm:(l.map encE).length=l.length:=List.length_map ..
 refine zAq (ι:=Nat) (fun k=>[(0,.d (.lst (l.map encE))),(11,.d (.lst (l.map encE))),(12,.d (.int .i64 (l.map encE).length)),(13,.d (.int .i64 k))]) (fun _=>[])
  (fun k=>k<=l.length/\ ∀ i,i<k->(hi:i<l.length)->evOk l[i]) (fun k=>l.length-k) 0 ⟨by omega,by omega⟩ (le0 (zAb ⟨rfl,rfl,rfl,rfl,trivial⟩ trivial ⟨rfl,rfl,rfl,rfl⟩)) ?_
 rintro k ⟨hk,hR⟩
 conv=>whnf
 refine bcase_p (fun h5=>?_) (fun h5=>?_)<;>conv=>whnf
 ·have hk2:k<l.length:=by omega
  refine zAd (by omega) (w0 ?_);refine zAc (x:=encE l[k]) (by simp [hk2]) (aW ?_)
  refine bcase_p (fun g1=>?_) (fun g1=>?_)<;>conv=>whnf
  ·refine aA ?_;exact ret_of rfl (congrArg D.bool (yIu.2 fun h=>by have:=h.ok l[k] (List.getElem_mem hk2);unfold evOk at this;omega).symm)
  refine aA ?_
  refine bcase_p (fun g2=>?_) (fun g2=>?_)<;>conv=>whnf
  ·exact ret_of rfl (congrArg D.bool (yIu.2 fun h=>by have:=h.ok l[k] (List.getElem_mem hk2);unfold evOk at this;omega).symm)
  refine aA ?_
  refine ⟨k+1,⟨by omega,fun i hi hi2=>by
   by_cases q:i=k
   ·subst q;exact ⟨by omega,by omega⟩
   ·exact hR i (by omega) hi2⟩,by omega,le0 (zAb ⟨?_,?_,?_,?_,trivial⟩ trivial ⟨?_,?_,?_,?_⟩)⟩<;>kernel_rfl
 have hok:∀ x∈l,evOk x:=fun x hx=>by
  obtain ⟨i,hi,rfl⟩:=List.mem_iff_getElem.1 hx;exact hR i (by omega) hi
 clear hR
 refine aA ?_;refine zAn (sort_ok l (by omega)) (aW ?_);obtain ⟨s,hs⟩:∃ s,srt leD l=s:=⟨_,rfl⟩;have hss:zBy leD s:=hs▸zBx cmpD.tp l
 have hsl:s.length=l.length:=by rw [<-hs,zAm]
 have hms:(s.map encE).length=s.length:=List.length_map ..
 rw [hs];refine zAq (ι:=Nat) (fun k=>[(0,.d (.lst (l.map encE))),(5,.own 31),(6,.d (.int .i64 (k+1:Nat)))]) (fun _=>[(31,.row (s.map encE) 11 false)])
  (fun k=>(k=0\/k+1<=s.length) /\ ∀ i,i<k->(hi:i+1<s.length)->s[i].done≠s[i+1].done) (fun k=>s.length-k) 0 ⟨.inl rfl,by omega⟩ (le0 (zAb ⟨rfl,rfl,rfl,trivial⟩ ⟨rfl,trivial⟩ ⟨rfl,rfl,rfl,rfl⟩)) ?_
 rintro q ⟨hq,hR⟩
 conv=>whnf
 refine bcase_p (fun h6=>?_) (fun h6=>?_)<;>conv=>whnf
 ·have hk2:q+1<s.length:=by omega
  have hk3:q<s.length:=by omega
  have eq1:((q+1:Nat):Int)-1=((q:Nat):Int):=by omega
  refine aA ?_;refine zAd (by omega) (w0 ?_);refine zAc (x:=encE s[q+1]) (by simp [hk2]) (aW ?_);rw [eq1];refine zAd (by omega) (w0 ?_);refine zAc (x:=encE s[q]) (by simp [hk3]) (aW ?_)
  refine bcase_p (fun g=>?_) (fun g=>?_)<;>conv=>whnf
  ·refine aA ?_
   exact ret_of rfl (congrArg D.bool (yIu.2 fun h=>by
    have h2:=(pw_srt (fun h=>rd_sym h) leD l).2 h.rd;rw [hs] at h2
    exact rd_no h2 hk2 g.symm).symm)
  refine aA ?_
  refine ⟨q+1,⟨.inr (by omega),fun i hi hi2=>by
   by_cases e:i=q
   ·subst e;exact fun e=>g e.symm
   ·exact hR i (by omega) hi2⟩,by omega,le0 (zAb ⟨?_,?_,?_,trivial⟩ ⟨?_,trivial⟩ ⟨?_,?_,?_,?_⟩)⟩<;>kernel_rfl
 have hrd:s.Pairwise RD:=rd_adj hss fun i hi=>hR i (by omega) hi
 clear hR
 refine aA ?_;refine zAn (z4l l (by omega)) (aW ?_);refine zAu (zQi 131 leW cmpW l (by omega)) [(1000000,51)] rfl ⟨rfl,trivial⟩ rfl (aW ?_);obtain ⟨t,ht⟩:∃ t,srt leW l=t:=⟨_,rfl⟩;have hts:zBy leW t:=ht▸zBx cmpW.tp l
 have htl:t.length=l.length:=by rw [<-ht,zAm]
 have hmt:(t.map encE).length=t.length:=List.length_map ..
 have htok:∀ x∈t,evOk x:=fun x hx=>hok x (by rw [<-ht] at hx;exact (yOg cmpW.tp).1 hx)
 rw [ht];refine zAq (ι:=Nat) (fun k=>[(7,.own 51),(8,.d (.int .i64 (k+1:Nat)))]) (fun _=>[(51,.row (t.map encE) 11 false)])
  (fun k=>(k=0\/k+1<=t.length) /\ ∀ i,i<k->(hi:i+1<t.length)->t[i].who=t[i+1].who->t[i].ended<t[i+1].began) (fun k=>t.length-k) 0 ⟨.inl rfl,by omega⟩ (le0 (zAb ⟨rfl,rfl,trivial⟩ ⟨rfl,trivial⟩ ⟨rfl,rfl,rfl,rfl⟩)) ?_
 rintro q2 ⟨hq2,hR⟩
 conv=>whnf
 refine bcase_p (fun h7=>?_) (fun h7=>?_)<;>conv=>whnf
 ·have hk2:q2+1<t.length:=by omega
  have hk3:q2<t.length:=by omega
  have eq1:((q2+1:Nat):Int)-1=((q2:Nat):Int):=by omega
  refine aA ?_;rw [eq1];refine zAd (by omega) (w0 ?_);refine zAc (x:=encE t[q2]) (by simp [hk3]) (aW ?_);refine zAd (by omega) (w0 ?_);refine zAc (x:=encE t[q2+1]) (by simp [hk2]) (aW ?_)
  refine bcase_p (fun g=>?_) (fun g=>?_)<;>conv=>whnf
  ·refine aA ?_
   refine bcase_p (fun g2=>?_) (fun g2=>?_)<;>conv=>whnf
   ·refine aA ?_
    exact ret_of rfl (congrArg D.bool (yIu.2 fun h=>by
     have h2:=(pw_srt (fun h=>yEt h) leW l).2 h.rw_;rw [ht] at h2;have:=rw_no hts htok h2 hk2 g
     omega).symm)
   refine aA ?_
   refine ⟨q2+1,⟨.inr (by omega),fun i hi hi2=>by
    by_cases e:i=q2
    ·subst e;intro _;omega
    ·exact hR i (by omega) hi2⟩,by omega,le0 (zAb ⟨?_,?_,trivial⟩ ⟨?_,trivial⟩ ⟨?_,?_,?_,?_⟩)⟩<;>kernel_rfl
  ·refine aA ?_
   refine ⟨q2+1,⟨.inr (by omega),fun i hi hi2=>by
    by_cases e:i=q2
    ·subst e;intro e2;exact absurd e2 g
    ·exact hR i (by omega) hi2⟩,by omega,le0 (zAb ⟨?_,?_,trivial⟩ ⟨?_,trivial⟩ ⟨?_,?_,?_,?_⟩)⟩<;>kernel_rfl
 have hrw:t.Pairwise RW:=rw_adj hts htok fun i hi=>hR i (by omega) hi
 refine aA ?_;exact ret_of rfl (congrArg D.bool (apB_t.2 ⟨hok,(pw_srt (fun h=>rd_sym h) leD l).1 (by rw [hs];exact hrd),(pw_srt (fun h=>yEt h) leW l).1 (by rw [ht];exact hrw)⟩).symm)
theorem yKf (l:List Pg) (o:Op):(doM l o).1.length<=l.length+1:=by
 unfold doM
 split
 ·simp
 split
 ·split
  ·simp
  ·simp;omega
 split
 ·simp
 split
 ·simp
 split
 ·simp
 split
 ·simp;omega
 split
 ·simp
 split
 ·simp
 ·simp
def opE (v:Ev):Op:=(v.kind,v.id,v.body)
def resE (v:Ev):Res:=(v.e,(v.pid,v.ver,v.text))
def failR:Res:=(8,zP)
noncomputable def chkGo (m:List Pg) (i:Nat):List Ev->List Pg×Nat×Int
 | []=>(m,i,0)
 |v::r=>if resE v=failR then chkGo m (i+1) r else if (doM m (opE v)).2=resE v then chkGo (doM m (opE v)).1 (i+1) r else (m,i,2)
noncomputable def chkM (m:List Pg) (l:List Ev):List Pg×Nat×Int:=
 if 400<l.length then (m,0,5) else if mapB m=false then (m,0,1) else if apB l=false then (m,0,2) else chkGo m 0 (srt leD l)
theorem yWk {m:List Pg} {k:Nat} {s:List Ev} (hk:k<s.length) (h:resE s[k]=failR):chkGo m k (s.drop k)=chkGo m (k+1) (s.drop (k+1)):=by
 rw [List.drop_eq_getElem_cons hk,chkGo,if_pos h]
theorem go_yes {m:List Pg} {k:Nat} {s:List Ev} (hk:k<s.length) (h:resE s[k]≠failR) (h2:(doM m (opE s[k])).2=resE s[k]):chkGo m k (s.drop k)=chkGo (doM m (opE s[k])).1 (k+1) (s.drop (k+1)):=by
 rw [List.drop_eq_getElem_cons hk,chkGo,if_neg h,if_pos h2]
theorem go_no {m:List Pg} {k:Nat} {s:List Ev} (hk:k<s.length) (h:resE s[k]≠failR) (h2:(doM m (opE s[k])).2≠resE s[k]):chkGo m k (s.drop k)=(m,k,2):=by
 rw [List.drop_eq_getElem_cons hk,chkGo,if_neg h,if_neg h2]
theorem go_end {m:List Pg} {k:Nat} {s:List Ev} (hk:s.length<=k):chkGo m k (s.drop k)=(m,k,0):=by
 rw [List.drop_of_length_le hk,chkGo]
set_option maxHeartbeats 4000000 in
theorem check_ok (m:List Pg) (l:List Ev) (hm:m.length<=500) (hl:l.length<=1000):zAj Tryz.prog 32 [.agg [.lst (m.map encP)],.lst (l.map encE)] (.tup [.agg [.lst ((chkM m l).1.map encP)],.int .i64 (chkM m l).2.1,.int .i64 (chkM m l).2.2]):=by
 refine zAe Tryz.func32 2 rfl (by kernel_rfl) (w0 ?_)
 have hml:(l.map encE).length=l.length:=List.length_map ..
 refine aA ?_
 refine bcase_p (fun h1=>?_) (fun h1=>?_)<;>conv=>whnf
 ·refine aA ?_
  have e:chkM m l=(m,0,5):=by rw [chkM,if_pos (by omega)]
  rw [e];exact ret_of rfl rfl
 refine aA ?_;refine zAa (opsRight_ok m (by omega)) (aW ?_)
 refine zAf (fun h2=>?_) (fun h2=>?_)<;>conv=>whnf
 ·refine aA ?_
  have e:chkM m l=(m,0,1):=by rw [chkM,if_neg (by omega),if_pos (by simpa using h2)]
  rw [e];exact ret_of rfl rfl
 refine aA ?_;refine zAa (z0j l (by omega)) (aW ?_)
 refine zAf (fun h3=>?_) (fun h3=>?_)<;>conv=>whnf
 ·refine aA ?_
  have e:chkM m l=(m,0,2):=by rw [chkM,if_neg (by omega),if_neg (by simpa using h2),if_pos (by simpa using h3)]
  rw [e];exact ret_of rfl rfl
 refine aA ?_;refine zAn (sort_ok l (by omega)) (aW ?_)
 have eC:chkM m l=chkGo m 0 (srt leD l):=by rw [chkM,if_neg (by omega),if_neg (by simpa using h2),if_neg (by simpa using h3)]
 obtain ⟨s,hs⟩:∃ s,srt leD l=s:=⟨_,rfl⟩
 have hsl:s.length=l.length:=by rw [<-hs,zAm]
 have hms:(s.map encE).length=s.length:=List.length_map ..
 rw [hs] at eC;rw [hs,eC];refine zAq (ι:=Nat×List Pg) (fun k=>[(1,.d (.lst (l.map encE))),(2,.ptr 2 0 0),(4,.ptr 4 0 0),(24,.own 24),(25,.d (.int .i64 (s.map encE).length)),(26,.d (.int .i64 k.1))]) (fun k=>[(2,.box [.d (.lst (k.2.map encP))] false),(4,.box [.nil] false),(24,.row (s.map encE) 11 false)])
  (fun k=>k.1<=s.length/\k.2.length<=500+k.1/\chkGo m 0 s=chkGo k.2 k.1 (s.drop k.1)) (fun k=>s.length-k.1) (0,m) ⟨by omega,by omega,rfl⟩ (le0 (zAb ⟨rfl,rfl,rfl,rfl,rfl,rfl,trivial⟩ ⟨rfl,rfl,rfl,trivial⟩ ⟨rfl,rfl,rfl,rfl⟩)) ?_
 rintro ⟨k,n⟩ ⟨hk,hn,hC⟩;simp only at hk hn hC⊢;rw [hC]
 conv=>whnf
 refine bcase_p (fun h5=>?_) (fun h5=>?_)<;>conv=>whnf
 ·have hk2:k<s.length:=by omega
  refine zAd (by omega) (w0 ?_);refine zAc (x:=encE s[k]) (by simp [hk2]) (aW ?_)
  refine zAf (fun h6=>?_) (fun h6=>?_)<;>conv=>whnf
  ·have hf:resE s[k]=failR:=by
    simp at h6;simp [resE,failR,zP,h6]
   rw [yWk hk2 hf];refine aA ?_
   refine ⟨(k+1,n),⟨by simp only [];omega,by simp only [];omega,rfl⟩,by simp only [];omega,le0 (zAb ⟨?_,?_,?_,?_,?_,?_,trivial⟩ ⟨?_,?_,?_,trivial⟩ ⟨?_,?_,?_,?_⟩)⟩<;>kernel_rfl
  ·have hf:resE s[k]≠failR:=by
    intro e;simp [resE,failR,zP,Prod.ext_iff] at e;simp [e] at h6
   refine aA ?_;refine zAa (opsDo_ok n (opE s[k]) (by omega)) (aW ?_)
   refine zAf (fun h7=>?_) (fun h7=>?_)<;>conv=>whnf
   ·have hr:(doM n (opE s[k])).2≠resE s[k]:=by
     intro e;rw [e] at h7;simp [resE] at h7
    rw [go_no hk2 hf hr];refine aA ?_;exact ret_of rfl rfl
   ·have hr:(doM n (opE s[k])).2=resE s[k]:=by
     simp at h7;exact Prod.ext h7.1 (Prod.ext h7.2.1 (Prod.ext h7.2.2.1 h7.2.2.2))
    rw [go_yes hk2 hf hr];have hd2:=yKf n (opE s[k]);refine aA ?_
    refine ⟨(k+1,(doM n (opE s[k])).1),⟨by simp only [];omega,by simp only [];omega,rfl⟩,by simp only [];omega,le0 (zAb ⟨?_,?_,?_,?_,?_,?_,trivial⟩ ⟨?_,?_,?_,trivial⟩ ⟨?_,?_,?_,?_⟩)⟩<;>kernel_rfl
 ·refine aA ?_;rw [go_end (by omega)]
  have ek:k=(l.map encE).length:=by omega
  subst ek;exact ret_of rfl rfl
end Go.Lk.Hy
