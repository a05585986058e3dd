/-
  What is proved here: what functions of the program compute, and what follows; no condition beyond each theorem's own.
-/
import Derived.Test.YtaofmndhdmkgkaaGreatHAo
import Derived.Test.YtaofmndhdmkgkaaGreatHAv
set_option linter.unusedSimpArgs false
set_option linter.unusedVariables false
set_option linter.unnecessarySimpa false
set_option linter.unusedSectionVars false
namespace Go.Lk
open Go Go.Proofs Go.RowKit
theorem row_out {M:Mem} {w:World} {l:List (List D)} {u:Value} (sz:Nat) (hA:Agree M w) (h:DenD M (.lst l) u) (hok:okRows sz l=true):
  ∃ (a:Option Addr) (cap b off:Nat) (val:Nat->Nat->Value),u=.slice a l.length cap/\ (0<l.length->a=some ⟨b,off,none⟩) /\
   (∀ (i j:Nat) (e:List D) (d:D),l[i]?=some e->e[j]?=some d->w.cell? ⟨b,off+i*sz+j,none⟩=some (val i j) /\DenD M d (val i j)):=by
 cases h with
 |emp a cap=>exact ⟨a,cap,0,0,fun _ _=>undef,rfl,fun h=>absurd h (by simp),fun i j e d h=>by simp at h⟩
 |lst _ b off cap sz' val hl hs hm hd=>
  refine ⟨_,cap,b,off,val,rfl,fun _=>rfl,fun i j e d h1 h2=>⟨?_,hd i j e d h1 h2⟩⟩;have e1:sz'=sz:=(hs i e h1).symm.trans (okRows_get hok i e h1).1;rw [<-e1];exact hA b _ _ (hm i j e d h1 h2)
def dreadD (d:DS) (n:Int):Prop:=DR d/\0<=n/\n<d.sec.length
open Classical in
noncomputable def dreadM (d:DS) (n:Int):ByteArray×Int:=if dreadD d n then (rdS d n,0) else (ByteArray.empty,1)
theorem den_int' {M:Mem} {k:IntKind} {n:Int} {u:Value} (h:DenD M (.int k n) u):u=.int k n:=by cases h;rfl
theorem den_str' {M:Mem} {s:ByteArray} {u:Value} (h:DenD M (.str s) u):u=.string s:=by cases h;rfl
theorem two_out {M:Mem} {x y:D} {vs:Array Value} (h:vs.size=2) (hd:∀ (i:Nat) (d:D) (v:Value),[x,y][i]?=some d->vs[i]?=some v->DenD M d v):∃ u v,vs=#[u,v] /\DenD M x u/\DenD M y v:=by
 obtain ⟨l⟩:=vs
 match l,h,hd with
 | [u,v],_,hd=>exact ⟨u,v,rfl,hd 0 _ _ rfl rfl,hd 1 _ _ rfl rfl⟩
theorem dread_ok (d:DS) (n:Int):ACall Tryz.prog 109 [encDS d,.int .i64 n] (.tup [.str (dreadM d n).1,.int .i64 (dreadM d n).2]):=by
 refine ⟨⟨Tryz.f109,Tryz.func109,rfl,by kernel_rfl⟩,fun w M vs hA hd=>?_⟩;obtain ⟨u,v,rfl,hu,hv⟩:=two_out hd.1 hd.2;have hu0:=hu;have hv':=den_int' hv;subst hv'
 obtain ⟨us,rfl,hus⟩:∃ us:Array Value,u=.agg us/\ (us.size=2/\ ∀ (i:Nat) (x:D) (v:Value),[D.lst (d.sec.map encB),.lst (d.ca.map encW)][i]?=some x->us[i]?=some v->DenD M x v):=by
  cases hu with
  |agg c us hl hdd=>exact ⟨us,rfl,hl,hdd⟩
 obtain ⟨s1,s2,rfl,h1,h2⟩:=two_out hus.1 hus.2
 have hm1:(d.sec.map encB).length=d.sec.length:=List.length_map ..
 have hm2:(d.ca.map encW).length=d.ca.length:=List.length_map ..
 obtain ⟨sa,scap,sb,soff,sval,rfl,hsa,hsc⟩:=row_out 1 hA h1 (encB_ok _);obtain ⟨a,cap,b,off,val,rfl,ha,hc⟩:=row_out 2 hA h2 (encW_ok _);rw [hm1] at hsa hu0⊢;rw [hm2] at ha hu0⊢
 have cs:∀ j,j<d.sec.length->w.cell? ⟨sb,soff+j,none⟩=some (.string (d.sec[j]?.getD ByteArray.empty)):=fun j hj=>by
  obtain ⟨q1,q2⟩:=hsc j 0 (encB d.sec[j]) (.str d.sec[j]) (by simp [hj]) rfl;rw [den_str' q2,Nat.mul_one,Nat.add_zero] at q1
  rw [List.getElem?_eq_getElem hj];exact q1
 have cw:∀ j,j<d.ca.length->w.cell? ⟨b,off+j*2,none⟩=some (.int .i64 (d.ca[j]?.getD (0,ByteArray.empty)).1) /\w.cell? ⟨b,off+j*2+1,none⟩=some (.string (d.ca[j]?.getD (0,ByteArray.empty)).2):=fun j hj=>by
  obtain ⟨q1,q2⟩:=hc j 0 (encW d.ca[j]) (.int .i64 d.ca[j].1) (by simp [hj]) rfl;obtain ⟨q3,q4⟩:=hc j 1 (encW d.ca[j]) (.str d.ca[j].2) (by simp [hj]) rfl;rw [den_int' q2,Nat.add_zero] at q1;rw [den_str' q4] at q3
  rw [List.getElem?_eq_getElem hj];exact ⟨q1,q3⟩
 have agr:∀ W:World,Below w.heap.size w W->Agree M W:=fun W hb b o v h=>(hb.cell (p:=⟨b,o,none⟩) (blk_lt (hA b o v h))).trans (hA b o v h)
 refine (Tryz.dread_in sa d.sec.length scap a d.ca.length cap sb soff b off (fun j=>d.sec[j]?.getD ByteArray.empty) (fun j=>d.ca[j]?.getD (0,ByteArray.empty)) n (drB d) w ?_ ?_ hsa (fun h=>blk_lt (cs 0 h)) cs ⟨ha,fun h=>blk_lt (cw 0 h).1,cw⟩).mono ?_
 ·intro W hb
  refine ((dRight_ok d).2 W M #[.agg #[.slice sa d.sec.length scap,.slice a d.ca.length cap]] (agr W hb) ⟨rfl,fun i x v hx hv=>?_⟩).mono fun e W' he=>?_
  ·cases i with
   |zero=>
    simp at hx hv;subst hx hv;exact hu0
   |succ i=>simp at hx
  ·obtain ⟨v,M',rfl,hb',_,_,_,hv⟩:=he
   cases hv
   exact ⟨rfl,hb'⟩
 ·intro h;have hR:=drB_t.1 h;exact ⟨hR.c1,hR.s2⟩
 ·rintro e W' ⟨hb,h⟩
  have told:∀ (s:ByteArray) (k:Int),dreadM d n=(s,k)->e=.returned (.tuple #[.string s,.int .i64 k])->∃ (v:Value) (M':Mem),e=.returned v/\Below w.heap.size w W'/\Sub M M'/\Agree M' W'/\Fresh w M M'/\DenD M' (.tup [.str (dreadM d n).1,.int .i64 (dreadM d n).2]) v:=by
   intro s k hs he;refine ⟨_,M,he,hb,Sub.refl M,agr W' hb,fun b o v h=>.inl h,?_⟩;rw [hs]
   refine .tup _ _ rfl fun i x v hx hv=>?_
   match i with
   |0=>simp at hx hv;subst hx hv;exact .str _
   |1=>simp at hx hv;subst hx hv;exact .int _ _
   |i+2=>simp at hx
  rcases h with ⟨hn,he⟩|⟨hr,h0,h1,h⟩
  ·exact told _ _ (if_neg fun q=>hn ⟨drB_t.2 q.1,q.2.1,q.2.2⟩) he
  ·have hR:=drB_t.1 hr;have hdr:dreadM d n=(rdS d n,0):=if_pos ⟨hR,h0,h1⟩
   rcases h with ⟨k,hk,e1,e2,he⟩|⟨hne,he⟩
   ·refine told _ _ ?_ he;rw [hdr]
    congr 1
    simp only [List.getElem?_eq_getElem hk,Option.getD_some] at e1⊢;exact pick_at hk e1 (fun j hj hj2=>by have:=e2 j hj hj2;simpa only [List.getElem?_eq_getElem hj2,Option.getD_some] using this) _
   ·refine told _ _ ?_ he;rw [hdr]
    congr 1
    refine pick_none ?_;intro w' hw;obtain ⟨i,hi,rfl⟩:=List.mem_iff_getElem.1 hw;have:=hne i hi
    simpa only [List.getElem?_eq_getElem hi,Option.getD_some] using this
abbrev Jo:=Bool×Int×ByteArray
def encJ (o:Jo):List D:=[.bool o.1,.int .i64 o.2.1,.str o.2.2]
theorem encJ_ok:∀ (l:List Jo),okRows 3 (l.map encJ)=true
 | []=>rfl
 |_::r=>encJ_ok r
structure Us (d:DS):Prop where
 dr:DR d
 n:35<=d.sec.length
open Classical in
noncomputable def usB (d:DS):Bool:=decide (Us d)
theorem usB_t {d:DS}:usB d=true↔Us d:=by simp [usB]
theorem usB_f {d:DS}:usB d=false↔¬Us d:=by simp [usB]
def vaB (p:Int):Bool:=decide (1<=p)&&decide (p<=16)
theorem vaB_t {p:Int}:vaB p=true↔1<=p/\p<=16:=by simp [vaB]
theorem usable_ok (d:DS):ACall Tryz.prog 108 [encDS d] (.bool (usB d)):=by
 refine acall_of Tryz.func108 1 rfl (by kernel_rfl) (w0 ?_)
 have hm:(d.sec.map encB).length=d.sec.length:=List.length_map ..
 refine aA ?_;refine callX_pure (dRight_ok d) (aW ?_)
 refine bcase_intro (fun h1=>?_) (fun h1=>?_)<;>conv=>whnf
 ·have hR:=drB_t.1 h1;refine aA ?_;refine ret_of rfl (congrArg D.bool ?_)
  by_cases h:(35:Int) <= ((d.sec.map encB).length:Int)
  ·rw [decide_eq_true h];exact (usB_t.2 ⟨hR,by omega⟩).symm
  ·rw [decide_eq_false h];exact (usB_f.2 fun q=>by have:=q.n;omega).symm
 ·refine aA ?_;exact ret_of rfl (congrArg D.bool (usB_f.2 fun q=>drB_f.1 h1 q.dr).symm)
theorem valid_ok (p:Int):ACall Tryz.prog 185 [.int .i64 p] (.bool (vaB p)):=by
 refine acall_of Tryz.func185 1 rfl (by kernel_rfl) (w0 ?_)
 refine bcase_p (fun h1=>?_) (fun h1=>?_)<;>conv=>whnf
 ·refine aA ?_;exact ret_of rfl (congrArg D.bool (by simp [vaB,h1]))
 ·refine aA ?_;exact ret_of rfl (congrArg D.bool (by simp [vaB,h1]))
theorem home_ok (p:Int) (h:vaB p=true):ACall Tryz.prog 112 [.int .i64 p] (.int .i64 (2*p+1)):=by
 have hv:=vaB_t.1 h;refine acall_of Tryz.func112 1 rfl (by kernel_rfl) (aW ?_);exact ret_of rfl rfl
def lit16:ByteArray:={data:=#[0,0,0,0,0,0,0,0,0,0,0,0,0,0,0,0]}
theorem lit16_eq:lit16=nul16:=bl_ext (by rw [show bl nul16=_ from nulB_list 16];rfl)
def headJ (p:Nat):ByteArray:=bstr [74,(p:Int)]++nulB 14
theorem nul_cut:nul16.extract 2 16=nulB 14:=bl_ext (by rw [bl_extract,show bl nul16=_ from nulB_list 16,show bl (nulB 14)=_ from nulB_list 14];rfl)
theorem headJ_size (p:Nat):(headJ p).size=16:=by rw [headJ,ByteArray.size_append,bstr_size,nulB_size];rfl
theorem head_ok (p:Nat) (h:p<=16):ACall Tryz.prog 179 [.int .i64 p] (.str (headJ p)):=by
 refine acall_of Tryz.func179 1 rfl (by kernel_rfl) (w0 ?_);refine wrapK_in (u8in (by omega) (by omega)) (aW ?_);refine sliceK_lo (l:=2) (by decide) (aW ?_);rw [show ByteArray.extract {data:=#[0,0,0,0,0,0,0,0,0,0,0,0,0,0,0,0]} 2 (ByteArray.size {data:=#[0,0,0,0,0,0,0,0,0,0,0,0,0,0,0,0]})=nulB 14 from by rw [<-nul_cut,<-lit16_eq];rfl];refine condK_of (by rw [bstr_size,nulB_size];show 2+14<=_;decide) (aW ?_);exact ret_of rfl rfl
def wJ (n:Int) (s:ByteArray):Jo:=(false,n,s)
def syJ:Jo:=(true,0,ByteArray.empty)
theorem halves_ok (n:Int) (a b:ByteArray) (h0:0<=n) (h1:n<=1000):OCall Tryz.prog 111 [.int .i64 n,.str a,.str b] ([wJ n a,wJ (n+1) b,syJ].map encJ) 3:=by
 refine ocall_of Tryz.func111 3 rfl (by kernel_rfl) (aW ?_);exact ⟨6,rfl,.inl ⟨17,rfl,rfl⟩⟩
theorem top_ok (s:ByteArray):OCall Tryz.prog 113 [.str s] ([wJ 0 s,syJ].map encJ) 3:=by
 refine ocall_of Tryz.func113 1 rfl (by kernel_rfl) (aW ?_);exact ⟨2,rfl,.inl ⟨7,rfl,rfl⟩⟩
def planJ (p:Nat) (s:ByteArray):List Jo:=[wJ 1 (s.extract 0 16),wJ 2 (s.extract 16 32),syJ]++[wJ 0 (headJ p),syJ]++[wJ (2*(p:Int)+1) (s.extract 0 16),wJ (2*(p:Int)+1+1) (s.extract 16 32),syJ]++[wJ 0 nul16,syJ]
open Classical in
noncomputable def planM (d:DS) (p:Int) (s:ByteArray):List Jo×Int:=if Us d/\ (1<=p/\p<=16) /\s.size=32 then (planJ p.toNat s,0) else ([],1)
theorem plan_ok (d:DS) (p:Int) (s:ByteArray) (hs:s.size<=1000000):ACall Tryz.prog 242 [encDS d,.int .i64 p,.str s] (.tup [.lst ((planM d p s).1.map encJ),.int .i64 (planM d p s).2]):=by
 refine acall_of Tryz.func242 3 rfl (by kernel_rfl) (aW ?_);refine callX_pure (usable_ok d) (aW ?_)
 refine bcase_intro (fun h1=>?_) (fun h1=>?_)<;>conv=>whnf
 ·refine aA ?_;rw [planM,if_neg (fun q=>by rw [usB_t.2 q.1] at h1;exact absurd h1 (by decide))];exact ret_of rfl rfl
 have hU:Us d:=usB_t.1 (by simpa using h1);refine aA ?_;refine callX_pure (valid_ok p) (aW ?_)
 refine bcase_intro (fun h2=>?_) (fun h2=>?_)<;>conv=>whnf
 ·refine aA ?_;rw [planM,if_neg (fun q=>by rw [vaB_t.2 q.2.1] at h2;exact absurd h2 (by decide))];exact ret_of rfl rfl
 have hV:=vaB_t.1 (show vaB p=true by simpa using h2);refine aA ?_
 refine bcase_n (fun h3=>?_) (fun h3=>?_)<;>conv=>whnf
 ·refine aA ?_;rw [planM,if_neg (fun q=>h3 (by rw [q.2.2];rfl))];exact ret_of rfl rfl
 have h3:s.size=32:=by omega
 obtain ⟨k,rfl⟩:∃ k:Nat,p=(k:Int):=⟨p.toNat,by omega⟩;rw [planM,if_pos ⟨hU,hV,h3⟩,Int.toNat_natCast,planJ];refine aA ?_;refine sliceK_hi (h:=16) (by omega) (aW ?_);refine sliceK_lo (l:=16) (by omega) (aW ?_);obtain ⟨x,hx⟩:∃ x,s.extract 0 16=x:=⟨_,rfl⟩;obtain ⟨y,hy⟩:∃ y,s.extract 16 32=y:=⟨_,rfl⟩;rw [hx,hy];rw [h3,hy];refine callX_own (halves_ok 1 x y (by omega) (by omega)) (aW ?_);refine callX_pure (head_ok k (by omega)) (aW ?_);refine callX_own (top_ok (headJ k)) (aW ?_);refine roomK_le 1000 1000 (by simp) (by decide) (by decide) (by decide) (aW ?_);refine callX_pure (home_ok k (vaB_t.2 hV)) (aW ?_);refine callX_own (halves_ok (2*(k:Int)+1) x y (by omega) (by omega)) (aW ?_);refine roomK_le 1000 1000 (by simp) (by decide) (by decide) (by decide) (aW ?_);rw [show ({data:=#[0,0,0,0,0,0,0,0,0,0,0,0,0,0,0,0]}:ByteArray)=nul16 from lit16_eq];refine callX_own (top_ok nul16) (aW ?_);refine roomK_le 1000 1000 (by simp) (by decide) (by decide) (by decide) (aW ?_);exact ret_of rfl rfl
noncomputable def stepJ (d:DS) (o:Jo):DS:=if o.1=true then syncM d else (putM d o.2).1
noncomputable def runM (d:DS) (l:List Jo) (most:Int):DS:=(l.take most.toNat).foldl stepJ d
theorem run_ok (d:DS) (l:List Jo) (most:Int) (hl:l.length<=1000000):ACall Tryz.prog 56 [encDS d,.lst (l.map encJ),.int .i64 most] (encDS (runM d l most)):=by
 refine acall_of Tryz.func56 3 rfl (by kernel_rfl) (w0 ?_)
 have hm:(l.map encJ).length=l.length:=List.length_map ..
 refine aA ?_;refine aloop (ι:=Nat×DS) (fun k=>[(2,.d (.int .i64 most)),(3,.ptr 3 0 0),(6,.ptr 6 0 0),(11,.d (.lst (l.map encJ))),(12,.d (.int .i64 (l.map encJ).length)),(13,.d (.int .i64 k.1))]) (fun k=>[(3,.box [.d (.lst (k.2.sec.map encB)),.d (.lst (k.2.ca.map encW))] false),(6,.box [.nil,.nil] false)])
  (fun k=>k.1<=l.length/\ ((k.1:Int) <=most\/k.1=0) /\k.2=(l.take k.1).foldl stepJ d) (fun k=>l.length-k.1) (0,d) ⟨by omega,.inr rfl,rfl⟩ (le0 (le_of_cov ⟨rfl,rfl,rfl,rfl,rfl,rfl,trivial⟩ ⟨rfl,rfl,trivial⟩ ⟨rfl,rfl,rfl,rfl⟩)) ?_
 rintro ⟨k,e⟩ ⟨hk,hc,he⟩;simp only at hk hc he⊢
 have tk:∀ j,most.toNat=j->(l.take j).foldl stepJ d=runM d l most:=fun j h=>by rw [runM,h]
 conv=>whnf
 refine bcase_p (fun h5=>?_) (fun h5=>?_)<;>conv=>whnf
 ·have hk2:k<l.length:=by omega
  have en:∀ x,stepJ e l[k]=x->(l.take (k+1)).foldl stepJ d=x:=fun x hx=>by rw [take_snoc hk2,List.foldl_append,<-he];exact hx
  refine idxK_nat (by omega) (w0 ?_);refine getRow_of (x:=encJ l[k]) (by simp [hk2]) (aW ?_)
  refine bcase_p (fun h6=>?_) (fun h6=>?_)<;>conv=>whnf
  ·refine aA ?_
   have:e=runM d l most:=by
    rcases hc with h|h
    ·rw [he];exact tk k (by omega)
    ·subst h;rw [he];exact tk 0 (by omega)
   rw [this];exact ret_of rfl rfl
  refine aA ?_
  refine bcase_intro (fun h7=>?_) (fun h7=>?_)<;>conv=>whnf
  ·refine aA ?_;refine callX_pure (sync_ok e) (aW ?_);exact ⟨(k+1,syncM e),⟨by simp only [];omega,.inl (by simp only [];omega),(en _ (if_pos h7)).symm⟩,by simp only [];omega,(le0 (le_of_cov ⟨rfl,rfl,rfl,rfl,rfl,rfl,trivial⟩ ⟨rfl,rfl,trivial⟩ ⟨rfl,rfl,rfl,rfl⟩))⟩
  ·refine aA ?_;refine callX_pure (dput_ok e l[k].2) (aW ?_);have hs:stepJ e l[k]=(putM e l[k].2).1:=if_neg (by rw [h7];decide)
   refine bcase_p (fun h8=>?_) (fun h8=>?_)<;>conv=>whnf
   ·refine aA ?_;exact ⟨(k+1,(putM e l[k].2).1),⟨by simp only [];omega,.inl (by simp only [];omega),(en _ hs).symm⟩,by simp only [];omega,(le0 (le_of_cov ⟨rfl,rfl,rfl,rfl,rfl,rfl,trivial⟩ ⟨rfl,rfl,trivial⟩ ⟨rfl,rfl,rfl,rfl⟩))⟩
   ·refine aA ?_
    have:(putM e l[k].2).1=e:=by
     rw [putM] at h8⊢
     split
     ·rename_i q;rw [if_pos q] at h8
      split
      ·rfl
      ·rename_i q2;rw [if_neg q2] at h8;exact absurd rfl h8
     ·rfl
    exact ⟨(k+1,e),⟨by simp only [];omega,.inl (by simp only [];omega),(en _ (hs.trans this)).symm⟩,by simp only [];omega,(le0 (le_of_cov ⟨rfl,rfl,rfl,rfl,rfl,rfl,trivial⟩ ⟨rfl,rfl,trivial⟩ ⟨rfl,rfl,rfl,rfl⟩))⟩
 ·refine aA ?_
  have:e=runM d l most:=by
   rw [he,runM]
   rcases hc with h|h
   ·rw [List.take_of_length_le (by omega),List.take_of_length_le (by omega)]
   ·have:l=[]:=List.length_eq_zero_iff.1 (by omega);subst this;simp
  rw [this];exact ret_of rfl rfl
def headG (s:ByteArray):Nat->Nat->Int×Bool
 |0,_=>(0,false)
 |n+1,k=>if s=headJ k then ((k:Int),true) else headG s n (k+1)
def headM (s:ByteArray):Int×Bool:=headG s 16 1
theorem headed_ok (s:ByteArray):ACall Tryz.prog 110 [.str s] (.tup [.int .i64 (headM s).1,.bool (headM s).2]):=by
 refine acall_of Tryz.func110 1 rfl (by kernel_rfl) (w0 ?_);refine aloop (ι:=Nat) (fun k=>[(0,.d (.str s)),(4,.d (.int .i64 k))]) (fun _=>[])
  (fun k=>1<=k/\k<=17/\headM s=headG s (17-k) k) (fun k=>17-k) 1 ⟨by omega,by omega,rfl⟩ (le0 (le_of_cov ⟨rfl,rfl,trivial⟩ trivial ⟨rfl,rfl,rfl,rfl⟩)) ?_
 rintro k ⟨h1,h2,hR⟩;rw [hR]
 conv=>whnf
 refine bcase_p (fun h5=>?_) (fun h5=>?_)<;>conv=>whnf
 ·have e:17-k=(16-k)+1:=by omega
  rw [e,headG];refine aA ?_;refine callX_pure (head_ok k (by omega)) (aW ?_)
  refine bcase_p (fun h6=>?_) (fun h6=>?_)<;>conv=>whnf
  ·refine aA ?_;rw [if_pos h6];exact ret_of rfl rfl
  ·refine aA ?_;rw [if_neg h6];exact ⟨k+1,⟨by omega,by omega,by rw [show 17-(k+1)=16-k by omega]⟩,by omega,(le0 (le_of_cov ⟨rfl,rfl,trivial⟩ trivial ⟨rfl,rfl,rfl,rfl⟩))⟩
 ·refine aA ?_
  have ek:k=17:=by omega
  subst ek;exact ret_of rfl rfl
theorem pick_size {n:Int}:∀ {l:List Wt} {b:ByteArray},b.size=16->(∀ w∈l,w.2.size=16)->(pick n l b).size=16
 | [],b,hb,_=>hb
 |w::r,b,hb,h=>by
  show (pick n r (if w.1=n then w.2 else b)).size=16
  refine pick_size ?_ fun x hx=>h x (List.mem_cons_of_mem _ hx)
  split
  ·exact h w (List.mem_cons_self ..)
  ·exact hb
theorem rdS_size {d:DS} (hR:DR d) {n:Int} (h0:0<=n) (h1:n<d.sec.length):(rdS d n).size=16:=by
 refine pick_size ?_ fun w hw=>?_
 ·rw [List.getElem?_eq_getElem (by omega),Option.getD_some];exact hR.s _ _
 ·obtain ⟨i,hi,rfl⟩:=List.mem_iff_getElem.1 hw;exact (okW_out.1 (hR.c i hi)).2.2
theorem dread_yes {d:DS} (hR:DR d) {n:Int} (h0:0<=n) (h1:n<d.sec.length):dreadM d n=(rdS d n,0):=if_pos ⟨hR,h0,h1⟩
noncomputable def fixJ (d:DS):List Jo:=if (headM (rdS d 0)).2=true then [wJ (2*(headM (rdS d 0)).1+1) (rdS d 1),wJ (2*(headM (rdS d 0)).1+1+1) (rdS d 2),syJ] else []
open Classical in
noncomputable def repairM (d:DS):List Jo:=if Us d then (if rdS d 0=nul16 then [] else fixJ d++[wJ 0 nul16,syJ]) else []
theorem headG_at {s:ByteArray}:∀ {n k:Nat},(headG s n k).2=true->(k:Int) <= (headG s n k).1/\ (headG s n k).1<((k+n:Nat):Int) /\s=headJ (headG s n k).1.toNat
 |0,k,h=>by simp [headG] at h
 |n+1,k,h=>by
  rw [headG] at h⊢
  split
  ·rename_i e;exact ⟨by omega,by omega,by simpa using e⟩
  ·rename_i e;rw [if_neg e] at h;have:=headG_at h;exact ⟨by omega,by omega,this.2.2⟩
theorem repair_ok (d:DS):OCall Tryz.prog 55 [encDS d] ((repairM d).map encJ) 3:=by
 refine ocall_of Tryz.func55 1 rfl (by kernel_rfl) (aW ?_);refine callX_pure (usable_ok d) (aW ?_)
 refine bcase_intro (fun h1=>?_) (fun h1=>?_)<;>conv=>whnf
 ·refine aA ?_;rw [repairM,if_neg (fun q=>by rw [usB_t.2 q] at h1;exact absurd h1 (by decide))];exact ⟨2,rfl,.inr ⟨rfl,rfl⟩⟩
 have hU:Us d:=usB_t.1 (by simpa using h1);have hR:=hU.dr;have hn:=hU.n;rw [repairM,if_pos hU];refine aA ?_;refine callX_pure (dread_ok d 0) (aW ?_);rw [dread_yes hR (by decide) (by omega)];rw [show ({data:=#[0,0,0,0,0,0,0,0,0,0,0,0,0,0,0,0]}:ByteArray)=nul16 from lit16_eq]
 refine bcase_p (fun h2=>?_) (fun h2=>?_)<;>conv=>whnf
 ·refine aA ?_;rw [if_pos h2];exact ⟨2,rfl,.inr ⟨rfl,rfl⟩⟩
 rw [if_neg h2];refine aA ?_;refine callX_pure (headed_ok (rdS d 0)) (aW ?_)
 refine bcase_intro (fun h3=>?_) (fun h3=>?_)<;>conv=>whnf
 ·obtain ⟨q1,q2,_⟩:=headG_at (show (headG (rdS d 0) 16 1).2=true from h3);have q1:1<= (headM (rdS d 0)).1:=q1;have q2:(headM (rdS d 0)).1<17:=q2;refine aA ?_;refine callX_pure (dread_ok d 1) (aW ?_);rw [dread_yes hR (by decide) (by omega)];refine aA ?_;refine callX_pure (dread_ok d 2) (aW ?_);rw [dread_yes hR (by decide) (by omega)];obtain ⟨p,hp⟩:∃ p,(headM (rdS d 0)).1=p:=⟨_,rfl⟩;rw [fixJ,if_pos h3,hp];rw [hp] at q1 q2;refine aA ?_;refine callX_pure (home_ok p (vaB_t.2 ⟨by omega,by omega⟩)) (aW ?_);refine callX_own (halves_ok (2*p+1) (rdS d 1) (rdS d 2) (by omega) (by omega)) (aW ?_);refine callX_own (top_ok nul16) (aW ?_);refine roomK_le 1000 1000 (by simp) (by decide) (by decide) (by decide) (w0 ?_);exact ⟨2,rfl,.inl ⟨42,rfl,rfl⟩⟩
 ·rw [fixJ,if_neg (by rw [h3];decide)];refine aA ?_;refine callX_own (top_ok nul16) (aW ?_);refine roomK_le 1000 1000 (by simp) (by decide) (by decide) (by decide) (w0 ?_);exact ⟨2,rfl,.inl ⟨45,rfl,rfl⟩⟩
noncomputable def commitM (d:DS) (p:Int) (s:ByteArray):DS×Int:=if (planM d p s).2=0 then (runM d (planM d p s).1 ((planM d p s).1.length:Nat),0) else (d,(planM d p s).2)
theorem planM_len (d:DS) (p:Int) (s:ByteArray):(planM d p s).1.length<=10:=by
 rw [planM];split
 ·simp [planJ]
 ·simp
theorem commit_ok (d:DS) (p:Int) (s:ByteArray) (hs:s.size<=1000000):ACall Tryz.prog 280 [encDS d,.int .i64 p,.str s] (.tup [encDS (commitM d p s).1,.int .i64 (commitM d p s).2]):=by
 refine acall_of Tryz.func280 3 rfl (by kernel_rfl) (aW ?_);refine callX_pure (plan_ok d p s hs) (aW ?_);have hl:=planM_len d p s
 have hml:((planM d p s).1.map encJ).length=(planM d p s).1.length:=List.length_map ..
 refine bcase_n (fun h1=>?_) (fun h1=>?_)<;>conv=>whnf
 ·refine aA ?_;rw [commitM,if_neg h1];exact ret_of rfl rfl
 ·rw [commitM,if_pos h1];refine aA ?_;rw [hml];refine callX_pure (run_ok d (planM d p s).1 ((planM d p s).1.length:Nat) (by omega)) (aW ?_);exact ret_of rfl rfl
theorem repairM_len (d:DS):(repairM d).length<=5:=by
 rw [repairM];split
 ·split
  ·simp
  ·rw [fixJ];split<;>simp
 ·simp
noncomputable def recM (d:DS):DS:=runM d (repairM d) ((repairM d).length:Nat)
theorem recover_ok (d:DS):ACall Tryz.prog 21 [encDS d] (encDS (recM d)):=by
 refine acall_of Tryz.func21 1 rfl (by kernel_rfl) (aW ?_);refine callX_own (repair_ok d) (w0 ?_);have hl:=repairM_len d
 have hml:((repairM d).map encJ).length=(repairM d).length:=List.length_map ..
 refine aA ?_;rw [hml];refine callX_pure (run_ok d (repairM d) ((repairM d).length:Nat) (by omega)) (aW ?_);exact ret_of rfl rfl
open Classical in
noncomputable def getJ (d:DS) (p:Int):ByteArray×Int:=if Us d/\1<=p/\p<=16 then (rdS d (2*p+1)++rdS d (2*p+1+1),0) else (ByteArray.empty,1)
theorem getJ_ok (d:DS) (p:Int):ACall Tryz.prog 126 [encDS d,.int .i64 p] (.tup [.str (getJ d p).1,.int .i64 (getJ d p).2]):=by
 refine acall_of Tryz.func126 2 rfl (by kernel_rfl) (aW ?_);refine callX_pure (usable_ok d) (aW ?_)
 refine bcase_intro (fun h1=>?_) (fun h1=>?_)<;>conv=>whnf
 ·refine aA ?_;rw [getJ,if_neg (fun q=>by rw [usB_t.2 q.1] at h1;exact absurd h1 (by decide))];exact ret_of rfl rfl
 have hU:Us d:=usB_t.1 (by simpa using h1);have hR:=hU.dr;have hn:=hU.n;refine aA ?_;refine callX_pure (valid_ok p) (aW ?_)
 refine bcase_intro (fun h2=>?_) (fun h2=>?_)<;>conv=>whnf
 ·refine aA ?_;rw [getJ,if_neg (fun q=>by rw [vaB_t.2 q.2] at h2;exact absurd h2 (by decide))];exact ret_of rfl rfl
 have hV:=vaB_t.1 (show vaB p=true by simpa using h2);rw [getJ,if_pos ⟨hU,hV⟩];refine aA ?_;refine callX_pure (home_ok p (vaB_t.2 hV)) (aW ?_);refine callX_pure (dread_ok d (2*p+1)) (aW ?_);rw [dread_yes hR (by omega) (by omega)];refine aA ?_;refine callX_pure (home_ok p (vaB_t.2 hV)) (aW ?_);refine callX_pure (dread_ok d (2*p+1+1)) (aW ?_);rw [dread_yes hR (by omega) (by omega)];have z1:=rdS_size hR (show 0<=2*p+1 by omega) (by omega);have z2:=rdS_size hR (show 0<=2*p+1+1 by omega) (by omega);refine condK_of (by show (rdS d (2*p+1)).size+(rdS d (2*p+1+1)).size<=_;rw [z1,z2];decide) (aW ?_);exact ret_of rfl rfl
theorem snoughts_ok:ACall Tryz.prog 241 [] (.str (nulB 32)):=by
 refine acall_of Tryz.func241 0 rfl (by kernel_rfl) (w0 ?_);refine callX_pure (repeat_ok zero1 32 (by decide) (by decide)) (aW ?_);exact ret_of rfl rfl
noncomputable def getS (d:DS) (id:Int):Pg×Int:=
 if (getJ d id).2≠0 then (zP,(getJ d id).2) else if (takeM (getJ d id).1).2≠0 then (zP,(takeM (getJ d id).1).2) else if (takeM (getJ d id).1).1.1≠id then (zP,9) else ((takeM (getJ d id).1).1,0)
theorem getS_ok (d:DS) (id:Int):ACall Tryz.prog 99 [encDS d,.int .i64 id] (.tup [.agg (encP (getS d id).1),.int .i64 (getS d id).2]):=by
 refine acall_of Tryz.func99 2 rfl (by kernel_rfl) (aW ?_);refine callX_pure (getJ_ok d id) (aW ?_);rw [getS]
 refine bcase_n (fun h1=>?_) (fun h1=>?_)<;>conv=>whnf
 ·refine aA ?_;rw [if_pos h1];exact ret_of rfl rfl
 rw [if_neg (fun q=>q h1)];refine aA ?_;refine callX_pure (take_ok (getJ d id).1) (aW ?_)
 refine bcase_n (fun h2=>?_) (fun h2=>?_)<;>conv=>whnf
 ·refine aA ?_;rw [if_pos h2];exact ret_of rfl rfl
 rw [if_neg (fun q=>q h2)];refine aA ?_
 refine bcase_n (fun h3=>?_) (fun h3=>?_)<;>conv=>whnf
 ·refine aA ?_;rw [if_pos h3];exact ret_of rfl rfl
 rw [if_neg (fun q=>q h3)];refine aA ?_;exact ret_of rfl rfl
theorem scommit_ok (d:DS) (p:Int) (s:ByteArray) (hs:s.size<=1000000):ACall Tryz.prog 240 [encDS d,.int .i64 p,.str s] (.tup [encDS (commitM d p s).1,.int .i64 (commitM d p s).2]):=by
 refine acall_of Tryz.func240 3 rfl (by kernel_rfl) (aW ?_);refine callX_pure (commit_ok d p s hs) (aW ?_)
 have hc:(commitM d p s).2≠0->(commitM d p s).1=d:=fun h=>by
  rw [commitM] at h⊢
  split
  ·rename_i q;rw [if_pos q] at h;exact absurd rfl h
  ·rfl
 refine bcase_n (fun h1=>?_) (fun h1=>?_)<;>conv=>whnf
 ·refine aA ?_;rw [hc h1];exact ret_of rfl rfl
 ·refine aA ?_;rw [h1];exact ret_of rfl rfl
open Classical in
noncomputable def setS (d:DS) (x:Pg):DS×Int:=if pgR x=true then commitM d x.1 (putB x) else (d,1)
theorem setS_ok (d:DS) (x:Pg):ACall Tryz.prog 244 [encDS d,.agg (encP x)] (.tup [encDS (setS d x).1,.int .i64 (setS d x).2]):=by
 refine acall_of Tryz.func244 2 rfl (by kernel_rfl) (aW ?_);have hput:=put_ok x
 by_cases hR:pgR x=true
 ·rw [if_pos hR] at hput;rw [setS,if_pos hR];have hz:=putB_size (pgR_out.1 hR).2.2.2.2;refine callX_pure hput (aW ?_);refine callX_pure (scommit_ok d x.1 (putB x) (by omega)) (aW ?_);exact ret_of rfl rfl
 ·rw [if_neg hR] at hput;rw [setS,if_neg hR];refine callX_pure hput (aW ?_);exact ret_of rfl rfl
noncomputable def delD (d:DS) (id:Int):DS×Int:=commitM d id (nulB 32)
theorem delD_ok (d:DS) (id:Int):ACall Tryz.prog 171 [encDS d,.int .i64 id] (.tup [encDS (delD d id).1,.int .i64 (delD d id).2]):=by
 refine acall_of Tryz.func171 2 rfl (by kernel_rfl) (aW ?_);refine callX_pure snoughts_ok (aW ?_);refine callX_pure (scommit_ok d id (nulB 32) (by rw [nulB_size];decide)) (aW ?_);exact ret_of rfl rfl
open Classical in
noncomputable def stepsS (d:DS) (x:Pg):List Jo:=if x.2.1≠0\/x.2.2≠ByteArray.empty then (if pgR x=true then (planM d x.1 (putB x)).1 else []) else (planM d x.1 (nulB 32)).1
theorem plan_err {d:DS} {p:Int} {s:ByteArray} (h:(planM d p s).2≠0):(planM d p s).1=[]:=by
 rw [planM] at h⊢
 split
 ·rename_i q;rw [if_pos q] at h;exact absurd rfl h
 ·rfl
theorem stepsS_ok (d:DS) (x:Pg):ACall Tryz.prog 172 [encDS d,.agg (encP x)] (.lst ((stepsS d x).map encJ)):=by
 refine acall_of Tryz.func172 2 rfl (by kernel_rfl) (aW ?_);refine callX_pure snoughts_ok (aW ?_);rw [stepsS]
 refine bcase_n (fun h1=>?_) (fun h1=>?_)<;>conv=>whnf
 ·rw [if_pos (.inl h1)];refine aA ?_;have hput:=put_ok x
  by_cases hR:pgR x=true
  ·rw [if_pos hR] at hput;rw [if_pos hR];have hz:=putB_size (pgR_out.1 hR).2.2.2.2;refine callX_pure hput (aW ?_);refine callX_pure (plan_ok d x.1 (putB x) (by omega)) (aW ?_)
   refine bcase_n (fun h9=>?_) (fun h9=>?_)<;>conv=>whnf
   ·refine aA ?_;rw [plan_err h9];exact ret_of rfl rfl
   ·refine aA ?_;exact ret_of rfl rfl
  ·rw [if_neg hR] at hput;rw [if_neg hR];refine callX_pure hput (aW ?_);exact ret_of rfl rfl
 ·refine aA ?_
  refine bcase_n (fun h2=>?_) (fun h2=>?_)<;>conv=>whnf
  ·rw [if_pos (.inr h2)];refine aA ?_;have hput:=put_ok x
   by_cases hR:pgR x=true
   ·rw [if_pos hR] at hput;rw [if_pos hR];have hz:=putB_size (pgR_out.1 hR).2.2.2.2;refine callX_pure hput (aW ?_);refine callX_pure (plan_ok d x.1 (putB x) (by omega)) (aW ?_)
    refine bcase_n (fun h9=>?_) (fun h9=>?_)<;>conv=>whnf
    ·refine aA ?_;rw [plan_err h9];exact ret_of rfl rfl
    ·refine aA ?_;exact ret_of rfl rfl
   ·rw [if_neg hR] at hput;rw [if_neg hR];refine callX_pure hput (aW ?_);exact ret_of rfl rfl
  ·rw [if_neg (fun q=>q.elim (fun q=>q h1) (fun q=>q h2))];refine aA ?_;refine callX_pure (plan_ok d x.1 (nulB 32) (by rw [nulB_size];decide)) (aW ?_)
   refine bcase_n (fun h9=>?_) (fun h9=>?_)<;>conv=>whnf
   ·refine aA ?_;rw [plan_err h9];exact ret_of rfl rfl
   ·refine aA ?_;exact ret_of rfl rfl
theorem may_ok (d:DS):ACall Tryz.prog 65 [encDS d] (.bool (usB d)):=by
 refine acall_of Tryz.func65 1 rfl (by kernel_rfl) (w0 ?_)
 have hm:(d.sec.map encB).length=d.sec.length:=List.length_map ..
 refine aA ?_;refine callX_pure (rdRight_ok d) (aW ?_)
 refine bcase_intro (fun h1=>?_) (fun h1=>?_)<;>conv=>whnf
 ·have hR:=drB_t.1 h1;refine aA ?_;refine ret_of rfl (congrArg D.bool ?_)
  by_cases h:(34:Int)<((d.sec.map encB).length:Int)
  ·rw [decide_eq_true h];exact (usB_t.2 ⟨hR,by omega⟩).symm
  ·rw [decide_eq_false h];exact (usB_f.2 fun q=>by have:=q.n;omega).symm
 ·refine aA ?_;exact ret_of rfl (congrArg D.bool (usB_f.2 fun q=>drB_f.1 h1 q.dr).symm)
theorem getS_yes {d:DS} {id:Int} (h:Us d/\1<=id/\id<=16):getS d id=if (takeM (rdS d (2*id+1)++rdS d (2*id+1+1))).2≠0 then (zP,(takeM (rdS d (2*id+1)++rdS d (2*id+1+1))).2) else if (takeM (rdS d (2*id+1)++rdS d (2*id+1+1))).1.1≠id then (zP,9) else ((takeM (rdS d (2*id+1)++rdS d (2*id+1+1))).1,0):=by
 have:getJ d id=(rdS d (2*id+1)++rdS d (2*id+1+1),0):=if_pos h;rw [getS,this,if_neg (fun q=>q rfl)]
structure Rest (s:List ByteArray):Prop where
 n:35<=s.length
 m:s.length<=64
 z:∀ i,(h:i<s.length)->s[i].size=16
theorem Rest.dr {s:List ByteArray} (h:Rest s) {l:List Wt} (hl:l.length<=200) (hw:∀ w∈l,okW s.length w=true):DR ⟨s,l⟩:=
 ⟨by have:=h.n;simp only [];omega,h.m,hl,h.z,fun i hi=>hw _ (List.getElem_mem hi)⟩
theorem Rest.us {s:List ByteArray} (h:Rest s):Us ⟨s,[]⟩:=⟨h.dr (by simp) (by simp),h.n⟩
theorem Rest.set {s:List ByteArray} (h:Rest s) (i:Nat) {b:ByteArray} (hb:b.size=16):Rest (s.set i b):=by
 refine ⟨by rw [List.length_set];exact h.n,by rw [List.length_set];exact h.m,fun j hj=>?_⟩;rw [List.getElem_set]
 split
 ·exact hb
 ·exact h.z _ _
theorem step_put {s:List ByteArray} (h:Rest s) {l:List Wt} {n:Int} {b:ByteArray} (hl:l.length<200) (hw:∀ w∈l,okW s.length w=true) (h0:0<=n) (h1:n<s.length) (hb:b.size=16):
  stepJ ⟨s,l⟩ (wJ n b)=⟨s,l++[(n,b)]⟩ /\ ∀ w∈l++[(n,b)],okW s.length w=true:=by
 have hk:okW s.length (n,b)=true:=okW_out.2 ⟨h0,h1,hb⟩
 constructor
 ·show (putM ⟨s,l⟩ (n,b)).1=_;rw [putM,if_pos ⟨h.dr (by omega) hw,hk⟩,if_neg (by simp only [];omega)]
 ·intro w hm
  rcases List.mem_append.1 hm with q|q
  ·exact hw w q
  ·rw [List.mem_singleton] at q;subst q;exact hk
theorem step_sync {s:List ByteArray} (h:Rest s) {l:List Wt} (hl:l.length<=200) (hw:∀ w∈l,okW s.length w=true):stepJ ⟨s,l⟩ syJ=⟨wrS s l,[]⟩:=by
 show syncM ⟨s,l⟩=_;rw [syncM,if_pos (h.dr hl hw)]
theorem step1 {s:List ByteArray} (h:Rest s) {n:Int} {b:ByteArray} (h0:0<=n) (h1:n<s.length) (hb:b.size=16):[wJ n b,syJ].foldl stepJ ⟨s,[]⟩=⟨s.set n.toNat b,[]⟩:=by
 obtain ⟨e1,w1⟩:=step_put h (l:=[]) (by simp) (by simp) h0 h1 hb;simp only [List.foldl_cons,List.foldl_nil,e1];rw [step_sync h (by simp) w1];rfl
theorem step2 {s:List ByteArray} (h:Rest s) {n m:Int} {b c:ByteArray} (h0:0<=n) (h1:n<s.length) (hb:b.size=16) (h2:0<=m) (h3:m<s.length) (hc:c.size=16):[wJ n b,wJ m c,syJ].foldl stepJ ⟨s,[]⟩=⟨(s.set n.toNat b).set m.toNat c,[]⟩:=by
 obtain ⟨e1,w1⟩:=step_put h (l:=[]) (by simp) (by simp) h0 h1 hb;obtain ⟨e2,w2⟩:=step_put h (l:=[]++[(n,b)]) (by simp) w1 h2 h3 hc;simp only [List.foldl_cons,List.foldl_nil,e1,e2];rw [step_sync h (by simp) w2];rfl
def setD (s:List ByteArray) (p:Nat) (a b:ByteArray):List ByteArray:=(((((s.set 1 a).set 2 b).set 0 (headJ p)).set (2*p+1) a).set (2*p+2) b).set 0 nul16
theorem nul16_size:nul16.size=16:=nulB_size 16
theorem ext_size {s:ByteArray} (h:s.size=32):(s.extract 0 16).size=16/\ (s.extract 16 32).size=16:=by
 have hb:(bl s).length=32:=by rw [bl_len];exact h
 constructor
 ·rw [<-bl_len,bl_extract,List.length_take,List.length_drop];omega
 ·rw [<-bl_len,bl_extract,List.length_take,List.length_drop];omega
theorem ext_app {s:ByteArray} (h:s.size=32):s.extract 0 16++s.extract 16 32=s:=by
 have hb:(bl s).length=32:=by rw [bl_len];exact h
 apply bl_ext;rw [bl_app,bl_extract,bl_extract,List.drop_zero];rw [List.take_of_length_le (show ((bl s).drop 16).length<=32-16 by rw [List.length_drop];omega)];exact List.take_append_drop 16 (bl s)
theorem plan_runs {s:List ByteArray} (h:Rest s) {p:Nat} (h1:1<=p) (h16:p<=16) {x:ByteArray} (hx:x.size=32):(planJ p x).foldl stepJ ⟨s,[]⟩=⟨setD s p (x.extract 0 16) (x.extract 16 32),[]⟩:=by
 obtain ⟨ha,hb⟩:=ext_size hx;have hn:=h.n;rw [planJ,List.foldl_append,List.foldl_append,List.foldl_append];rw [step2 h (by decide) (by omega) ha (by decide) (by omega) hb];have r1:=(h.set 1 ha).set 2 hb
 have l1:((s.set 1 (x.extract 0 16)).set 2 (x.extract 16 32)).length=s.length:=by simp
 rw [show ((1:Int).toNat)=1 from rfl,show ((2:Int).toNat)=2 from rfl];rw [step1 r1 (by decide) (by omega) (headJ_size p)];have r2:=r1.set 0 (headJ_size p)
 have l2:(((s.set 1 (x.extract 0 16)).set 2 (x.extract 16 32)).set 0 (headJ p)).length=s.length:=by simp
 rw [show ((0:Int).toNat)=0 from rfl];rw [step2 r2 (by omega) (by omega) ha (by omega) (by omega) hb];rw [show (2*(p:Int)+1).toNat=2*p+1 by omega,show (2*(p:Int)+1+1).toNat=2*p+2 by omega];have r3:=(r2.set (2*p+1) ha).set (2*p+2) hb;rw [step1 r3 (by decide) (by simp;omega) nul16_size];rfl
theorem Rest.setD {s:List ByteArray} (h:Rest s) {p:Nat} {a b:ByteArray} (ha:a.size=16) (hb:b.size=16):Rest (setD s p a b):=
 (((((h.set 1 ha).set 2 hb).set 0 (headJ_size p)).set _ ha).set _ hb).set 0 nul16_size
theorem setD_len (s:List ByteArray) (p:Nat) (a b:ByteArray):(setD s p a b).length=s.length:=by simp [setD]
def raw (s:List ByteArray) (p:Nat):ByteArray:=s[2*p+1]?.getD ByteArray.empty++s[2*p+2]?.getD ByteArray.empty
theorem raw_same {s:List ByteArray} (h:Rest s) {p:Nat} (h1:1<=p) (h16:p<=16) {a b:ByteArray}:raw (setD s p a b) p=a++b:=by
 have hn:=h.n;simp only [raw,setD,List.getElem?_set,List.length_set];simp;rw [if_pos (by omega),if_pos (by omega)];simp
theorem raw_other {s:List ByteArray} {p q:Nat} (h1:1<=q) (hne:p≠q) {a b:ByteArray}:raw (setD s p a b) q=raw s q:=by
 simp only [raw,setD,List.getElem?_set,List.length_set];rw [if_neg (by omega),if_neg (by omega),if_neg (by omega),if_neg (by omega),if_neg (by omega),if_neg (by omega),if_neg (by omega),if_neg (by omega),if_neg (by omega),if_neg (by omega),if_neg (by omega),if_neg (by omega)]
end Go.Lk
