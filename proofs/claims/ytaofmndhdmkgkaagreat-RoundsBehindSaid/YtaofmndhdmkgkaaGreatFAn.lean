/-
  What is proved here: what functions of the program compute, and what follows; no condition beyond each theorem's own.
-/
import Derived.Test.YtaofmndhdmkgkaaGreatFAi
import Derived.Test.YtaofmndhdmkgkaaGreatFAk
import Derived.Test.YtaofmndhdmkgkaaGreatFAm
set_option linter.unusedSimpArgs false
set_option linter.unusedVariables false
set_option linter.unnecessarySimpa false
set_option linter.unusedSectionVars false
namespace Go.Lk.Hy
open Go Go.Proofs Go.RowKit Go.Lk
theorem okRows_sub {sz:Nat} {l:List (List D)} (h:okRows sz l=true) (n m:Nat):okRows sz ((l.drop n).take m)=true:=by
 simp only [okRows,List.all_eq_true] at h⊢;intro x hx;exact h x (List.mem_of_mem_drop (List.mem_of_mem_take hx))
theorem okRows_drop {sz:Nat} {l:List (List D)} (h:okRows sz l=true) (n:Nat):okRows sz (l.drop n)=true:=by
 simp only [okRows,List.all_eq_true] at h⊢;intro x hx;exact h x (List.mem_of_mem_drop hx)
theorem ins_grow {α:Type} {A Z V B X Y:List α} {i m n:Nat} (hA:A.length=i) (hV:V.length=m) (hB:B.length=n-i) (hi:i<=n) (k:Nat) (hk:k=n+m):
  (((A++Z).take i++(V++X)).take (i+m)++(B++Y)).take k=A++(V++B):=by
 have h1:(A++Z).take i=A:=List.take_left' hA
 have h2:(A++(V++X)).take (i+m)=A++V:=by rw [<-List.append_assoc];exact List.take_left' (by simp [hA,hV])
 rw [h1,h2]
 have h3:(A++V++(B++Y))=(A++(V++B))++Y:=by simp
 rw [h3];exact List.take_left' (by simp [hA,hV,hB,hk];omega)
theorem ins_in {α:Type} {R V B Y:List α} {i m n:Nat} (hR:n+m<=R.length) (hV:V.length=m) (hB:B.length=n-i) (hi:i<=n) (k:Nat) (hk:k=n+m):
  ((R.take (i+m)++(B++Y)).take i++(V++(R.take (i+m)++(B++Y)).drop (i+m))).take k=R.take i++(V++B):=by
 have h1:(R.take (i+m)).length=i+m:=by rw [List.length_take];omega
 have h2:(R.take i).length=i:=by rw [List.length_take];omega
 have h3:(R.take (i+m)++(B++Y)).take i=R.take i:=by rw [List.take_append_of_le_length (by omega),List.take_take,Nat.min_eq_left (by omega)]
 have h4:(R.take (i+m)++(B++Y)).drop (i+m)=B++Y:=List.drop_left' h1;rw [h3,h4]
 have h5:R.take i++(V++(B++Y))=(R.take i++(V++B))++Y:=by simp
 rw [h5];exact List.take_left' (by simp [h2,hV,hB,hk];omega)
theorem insert_ok {l vs:List (List D)} {i:Nat} (hi:i<=l.length) (hl:l.length<=1000000) (hv0:0<vs.length) (hv:vs.length<=1000) (hok:okRows 3 l=true) (hp:okRows 3 vs=true):
  WCall Tryz.prog 135 l 3 [.d (.int .i64 i),.own 1000000] [(1000000,.row vs 3 false)] [(1000000,.row vs 3 false)] (l.take i++(vs++l.drop i)):=by
 refine wcall_of Tryz.func135 3 rfl (by kernel_rfl) (by rfl) ?_;refine ⟨fun cap hcap=>?_,fun h0=>?_⟩
 ·obtain ⟨R,hR⟩:∃ R,R=l++List.replicate (cap-l.length) (List.replicate 3 D.unk):=⟨_,rfl⟩
  have hRl:R.length=cap:=by rw [hR];simp;omega
  have hRt:R.take l.length=l:=by rw [hR];simp
  have hRi:R.take i=l.take i:=by rw [hR,List.take_append_of_le_length hi]
  rw [<-hR]
  conv=>whnf
  refine winK_lo (by omega) hcap (aW ?_)
  refine bcase_p (fun hm0=>?_) (fun hm0=>?_)<;>conv=>whnf
  ·omega
  refine aA ?_
  refine bcase_p (fun hin=>?_) (fun hin=>?_)<;>conv=>whnf
  ·have hin':i=l.length:=by omega
   subst hin';refine aA ?_;refine condK_of hp (w0 ?_);refine ⟨fun hf=>?_,fun hf=>?_⟩
   ·conv=>whnf
    refine condK_of (by omega) (w0 ?_);refine wret_win rfl rfl rfl ?_ ?_ rfl ⟨rfl,trivial⟩
    ·simp;omega
    ·rw [Nat.zero_add,hRt,<-List.append_assoc];rw [List.take_append_of_le_length (by simp)];rw [List.take_of_length_le (by simp)];simp
   ·conv=>whnf
    refine condK_of (by omega) (w0 ?_);refine roomK_of (Nat.le_trans (Nat.mul_le_mul_right _ (by show l.length+vs.length<=1001000;omega)) (by decide)) (by omega) (w0 ?_);refine wret_win rfl rfl rfl ?_ ?_ rfl ⟨rfl,trivial⟩
    ·simp [hRl];omega
    ·rw [List.drop_zero,hRt];rw [List.take_of_length_le (by simp)];simp
  ·have hilt:i<l.length:=by omega
   refine aA ?_
   refine bcase_p (fun hcp=>?_) (fun hcp=>?_)<;>conv=>whnf
   ·refine winK_hi (by simp;omega) (aW ?_)
    have eN:((l.length:Nat):Int)+((vs.length:Nat):Int)-(i:Int)=((l.length+vs.length-i:Nat):Int):=by omega
    rw [eN];simp only [Int.toNat_natCast,Nat.sub_zero,Nat.zero_add];refine roomK_of (Nat.le_trans (Nat.mul_le_mul_right _ (by show i+(l.length+vs.length-i) <=1001000;omega)) (by decide)) (by omega) (w0 ?_);refine winK_lo (by omega) (by simp) (w0 ?_);have em:Nat.min vs.length (i+(l.length+vs.length-i)-i)=vs.length:=Nat.min_eq_left (by omega);rw [em,List.take_length];refine condK_of ⟨by simp;omega,hp⟩ (aW ?_);refine winK_lo (by omega) (by simp) (w0 ?_);refine winK_lo (by omega) hcap (w0 ?_);refine condK_of (by omega) (w0 ?_)
    have es:List.take (l.length-i) (List.drop (0+i) R)=l.drop i:=by rw [Nat.zero_add,<-List.drop_take,hRt]
    rw [es];have em2:Nat.min (l.drop i).length (i+(l.length+vs.length-i)-(i+vs.length))=(l.drop i).length:=Nat.min_eq_left (by rw [List.length_drop];omega);rw [em2,List.take_length];refine condK_of ⟨by simp;omega,okRows_drop hok i⟩ (aW ?_);refine wret_win rfl rfl rfl ?_ ?_ rfl ⟨rfl,trivial⟩
    ·simp;omega
    ·have e0:(R.take i).length=i:=by rw [List.length_take];omega
     have e1:(l.take i).length=i:=by rw [List.length_take];omega
     have e2:(l.drop i).length=l.length-i:=List.length_drop ..
     simp only [List.drop_zero,Nat.zero_add,hRi];exact ins_grow e1 rfl e2 hi _ (by omega)
   ·refine aA ?_;refine winK_hi (by show l.length+vs.length<=cap;omega) (aW ?_);refine winK_lo (by omega) (by show l.length+vs.length-0<=cap-0;omega) (w0 ?_);refine callH_ext (xcall_overlaps (t:=22) (tR:=4) tabOk Tryz.func190 (by kernel_rfl) (by kernel_rfl) (by kernel_rfl) (by kernel_rfl) rfl rfl rfl (by decide) (by intro e;rw [e] at hv0;exact absurd hv0 (by decide)) (by omega) (by decide)) (aW ?_);refine winK_lo (by omega) (by show l.length+vs.length-0<=cap-0;omega) (w0 ?_);refine winK_lo (by omega) (by show l.length+vs.length-0<=cap-0;omega) (w0 ?_);refine condK_of (by omega) (w0 ?_)
    have es:(List.take (l.length+vs.length-0-i) (List.drop (0+0+i) R)).length=l.length+vs.length-i:=by rw [List.length_take,List.length_drop];omega
    have em:Nat.min (List.take (l.length+vs.length-0-i) (List.drop (0+0+i) R)).length (l.length+vs.length-0-(i+vs.length))=l.length-i:=by rw [es];exact (Nat.min_eq_right (by omega)).trans (by omega)
    rw [em]
    have es2:List.take (l.length-i) (List.take (l.length+vs.length-0-i) (List.drop (0+0+i) R))=l.drop i:=by
     rw [List.take_take,Nat.min_eq_left (by omega),show 0+0+i=i by omega,<-List.drop_take,hRt]
    rw [es2];refine condK_of ⟨by omega,okRows_drop hok i⟩ (aW ?_);refine winK_lo (by omega) (by show l.length+vs.length-0<=cap-0;omega) (w0 ?_);have em3:Nat.min vs.length (l.length+vs.length-0-i)=vs.length:=Nat.min_eq_left (by omega);rw [em3,List.take_length];refine condK_of ⟨by simp;omega,hp⟩ (aW ?_);refine wret_win rfl rfl rfl ?_ ?_ rfl ⟨rfl,trivial⟩
    ·simp;omega
    ·have e0:(0:Nat)+0+i=i:=by omega
     have e1:(0:Nat)+0+(i+vs.length)=i+vs.length:=by omega
     have e2:(l.drop i).length=l.length-i:=List.length_drop ..
     rw [e0,e1,<-hRi];exact ins_in (n:=l.length) (by omega) rfl e2 hi _ (by omega)
 ·conv=>whnf
  refine sliceK_lo (by rw [h0] at hi;exact hi) (w0 ?_)
  have hi0:i=0:=by rw [h0] at hi;simpa using hi
  subst hi0;refine aA ?_
  refine bcase_p (fun hm0=>?_) (fun hm0=>?_)<;>conv=>whnf
  ·omega
  refine aA ?_;refine condK_of hp (w0 ?_);refine roomK_of (Nat.le_trans (Nat.mul_le_mul_right _ (by show vs.length<=1001000;omega)) (by decide)) (by omega) (w0 ?_);subst h0;refine wret_own rfl rfl ?_ rfl ⟨rfl,trivial⟩;show some (Blk.row vs 3 false)=some (Blk.row ([].take 0++(vs++[].drop 0)) 3 false);simp
theorem delete_ok {l:List (List D)} {i j:Nat} (hi:i<j) (hj:j<=l.length) (hl:l.length<=1000000) (hok:okRows 3 l=true):
  WCall Tryz.prog 136 l 3 [.d (.int .i64 i),.d (.int .i64 j)] [] [] (l.take i++l.drop j):=by
 refine wcall_of Tryz.func136 3 rfl (by kernel_rfl) (by rfl) ?_;refine ⟨fun cap hcap=>?_,fun h0=>by rw [h0] at hj;simp at hj;omega⟩;obtain ⟨R,hR⟩:∃ R,R=l++List.replicate (cap-l.length) (List.replicate 3 D.unk):=⟨_,rfl⟩
 have hRl:R.length=cap:=by rw [hR];simp;omega
 have hRt:R.take l.length=l:=by rw [hR];simp
 have hRi:R.take i=l.take i:=by rw [hR,List.take_append_of_le_length (by omega)]
 rw [<-hR]
 conv=>whnf
 refine condK_of ⟨(by intro e;cases e),by omega,by show (l.length:Int) <=cap;omega⟩ (w0 ?_);refine winK_lohi (by omega) (by simpa using hj) (aW ?_)
 refine bcase_p (fun hij=>?_) (fun hij=>?_)<;>conv=>whnf
 ·omega
 refine aA ?_;refine winK_hi (by show i<=cap;omega) (w0 ?_);refine winK_lo (by omega) (by show l.length<=cap;omega) (w0 ?_)
 have es:List.take (l.length-j) (List.drop (0+j) R)=l.drop j:=by rw [Nat.zero_add,<-List.drop_take,hRt]
 have e2:(l.drop j).length=l.length-j:=List.length_drop ..
 rw [es];refine condK_of ⟨by omega,okRows_drop hok j⟩ (w0 ?_);refine ⟨fun hf=>?_,fun hf=>absurd (show i-0+(l.drop j).length<=cap-0 by omega) hf⟩
 conv=>whnf
 refine condK_of (by omega) (aW ?_);refine winK_lohi (by omega) (by show l.length<=cap-0;omega) (w0 ?_);refine condK_of ⟨by simp;omega,rfl⟩ (aW ?_);refine wret_win rfl rfl rfl ?_ ?_ rfl trivial
 ·simp;omega
 ·have e1:(l.take i).length=i:=by rw [List.length_take];omega
  have e3:(0:Nat)+0+(i-0)=i:=by omega
  have h1:∀ Y:List (List D),(List.take (0+(i-0)) R++(l.drop j++Y)).take (0+(i-0+(l.drop j).length))=l.take i++l.drop j:=by
   intro Y;rw [show 0+(i-0)=i by omega,hRi,<-List.append_assoc];exact List.take_left' (by rw [List.length_append,e1];omega)
  rw [h1];exact List.take_left' (by rw [List.length_append,e1];omega)
abbrev Pg:=Int×Int×ByteArray
def encP (x:Pg):List D:=[.int .i64 x.1,.int .i64 x.2.1,.str x.2.2]
theorem encP_ok:∀ (l:List Pg),okRows 3 (l.map encP)=true
 | []=>rfl
 |_::r=>encP_ok r
def pgR (x:Pg):Bool:=decide (1<=x.1)&&(decide (x.1<=16)&&(decide (1<=x.2.1)&&(decide (x.2.1<=2147483647)&&decide (x.2.2.size<=16))))
theorem pgR_out {x:Pg}:pgR x=true↔1<=x.1/\x.1<=16/\1<=x.2.1/\x.2.1<=2147483647/\x.2.2.size<=16:=by simp [pgR]
theorem pageRight_ok (x:Pg):ACall Tryz.prog 119 [.agg (encP x)] (.bool (pgR x)):=by
 refine acall_of Tryz.func119 1 rfl (by kernel_rfl) (aW ?_)
 refine bcase_p (fun h1=>?_) (fun h1=>?_)<;>conv=>whnf
 ·exact ret_of rfl (congrArg D.bool (by simp [pgR];omega))
 refine aA ?_
 refine bcase_p (fun h2=>?_) (fun h2=>?_)<;>conv=>whnf
 ·exact ret_of rfl (congrArg D.bool (by simp [pgR];omega))
 refine aA ?_
 refine bcase_p (fun h3=>?_) (fun h3=>?_)<;>conv=>whnf
 ·exact ret_of rfl (congrArg D.bool (by simp [pgR];omega))
 refine aA ?_
 refine bcase_p (fun h4=>?_) (fun h4=>?_)<;>conv=>whnf
 ·exact ret_of rfl (congrArg D.bool (by simp [pgR];omega))
 refine aA ?_
 exact ret_of rfl (congrArg D.bool (by
  have e1:decide (1<=x.1)=true:=by simp;omega
  have e2:decide (x.1<=16)=true:=by simp;omega
  have e3:decide (1<=x.2.1)=true:=by simp;omega
  have e4:decide (x.2.1<=2147483647)=true:=by simp;omega
  rw [pgR,e1,e2,e3,e4];simp;omega))
theorem cloneP_ok (l:List Pg) (hl:l.length<=1000000):OCall Tryz.prog 61 [.lst (l.map encP)] (l.map encP) 3:=by
 refine ocall_of Tryz.func61 1 rfl (by kernel_rfl) (w0 ?_);refine nilK_of (w0 ?_);intro r hr
 conv=>whnf
 refine bcase_intro (fun h=>?_) (fun h=>?_)<;>conv=>whnf
 ·have:=hr h;exact ⟨2,rfl,.inr ⟨rfl,this⟩⟩
 ·refine aA ?_;refine condK_of (encP_ok l) (w0 ?_);refine roomK_le 1000100 100 (by show 0+List.length _<=1000100;simp;omega) (by decide) (by decide) (by decide) (w0 ?_);exact ⟨2,rfl,.inl ⟨5,rfl,rfl⟩⟩
structure MRight (l:List Pg):Prop where
 one:∀ x∈l,pgR x=true
 rise:∀ i,(hi:i+1<l.length)->l[i].1<l[i+1].1
open Classical in
noncomputable def mapB (l:List Pg):Bool:=decide (MRight l)
theorem mapB_t {l:List Pg}:mapB l=true↔MRight l:=by simp [mapB]
theorem mapB_f {l:List Pg}:mapB l=false↔¬MRight l:=by simp [mapB]
structure MPart (l:List Pg) (k:Nat):Prop where
 le:k<=l.length
 one:∀ i,i<k->(hi:i<l.length)->pgR l[i]=true
 rise:∀ i,i+1<k->(hi:i+1<l.length)->l[i].1<l[i+1].1
theorem mpart0 (l:List Pg):MPart l 0:=⟨by omega,by omega,by omega⟩
theorem mpart_end {l:List Pg} {k:Nat} (h:MPart l k) (hk:¬k<l.length):mapB l=true:=by
 have hk:k=l.length:=by have:=h.le;omega
 subst hk;refine mapB_t.2 ⟨fun x hx=>?_,fun i hi=>h.rise i hi hi⟩;obtain ⟨i,hi,rfl⟩:=List.mem_iff_getElem.1 hx;exact h.one i hi hi
theorem mpart_step {l:List Pg} {k:Nat} (h:MPart l k) (hk:k<l.length) (h1:pgR l[k]=true) (h2:∀ i,i+1=k->(hi:i<l.length)->l[i].1<l[k].1):MPart l (k+1):=by
 refine ⟨by omega,fun i hi hi2=>?_,fun i hi hi2=>?_⟩
 ·by_cases e:i=k
  ·subst e;exact h1
  ·exact h.one i (by omega) hi2
 ·by_cases e:i+1=k
  ·subst e;exact h2 i rfl (by omega)
  ·exact h.rise i (by omega) hi2
theorem map_no1 {l:List Pg} {k:Nat} (hk:k<l.length) (h1:pgR l[k]=false):mapB l=false:=mapB_f.2 fun h=>by
 have:=h.one l[k] (List.getElem_mem hk)
 rw [h1] at this;cases this
theorem map_no2 {l:List Pg} {i:Nat} (hi:i+1<l.length) (h:l[i+1].1<=l[i].1):mapB l=false:=mapB_f.2 fun hM=>by
 have:=hM.rise i hi;omega
theorem opsRight_ok (l:List Pg) (hl:l.length<=1000000):ACall Tryz.prog 68 [.agg [.lst (l.map encP)]] (.bool (mapB l)):=by
 refine acall_of Tryz.func68 1 rfl (by kernel_rfl) (aW ?_)
 have hm:(l.map encP).length=l.length:=List.length_map ..
 refine aloop (ι:=Nat) (fun k=>[(1,.ptr 1 0 0),(6,.d (.lst (l.map encP))),(7,.d (.int .i64 (l.map encP).length)),(8,.d (.int .i64 k))]) (fun _=>[(1,.box [.d (.lst (l.map encP))] false)])
  (fun k=>MPart l k) (fun k=>l.length-k) 0 (mpart0 l) (le0 (le_of_cov ⟨rfl,rfl,rfl,rfl,trivial⟩ ⟨rfl,trivial⟩ ⟨rfl,rfl,rfl,rfl⟩)) ?_
 intro k hk
 conv=>whnf
 refine bcase_p (fun h5=>?_) (fun h5=>?_)<;>conv=>whnf
 ·have hk2:k<l.length:=by omega
  refine idxK_nat (by omega) (w0 ?_);refine getRow_of (x:=encP l[k]) (by simp [hk2]) (aW ?_);refine callX_pure (pageRight_ok l[k]) (aW ?_)
  refine bcase_intro (fun g1=>?_) (fun g1=>?_)<;>conv=>whnf
  ·exact ret_of rfl (congrArg D.bool (map_no1 hk2 (by simpa using g1)).symm)
  have g1:pgR l[k]=true:=by simpa using g1
  refine aA ?_
  refine bcase_p (fun g2=>?_) (fun g2=>?_)<;>conv=>whnf
  ·obtain ⟨j,rfl⟩:∃ j,k=j+1:=⟨k-1,by omega⟩
   have ej:(((j+1:Nat):Int))-1=((j:Nat):Int):=by omega
   refine aA ?_;rw [ej];refine idxK_nat (by omega) (w0 ?_);refine getRow_of (x:=encP l[j]) (by simp [(show j<l.length by omega)]) (aW ?_)
   refine bcase_p (fun g3=>?_) (fun g3=>?_)<;>conv=>whnf
   ·exact ret_of rfl (congrArg D.bool (map_no2 hk2 g3).symm)
   ·refine aA ?_
    exact ⟨j+2,mpart_step hk hk2 g1 fun i hi hi2=>by
     obtain rfl:i=j:=by omega
     omega,by omega,(le0 (le_of_cov ⟨rfl,rfl,rfl,rfl,trivial⟩ ⟨rfl,trivial⟩ ⟨rfl,rfl,rfl,rfl⟩))⟩
  ·refine aA ?_;exact ⟨k+1,mpart_step hk hk2 g1 fun i hi hi2=>by omega,by omega,(le0 (le_of_cov ⟨rfl,rfl,rfl,rfl,trivial⟩ ⟨rfl,trivial⟩ ⟨rfl,rfl,rfl,rfl⟩))⟩
 ·refine aA ?_;exact ret_of rfl (congrArg D.bool (mpart_end hk (by omega)).symm)
def plN (l:List Pg) (id:Int):Nat:=l.findIdx fun p=>decide (id<=p.1)
def plB (l:List Pg) (id:Int):Bool:=match l[plN l id]? with|some p=>decide (p.1=id)|none=>false
theorem plN_le (l:List Pg) (id:Int):plN l id<=l.length:=List.findIdx_le_length
theorem plN_at {l:List Pg} {id:Int} {k:Nat} (hk:k<l.length) (h1:id<=l[k].1) (h:∀ i,i<k->(hi:i<l.length)->l[i].1<id):plN l id=k:=by
 unfold plN;rw [List.findIdx_eq hk];refine ⟨by simpa using h1,fun j hj=>?_⟩;have:=h j hj (by omega)
 simp;omega
theorem plN_end {l:List Pg} {id:Int} (h:∀ i,i<l.length->(hi:i<l.length)->l[i].1<id):plN l id=l.length:=by
 unfold plN;rw [List.findIdx_eq_length];intro x hx;obtain ⟨i,hi,rfl⟩:=List.mem_iff_getElem.1 hx;have:=h i hi hi
 simp;omega
theorem place_ok (l:List Pg) (id:Int) (hl:l.length<=1000000):ACall Tryz.prog 69 [.agg [.lst (l.map encP)],.int .i64 id] (.tup [.int .i64 (plN l id),.bool (plB l id)]):=by
 refine acall_of Tryz.func69 2 rfl (by kernel_rfl) (aW ?_)
 have hm:(l.map encP).length=l.length:=List.length_map ..
 refine aloop (ι:=Nat) (fun k=>[(1,.d (.int .i64 id)),(2,.ptr 2 0 0),(9,.d (.lst (l.map encP))),(10,.d (.int .i64 (l.map encP).length)),(11,.d (.int .i64 k))]) (fun _=>[(2,.box [.d (.lst (l.map encP))] false)])
  (fun k=>k<=l.length/\ ∀ i,i<k->(hi:i<l.length)->l[i].1<id) (fun k=>l.length-k) 0 ⟨by omega,by omega⟩ (le0 (le_of_cov ⟨rfl,rfl,rfl,rfl,rfl,trivial⟩ ⟨rfl,trivial⟩ ⟨rfl,rfl,rfl,rfl⟩)) ?_
 rintro k ⟨hk,hR⟩
 conv=>whnf
 refine bcase_p (fun h5=>?_) (fun h5=>?_)<;>conv=>whnf
 ·have hk2:k<l.length:=by omega
  refine idxK_nat (by omega) (w0 ?_);refine getRow_of (x:=encP l[k]) (by simp [hk2]) (aW ?_)
  refine bcase_p (fun g=>?_) (fun g=>?_)<;>conv=>whnf
  ·refine aA ?_;have e:plN l id=k:=plN_at hk2 g hR
   have e2:plB l id=decide (l[k].1=id):=by simp [plB,e,hk2]
   rw [e2,e];exact ret_of rfl rfl
  ·refine aA ?_
   exact ⟨k+1,⟨by omega,fun i hi hi2=>by
    by_cases q:i=k
    ·subst q;omega
    ·exact hR i (by omega) hi2⟩,by omega,(le0 (le_of_cov ⟨rfl,rfl,rfl,rfl,rfl,trivial⟩ ⟨rfl,trivial⟩ ⟨rfl,rfl,rfl,rfl⟩))⟩
 ·refine aA ?_
  have e:plN l id=l.length:=plN_end fun i hi hi2=>hR i (by omega) hi2
  have e2:plB l id=false:=by simp [plB,e]
  rw [e2,e,<-hm];exact ret_of rfl rfl
abbrev Op:=Int×Int×ByteArray
def encO (o:Op):List D:=[.int .i64 o.1,.int .i64 o.2.1,.str o.2.2]
abbrev Res:=Int×Pg
def zP:Pg:=(0,0,ByteArray.empty)
def encR (r:Res):List D:=[.int .i64 r.1,.int .i64 r.2.1,.int .i64 r.2.2.1,.str r.2.2.2]
noncomputable def doM (l:List Pg) (o:Op):List Pg×Res:=
 if mapB l=false\/o.1<1\/4<o.1\/o.2.1<1\/16<o.2.1 then (l,(1,zP)) else
 if o.1=1 then (if plB l o.2.1=true then (l,(4,zP)) else (l.take (plN l o.2.1)++(o.2.1,1,ByteArray.empty)::l.drop (plN l o.2.1),(0,(o.2.1,1,ByteArray.empty)))) else
 if plB l o.2.1=false then (l,(3,zP)) else
 match l[plN l o.2.1]? with
 |none=>(l,(0,zP))
 |some p=>if o.1=2 then (l,(0,p)) else
  if o.1=4 then (l.take (plN l o.2.1)++l.drop (plN l o.2.1+1),(0,zP)) else
  if 16<o.2.2.size then (l,(5,zP)) else
  if 2147483647<=p.2.1 then (l,(7,zP)) else (l.set (plN l o.2.1) (p.1,p.2.1+1,o.2.2),(0,(p.1,p.2.1+1,o.2.2)))
theorem opsDo_ok (l:List Pg) (o:Op) (hl:l.length<=1000):ACall Tryz.prog 78 [.agg [.lst (l.map encP)],.agg (encO o)] (.tup [.agg [.lst ((doM l o).1.map encP)],.agg (encR (doM l o).2)]):=by
 refine acall_of Tryz.func78 2 rfl (by kernel_rfl) (aW ?_);refine callX_pure (opsRight_ok l (by omega)) (aW ?_)
 refine bcase_intro (fun g0=>?_) (fun g0=>?_)<;>conv=>whnf
 ·refine aA ?_;have e:doM l o=(l,(1,zP)):=if_pos (.inl (by simpa using g0));rw [e];exact ret_of rfl rfl
 have g0:mapB l=true:=by simpa using g0
 refine aA ?_
 refine bcase_p (fun g1=>?_) (fun g1=>?_)<;>conv=>whnf
 ·refine aA ?_;have e:doM l o=(l,(1,zP)):=if_pos (.inr (.inl g1));rw [e];exact ret_of rfl rfl
 refine aA ?_
 refine bcase_p (fun g2=>?_) (fun g2=>?_)<;>conv=>whnf
 ·refine aA ?_;have e:doM l o=(l,(1,zP)):=if_pos (.inr (.inr (.inl g2)));rw [e];exact ret_of rfl rfl
 refine aA ?_
 refine bcase_p (fun g3=>?_) (fun g3=>?_)<;>conv=>whnf
 ·refine aA ?_;have e:doM l o=(l,(1,zP)):=if_pos (.inr (.inr (.inr (.inl g3))));rw [e];exact ret_of rfl rfl
 refine aA ?_
 refine bcase_p (fun g4=>?_) (fun g4=>?_)<;>conv=>whnf
 ·refine aA ?_;have e:doM l o=(l,(1,zP)):=if_pos (.inr (.inr (.inr (.inr g4))));rw [e];exact ret_of rfl rfl
 have e0:¬(mapB l=false\/o.1<1\/4<o.1\/o.2.1<1\/16<o.2.1):=by rw [g0];simp;omega
 refine aA ?_;refine callX_pure (place_ok l o.2.1 (by omega)) (aW ?_)
 refine bcase_p (fun k1=>?_) (fun k1=>?_)<;>conv=>whnf
 ·refine aA ?_
  refine bcase_intro (fun b1=>?_) (fun b1=>?_)<;>conv=>whnf
  ·refine aA ?_
   have e:doM l o=(l,(4,zP)):=by rw [doM,if_neg e0,if_pos k1,if_pos b1]
   rw [e];exact ret_of rfl rfl
  refine aA ?_;refine callX_own (cloneP_ok l (by omega)) (aW ?_)
  have hm:(l.map encP).length=l.length:=List.length_map ..
  refine callX_win (insert_ok (l:=l.map encP) (vs:=[encP (o.2.1,1,ByteArray.empty)]) (i:=plN l o.2.1) (by rw [hm];exact plN_le l o.2.1) (by omega) (Nat.lt_succ_self 0) (by simp) (encP_ok l) rfl) [(1000000,57)] rfl ⟨rfl,rfl,trivial⟩ rfl (aW ?_)
  have e:doM l o=(l.take (plN l o.2.1)++(o.2.1,1,ByteArray.empty)::l.drop (plN l o.2.1),(0,(o.2.1,1,ByteArray.empty))):=by rw [doM,if_neg e0,if_pos k1,if_neg (by rw [b1];decide)]
  rw [e]
  have e2:(l.take (plN l o.2.1)++(o.2.1,1,ByteArray.empty)::l.drop (plN l o.2.1)).map encP=(l.map encP).take (plN l o.2.1)++([encP (o.2.1,1,ByteArray.empty)]++(l.map encP).drop (plN l o.2.1)):=by simp [List.map_take,List.map_drop]
  show _=_;rw [e2];exact ret_of rfl rfl
 refine aA ?_
 refine bcase_intro (fun b1=>?_) (fun b1=>?_)<;>conv=>whnf
 ·refine aA ?_
  have e:doM l o=(l,(3,zP)):=by rw [doM,if_neg e0,if_neg k1,if_pos (by simpa using b1)]
  rw [e];exact ret_of rfl rfl
 have b1:plB l o.2.1=true:=by simpa using b1
 obtain ⟨n,hn⟩:∃ n,plN l o.2.1=n:=⟨_,rfl⟩;rw [hn]
 have hm:(l.map encP).length=l.length:=List.length_map ..
 obtain ⟨hnl,hnp⟩:∃ h:n<l.length,l[n].1=o.2.1:=by
  have hb:=b1;unfold plB at hb;rw [hn] at hb
  cases hq:l[n]? with
  |none=>rw [hq] at hb;cases hb
  |some p=>
   rw [hq] at hb;obtain ⟨h1,h2⟩:=List.getElem?_eq_some_iff.1 hq;exact ⟨h1,by rw [h2];simpa using hb⟩
 have hD:doM l o=(if o.1=2 then (l,(0,l[n])) else
  if o.1=4 then (l.take n++l.drop (n+1),(0,zP)) else
  if 16<o.2.2.size then (l,(5,zP)) else
  if 2147483647<=l[n].2.1 then (l,(7,zP)) else (l.set n (l[n].1,l[n].2.1+1,o.2.2),(0,(l[n].1,l[n].2.1+1,o.2.2)))):=by
  rw [doM,if_neg e0,if_neg k1,if_neg (by rw [b1];decide),hn,List.getElem?_eq_getElem hnl]
 rw [hD]
 clear hD
 refine aA ?_;refine idxK_nat (by omega) (w0 ?_);refine getRow_of (x:=encP l[n]) (by simp [hnl]) (aW ?_)
 refine bcase_p (fun k2=>?_) (fun k2=>?_)<;>conv=>whnf
 ·rw [if_pos k2];refine aA ?_;exact ret_of rfl rfl
 rw [if_neg k2];refine aA ?_
 refine bcase_p (fun k3=>?_) (fun k3=>?_)<;>conv=>whnf
 ·rw [if_pos k3];refine aA ?_;refine callX_own (cloneP_ok l (by omega)) (aW ?_);refine callX_win (delete_ok (l:=l.map encP) (i:=n) (j:=n+1) (by omega) (by omega) (by omega) (encP_ok l)) [] rfl ⟨rfl,trivial⟩ rfl (aW ?_);rw [List.map_append,List.map_take,List.map_drop];exact ret_of rfl rfl
 rw [if_neg k3];refine aA ?_
 refine bcase_p (fun k4=>?_) (fun k4=>?_)<;>conv=>whnf
 ·rw [if_pos (show 16<o.2.2.size by omega)];refine aA ?_;exact ret_of rfl rfl
 rw [if_neg (show ¬16<o.2.2.size by omega)];refine aA ?_
 refine bcase_p (fun k5=>?_) (fun k5=>?_)<;>conv=>whnf
 ·rw [if_pos k5];refine aA ?_;exact ret_of rfl rfl
 rw [if_neg k5];have hv:=pgR_out.1 ((mapB_t.1 g0).one l[n] (List.getElem_mem hnl));refine aA ?_;refine callX_own (cloneP_ok l (by omega)) (aW ?_);refine idxK_nat (by omega) (w0 ?_);refine getRow_of (x:=encP l[n]) (by simp [hnl]) (aW ?_)
 have e2:(l.set n (l[n].1,l[n].2.1+1,o.2.2)).map encP=(l.map encP).set n (encP (l[n].1,l[n].2.1+1,o.2.2)):=List.map_set ..
 refine ret_of rfl ?_;show D.tup [.agg [.lst ((l.map encP).set n (encP (l[n].1,l[n].2.1+1,o.2.2)))],.agg (encR (0,(l[n].1,l[n].2.1+1,o.2.2)))]=_;rw [<-e2]
theorem same_ok (a b:List Pg) (ha:a.length<=1000000):ACall Tryz.prog 28 [.lst (a.map encP),.lst (b.map encP)] (.bool (decide (a=b))):=by
 refine acall_of Tryz.func28 2 rfl (by kernel_rfl) (w0 ?_)
 have hma:(a.map encP).length=a.length:=List.length_map ..
 have hmb:(b.map encP).length=b.length:=List.length_map ..
 refine bcase_n (fun h1=>?_) (fun h1=>?_)<;>conv=>whnf
 ·exact ret_of rfl (congrArg D.bool (by
   rw [hma,hmb] at h1
   symm;rw [decide_eq_false_iff_not];intro e;subst e;exact h1 rfl))
 have hl:a.length=b.length:=by omega
 refine aA ?_;refine aloop (ι:=Nat) (fun k=>[(0,.d (.lst (a.map encP))),(1,.d (.lst (b.map encP))),(5,.d (.int .i64 k))]) (fun _=>[])
  (fun k=>k<=a.length/\ ∀ i,i<k->(hi:i<a.length)->a[i]=b[i]) (fun k=>a.length-k) 0 ⟨by omega,by omega⟩ (le0 (le_of_cov ⟨rfl,rfl,rfl,trivial⟩ trivial ⟨rfl,rfl,rfl,rfl⟩)) ?_
 rintro k ⟨hk,hR⟩
 conv=>whnf
 refine bcase_p (fun h5=>?_) (fun h5=>?_)<;>conv=>whnf
 ·have hk2:k<a.length:=by omega
  have hk3:k<b.length:=by omega
  refine idxK_nat (by omega) (w0 ?_);refine getRow_of (x:=encP a[k]) (by simp [hk2]) (aW ?_);refine idxK_nat (by omega) (w0 ?_);refine getRow_of (x:=encP b[k]) (by simp [hk3]) (aW ?_)
  refine bcase_intro (fun h6=>?_) (fun h6=>?_)<;>conv=>whnf
  ·refine aA ?_;refine ret_of rfl (congrArg D.bool ?_)
   symm;rw [decide_eq_false_iff_not];intro e;subst e
   simp at h6
  ·have e:a[k]=b[k]:=by
    refine Prod.ext ?_ (Prod.ext ?_ ?_)
    ·simp at h6;exact h6.1
    ·simp at h6;exact h6.2.1
    ·simp at h6;exact h6.2.2
   refine aA ?_
   exact ⟨k+1,⟨by omega,fun i hi hi2=>by
    by_cases q:i=k
    ·subst q;exact e
    ·exact hR i (by omega) hi2⟩,by omega,(le0 (le_of_cov ⟨rfl,rfl,rfl,trivial⟩ trivial ⟨rfl,rfl,rfl,rfl⟩))⟩
 ·refine aA ?_;refine ret_of rfl (congrArg D.bool ?_)
  symm;rw [decide_eq_true_eq]
  exact List.ext_getElem hl fun i h1 h2=>hR i (by omega) h1
end Go.Lk.Hy
