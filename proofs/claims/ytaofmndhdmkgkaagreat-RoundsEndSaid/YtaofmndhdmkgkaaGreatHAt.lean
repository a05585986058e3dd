/-
  What is proved here: what functions of the program compute, and what follows; no condition beyond each theorem's own.
-/
import Derived.Test.YtaofmndhdmkgkaaGreatHAn
import Derived.Test.YtaofmndhdmkgkaaGreatHAp
import Derived.Test.YtaofmndhdmkgkaaGreatHAs
set_option linter.unusedSimpArgs false
set_option linter.unusedVariables false
set_option linter.unnecessarySimpa false
set_option linter.unusedSectionVars false
namespace Go.Lk.Hy
open Go Go.Proofs Go.RowKit Go.Lk
theorem okRows_sub {sz:Nat} {l:List (List D)} (h:okRows sz l=true) (n m:Nat):okRows sz ((l.drop n).take m)=true:=by
 simp only [okRows,List.all_eq_true] at h⊢;intro x hx;exact h x (List.mem_of_mem_drop (List.mem_of_mem_take hx))
theorem okRows_drop {sz:Nat} {l:List (List D)} (h:okRows sz l=true) (n:Nat):okRows sz (l.drop n)=true:=by
 simp only [okRows,List.all_eq_true] at h⊢;intro x hx;exact h x (List.mem_of_mem_drop hx)
theorem ins_grow {α:Type} {A Z V B X Y:List α} {i m n:Nat} (hA:A.length=i) (hV:V.length=m) (hB:B.length=n-i) (hi:i<=n) (k:Nat) (hk:k=n+m):
  (((A++Z).take i++(V++X)).take (i+m)++(B++Y)).take k=A++(V++B):=by
 have h1:(A++Z).take i=A:=List.take_left' hA
 have h2:(A++(V++X)).take (i+m)=A++V:=by rw [<-List.append_assoc];exact List.take_left' (by simp [hA,hV])
 rw [h1,h2]
 have h3:(A++V++(B++Y))=(A++(V++B))++Y:=by simp
 rw [h3];exact List.take_left' (by simp [hA,hV,hB,hk];omega)
theorem ins_in {α:Type} {R V B Y:List α} {i m n:Nat} (hR:n+m<=R.length) (hV:V.length=m) (hB:B.length=n-i) (hi:i<=n) (k:Nat) (hk:k=n+m):
  ((R.take (i+m)++(B++Y)).take i++(V++(R.take (i+m)++(B++Y)).drop (i+m))).take k=R.take i++(V++B):=by
 have h1:(R.take (i+m)).length=i+m:=by rw [List.length_take];omega
 have h2:(R.take i).length=i:=by rw [List.length_take];omega
 have h3:(R.take (i+m)++(B++Y)).take i=R.take i:=by rw [List.take_append_of_le_length (by omega),List.take_take,Nat.min_eq_left (by omega)]
 have h4:(R.take (i+m)++(B++Y)).drop (i+m)=B++Y:=List.drop_left' h1;rw [h3,h4]
 have h5:R.take i++(V++(B++Y))=(R.take i++(V++B))++Y:=by simp
 rw [h5];exact List.take_left' (by simp [h2,hV,hB,hk];omega)
theorem insert_ok {l vs:List (List D)} {i:Nat} (hi:i<=l.length) (hl:l.length<=1000000) (hv0:0<vs.length) (hv:vs.length<=1000) (hok:okRows 3 l=true) (hp:okRows 3 vs=true):
  WCall Tryz.prog 135 l 3 [.d (.int .i64 i),.own 1000000] [(1000000,.row vs 3 false)] [(1000000,.row vs 3 false)] (l.take i++(vs++l.drop i)):=by
 refine wcall_of Tryz.func135 3 rfl (by kernel_rfl) (by rfl) ?_;refine ⟨fun cap hcap=>?_,fun h0=>?_⟩
 ·obtain ⟨R,hR⟩:∃ R,R=l++List.replicate (cap-l.length) (List.replicate 3 D.unk):=⟨_,rfl⟩
  have hRl:R.length=cap:=by rw [hR];simp;omega
  have hRt:R.take l.length=l:=by rw [hR];simp
  have hRi:R.take i=l.take i:=by rw [hR,List.take_append_of_le_length hi]
  rw [<-hR]
  conv=>whnf
  refine winK_lo (by omega) hcap (aW ?_)
  refine bcase_p (fun hm0=>?_) (fun hm0=>?_)<;>conv=>whnf
  ·omega
  refine aA ?_
  refine bcase_p (fun hin=>?_) (fun hin=>?_)<;>conv=>whnf
  ·have hin':i=l.length:=by omega
   subst hin';refine aA ?_;refine condK_of hp (w0 ?_);refine ⟨fun hf=>?_,fun hf=>?_⟩
   ·conv=>whnf
    refine condK_of (by omega) (w0 ?_);refine wret_win rfl rfl rfl ?_ ?_ rfl ⟨rfl,trivial⟩
    ·simp;omega
    ·rw [Nat.zero_add,hRt,<-List.append_assoc];rw [List.take_append_of_le_length (by simp)];rw [List.take_of_length_le (by simp)];simp
   ·conv=>whnf
    refine condK_of (by omega) (w0 ?_);refine roomK_of (Nat.le_trans (Nat.mul_le_mul_right _ (by show l.length+vs.length<=1001000;omega)) (by decide)) (by omega) (w0 ?_);refine wret_win rfl rfl rfl ?_ ?_ rfl ⟨rfl,trivial⟩
    ·simp [hRl];omega
    ·rw [List.drop_zero,hRt];rw [List.take_of_length_le (by simp)];simp
  ·have hilt:i<l.length:=by omega
   refine aA ?_
   refine bcase_p (fun hcp=>?_) (fun hcp=>?_)<;>conv=>whnf
   ·refine winK_hi (by simp;omega) (aW ?_)
    have eN:((l.length:Nat):Int)+((vs.length:Nat):Int)-(i:Int)=((l.length+vs.length-i:Nat):Int):=by omega
    rw [eN];simp only [Int.toNat_natCast,Nat.sub_zero,Nat.zero_add];refine roomK_of (Nat.le_trans (Nat.mul_le_mul_right _ (by show i+(l.length+vs.length-i) <=1001000;omega)) (by decide)) (by omega) (w0 ?_);refine winK_lo (by omega) (by simp) (w0 ?_);have em:Nat.min vs.length (i+(l.length+vs.length-i)-i)=vs.length:=Nat.min_eq_left (by omega);rw [em,List.take_length];refine condK_of ⟨by simp;omega,hp⟩ (aW ?_);refine winK_lo (by omega) (by simp) (w0 ?_);refine winK_lo (by omega) hcap (w0 ?_);refine condK_of (by omega) (w0 ?_)
    have es:List.take (l.length-i) (List.drop (0+i) R)=l.drop i:=by rw [Nat.zero_add,<-List.drop_take,hRt]
    rw [es];have em2:Nat.min (l.drop i).length (i+(l.length+vs.length-i)-(i+vs.length))=(l.drop i).length:=Nat.min_eq_left (by rw [List.length_drop];omega);rw [em2,List.take_length];refine condK_of ⟨by simp;omega,okRows_drop hok i⟩ (aW ?_);refine wret_win rfl rfl rfl ?_ ?_ rfl ⟨rfl,trivial⟩
    ·simp;omega
    ·have e0:(R.take i).length=i:=by rw [List.length_take];omega
     have e1:(l.take i).length=i:=by rw [List.length_take];omega
     have e2:(l.drop i).length=l.length-i:=List.length_drop ..
     simp only [List.drop_zero,Nat.zero_add,hRi];exact ins_grow e1 rfl e2 hi _ (by omega)
   ·refine aA ?_;refine winK_hi (by show l.length+vs.length<=cap;omega) (aW ?_);refine winK_lo (by omega) (by show l.length+vs.length-0<=cap-0;omega) (w0 ?_);refine callH_ext (xcall_overlaps (t:=22) (tR:=4) tabOk Tryz.func190 (by kernel_rfl) (by kernel_rfl) (by kernel_rfl) (by kernel_rfl) rfl rfl rfl (by decide) (by intro e;rw [e] at hv0;exact absurd hv0 (by decide)) (by omega) (by decide)) (aW ?_);refine winK_lo (by omega) (by show l.length+vs.length-0<=cap-0;omega) (w0 ?_);refine winK_lo (by omega) (by show l.length+vs.length-0<=cap-0;omega) (w0 ?_);refine condK_of (by omega) (w0 ?_)
    have es:(List.take (l.length+vs.length-0-i) (List.drop (0+0+i) R)).length=l.length+vs.length-i:=by rw [List.length_take,List.length_drop];omega
    have em:Nat.min (List.take (l.length+vs.length-0-i) (List.drop (0+0+i) R)).length (l.length+vs.length-0-(i+vs.length))=l.length-i:=by rw [es];exact (Nat.min_eq_right (by omega)).trans (by omega)
    rw [em]
    have es2:List.take (l.length-i) (List.take (l.length+vs.length-0-i) (List.drop (0+0+i) R))=l.drop i:=by
     rw [List.take_take,Nat.min_eq_left (by omega),show 0+0+i=i by omega,<-List.drop_take,hRt]
    rw [es2];refine condK_of ⟨by omega,okRows_drop hok i⟩ (aW ?_);refine winK_lo (by omega) (by show l.length+vs.length-0<=cap-0;omega) (w0 ?_);have em3:Nat.min vs.length (l.length+vs.length-0-i)=vs.length:=Nat.min_eq_left (by omega);rw [em3,List.take_length];refine condK_of ⟨by simp;omega,hp⟩ (aW ?_);refine wret_win rfl rfl rfl ?_ ?_ rfl ⟨rfl,trivial⟩
    ·simp;omega
    ·have e0:(0:Nat)+0+i=i:=by omega
     have e1:(0:Nat)+0+(i+vs.length)=i+vs.length:=by omega
     have e2:(l.drop i).length=l.length-i:=List.length_drop ..
     rw [e0,e1,<-hRi];exact ins_in (n:=l.length) (by omega) rfl e2 hi _ (by omega)
 ·conv=>whnf
  refine sliceK_lo (by rw [h0] at hi;exact hi) (w0 ?_)
  have hi0:i=0:=by rw [h0] at hi;simpa using hi
  subst hi0;refine aA ?_
  refine bcase_p (fun hm0=>?_) (fun hm0=>?_)<;>conv=>whnf
  ·omega
  refine aA ?_;refine condK_of hp (w0 ?_);refine roomK_of (Nat.le_trans (Nat.mul_le_mul_right _ (by show vs.length<=1001000;omega)) (by decide)) (by omega) (w0 ?_);subst h0;refine wret_own rfl rfl ?_ rfl ⟨rfl,trivial⟩;show some (Blk.row vs 3 false)=some (Blk.row ([].take 0++(vs++[].drop 0)) 3 false);simp
theorem delete_ok {l:List (List D)} {i j:Nat} (hi:i<j) (hj:j<=l.length) (hl:l.length<=1000000) (hok:okRows 3 l=true):
  WCall Tryz.prog 136 l 3 [.d (.int .i64 i),.d (.int .i64 j)] [] [] (l.take i++l.drop j):=by
 refine wcall_of Tryz.func136 3 rfl (by kernel_rfl) (by rfl) ?_;refine ⟨fun cap hcap=>?_,fun h0=>by rw [h0] at hj;simp at hj;omega⟩;obtain ⟨R,hR⟩:∃ R,R=l++List.replicate (cap-l.length) (List.replicate 3 D.unk):=⟨_,rfl⟩
 have hRl:R.length=cap:=by rw [hR];simp;omega
 have hRt:R.take l.length=l:=by rw [hR];simp
 have hRi:R.take i=l.take i:=by rw [hR,List.take_append_of_le_length (by omega)]
 rw [<-hR]
 conv=>whnf
 refine condK_of ⟨(by intro e;cases e),by omega,by show (l.length:Int) <=cap;omega⟩ (w0 ?_);refine winK_lohi (by omega) (by simpa using hj) (aW ?_)
 refine bcase_p (fun hij=>?_) (fun hij=>?_)<;>conv=>whnf
 ·omega
 refine aA ?_;refine winK_hi (by show i<=cap;omega) (w0 ?_);refine winK_lo (by omega) (by show l.length<=cap;omega) (w0 ?_)
 have es:List.take (l.length-j) (List.drop (0+j) R)=l.drop j:=by rw [Nat.zero_add,<-List.drop_take,hRt]
 have e2:(l.drop j).length=l.length-j:=List.length_drop ..
 rw [es];refine condK_of ⟨by omega,okRows_drop hok j⟩ (w0 ?_);refine ⟨fun hf=>?_,fun hf=>absurd (show i-0+(l.drop j).length<=cap-0 by omega) hf⟩
 conv=>whnf
 refine condK_of (by omega) (aW ?_);refine winK_lohi (by omega) (by show l.length<=cap-0;omega) (w0 ?_);refine condK_of ⟨by simp;omega,rfl⟩ (aW ?_);refine wret_win rfl rfl rfl ?_ ?_ rfl trivial
 ·simp;omega
 ·have e1:(l.take i).length=i:=by rw [List.length_take];omega
  have e3:(0:Nat)+0+(i-0)=i:=by omega
  have h1:∀ Y:List (List D),(List.take (0+(i-0)) R++(l.drop j++Y)).take (0+(i-0+(l.drop j).length))=l.take i++l.drop j:=by
   intro Y;rw [show 0+(i-0)=i by omega,hRi,<-List.append_assoc];exact List.take_left' (by rw [List.length_append,e1];omega)
  rw [h1];exact List.take_left' (by rw [List.length_append,e1];omega)
structure Ev where
 who:Int
 kind:Int
 id:Int
 body:ByteArray
 e:Int
 pid:Int
 ver:Int
 text:ByteArray
 began:Int
 done:Int
 ended:Int
def encE (x:Ev):List D:=[.int .i64 x.who,.int .i64 x.kind,.int .i64 x.id,.str x.body,.int .i64 x.e,.int .i64 x.pid,.int .i64 x.ver,.str x.text,.int .i64 x.began,.int .i64 x.done,.int .i64 x.ended]
abbrev Pg:=Int×Int×ByteArray
def encP (x:Pg):List D:=[.int .i64 x.1,.int .i64 x.2.1,.str x.2.2]
theorem encP_ok:∀ (l:List Pg),okRows 3 (l.map encP)=true
 | []=>rfl
 |_::r=>encP_ok r
def pgR (x:Pg):Bool:=decide (1<=x.1)&&(decide (x.1<=16)&&(decide (1<=x.2.1)&&(decide (x.2.1<=2147483647)&&decide (x.2.2.size<=16))))
theorem pgR_out {x:Pg}:pgR x=true↔1<=x.1/\x.1<=16/\1<=x.2.1/\x.2.1<=2147483647/\x.2.2.size<=16:=by simp [pgR]
theorem pageRight_ok (x:Pg):ACall Tryz.prog 119 [.agg (encP x)] (.bool (pgR x)):=by
 refine acall_of Tryz.func119 1 rfl (by kernel_rfl) (aW ?_)
 refine bcase_p (fun h1=>?_) (fun h1=>?_)<;>conv=>whnf
 ·exact ret_of rfl (congrArg D.bool (by simp [pgR];omega))
 refine aA ?_
 refine bcase_p (fun h2=>?_) (fun h2=>?_)<;>conv=>whnf
 ·exact ret_of rfl (congrArg D.bool (by simp [pgR];omega))
 refine aA ?_
 refine bcase_p (fun h3=>?_) (fun h3=>?_)<;>conv=>whnf
 ·exact ret_of rfl (congrArg D.bool (by simp [pgR];omega))
 refine aA ?_
 refine bcase_p (fun h4=>?_) (fun h4=>?_)<;>conv=>whnf
 ·exact ret_of rfl (congrArg D.bool (by simp [pgR];omega))
 refine aA ?_
 exact ret_of rfl (congrArg D.bool (by
  have e1:decide (1<=x.1)=true:=by simp;omega
  have e2:decide (x.1<=16)=true:=by simp;omega
  have e3:decide (1<=x.2.1)=true:=by simp;omega
  have e4:decide (x.2.1<=2147483647)=true:=by simp;omega
  rw [pgR,e1,e2,e3,e4];simp;omega))
theorem rpageRight_ok (x:Pg):ACall Tryz.prog 95 [.agg (encP x)] (.bool (pgR x)):=by
 refine acall_of Tryz.func95 1 rfl (by kernel_rfl) (aW ?_)
 refine bcase_p (fun h1=>?_) (fun h1=>?_)<;>conv=>whnf
 rotate_left
 ·refine aA ?_;exact ret_of rfl (congrArg D.bool (by simp [pgR];omega))
 refine aA ?_
 refine bcase_p (fun h2=>?_) (fun h2=>?_)<;>conv=>whnf
 rotate_left
 ·refine aA ?_;exact ret_of rfl (congrArg D.bool (by simp [pgR];omega))
 refine aA ?_
 refine bcase_p (fun h3=>?_) (fun h3=>?_)<;>conv=>whnf
 rotate_left
 ·refine aA ?_;exact ret_of rfl (congrArg D.bool (by simp [pgR];omega))
 refine aA ?_
 refine bcase_p (fun h4=>?_) (fun h4=>?_)<;>conv=>whnf
 rotate_left
 ·refine aA ?_;exact ret_of rfl (congrArg D.bool (by simp [pgR];omega))
 refine aA ?_
 exact ret_of rfl (congrArg D.bool (by
  have e1:decide (1<=x.1)=true:=by simp;omega
  have e2:decide (x.1<=16)=true:=by simp;omega
  have e3:decide (1<=x.2.1)=true:=by simp;omega
  have e4:decide (x.2.1<=2147483647)=true:=by simp;omega
  rw [pgR,e1,e2,e3,e4];simp;omega))
theorem cloneP_ok (l:List Pg) (hl:l.length<=1000000):OCall Tryz.prog 61 [.lst (l.map encP)] (l.map encP) 3:=by
 refine ocall_of Tryz.func61 1 rfl (by kernel_rfl) (w0 ?_);refine nilK_of (w0 ?_);intro r hr
 conv=>whnf
 refine bcase_intro (fun h=>?_) (fun h=>?_)<;>conv=>whnf
 ·have:=hr h;exact ⟨2,rfl,.inr ⟨rfl,this⟩⟩
 ·refine aA ?_;refine condK_of (encP_ok l) (w0 ?_);refine roomK_le 1000100 100 (by show 0+List.length _<=1000100;simp;omega) (by decide) (by decide) (by decide) (w0 ?_);exact ⟨2,rfl,.inl ⟨5,rfl,rfl⟩⟩
structure MRight (l:List Pg):Prop where
 one:∀ x∈l,pgR x=true
 rise:∀ i,(hi:i+1<l.length)->l[i].1<l[i+1].1
open Classical in
noncomputable def mapB (l:List Pg):Bool:=decide (MRight l)
theorem mapB_t {l:List Pg}:mapB l=true↔MRight l:=by simp [mapB]
theorem mapB_f {l:List Pg}:mapB l=false↔¬MRight l:=by simp [mapB]
structure MPart (l:List Pg) (k:Nat):Prop where
 le:k<=l.length
 one:∀ i,i<k->(hi:i<l.length)->pgR l[i]=true
 rise:∀ i,i+1<k->(hi:i+1<l.length)->l[i].1<l[i+1].1
theorem mpart0 (l:List Pg):MPart l 0:=⟨by omega,by omega,by omega⟩
theorem mpart_end {l:List Pg} {k:Nat} (h:MPart l k) (hk:¬k<l.length):mapB l=true:=by
 have hk:k=l.length:=by have:=h.le;omega
 subst hk;refine mapB_t.2 ⟨fun x hx=>?_,fun i hi=>h.rise i hi hi⟩;obtain ⟨i,hi,rfl⟩:=List.mem_iff_getElem.1 hx;exact h.one i hi hi
theorem mpart_step {l:List Pg} {k:Nat} (h:MPart l k) (hk:k<l.length) (h1:pgR l[k]=true) (h2:∀ i,i+1=k->(hi:i<l.length)->l[i].1<l[k].1):MPart l (k+1):=by
 refine ⟨by omega,fun i hi hi2=>?_,fun i hi hi2=>?_⟩
 ·by_cases e:i=k
  ·subst e;exact h1
  ·exact h.one i (by omega) hi2
 ·by_cases e:i+1=k
  ·subst e;exact h2 i rfl (by omega)
  ·exact h.rise i (by omega) hi2
theorem map_no1 {l:List Pg} {k:Nat} (hk:k<l.length) (h1:pgR l[k]=false):mapB l=false:=mapB_f.2 fun h=>by
 have:=h.one l[k] (List.getElem_mem hk)
 rw [h1] at this;cases this
theorem map_no2 {l:List Pg} {i:Nat} (hi:i+1<l.length) (h:l[i+1].1<=l[i].1):mapB l=false:=mapB_f.2 fun hM=>by
 have:=hM.rise i hi;omega
theorem opsRight_ok (l:List Pg) (hl:l.length<=1000000):ACall Tryz.prog 68 [.agg [.lst (l.map encP)]] (.bool (mapB l)):=by
 refine acall_of Tryz.func68 1 rfl (by kernel_rfl) (aW ?_)
 have hm:(l.map encP).length=l.length:=List.length_map ..
 refine aloop (ι:=Nat) (fun k=>[(1,.ptr 1 0 0),(6,.d (.lst (l.map encP))),(7,.d (.int .i64 (l.map encP).length)),(8,.d (.int .i64 k))]) (fun _=>[(1,.box [.d (.lst (l.map encP))] false)])
  (fun k=>MPart l k) (fun k=>l.length-k) 0 (mpart0 l) (le0 (le_of_cov ⟨rfl,rfl,rfl,rfl,trivial⟩ ⟨rfl,trivial⟩ ⟨rfl,rfl,rfl,rfl⟩)) ?_
 intro k hk
 conv=>whnf
 refine bcase_p (fun h5=>?_) (fun h5=>?_)<;>conv=>whnf
 ·have hk2:k<l.length:=by omega
  refine idxK_nat (by omega) (w0 ?_);refine getRow_of (x:=encP l[k]) (by simp [hk2]) (aW ?_);refine callX_pure (pageRight_ok l[k]) (aW ?_)
  refine bcase_intro (fun g1=>?_) (fun g1=>?_)<;>conv=>whnf
  ·exact ret_of rfl (congrArg D.bool (map_no1 hk2 (by simpa using g1)).symm)
  have g1:pgR l[k]=true:=by simpa using g1
  refine aA ?_
  refine bcase_p (fun g2=>?_) (fun g2=>?_)<;>conv=>whnf
  ·obtain ⟨j,rfl⟩:∃ j,k=j+1:=⟨k-1,by omega⟩
   have ej:(((j+1:Nat):Int))-1=((j:Nat):Int):=by omega
   refine aA ?_;rw [ej];refine idxK_nat (by omega) (w0 ?_);refine getRow_of (x:=encP l[j]) (by simp [(show j<l.length by omega)]) (aW ?_)
   refine bcase_p (fun g3=>?_) (fun g3=>?_)<;>conv=>whnf
   ·exact ret_of rfl (congrArg D.bool (map_no2 hk2 g3).symm)
   ·refine aA ?_
    exact ⟨j+2,mpart_step hk hk2 g1 fun i hi hi2=>by
     obtain rfl:i=j:=by omega
     omega,by omega,(le0 (le_of_cov ⟨rfl,rfl,rfl,rfl,trivial⟩ ⟨rfl,trivial⟩ ⟨rfl,rfl,rfl,rfl⟩))⟩
  ·refine aA ?_;exact ⟨k+1,mpart_step hk hk2 g1 fun i hi hi2=>by omega,by omega,(le0 (le_of_cov ⟨rfl,rfl,rfl,rfl,trivial⟩ ⟨rfl,trivial⟩ ⟨rfl,rfl,rfl,rfl⟩))⟩
 ·refine aA ?_;exact ret_of rfl (congrArg D.bool (mpart_end hk (by omega)).symm)
theorem refRight_ok (l:List Pg) (hl:l.length<=1000000):ACall Tryz.prog 157 [.lst (l.map encP)] (.bool (mapB l)):=by
 refine acall_of Tryz.func157 1 rfl (by kernel_rfl) (w0 ?_)
 have hm:(l.map encP).length=l.length:=List.length_map ..
 refine aloop (ι:=Nat) (fun k=>[(0,.d (.lst (l.map encP))),(3,.d (.int .i64 k))]) (fun _=>[])
  (fun k=>MPart l k) (fun k=>l.length-k) 0 (mpart0 l) (le0 (le_of_cov ⟨rfl,rfl,trivial⟩ trivial ⟨rfl,rfl,rfl,rfl⟩)) ?_
 intro k hk
 conv=>whnf
 refine bcase_p (fun h5=>?_) (fun h5=>?_)<;>conv=>whnf
 ·have hk2:k<l.length:=by omega
  refine idxK_nat (by omega) (w0 ?_);refine getRow_of (x:=encP l[k]) (by simp [hk2]) (aW ?_);refine callX_pure (rpageRight_ok l[k]) (aW ?_)
  refine bcase_intro (fun g1=>?_) (fun g1=>?_)<;>conv=>whnf
  ·refine aA ?_;exact ret_of rfl (congrArg D.bool (map_no1 hk2 (by simpa using g1)).symm)
  have g1:pgR l[k]=true:=by simpa using g1
  refine aA ?_
  refine bcase_p (fun g2=>?_) (fun g2=>?_)<;>conv=>whnf
  ·obtain ⟨j,rfl⟩:∃ j,k=j+1:=⟨k-1,by omega⟩
   have ej:(((j+1:Nat):Int))-1=((j:Nat):Int):=by omega
   refine idxK_nat (by omega) (w0 ?_);refine getRow_of (x:=encP l[j+1]) (by simp [hk2]) (aW ?_);rw [ej];refine idxK_nat (by omega) (w0 ?_);refine getRow_of (x:=encP l[j]) (by simp [(show j<l.length by omega)]) (aW ?_)
   refine bcase_p (fun g3=>?_) (fun g3=>?_)<;>conv=>whnf
   ·refine aA ?_;exact ret_of rfl (congrArg D.bool (map_no2 hk2 g3).symm)
   ·refine aA ?_
    exact ⟨j+2,mpart_step hk hk2 g1 fun i hi hi2=>by
     obtain rfl:i=j:=by omega
     omega,by omega,(le0 (le_of_cov ⟨rfl,rfl,trivial⟩ trivial ⟨rfl,rfl,rfl,rfl⟩))⟩
  ·refine aA ?_;exact ⟨k+1,mpart_step hk hk2 g1 fun i hi hi2=>by omega,by omega,(le0 (le_of_cov ⟨rfl,rfl,trivial⟩ trivial ⟨rfl,rfl,rfl,rfl⟩))⟩
 ·refine aA ?_;exact ret_of rfl (congrArg D.bool (mpart_end hk (by omega)).symm)
def plN (l:List Pg) (id:Int):Nat:=l.findIdx fun p=>decide (id<=p.1)
def plB (l:List Pg) (id:Int):Bool:=match l[plN l id]? with|some p=>decide (p.1=id)|none=>false
theorem plN_le (l:List Pg) (id:Int):plN l id<=l.length:=List.findIdx_le_length
theorem plN_at {l:List Pg} {id:Int} {k:Nat} (hk:k<l.length) (h1:id<=l[k].1) (h:∀ i,i<k->(hi:i<l.length)->l[i].1<id):plN l id=k:=by
 unfold plN;rw [List.findIdx_eq hk];refine ⟨by simpa using h1,fun j hj=>?_⟩;have:=h j hj (by omega)
 simp;omega
theorem plN_end {l:List Pg} {id:Int} (h:∀ i,i<l.length->(hi:i<l.length)->l[i].1<id):plN l id=l.length:=by
 unfold plN;rw [List.findIdx_eq_length];intro x hx;obtain ⟨i,hi,rfl⟩:=List.mem_iff_getElem.1 hx;have:=h i hi hi
 simp;omega
theorem place_ok (l:List Pg) (id:Int) (hl:l.length<=1000000):ACall Tryz.prog 69 [.agg [.lst (l.map encP)],.int .i64 id] (.tup [.int .i64 (plN l id),.bool (plB l id)]):=by
 refine acall_of Tryz.func69 2 rfl (by kernel_rfl) (aW ?_)
 have hm:(l.map encP).length=l.length:=List.length_map ..
 refine aloop (ι:=Nat) (fun k=>[(1,.d (.int .i64 id)),(2,.ptr 2 0 0),(9,.d (.lst (l.map encP))),(10,.d (.int .i64 (l.map encP).length)),(11,.d (.int .i64 k))]) (fun _=>[(2,.box [.d (.lst (l.map encP))] false)])
  (fun k=>k<=l.length/\ ∀ i,i<k->(hi:i<l.length)->l[i].1<id) (fun k=>l.length-k) 0 ⟨by omega,by omega⟩ (le0 (le_of_cov ⟨rfl,rfl,rfl,rfl,rfl,trivial⟩ ⟨rfl,trivial⟩ ⟨rfl,rfl,rfl,rfl⟩)) ?_
 rintro k ⟨hk,hR⟩
 conv=>whnf
 refine bcase_p (fun h5=>?_) (fun h5=>?_)<;>conv=>whnf
 ·have hk2:k<l.length:=by omega
  refine idxK_nat (by omega) (w0 ?_);refine getRow_of (x:=encP l[k]) (by simp [hk2]) (aW ?_)
  refine bcase_p (fun g=>?_) (fun g=>?_)<;>conv=>whnf
  ·refine aA ?_;have e:plN l id=k:=plN_at hk2 g hR
   have e2:plB l id=decide (l[k].1=id):=by simp [plB,e,hk2]
   rw [e2,e];exact ret_of rfl rfl
  ·refine aA ?_
   exact ⟨k+1,⟨by omega,fun i hi hi2=>by
    by_cases q:i=k
    ·subst q;omega
    ·exact hR i (by omega) hi2⟩,by omega,(le0 (le_of_cov ⟨rfl,rfl,rfl,rfl,rfl,trivial⟩ ⟨rfl,trivial⟩ ⟨rfl,rfl,rfl,rfl⟩))⟩
 ·refine aA ?_
  have e:plN l id=l.length:=plN_end fun i hi hi2=>hR i (by omega) hi2
  have e2:plB l id=false:=by simp [plB,e]
  rw [e2,e,<-hm];exact ret_of rfl rfl
abbrev Op:=Int×Int×ByteArray
def encO (o:Op):List D:=[.int .i64 o.1,.int .i64 o.2.1,.str o.2.2]
abbrev Res:=Int×Pg
def zP:Pg:=(0,0,ByteArray.empty)
def encR (r:Res):List D:=[.int .i64 r.1,.int .i64 r.2.1,.int .i64 r.2.2.1,.str r.2.2.2]
noncomputable def doM (l:List Pg) (o:Op):List Pg×Res:=
 if mapB l=false\/o.1<1\/4<o.1\/o.2.1<1\/16<o.2.1 then (l,(1,zP)) else
 if o.1=1 then (if plB l o.2.1=true then (l,(4,zP)) else (l.take (plN l o.2.1)++(o.2.1,1,ByteArray.empty)::l.drop (plN l o.2.1),(0,(o.2.1,1,ByteArray.empty)))) else
 if plB l o.2.1=false then (l,(3,zP)) else
 match l[plN l o.2.1]? with
 |none=>(l,(0,zP))
 |some p=>if o.1=2 then (l,(0,p)) else
  if o.1=4 then (l.take (plN l o.2.1)++l.drop (plN l o.2.1+1),(0,zP)) else
  if 16<o.2.2.size then (l,(5,zP)) else
  if 2147483647<=p.2.1 then (l,(7,zP)) else (l.set (plN l o.2.1) (p.1,p.2.1+1,o.2.2),(0,(p.1,p.2.1+1,o.2.2)))
theorem opsDo_ok (l:List Pg) (o:Op) (hl:l.length<=1000):ACall Tryz.prog 78 [.agg [.lst (l.map encP)],.agg (encO o)] (.tup [.agg [.lst ((doM l o).1.map encP)],.agg (encR (doM l o).2)]):=by
 refine acall_of Tryz.func78 2 rfl (by kernel_rfl) (aW ?_);refine callX_pure (opsRight_ok l (by omega)) (aW ?_)
 refine bcase_intro (fun g0=>?_) (fun g0=>?_)<;>conv=>whnf
 ·refine aA ?_;have e:doM l o=(l,(1,zP)):=if_pos (.inl (by simpa using g0));rw [e];exact ret_of rfl rfl
 have g0:mapB l=true:=by simpa using g0
 refine aA ?_
 refine bcase_p (fun g1=>?_) (fun g1=>?_)<;>conv=>whnf
 ·refine aA ?_;have e:doM l o=(l,(1,zP)):=if_pos (.inr (.inl g1));rw [e];exact ret_of rfl rfl
 refine aA ?_
 refine bcase_p (fun g2=>?_) (fun g2=>?_)<;>conv=>whnf
 ·refine aA ?_;have e:doM l o=(l,(1,zP)):=if_pos (.inr (.inr (.inl g2)));rw [e];exact ret_of rfl rfl
 refine aA ?_
 refine bcase_p (fun g3=>?_) (fun g3=>?_)<;>conv=>whnf
 ·refine aA ?_;have e:doM l o=(l,(1,zP)):=if_pos (.inr (.inr (.inr (.inl g3))));rw [e];exact ret_of rfl rfl
 refine aA ?_
 refine bcase_p (fun g4=>?_) (fun g4=>?_)<;>conv=>whnf
 ·refine aA ?_;have e:doM l o=(l,(1,zP)):=if_pos (.inr (.inr (.inr (.inr g4))));rw [e];exact ret_of rfl rfl
 have e0:¬(mapB l=false\/o.1<1\/4<o.1\/o.2.1<1\/16<o.2.1):=by rw [g0];simp;omega
 refine aA ?_;refine callX_pure (place_ok l o.2.1 (by omega)) (aW ?_)
 refine bcase_p (fun k1=>?_) (fun k1=>?_)<;>conv=>whnf
 ·refine aA ?_
  refine bcase_intro (fun b1=>?_) (fun b1=>?_)<;>conv=>whnf
  ·refine aA ?_
   have e:doM l o=(l,(4,zP)):=by rw [doM,if_neg e0,if_pos k1,if_pos b1]
   rw [e];exact ret_of rfl rfl
  refine aA ?_;refine callX_own (cloneP_ok l (by omega)) (aW ?_)
  have hm:(l.map encP).length=l.length:=List.length_map ..
  refine callX_win (insert_ok (l:=l.map encP) (vs:=[encP (o.2.1,1,ByteArray.empty)]) (i:=plN l o.2.1) (by rw [hm];exact plN_le l o.2.1) (by omega) (Nat.lt_succ_self 0) (by simp) (encP_ok l) rfl) [(1000000,57)] rfl ⟨rfl,rfl,trivial⟩ rfl (aW ?_)
  have e:doM l o=(l.take (plN l o.2.1)++(o.2.1,1,ByteArray.empty)::l.drop (plN l o.2.1),(0,(o.2.1,1,ByteArray.empty))):=by rw [doM,if_neg e0,if_pos k1,if_neg (by rw [b1];decide)]
  rw [e]
  have e2:(l.take (plN l o.2.1)++(o.2.1,1,ByteArray.empty)::l.drop (plN l o.2.1)).map encP=(l.map encP).take (plN l o.2.1)++([encP (o.2.1,1,ByteArray.empty)]++(l.map encP).drop (plN l o.2.1)):=by simp [List.map_take,List.map_drop]
  show _=_;rw [e2];exact ret_of rfl rfl
 refine aA ?_
 refine bcase_intro (fun b1=>?_) (fun b1=>?_)<;>conv=>whnf
 ·refine aA ?_
  have e:doM l o=(l,(3,zP)):=by rw [doM,if_neg e0,if_neg k1,if_pos (by simpa using b1)]
  rw [e];exact ret_of rfl rfl
 have b1:plB l o.2.1=true:=by simpa using b1
 obtain ⟨n,hn⟩:∃ n,plN l o.2.1=n:=⟨_,rfl⟩;rw [hn]
 have hm:(l.map encP).length=l.length:=List.length_map ..
 obtain ⟨hnl,hnp⟩:∃ h:n<l.length,l[n].1=o.2.1:=by
  have hb:=b1;unfold plB at hb;rw [hn] at hb
  cases hq:l[n]? with
  |none=>rw [hq] at hb;cases hb
  |some p=>
   rw [hq] at hb;obtain ⟨h1,h2⟩:=List.getElem?_eq_some_iff.1 hq;exact ⟨h1,by rw [h2];simpa using hb⟩
 have hD:doM l o=(if o.1=2 then (l,(0,l[n])) else
  if o.1=4 then (l.take n++l.drop (n+1),(0,zP)) else
  if 16<o.2.2.size then (l,(5,zP)) else
  if 2147483647<=l[n].2.1 then (l,(7,zP)) else (l.set n (l[n].1,l[n].2.1+1,o.2.2),(0,(l[n].1,l[n].2.1+1,o.2.2)))):=by
  rw [doM,if_neg e0,if_neg k1,if_neg (by rw [b1];decide),hn,List.getElem?_eq_getElem hnl]
 rw [hD]
 clear hD
 refine aA ?_;refine idxK_nat (by omega) (w0 ?_);refine getRow_of (x:=encP l[n]) (by simp [hnl]) (aW ?_)
 refine bcase_p (fun k2=>?_) (fun k2=>?_)<;>conv=>whnf
 ·rw [if_pos k2];refine aA ?_;exact ret_of rfl rfl
 rw [if_neg k2];refine aA ?_
 refine bcase_p (fun k3=>?_) (fun k3=>?_)<;>conv=>whnf
 ·rw [if_pos k3];refine aA ?_;refine callX_own (cloneP_ok l (by omega)) (aW ?_);refine callX_win (delete_ok (l:=l.map encP) (i:=n) (j:=n+1) (by omega) (by omega) (by omega) (encP_ok l)) [] rfl ⟨rfl,trivial⟩ rfl (aW ?_);rw [List.map_append,List.map_take,List.map_drop];exact ret_of rfl rfl
 rw [if_neg k3];refine aA ?_
 refine bcase_p (fun k4=>?_) (fun k4=>?_)<;>conv=>whnf
 ·rw [if_pos (show 16<o.2.2.size by omega)];refine aA ?_;exact ret_of rfl rfl
 rw [if_neg (show ¬16<o.2.2.size by omega)];refine aA ?_
 refine bcase_p (fun k5=>?_) (fun k5=>?_)<;>conv=>whnf
 ·rw [if_pos k5];refine aA ?_;exact ret_of rfl rfl
 rw [if_neg k5];have hv:=pgR_out.1 ((mapB_t.1 g0).one l[n] (List.getElem_mem hnl));refine aA ?_;refine callX_own (cloneP_ok l (by omega)) (aW ?_);refine idxK_nat (by omega) (w0 ?_);refine getRow_of (x:=encP l[n]) (by simp [hnl]) (aW ?_)
 have e2:(l.set n (l[n].1,l[n].2.1+1,o.2.2)).map encP=(l.map encP).set n (encP (l[n].1,l[n].2.1+1,o.2.2)):=List.map_set ..
 refine ret_of rfl ?_;show D.tup [.agg [.lst ((l.map encP).set n (encP (l[n].1,l[n].2.1+1,o.2.2)))],.agg (encR (0,(l[n].1,l[n].2.1+1,o.2.2)))]=_;rw [<-e2]
theorem storeK_agg {c:List AV} {j:Nat} {l:List AV} {K:List AV->Prop} (h:Nat.beq l.length c.length=false) (hle:j+l.length<=c.length) (k:K (splice c j l)):storeK c j (.agg l) K:=by
 show bif Nat.beq l.length c.length then forceL l K else K (spliceF c j l)
 rw [h,spliceF_eq hle];exact k
def cellP (x:Pg):List AV:=[.d (.int .i64 x.1),.d (.int .i64 x.2.1),.d (.str x.2.2)]
def flatP:List Pg->List AV
 | []=>[]
 |x::r=>cellP x++flatP r
theorem flatP_len:∀ l:List Pg,(flatP l).length=l.length*3
 | []=>rfl
 |x::r=>by simp [flatP,flatP_len r,cellP];omega
theorem flatP_drop:∀ (l:List Pg) (i:Nat),(flatP l).drop (i*3)=flatP (l.drop i)
 |l,0=>by simp
 | [],i+1=>by simp [flatP]
 |x::r,i+1=>by
  rw [show (i+1)*3=i*3+1+1+1 by omega];exact flatP_drop r i
theorem flatP_part {l:List Pg} {i:Nat} (h:i<l.length):((flatP l).drop (i*3)).take 3=cellP l[i]:=by
 rw [flatP_drop,List.drop_eq_getElem_cons h];rfl
theorem flatP_get {l:List Pg} {i j:Nat} (h:i<l.length) (hj:j<3):(flatP l)[i*3+j]?=(cellP l[i])[j]?:=by
 rw [<-List.getElem?_drop,<-flatP_part h,List.getElem?_take,if_pos hj]
theorem flatP_set:∀ (l:List Pg) (i:Nat) (x:Pg),i<l.length->splice (flatP l) (i*3) (cellP x)=flatP (l.set i x)
 | [],i,x,h=>by simp at h
 |y::r,0,x,h=>rfl
 |y::r,i+1,x,h=>by
  have ih:=flatP_set r i x (by simpa using h);rw [show (i+1)*3=i*3+1+1+1 by omega];show splice (.d (.int .i64 y.1)::.d (.int .i64 y.2.1)::.d (.str y.2.2)::flatP r) (i*3+1+1+1) (cellP x)=cellP y++flatP (r.set i x);rw [<-ih];rfl
theorem flatP_kill (b:Nat):∀ l:List Pg,killB.cells b (flatP l)=flatP l
 | []=>rfl
 |x::r=>by simp only [flatP,cellP,List.cons_append,List.nil_append,killB.cells,flatP_kill b r];rfl
def findP (l:List Pg) (j:Nat):Option Pg:=l.find? fun p=>decide (p.1=(j:Int))
def tabOf (l:List Pg):List Pg:=(List.range 17).map fun j=>(findP l j).getD zP
theorem tabOf_len (l:List Pg):(tabOf l).length=17:=by simp [tabOf]
theorem tabOf_get (l:List Pg) (j:Nat) (h:j<(tabOf l).length):(tabOf l)[j]=(findP l j).getD zP:=by simp [tabOf]
def colN (xs:List Pg) (k:Nat):List Pg:=((xs.take k).drop 1).filter fun p=>!decide (p.1=0)
noncomputable def rdM (l:List Pg) (o:Op):List Pg×Res:=
 if mapB l=false\/o.1<1\/4<o.1\/o.2.1<1\/16<o.2.1 then (l,(1,zP)) else
 let p:=(findP l o.2.1.toNat).getD zP
 if o.1=1/\p.1≠0 then (l,(4,zP)) else
 if 1<o.1/\p.1=0 then (l,(3,zP)) else
 if o.1=3/\16<o.2.2.size then (l,(5,zP)) else
 if o.1=3/\p.2.1=2147483647 then (l,(7,zP)) else
 let q:Pg:=if o.1=1 then (o.2.1,1,ByteArray.empty) else if o.1=3 then (p.1,p.2.1+1,o.2.2) else if o.1=4 then zP else p
 (colN ((tabOf l).set o.2.1.toNat q) 17,(0,q))
theorem mright_lt {l:List Pg} (h:MRight l):∀ (j i:Nat),(hi:i<j)->(hj:j<l.length)->(l[i]'(Nat.lt_trans hi hj)).1<l[j].1
 |j+1,i,hi,hj=>by
  have h1:=h.rise j hj
  by_cases e:i=j
  ·subst e;exact h1
  ·have:=mright_lt h j i (by omega) (by omega);omega
theorem findP_none {l:List Pg} {j:Nat} (h:∀ x∈l,x.1≠(j:Int)):findP l j=none:=by
 unfold findP;rw [List.find?_eq_none];intro x hx
 simpa using h x hx
theorem tab_step {l:List Pg} {k:Nat} (hM:MRight l) (hk:k<l.length):(tabOf (l.take k)).set l[k].1.toNat l[k]=tabOf (l.take (k+1)):=by
 have hp:=pgR_out.1 (hM.one l[k] (List.getElem_mem hk));apply List.ext_getElem
 ·rw [List.length_set,tabOf_len,tabOf_len]
 ·intro j h1 h2;rw [List.getElem_set,tabOf_get,tabOf_get];have hs:l.take (k+1)=l.take k++[l[k]]:=take_snoc hk
  split
  ·rename_i e
   have hn:findP (l.take k) j=none:=findP_none fun x hx=>by
    obtain ⟨i,hi,rfl⟩:=List.mem_iff_getElem.1 hx;rw [List.length_take] at hi;rw [List.getElem_take];have:=mright_lt hM k i (by omega) hk;omega
   rw [hs,findP,List.find?_append];unfold findP at hn;rw [hn]
   have:decide (l[k].1=(j:Int))=true:=by simp;omega
   simp [this]
  ·rename_i e;rw [hs];unfold findP;rw [List.find?_append]
   have:decide (l[k].1=(j:Int))=false:=by simp;omega
   simp [this]
theorem col_one (xs:List Pg):colN xs 1=[]:=by simp [colN]
theorem col_yes {xs:List Pg} {i:Nat} (h1:1<=i) (h:i<xs.length) (h0:¬xs[i].1=0):colN xs (i+1)=colN xs i++[xs[i]]:=by
 rw [colN,take_snoc h,List.drop_append_of_le_length (by rw [List.length_take];omega),List.filter_append];simp [h0,colN]
theorem col_no {xs:List Pg} {i:Nat} (h1:1<=i) (h:i<xs.length) (h0:xs[i].1=0):colN xs (i+1)=colN xs i:=by
 rw [colN,take_snoc h,List.drop_append_of_le_length (by rw [List.length_take];omega),List.filter_append];simp [h0,colN]
theorem col_len (xs:List Pg) (i:Nat):(colN xs i).length<=i:=Nat.le_trans (List.length_filter_le _ _) (by simp;omega)
theorem refDo_ok (l:List Pg) (o:Op) (hl:l.length<=1000):ACall Tryz.prog 92 [.lst (l.map encP),.agg (encO o)] (.tup [.lst ((rdM l o).1.map encP),.agg (encR (rdM l o).2)]):=by
 refine acall_of Tryz.func92 2 rfl (by kernel_rfl) (aW ?_);refine callX_pure (refRight_ok l (by omega)) (aW ?_)
 refine bcase_intro (fun g0=>?_) (fun g0=>?_)<;>conv=>whnf
 ·refine aA ?_;have e:rdM l o=(l,(1,zP)):=if_pos (.inl (by simpa using g0));rw [e];exact ret_of rfl rfl
 have g0:mapB l=true:=by simpa using g0
 refine aA ?_
 refine bcase_p (fun g1=>?_) (fun g1=>?_)<;>conv=>whnf
 ·refine aA ?_;have e:rdM l o=(l,(1,zP)):=if_pos (.inr (.inl g1));rw [e];exact ret_of rfl rfl
 refine aA ?_
 refine bcase_p (fun g2=>?_) (fun g2=>?_)<;>conv=>whnf
 ·refine aA ?_;have e:rdM l o=(l,(1,zP)):=if_pos (.inr (.inr (.inl g2)));rw [e];exact ret_of rfl rfl
 refine aA ?_
 refine bcase_p (fun g3=>?_) (fun g3=>?_)<;>conv=>whnf
 ·refine aA ?_;have e:rdM l o=(l,(1,zP)):=if_pos (.inr (.inr (.inr (.inl g3))));rw [e];exact ret_of rfl rfl
 refine aA ?_
 refine bcase_p (fun g4=>?_) (fun g4=>?_)<;>conv=>whnf
 ·refine aA ?_;have e:rdM l o=(l,(1,zP)):=if_pos (.inr (.inr (.inr (.inr g4))));rw [e];exact ret_of rfl rfl
 have e0:¬(mapB l=false\/o.1<1\/4<o.1\/o.2.1<1\/16<o.2.1):=by rw [g0];simp;omega
 have hM:=mapB_t.1 g0;refine aA ?_
 have hm:(l.map encP).length=l.length:=List.length_map ..
 refine aloop (ι:=Nat) (fun k=>[(0,.d (.lst (l.map encP))),(3,.ptr 3 0 0),(5,.ptr 5 0 0),(6,.ptr 6 0 0),(7,.d (.int .i64 k))]) (fun k=>[(3,.box [.d (.int .i64 o.1),.d (.int .i64 o.2.1),.d (.str o.2.2)] false),(5,.box [.d (.int .i64 0),.d (.int .i64 0),.d (.int .i64 0),.d (.str ByteArray.empty)] false),(6,.box (flatP (tabOf (l.take k))) false)])
  (fun k=>k<=l.length) (fun k=>l.length-k) 0 (Nat.zero_le _) (le0 (le_of_cov ⟨rfl,rfl,rfl,rfl,rfl,trivial⟩ ⟨rfl,rfl,rfl,trivial⟩ ⟨rfl,rfl,rfl,rfl⟩)) ?_
 intro k hk
 conv=>whnf
 refine bcase_p (fun h5=>?_) (fun h5=>?_)<;>conv=>whnf
 ·have hk2:k<l.length:=by omega
  have hp:=pgR_out.1 (hM.one l[k] (List.getElem_mem hk2));obtain ⟨n,hn⟩:∃ n:Nat,l[k].1=n:=⟨l[k].1.toNat,by omega⟩;refine idxK_nat (by omega) (w0 ?_);refine getRow_of (x:=encP l[k]) (by simp [hk2]) (aW ?_);refine idxK_nat (by omega) (w0 ?_);refine getRow_of (x:=encP l[k]) (by simp [hk2]) (aW ?_);rw [hn];refine idxK_nat (by omega) (w0 ?_);refine condK_of rfl (bif_of rfl (bif_of rfl (bif_of (by rw [flatP_len,tabOf_len,Nat.ble_eq];show 0+n*3+3<=51;omega) (storeK_agg (by rw [flatP_len,tabOf_len];rfl) (by rw [flatP_len,tabOf_len];show 0+n*3+3<=51;omega) ?_))))
  have es:splice (flatP (tabOf (l.take k))) (0+n*(T 57).size) [.d (.int .i64 n),.d (.int .i64 l[k].2.1),.d (.str l[k].2.2)]=flatP (tabOf (l.take (k+1))):=by
   have e1:=flatP_set (tabOf (l.take k)) n l[k] (by rw [tabOf_len];omega);have e2:=tab_step hM hk2;rw [hn] at e2;rw [<-e2,Int.toNat_natCast,<-e1,Nat.zero_add,cellP,hn];rfl
  rw [es]
  conv=>whnf
  refine aA ?_;exact ⟨k+1,by omega,by omega,(le0 (le_of_cov ⟨rfl,rfl,rfl,rfl,rfl,trivial⟩ ⟨rfl,rfl,rfl,trivial⟩ ⟨rfl,rfl,rfl,rfl⟩))⟩
 ·refine aA ?_
  have ek:k=l.length:=by omega
  obtain ⟨n,hn⟩:∃ n:Nat,o.2.1=n:=⟨o.2.1.toNat,by omega⟩;rw [hn];refine idxK_nat (by omega) (w0 ?_)
  have el:l.take k=l:=by rw [ek,List.take_length]
  rw [el];obtain ⟨p,hp⟩:∃ p,(findP l n).getD zP=p:=⟨_,rfl⟩
  have hpv:0<=p.2.1/\p.2.1<=2147483647:=by
   unfold findP at hp
   cases hq:l.find? fun p=>decide (p.1=(n:Int)) with
   |none=>rw [hq] at hp;subst hp;exact ⟨by decide,by decide⟩
   |some x=>
    rw [hq] at hp;subst hp;have:=pgR_out.1 (hM.one x (List.mem_of_find?_eq_some hq));exact ⟨by simp only [Option.getD_some];omega,by simp only [Option.getD_some];omega⟩
  have ed:List.take (T 57).size (List.drop (0+n*(T 57).size) (flatP (tabOf l)))=[.d (.int .i64 p.1),.d (.int .i64 p.2.1),.d (.str p.2.2)]:=by
   have e1:=flatP_part (l:=tabOf l) (i:=n) (by rw [tabOf_len];omega);rw [tabOf_get,hp] at e1;rw [Nat.zero_add];exact e1
  refine condK_of rfl (bif_of (by rw [flatP_len,tabOf_len,Nat.ble_eq];show 0+n*3+3<=51;omega) ?_);rw [ed]
  conv=>whnf
  refine aA ?_
  have hrd:rdM l o=(if o.1=1/\p.1≠0 then (l,(4,zP)) else
   if 1<o.1/\p.1=0 then (l,(3,zP)) else
   if o.1=3/\16<o.2.2.size then (l,(5,zP)) else
   if o.1=3/\p.2.1=2147483647 then (l,(7,zP)) else
   (colN ((tabOf l).set n (if o.1=1 then ((n:Int),1,ByteArray.empty) else if o.1=3 then (p.1,p.2.1+1,o.2.2) else if o.1=4 then zP else p)) 17,
    (0,(if o.1=1 then ((n:Int),1,ByteArray.empty) else if o.1=3 then (p.1,p.2.1+1,o.2.2) else if o.1=4 then zP else p)))):=by
   rw [rdM,if_neg e0,hn];simp only [Int.toNat_natCast,hp]
  rw [hrd]
  clear hrd
  refine bcase_p (fun k1=>?_) (fun k1=>?_)<;>conv=>whnf
  ·refine aA ?_
   refine bcase_n (fun q1=>?_) (fun q1=>?_)<;>conv=>whnf
   ·refine aA ?_;rw [if_pos ⟨k1,q1⟩];exact ret_of rfl rfl
   rw [if_neg (fun h=>h.2 q1),if_neg (show ¬(1<o.1/\p.1=0) from fun h=>by omega),if_neg (show ¬(o.1=3/\16<o.2.2.size) from fun h=>by omega),if_neg (show ¬(o.1=3/\p.2.1=2147483647) from fun h=>by omega),if_pos k1];refine aA ?_
   refine bcase_p (fun kk=>?_) (fun kk=>?_)<;>conv=>whnf
   ·omega
   refine aA ?_
   refine bcase_p (fun kx=>?_) (fun kx=>?_)<;>conv=>whnf
   rotate_left
   ·exact absurd k1 kx
   refine aA ?_;refine idxK_nat (by omega) (w0 ?_)
   have ez:splice (flatP (tabOf l)) (0+n*(T 57).size) (cellP (((n:Int),1,ByteArray.empty)))=flatP ((tabOf l).set n (((n:Int),1,ByteArray.empty))):=by
    rw [Nat.zero_add];exact flatP_set (tabOf l) n (((n:Int),1,ByteArray.empty)) (by rw [tabOf_len];omega)
   obtain ⟨xs,hxs⟩:∃ xs,(tabOf l).set n (((n:Int),1,ByteArray.empty))=xs:=⟨_,rfl⟩;rw [hxs] at ez⊢;simp only [cellP,zP] at ez;rw [flatP_kill];refine condK_of rfl (bif_of rfl (bif_of rfl (bif_of (by rw [flatP_len,tabOf_len,Nat.ble_eq];show 0+n*3+3<=51;omega) (storeK_agg (by rw [flatP_len,tabOf_len];rfl) (by rw [flatP_len,tabOf_len];show 0+n*3+3<=51;omega) ?_))));rw [ez]
   conv=>whnf
   refine aA ?_
   have hxl:xs.length=17:=by rw [<-hxs,List.length_set,tabOf_len]
   refine aloop (ι:=Nat) (fun i=>[(5,.ptr 5 0 0),(6,.ptr 6 0 0),(8,.ptr 8 0 0),(9,.own 124),(10,.d (.int .i64 i))]) (fun i=>[(5,.box [.d (.int .i64 0),.d (.int .i64 0),.d (.int .i64 0),.d (.str ByteArray.empty)] false),(6,.box (flatP xs) false),(8,.box (cellP (((n:Int),1,ByteArray.empty))) false),(124,.row ((colN xs i).map encP) 3 false)])
    (fun i=>1<=i/\i<=17) (fun i=>17-i) 1 ⟨by omega,by omega⟩ (le1 (.row 9 124 3) ⟨rfl,rfl⟩ (le_of_cov ⟨rfl,rfl,rfl,rfl,rfl,trivial⟩ ⟨rfl,by show some (Blk.box (killB.cells 124 (flatP xs)) false)=_;rw [flatP_kill],rfl,by rw [col_one];rfl,trivial⟩ ⟨rfl,rfl,rfl,rfl⟩)) ?_
   rintro i ⟨hi1,hi2⟩
   conv=>whnf
   refine bcase_p (fun h9=>?_) (fun h9=>?_)<;>conv=>whnf
   ·have hi3:i<xs.length:=by omega
    refine idxK_nat (by omega) (w0 ?_)
    have hg:(flatP xs)[0+i*(T 57).size+0]?=some (.d (.int .i64 xs[i].1)):=by
     rw [Nat.zero_add];exact flatP_get (j:=0) hi3 (by decide)
    refine condK_of rfl (getC_of hg ?_)
    conv=>whnf
    refine bcase_n (fun h0=>?_) (fun h0=>?_)<;>conv=>whnf
    ·refine idxK_nat (by omega) (w0 ?_)
     have ed:List.take (T 57).size (List.drop (0+i*(T 57).size) (flatP xs))=cellP xs[i]:=by
      rw [Nat.zero_add];exact flatP_part hi3
     refine condK_of rfl (bif_of (by rw [flatP_len,Nat.ble_eq,hxl];show 0+i*3+3<=51;omega) ?_);rw [ed]
     conv=>whnf
     refine aA ?_;refine roomK_le 1000100 100 (by show List.length _+1<=1000100;rw [List.length_map];have:=col_len xs i;omega) (by decide) (by decide) (by decide) (aW ?_)
     have er:(colN xs i).map encP++[encP xs[i]]=(colN xs (i+1)).map encP:=by rw [col_yes hi1 hi3 h0];simp
     exact ⟨i+1,⟨by omega,by omega⟩,by omega,le0 (le_of_cov ⟨rfl,rfl,rfl,rfl,rfl,trivial⟩ ⟨rfl,by show some (Blk.box (killB.cells 124 (killB.cells 123 (flatP xs))) false)=_;rw [flatP_kill,flatP_kill],rfl,by rw [<-er];rfl,trivial⟩ ⟨rfl,rfl,rfl,rfl⟩)⟩
    ·refine aA ?_;exact ⟨i+1,⟨by omega,by omega⟩,by omega,le0 (le_of_cov ⟨rfl,rfl,rfl,rfl,rfl,trivial⟩ ⟨rfl,rfl,rfl,by rw [col_no hi1 hi3 h0];rfl,trivial⟩ ⟨rfl,rfl,rfl,rfl⟩)⟩
   ·refine aA ?_
    have ei:i=17:=by omega
    subst ei;exact ret_of rfl rfl
  ·refine aA ?_
   have k1':1<o.1:=by omega
   refine bcase_p (fun kk=>?_) (fun kk=>?_)<;>conv=>whnf
   rotate_left
   ·omega
   refine aA ?_
   refine bcase_p (fun q1=>?_) (fun q1=>?_)<;>conv=>whnf
   ·refine aA ?_;rw [if_neg (fun h=>k1 h.1),if_pos ⟨k1',q1⟩];exact ret_of rfl rfl
   rw [if_neg (fun h=>k1 h.1),if_neg (fun h=>q1 h.2)];refine aA ?_
   refine bcase_p (fun kx=>?_) (fun kx=>?_)<;>conv=>whnf
   ·exact absurd kx k1
   refine aA ?_
   refine bcase_p (fun k3=>?_) (fun k3=>?_)<;>conv=>whnf
   ·refine aA ?_
    refine bcase_p (fun q2=>?_) (fun q2=>?_)<;>conv=>whnf
    ·refine aA ?_;rw [if_pos ⟨k3,by omega⟩];exact ret_of rfl rfl
    rw [if_neg (show ¬(o.1=3/\16<o.2.2.size) from fun h=>by omega)];refine aA ?_
    refine bcase_p (fun q3=>?_) (fun q3=>?_)<;>conv=>whnf
    ·refine aA ?_;rw [if_pos ⟨k3,q3⟩];exact ret_of rfl rfl
    rw [if_neg (fun h=>q3 h.2),if_neg k1,if_pos k3];refine aA ?_;refine idxK_nat (by omega) (w0 ?_)
    have ez:splice (flatP (tabOf l)) (0+n*(T 57).size) (cellP ((p.1,p.2.1+1,o.2.2)))=flatP ((tabOf l).set n ((p.1,p.2.1+1,o.2.2))):=by
     rw [Nat.zero_add];exact flatP_set (tabOf l) n ((p.1,p.2.1+1,o.2.2)) (by rw [tabOf_len];omega)
    obtain ⟨xs,hxs⟩:∃ xs,(tabOf l).set n ((p.1,p.2.1+1,o.2.2))=xs:=⟨_,rfl⟩;rw [hxs] at ez⊢;simp only [cellP,zP] at ez;rw [flatP_kill];refine condK_of rfl (bif_of rfl (bif_of rfl (bif_of (by rw [flatP_len,tabOf_len,Nat.ble_eq];show 0+n*3+3<=51;omega) (storeK_agg (by rw [flatP_len,tabOf_len];rfl) (by rw [flatP_len,tabOf_len];show 0+n*3+3<=51;omega) ?_))));rw [ez]
    conv=>whnf
    refine aA ?_
    have hxl:xs.length=17:=by rw [<-hxs,List.length_set,tabOf_len]
    refine aloop (ι:=Nat) (fun i=>[(5,.ptr 5 0 0),(6,.ptr 6 0 0),(8,.ptr 8 0 0),(9,.own 124),(10,.d (.int .i64 i))]) (fun i=>[(5,.box [.d (.int .i64 0),.d (.int .i64 0),.d (.int .i64 0),.d (.str ByteArray.empty)] false),(6,.box (flatP xs) false),(8,.box (cellP ((p.1,p.2.1+1,o.2.2))) false),(124,.row ((colN xs i).map encP) 3 false)])
     (fun i=>1<=i/\i<=17) (fun i=>17-i) 1 ⟨by omega,by omega⟩ (le1 (.row 9 124 3) ⟨rfl,rfl⟩ (le_of_cov ⟨rfl,rfl,rfl,rfl,rfl,trivial⟩ ⟨rfl,by show some (Blk.box (killB.cells 124 (flatP xs)) false)=_;rw [flatP_kill],rfl,by rw [col_one];rfl,trivial⟩ ⟨rfl,rfl,rfl,rfl⟩)) ?_
    rintro i ⟨hi1,hi2⟩
    conv=>whnf
    refine bcase_p (fun h9=>?_) (fun h9=>?_)<;>conv=>whnf
    ·have hi3:i<xs.length:=by omega
     refine idxK_nat (by omega) (w0 ?_)
     have hg:(flatP xs)[0+i*(T 57).size+0]?=some (.d (.int .i64 xs[i].1)):=by
      rw [Nat.zero_add];exact flatP_get (j:=0) hi3 (by decide)
     refine condK_of rfl (getC_of hg ?_)
     conv=>whnf
     refine bcase_n (fun h0=>?_) (fun h0=>?_)<;>conv=>whnf
     ·refine idxK_nat (by omega) (w0 ?_)
      have ed:List.take (T 57).size (List.drop (0+i*(T 57).size) (flatP xs))=cellP xs[i]:=by
       rw [Nat.zero_add];exact flatP_part hi3
      refine condK_of rfl (bif_of (by rw [flatP_len,Nat.ble_eq,hxl];show 0+i*3+3<=51;omega) ?_);rw [ed]
      conv=>whnf
      refine aA ?_;refine roomK_le 1000100 100 (by show List.length _+1<=1000100;rw [List.length_map];have:=col_len xs i;omega) (by decide) (by decide) (by decide) (aW ?_)
      have er:(colN xs i).map encP++[encP xs[i]]=(colN xs (i+1)).map encP:=by rw [col_yes hi1 hi3 h0];simp
      exact ⟨i+1,⟨by omega,by omega⟩,by omega,le0 (le_of_cov ⟨rfl,rfl,rfl,rfl,rfl,trivial⟩ ⟨rfl,by show some (Blk.box (killB.cells 124 (killB.cells 123 (flatP xs))) false)=_;rw [flatP_kill,flatP_kill],rfl,by rw [<-er];rfl,trivial⟩ ⟨rfl,rfl,rfl,rfl⟩)⟩
     ·refine aA ?_;exact ⟨i+1,⟨by omega,by omega⟩,by omega,le0 (le_of_cov ⟨rfl,rfl,rfl,rfl,rfl,trivial⟩ ⟨rfl,rfl,rfl,by rw [col_no hi1 hi3 h0];rfl,trivial⟩ ⟨rfl,rfl,rfl,rfl⟩)⟩
    ·refine aA ?_
     have ei:i=17:=by omega
     subst ei;exact ret_of rfl rfl
   ·rw [if_neg (fun h=>k3 h.1),if_neg (fun h=>k3 h.1),if_neg k1,if_neg k3];refine aA ?_
    refine bcase_p (fun k4=>?_) (fun k4=>?_)<;>conv=>whnf
    ·rw [if_pos k4];refine aA ?_;refine idxK_nat (by omega) (w0 ?_)
     have ez:splice (flatP (tabOf l)) (0+n*(T 57).size) (cellP (zP))=flatP ((tabOf l).set n (zP)):=by
      rw [Nat.zero_add];exact flatP_set (tabOf l) n (zP) (by rw [tabOf_len];omega)
     obtain ⟨xs,hxs⟩:∃ xs,(tabOf l).set n (zP)=xs:=⟨_,rfl⟩;rw [hxs] at ez⊢;simp only [cellP,zP] at ez;rw [flatP_kill];refine condK_of rfl (bif_of rfl (bif_of rfl (bif_of (by rw [flatP_len,tabOf_len,Nat.ble_eq];show 0+n*3+3<=51;omega) (storeK_agg (by rw [flatP_len,tabOf_len];rfl) (by rw [flatP_len,tabOf_len];show 0+n*3+3<=51;omega) ?_))));rw [ez]
     conv=>whnf
     refine aA ?_
     have hxl:xs.length=17:=by rw [<-hxs,List.length_set,tabOf_len]
     refine aloop (ι:=Nat) (fun i=>[(5,.ptr 5 0 0),(6,.ptr 6 0 0),(8,.ptr 8 0 0),(9,.own 124),(10,.d (.int .i64 i))]) (fun i=>[(5,.box [.d (.int .i64 0),.d (.int .i64 0),.d (.int .i64 0),.d (.str ByteArray.empty)] false),(6,.box (flatP xs) false),(8,.box (cellP (zP)) false),(124,.row ((colN xs i).map encP) 3 false)])
      (fun i=>1<=i/\i<=17) (fun i=>17-i) 1 ⟨by omega,by omega⟩ (le1 (.row 9 124 3) ⟨rfl,rfl⟩ (le_of_cov ⟨rfl,rfl,rfl,rfl,rfl,trivial⟩ ⟨rfl,by show some (Blk.box (killB.cells 124 (flatP xs)) false)=_;rw [flatP_kill],rfl,by rw [col_one];rfl,trivial⟩ ⟨rfl,rfl,rfl,rfl⟩)) ?_
     rintro i ⟨hi1,hi2⟩
     conv=>whnf
     refine bcase_p (fun h9=>?_) (fun h9=>?_)<;>conv=>whnf
     ·have hi3:i<xs.length:=by omega
      refine idxK_nat (by omega) (w0 ?_)
      have hg:(flatP xs)[0+i*(T 57).size+0]?=some (.d (.int .i64 xs[i].1)):=by
       rw [Nat.zero_add];exact flatP_get (j:=0) hi3 (by decide)
      refine condK_of rfl (getC_of hg ?_)
      conv=>whnf
      refine bcase_n (fun h0=>?_) (fun h0=>?_)<;>conv=>whnf
      ·refine idxK_nat (by omega) (w0 ?_)
       have ed:List.take (T 57).size (List.drop (0+i*(T 57).size) (flatP xs))=cellP xs[i]:=by
        rw [Nat.zero_add];exact flatP_part hi3
       refine condK_of rfl (bif_of (by rw [flatP_len,Nat.ble_eq,hxl];show 0+i*3+3<=51;omega) ?_);rw [ed]
       conv=>whnf
       refine aA ?_;refine roomK_le 1000100 100 (by show List.length _+1<=1000100;rw [List.length_map];have:=col_len xs i;omega) (by decide) (by decide) (by decide) (aW ?_)
       have er:(colN xs i).map encP++[encP xs[i]]=(colN xs (i+1)).map encP:=by rw [col_yes hi1 hi3 h0];simp
       exact ⟨i+1,⟨by omega,by omega⟩,by omega,le0 (le_of_cov ⟨rfl,rfl,rfl,rfl,rfl,trivial⟩ ⟨rfl,by show some (Blk.box (killB.cells 124 (killB.cells 123 (flatP xs))) false)=_;rw [flatP_kill,flatP_kill],rfl,by rw [<-er];rfl,trivial⟩ ⟨rfl,rfl,rfl,rfl⟩)⟩
      ·refine aA ?_;exact ⟨i+1,⟨by omega,by omega⟩,by omega,le0 (le_of_cov ⟨rfl,rfl,rfl,rfl,rfl,trivial⟩ ⟨rfl,rfl,rfl,by rw [col_no hi1 hi3 h0];rfl,trivial⟩ ⟨rfl,rfl,rfl,rfl⟩)⟩
     ·refine aA ?_
      have ei:i=17:=by omega
      subst ei;exact ret_of rfl rfl
    ·rw [if_neg k4];refine aA ?_;refine idxK_nat (by omega) (w0 ?_)
     have ez:splice (flatP (tabOf l)) (0+n*(T 57).size) (cellP (p))=flatP ((tabOf l).set n (p)):=by
      rw [Nat.zero_add];exact flatP_set (tabOf l) n (p) (by rw [tabOf_len];omega)
     obtain ⟨xs,hxs⟩:∃ xs,(tabOf l).set n (p)=xs:=⟨_,rfl⟩;rw [hxs] at ez⊢;simp only [cellP,zP] at ez;rw [flatP_kill];refine condK_of rfl (bif_of rfl (bif_of rfl (bif_of (by rw [flatP_len,tabOf_len,Nat.ble_eq];show 0+n*3+3<=51;omega) (storeK_agg (by rw [flatP_len,tabOf_len];rfl) (by rw [flatP_len,tabOf_len];show 0+n*3+3<=51;omega) ?_))));rw [ez]
     conv=>whnf
     refine aA ?_
     have hxl:xs.length=17:=by rw [<-hxs,List.length_set,tabOf_len]
     refine aloop (ι:=Nat) (fun i=>[(5,.ptr 5 0 0),(6,.ptr 6 0 0),(8,.ptr 8 0 0),(9,.own 124),(10,.d (.int .i64 i))]) (fun i=>[(5,.box [.d (.int .i64 0),.d (.int .i64 0),.d (.int .i64 0),.d (.str ByteArray.empty)] false),(6,.box (flatP xs) false),(8,.box (cellP (p)) false),(124,.row ((colN xs i).map encP) 3 false)])
      (fun i=>1<=i/\i<=17) (fun i=>17-i) 1 ⟨by omega,by omega⟩ (le1 (.row 9 124 3) ⟨rfl,rfl⟩ (le_of_cov ⟨rfl,rfl,rfl,rfl,rfl,trivial⟩ ⟨rfl,by show some (Blk.box (killB.cells 124 (flatP xs)) false)=_;rw [flatP_kill],rfl,by rw [col_one];rfl,trivial⟩ ⟨rfl,rfl,rfl,rfl⟩)) ?_
     rintro i ⟨hi1,hi2⟩
     conv=>whnf
     refine bcase_p (fun h9=>?_) (fun h9=>?_)<;>conv=>whnf
     ·have hi3:i<xs.length:=by omega
      refine idxK_nat (by omega) (w0 ?_)
      have hg:(flatP xs)[0+i*(T 57).size+0]?=some (.d (.int .i64 xs[i].1)):=by
       rw [Nat.zero_add];exact flatP_get (j:=0) hi3 (by decide)
      refine condK_of rfl (getC_of hg ?_)
      conv=>whnf
      refine bcase_n (fun h0=>?_) (fun h0=>?_)<;>conv=>whnf
      ·refine idxK_nat (by omega) (w0 ?_)
       have ed:List.take (T 57).size (List.drop (0+i*(T 57).size) (flatP xs))=cellP xs[i]:=by
        rw [Nat.zero_add];exact flatP_part hi3
       refine condK_of rfl (bif_of (by rw [flatP_len,Nat.ble_eq,hxl];show 0+i*3+3<=51;omega) ?_);rw [ed]
       conv=>whnf
       refine aA ?_;refine roomK_le 1000100 100 (by show List.length _+1<=1000100;rw [List.length_map];have:=col_len xs i;omega) (by decide) (by decide) (by decide) (aW ?_)
       have er:(colN xs i).map encP++[encP xs[i]]=(colN xs (i+1)).map encP:=by rw [col_yes hi1 hi3 h0];simp
       exact ⟨i+1,⟨by omega,by omega⟩,by omega,le0 (le_of_cov ⟨rfl,rfl,rfl,rfl,rfl,trivial⟩ ⟨rfl,by show some (Blk.box (killB.cells 124 (killB.cells 123 (flatP xs))) false)=_;rw [flatP_kill,flatP_kill],rfl,by rw [<-er];rfl,trivial⟩ ⟨rfl,rfl,rfl,rfl⟩)⟩
      ·refine aA ?_;exact ⟨i+1,⟨by omega,by omega⟩,by omega,le0 (le_of_cov ⟨rfl,rfl,rfl,rfl,rfl,trivial⟩ ⟨rfl,rfl,rfl,by rw [col_no hi1 hi3 h0];rfl,trivial⟩ ⟨rfl,rfl,rfl,rfl⟩)⟩
     ·refine aA ?_
      have ei:i=17:=by omega
      subst ei;exact ret_of rfl rfl
structure MR (l:List Pg):Prop where
 pw:l.Pairwise fun a b=>a.1<b.1
 one:∀ x∈l,pgR x=true
theorem mr_iff {l:List Pg}:MRight l↔MR l:=by
 constructor
 ·intro h;refine ⟨?_,h.one⟩;rw [List.pairwise_iff_getElem];intro i j hi hj hij;exact mright_lt h j i hij hj
 ·intro h;refine ⟨h.one,fun i hi=>?_⟩;exact (List.pairwise_iff_getElem.1 h.pw) i (i+1) (by omega) hi (by omega)
theorem findP_iff {l:List Pg} (h:l.Pairwise fun a b=>a.1<b.1) {j:Nat} {x:Pg}:findP l j=some x↔x∈l/\x.1=(j:Int):=by
 constructor
 ·intro e;exact ⟨List.mem_of_find?_eq_some e,by have:=List.find?_some e;simpa using this⟩
 ·rintro ⟨h1,h2⟩
  cases e:findP l j with
  |none=>
   unfold findP at e;rw [List.find?_eq_none] at e;have:=e x h1;simp [h2] at this
  |some y=>
   have e1:=List.mem_of_find?_eq_some e
   have e2:y.1=(j:Int):=by have:=List.find?_some e;simpa using this
   obtain ⟨i,hi,rfl⟩:=List.mem_iff_getElem.1 h1;obtain ⟨i',hi',rfl⟩:=List.mem_iff_getElem.1 e1;rw [List.pairwise_iff_getElem] at h
   rcases Nat.lt_trichotomy i i' with q|q|q
   ·have:=h i i' hi hi' q;omega
   ·subst q;rfl
   ·have:=h i' i hi' hi q;omega
theorem fm_congr {α β:Type} {f g:α->Option β}:∀ {xs:List α},(∀ j∈xs,f j=g j)->xs.filterMap f=xs.filterMap g
 | [],_=>rfl
 |x::r,h=>by rw [List.filterMap_cons,List.filterMap_cons,h x (List.mem_cons_self ..),fm_congr fun j hj=>h j (List.mem_cons_of_mem _ hj)]
theorem coll:∀ (n a:Nat) (L:List Pg),L.Pairwise (fun a b=>a.1<b.1)->(∀ x∈L,(a:Int) <=x.1/\x.1<((a+n:Nat):Int))->(List.range' a n).filterMap (fun j=>findP L j)=L
 |0,a,L,hp,h=>by
  cases L with
  |nil=>rfl
  |cons x r=>have:=h x (List.mem_cons_self ..);omega
 |n+1,a,L,hp,h=>by
  rw [List.range'_succ,List.filterMap_cons]
  cases L with
  |nil=>
   rw [findP_none (by simp)];exact coll n (a+1) [] hp (by simp)
  |cons x r=>
   rw [List.pairwise_cons] at hp
   by_cases e:x.1=(a:Int)
   ·have e1:findP (x::r) a=some x:=by simp [findP,e]
    rw [e1]
    have ih:=coll n (a+1) r hp.2 fun y hy=>by
     have h1:=hp.1 y hy;have h2:=h y (List.mem_cons_of_mem _ hy);omega
    show x::(List.range' (a+1) n).filterMap (fun j=>findP (x::r) j)=x::r;rw [fm_congr (g:=fun j=>findP r j) fun j hj=>?_,ih];rw [List.mem_range'_1] at hj
    have:decide (x.1=(j:Int))=false:=by simp;omega
    simp [findP,this]
   ·have hx:=h x (List.mem_cons_self ..)
    rw [findP_none (fun y hy=>by
     cases hy with
     |head=>exact e
     |tail _ hy=>have:=hp.1 y hy;omega)]
    exact coll n (a+1) (x::r) (List.pairwise_cons.2 hp) fun y hy=>by
     have h2:=h y hy
     cases hy with
     |head=>omega
     |tail _ hy=>have:=hp.1 y hy;omega
theorem col_tab {L:List Pg} (hM:MR L):colN (tabOf L) 17=L:=by
 have h1:colN (tabOf L) 17=((List.range' 1 16).map fun j=>(findP L j).getD zP).filter fun p=>!decide (p.1=0):=by
  unfold colN tabOf;rw [List.take_of_length_le (by simp),<-List.map_drop];rfl
 rw [h1]
 have h2:∀ xs:List Nat,(∀ j∈xs,1<=j)->((xs.map fun j=>(findP L j).getD zP).filter fun p=>!decide (p.1=0))=xs.filterMap fun j=>findP L j:=by
  intro xs
  induction xs with
  |nil=>intro _;rfl
  |cons j r ih=>
   intro h;have hj:=h j (List.mem_cons_self ..);rw [List.map_cons,List.filterMap_cons,List.filter_cons,ih fun i hi=>h i (List.mem_cons_of_mem _ hi)]
   cases e:findP L j with
   |none=>simp [zP]
   |some x=>
    have:=((findP_iff hM.pw).1 e).2
    have h0:¬x.1=0:=by omega
    simp [h0]
 rw [h2 _ fun j hj=>(List.mem_range'_1.1 hj).1]
 exact coll 16 1 L hM.pw fun x hx=>by
  have:=pgR_out.1 (hM.one x hx);omega
theorem tab_set {l L:List Pg} {n:Nat} {q:Pg} (hn:n<17) (h:∀ j,j<17->(findP L j).getD zP=if j=n then q else (findP l j).getD zP):(tabOf l).set n q=tabOf L:=by
 apply List.ext_getElem
 ·rw [List.length_set,tabOf_len,tabOf_len]
 ·intro j h1 h2;rw [tabOf_len] at h2;rw [List.getElem_set,tabOf_get,tabOf_get,h j h2]
  by_cases e:n=j
  ·simp [e]
  ·rw [if_neg e,if_neg (fun h=>e h.symm)]
theorem find_eq {l L:List Pg} (h1:MR l) (h2:MR L) {j:Nat} (h:∀ x:Pg,x.1=(j:Int)->(x∈L↔x∈l)):findP L j=findP l j:=by
 apply Option.ext;intro x;rw [findP_iff h1.pw,findP_iff h2.pw]
 constructor
 ·rintro ⟨a,b⟩;exact ⟨(h x b).1 a,b⟩
 ·rintro ⟨a,b⟩;exact ⟨(h x b).2 a,b⟩
theorem plN_lt {l:List Pg} {id:Int} {i:Nat} (hi:i<plN l id):∃ h:i<l.length,l[i].1<id:=by
 have h:i<l.length:=Nat.lt_of_lt_of_le hi (plN_le l id);refine ⟨h,?_⟩;have:=List.not_of_lt_findIdx hi
 simpa using this
theorem plN_ge {l:List Pg} {id:Int} (h:plN l id<l.length):id<=l[plN l id].1:=by
 have:=List.findIdx_getElem (w:=h);exact of_decide_eq_true this
theorem plB_t {l:List Pg} {id:Int} (h:plB l id=true):∃ hk:plN l id<l.length,l[plN l id].1=id:=by
 unfold plB at h
 cases hq:l[plN l id]? with
 |none=>rw [hq] at h;cases h
 |some p=>
  rw [hq] at h;obtain ⟨h1,h2⟩:=List.getElem?_eq_some_iff.1 hq;exact ⟨h1,by rw [h2];simpa using h⟩
theorem plB_f {l:List Pg} {id:Int} (hM:MR l) (h:plB l id=false):(∀ x∈l.take (plN l id),x.1<id) /\ (∀ x∈l.drop (plN l id),id<x.1) /\ (∀ x∈l,x.1≠id):=by
 have h1:∀ x∈l.take (plN l id),x.1<id:=by
  intro x hx;obtain ⟨i,hi,rfl⟩:=List.mem_iff_getElem.1 hx;rw [List.length_take] at hi;rw [List.getElem_take];exact (plN_lt (by omega)).2
 have h2:∀ x∈l.drop (plN l id),id<x.1:=by
  intro x hx
  by_cases hk:plN l id<l.length
  ·have e1:=plN_ge hk
   have e2:l[plN l id].1≠id:=by
    intro e;unfold plB at h;rw [List.getElem?_eq_getElem hk] at h;simp [e] at h
   rw [List.drop_eq_getElem_cons hk] at hx
   cases hx with
   |head=>omega
   |tail _ hx=>
    have hp:=hM.pw;rw [<-List.take_append_drop (plN l id) l,List.pairwise_append,List.drop_eq_getElem_cons hk,List.pairwise_cons] at hp;have:=hp.2.1.1 x hx;omega
  ·rw [List.drop_of_length_le (by omega)] at hx
   cases hx
 refine ⟨h1,h2,fun x hx=>?_⟩;rw [<-List.take_append_drop (plN l id) l,List.mem_append] at hx
 rcases hx with hx|hx
 ·have:=h1 x hx;omega
 ·have:=h2 x hx;omega
theorem mr_ins {l:List Pg} {q:Pg} (hM:MR l) (h:plB l q.1=false) (hq:pgR q=true):MR (l.take (plN l q.1)++q::l.drop (plN l q.1)):=by
 obtain ⟨h1,h2,_⟩:=plB_f hM h;refine ⟨?_,fun x hx=>?_⟩
 ·rw [List.pairwise_append,List.pairwise_cons];refine ⟨hM.pw.sublist (List.take_sublist _ _),⟨h2,hM.pw.sublist (List.drop_sublist _ _)⟩,fun a ha b hb=>?_⟩;have:=h1 a ha
  cases hb with
  |head=>exact this
  |tail _ hb=>have:=h2 b hb;omega
 ·rw [List.mem_append,List.mem_cons] at hx
  rcases hx with hx|rfl|hx
  ·exact hM.one x (List.mem_of_mem_take hx)
  ·exact hq
  ·exact hM.one x (List.mem_of_mem_drop hx)
theorem mem_ins {l:List Pg} {q x:Pg} {k:Nat}:x∈l.take k++q::l.drop k↔x=q\/x∈l:=by
 rw [List.mem_append,List.mem_cons]
 have:x∈l↔x∈l.take k\/x∈l.drop k:=by rw [<-List.mem_append,List.take_append_drop]
 rw [this]
 constructor
 ·rintro (h|h|h)
  ·exact .inr (.inl h)
  ·exact .inl h
  ·exact .inr (.inr h)
 ·rintro (h|h|h)
  ·exact .inr (.inl h)
  ·exact .inl h
  ·exact .inr (.inr h)
theorem pw_at {l:List Pg} (hM:MR l) {i j:Nat} (hi:i<l.length) (hj:j<l.length) (h:l[i].1=l[j].1):i=j:=by
 have hp:=List.pairwise_iff_getElem.1 hM.pw
 rcases Nat.lt_trichotomy i j with q|q|q
 ·have:=hp i j hi hj q;omega
 ·exact q
 ·have:=hp j i hj hi q;omega
theorem mr_del {l:List Pg} (hM:MR l) (k:Nat):MR (l.take k++l.drop (k+1)):=by
 rw [<-List.eraseIdx_eq_take_drop_succ];exact ⟨hM.pw.sublist (List.eraseIdx_sublist _ _),fun x hx=>hM.one x (List.mem_of_mem_eraseIdx hx)⟩
theorem mem_del {l:List Pg} (hM:MR l) {k:Nat} (hk:k<l.length) {x:Pg}:x∈l.take k++l.drop (k+1)↔x∈l/\x.1≠l[k].1:=by
 rw [<-List.eraseIdx_eq_take_drop_succ,List.mem_eraseIdx_iff_getElem]
 constructor
 ·rintro ⟨i,hi,hne,rfl⟩;exact ⟨List.getElem_mem hi,fun e=>hne (pw_at hM hi hk e)⟩
 ·rintro ⟨hx,hne⟩;obtain ⟨i,hi,rfl⟩:=List.mem_iff_getElem.1 hx;exact ⟨i,hi,fun e=>hne (by subst e;rfl),rfl⟩
theorem mr_set {l:List Pg} (hM:MR l) {k:Nat} (hk:k<l.length) {q:Pg} (h1:q.1=l[k].1) (hq:pgR q=true):MR (l.set k q):=by
 refine ⟨?_,fun x hx=>?_⟩
 ·rw [List.pairwise_iff_getElem];intro i j hi hj hij;have hp:=List.pairwise_iff_getElem.1 hM.pw i j (by simpa using hi) (by simpa using hj) hij;rw [List.getElem_set,List.getElem_set]
  by_cases a:k=i
  ·subst a;rw [if_pos rfl,if_neg (by omega),h1];exact hp
  ·by_cases b:k=j
   ·subst b;rw [if_neg a,if_pos rfl,h1];exact hp
   ·rw [if_neg a,if_neg b];exact hp
 ·rcases List.mem_or_eq_of_mem_set hx with h|h
  ·exact hM.one x h
  ·rw [h];exact hq
theorem mem_set {l:List Pg} (hM:MR l) {k:Nat} (hk:k<l.length) {q x:Pg} (h:x.1≠l[k].1) (h1:q.1=l[k].1):x∈l.set k q↔x∈l:=by
 constructor
 ·intro hx
  rcases List.mem_or_eq_of_mem_set hx with h2|h2
  ·exact h2
  ·rw [h2] at h;exact absurd h1 h
 ·intro hx;obtain ⟨i,hi,rfl⟩:=List.mem_iff_getElem.1 hx
  have:k≠i:=fun e=>h (by subst e;rfl)
  rw [List.mem_iff_getElem];exact ⟨i,by simpa using hi,by rw [List.getElem_set,if_neg this]⟩
end Go.Lk.Hy
