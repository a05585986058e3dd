/-
  What is proved here: what functions of the program compute, and what follows; no condition beyond each theorem's own.
-/
import Derived.Test.YtaofmndhdmkgkaaGreatHAt
set_option linter.unusedSimpArgs false
set_option linter.unusedVariables false
set_option linter.unnecessarySimpa false
set_option linter.unusedSectionVars false
namespace Go.Lk.Hy
open Go Go.Proofs Go.RowKit Go.Lk
theorem rdM_eq (l:List Pg) (o:Op):rdM l o=doM l o:=by
 by_cases e0:mapB l=false\/o.1<1\/4<o.1\/o.2.1<1\/16<o.2.1
 ·rw [rdM,doM,if_pos e0,if_pos e0]
 ·have hM:MR l:=mr_iff.1 (mapB_t.1 (by
   cases hb:mapB l with
   |true=>rfl
   |false=>exact absurd (.inl hb) e0))
  obtain ⟨n,hn⟩:∃ n:Nat,o.2.1=n:=⟨o.2.1.toNat,by omega⟩
  have hn1:1<=n/\n<=16:=by omega
  rw [rdM,doM,if_neg e0,if_neg e0,hn];simp only [Int.toNat_natCast]
  cases hb:plB l (n:Int) with
  |false=>
   obtain ⟨h1,h2,h3⟩:=plB_f hM hb;have hf:findP l n=none:=findP_none h3;rw [hf,Option.getD_none]
   by_cases k1:o.1=1
   ·rw [if_neg (show ¬(o.1=1/\zP.1≠0) from fun h=>h.2 rfl),if_neg (show ¬(1<o.1/\zP.1=0) from fun h=>by omega),if_neg (show ¬(o.1=3/\16<o.2.2.size) from fun h=>by omega),if_neg (show ¬(o.1=3/\zP.2.1=2147483647) from fun h=>by omega),if_pos k1,if_pos k1,if_neg (by decide)];have hq:pgR ((n:Int),1,ByteArray.empty)=true:=pgR_out.2 ⟨by simp only;omega,by simp only;omega,show (1:Int) <=1 by decide,show (1:Int) <=2147483647 by decide,show ByteArray.empty.size<=16 by decide⟩;have hL:=mr_ins (q:=((n:Int),1,ByteArray.empty)) hM hb hq
    have ht:(tabOf l).set n ((n:Int),1,ByteArray.empty)=tabOf (l.take (plN l n)++((n:Int),1,ByteArray.empty)::l.drop (plN l n)):=tab_set (by omega) fun j hj=>by
     by_cases e:j=n
     ·subst e
      rw [if_pos rfl,(findP_iff hL.pw).2 ⟨mem_ins.2 (.inl rfl),rfl⟩];rfl
     ·rw [if_neg e,find_eq hM hL];intro x hx;rw [mem_ins]
      constructor
      ·rintro (h|h)
       ·rw [h] at hx;exact absurd (by simp only at hx;omega) e
       ·exact h
      ·exact .inr
    rw [ht,col_tab hL]
   ·rw [if_neg (show ¬(o.1=1/\zP.1≠0) from fun h=>k1 h.1),if_pos (show 1<o.1/\zP.1=0 from ⟨by omega,rfl⟩),if_neg k1,if_pos rfl]
  |true=>
   obtain ⟨hk,hk1⟩:=plB_t hb;have hf:findP l n=some l[plN l n]:=(findP_iff hM.pw).2 ⟨List.getElem_mem hk,hk1⟩;rw [hf,Option.getD_some,List.getElem?_eq_getElem hk];obtain ⟨k,hkd⟩:∃ k,plN l (n:Int)=k:=⟨_,rfl⟩;simp only [hkd] at hk hk1 hf⊢;have hk2:k<l.length:=hk;have hv:=pgR_out.1 (hM.one l[k] (List.getElem_mem hk))
   have hp0:l[k].1≠0:=by omega
   by_cases k1:o.1=1
   ·rw [if_pos (show o.1=1/\l[k].1≠0 from ⟨k1,hp0⟩),if_pos k1,if_pos trivial]
   ·rw [if_neg (show ¬(o.1=1/\l[k].1≠0) from fun h=>k1 h.1),if_neg (show ¬(1<o.1/\l[k].1=0) from fun h=>hp0 h.2),if_neg k1,if_neg k1,if_neg (show ¬(true=false) by decide)]
    by_cases k3:o.1=3
    ·by_cases q2:16<o.2.2.size
     ·rw [if_pos ⟨k3,q2⟩,if_neg (show ¬o.1=2 by omega),if_neg (show ¬o.1=4 by omega),if_pos q2]
     ·rw [if_neg (show ¬(o.1=3/\16<o.2.2.size) from fun h=>q2 h.2)]
      by_cases q3:l[k].2.1=2147483647
      ·rw [if_pos ⟨k3,q3⟩,if_neg (show ¬o.1=2 by omega),if_neg (show ¬o.1=4 by omega),if_neg q2,if_pos (show 2147483647<=l[k].2.1 by omega)]
      ·rw [if_neg (show ¬(o.1=3/\l[k].2.1=2147483647) from fun h=>q3 h.2),if_pos k3,if_neg (show ¬o.1=2 by omega),if_neg (show ¬o.1=4 by omega),if_neg q2,if_neg (show ¬2147483647<=l[k].2.1 by omega)];have hq:pgR (l[k].1,l[k].2.1+1,o.2.2)=true:=pgR_out.2 ⟨by simp only;omega,by simp only;omega,by simp only;omega,by simp only;omega,by simp only;omega⟩;have hL:=mr_set hM hk (q:=(l[k].1,l[k].2.1+1,o.2.2)) rfl hq
       have ht:(tabOf l).set n (l[k].1,l[k].2.1+1,o.2.2)=tabOf (l.set k (l[k].1,l[k].2.1+1,o.2.2)):=tab_set (by omega) fun j hj=>by
        by_cases e:j=n
        ·subst e
         rw [if_pos rfl,(findP_iff (x:=(l[k].1,l[k].2.1+1,o.2.2)) hL.pw).2 ⟨List.mem_iff_getElem.2 ⟨k,by rw [List.length_set];exact hk2,List.getElem_set_self ..⟩,hk1⟩];rfl
        ·rw [if_neg e,find_eq hM hL];intro x hx;exact mem_set hM hk (by omega) rfl
       rw [ht,col_tab hL]
    ·rw [if_neg (show ¬(o.1=3/\16<o.2.2.size) from fun h=>k3 h.1),if_neg (show ¬(o.1=3/\l[k].2.1=2147483647) from fun h=>k3 h.1),if_neg k3]
     by_cases k4:o.1=4
     ·rw [if_pos k4,if_neg (show ¬o.1=2 by omega),if_pos k4];have hL:=mr_del hM k
      have ht:(tabOf l).set n zP=tabOf (l.take k++l.drop (k+1)):=tab_set (by omega) fun j hj=>by
       by_cases e:j=n
       ·subst e
        rw [if_pos rfl,findP_none fun x hx=>by have:=((mem_del hM hk2).1 hx).2;omega];rfl
       ·rw [if_neg e,find_eq hM hL];intro x hx;rw [mem_del hM hk];exact ⟨fun h=>h.1,fun h=>⟨h,by omega⟩⟩
      rw [ht,col_tab hL]
     ·rw [if_neg k4,if_pos (show o.1=2 by omega)]
      have ht:(tabOf l).set n l[k]=tabOf l:=tab_set (by omega) fun j hj=>by
       by_cases e:j=n
       ·subst e;rw [if_pos rfl,hf];rfl
       ·rw [if_neg e]
      rw [ht,col_tab hM]
theorem same_ok (a b:List Pg) (ha:a.length<=1000000):ACall Tryz.prog 28 [.lst (a.map encP),.lst (b.map encP)] (.bool (decide (a=b))):=by
 refine acall_of Tryz.func28 2 rfl (by kernel_rfl) (w0 ?_)
 have hma:(a.map encP).length=a.length:=List.length_map ..
 have hmb:(b.map encP).length=b.length:=List.length_map ..
 refine bcase_n (fun h1=>?_) (fun h1=>?_)<;>conv=>whnf
 ·exact ret_of rfl (congrArg D.bool (by
   rw [hma,hmb] at h1
   symm;rw [decide_eq_false_iff_not];intro e;subst e;exact h1 rfl))
 have hl:a.length=b.length:=by omega
 refine aA ?_;refine aloop (ι:=Nat) (fun k=>[(0,.d (.lst (a.map encP))),(1,.d (.lst (b.map encP))),(5,.d (.int .i64 k))]) (fun _=>[])
  (fun k=>k<=a.length/\ ∀ i,i<k->(hi:i<a.length)->a[i]=b[i]) (fun k=>a.length-k) 0 ⟨by omega,by omega⟩ (le0 (le_of_cov ⟨rfl,rfl,rfl,trivial⟩ trivial ⟨rfl,rfl,rfl,rfl⟩)) ?_
 rintro k ⟨hk,hR⟩
 conv=>whnf
 refine bcase_p (fun h5=>?_) (fun h5=>?_)<;>conv=>whnf
 ·have hk2:k<a.length:=by omega
  have hk3:k<b.length:=by omega
  refine idxK_nat (by omega) (w0 ?_);refine getRow_of (x:=encP a[k]) (by simp [hk2]) (aW ?_);refine idxK_nat (by omega) (w0 ?_);refine getRow_of (x:=encP b[k]) (by simp [hk3]) (aW ?_)
  refine bcase_intro (fun h6=>?_) (fun h6=>?_)<;>conv=>whnf
  ·refine aA ?_;refine ret_of rfl (congrArg D.bool ?_)
   symm;rw [decide_eq_false_iff_not];intro e;subst e
   simp at h6
  ·have e:a[k]=b[k]:=by
    refine Prod.ext ?_ (Prod.ext ?_ ?_)
    ·simp at h6;exact h6.1
    ·simp at h6;exact h6.2.1
    ·simp at h6;exact h6.2.2
   refine aA ?_
   exact ⟨k+1,⟨by omega,fun i hi hi2=>by
    by_cases q:i=k
    ·subst q;exact e
    ·exact hR i (by omega) hi2⟩,by omega,(le0 (le_of_cov ⟨rfl,rfl,rfl,trivial⟩ trivial ⟨rfl,rfl,rfl,rfl⟩))⟩
 ·refine aA ?_;refine ret_of rfl (congrArg D.bool ?_)
  symm;rw [decide_eq_true_eq]
  exact List.ext_getElem hl fun i h1 h2=>hR i (by omega) h1
theorem events_ok (l:List Ev) (hl:l.length<=1000000):OCall Tryz.prog 44 [.lst (l.map encE)] (l.map encE) 11:=by
 refine ocall_of Tryz.func44 1 rfl (by kernel_rfl) (w0 ?_)
 have hm:(l.map encE).length=l.length:=List.length_map ..
 refine aloop (ι:=Nat) (fun k=>[(3,.own 31),(6,.d (.lst (l.map encE))),(7,.d (.int .i64 (l.map encE).length)),(8,.d (.int .i64 k))]) (fun k=>[(31,.row ((l.take k).map encE) 11 false)])
  (fun k=>k<=l.length) (fun k=>l.length-k) 0 (Nat.zero_le _) (le1 (.row 3 31 11) ⟨rfl,rfl⟩ (le_of_cov ⟨rfl,rfl,rfl,rfl,trivial⟩ ⟨rfl,trivial⟩ ⟨rfl,rfl,rfl,rfl⟩)) ?_
 intro k hk
 conv=>whnf
 refine bcase_p (fun h5=>?_) (fun h5=>?_)<;>conv=>whnf
 ·have hk2:k<l.length:=by omega
  refine idxK_nat (by omega) (w0 ?_);refine getRow_of (x:=encE l[k]) (by simp [hk2]) (aW ?_);refine roomK_le 1000100 1000 (by show List.length _+1<=1000100;rw [List.length_map,List.length_take];omega) (by decide) (by decide) (by decide) (aW ?_)
  have er:(l.take k).map encE++[encE l[k]]=(l.take (k+1)).map encE:=by rw [take_snoc hk2,List.map_append];rfl
  refine ⟨k+1,by omega,by omega,le0 (le_of_cov ⟨?_,?_,?_,?_,trivial⟩ ⟨?_,trivial⟩ ⟨?_,?_,?_,?_⟩)⟩
  ·kernel_rfl
  ·kernel_rfl
  ·kernel_rfl
  ·kernel_rfl
  rotate_left
  ·kernel_rfl
  ·kernel_rfl
  ·kernel_rfl
  ·kernel_rfl
  rw [<-er]
  kernel_rfl
 ·refine aA ?_;have ek:l.take k=l:=List.take_of_length_le (by omega);rw [ek];exact ⟨2,rfl,.inl ⟨31,rfl,rfl⟩⟩
end Go.Lk.Hy
