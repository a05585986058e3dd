/-
  What is proved here: what functions of the program compute, and what follows; no condition beyond each theorem's own.
-/
import Derived.Test.YtaofmndhdmkgkaaGreatHBc
set_option linter.unusedSimpArgs false
set_option linter.unusedVariables false
set_option linter.unnecessarySimpa false
set_option linter.unusedSectionVars false
namespace Go.Lk
open Go Go.Proofs Go.RowKit
theorem step_bad {e:DS} {o:Jo} (h:o.1≠true) (h2:¬(DR e/\okW e.sec.length o.2=true/\e.ca.length<200)):stepJ e o=e:=by
 rw [stepJ,if_neg h,putM]
 split
 ·rename_i g
  have h3:¬e.ca.length<200:=fun q=>h2 ⟨g.1,g.2,q⟩
  rw [if_pos (by omega)]
 ·rfl
set_option maxRecDepth 100000 in
theorem rrun_ok (d:DS) (l:List Jo) (most:Int) (hl:l.length<=1000000):ACall Tryz.prog 50 [encDS d,.lst (l.map encJ),.int .i64 most] (encDS (runM d l most)):=by
 refine acall_of Tryz.func50 3 rfl (by kernel_rfl) (w0 ?_)
 have hm:(l.map encJ).length=l.length:=List.length_map ..
 refine aA ?_;refine aloop (ι:=Nat×DS) (fun k=>[(1,.d (.lst (l.map encJ))),(2,.d (.int .i64 most)),(3,.ptr 3 0 0),(6,.ptr 6 0 0),(7,.d (.int .i64 k.1))])
  (fun k=>[(3,.box [.d (.lst (k.2.sec.map encB)),.d (.lst (k.2.ca.map encW))] false),(6,.box [.nil,.nil] false)])
  (fun k=>k.1<=l.length/\ ((k.1:Int) <=most\/k.1=0) /\k.2=(l.take k.1).foldl stepJ d) (fun k=>l.length-k.1) (0,d) ⟨by omega,.inr rfl,rfl⟩ (le0 (le_of_cov ⟨rfl,rfl,rfl,rfl,rfl,trivial⟩ ⟨rfl,rfl,trivial⟩ ⟨rfl,rfl,rfl,rfl⟩)) ?_
 rintro ⟨k,e⟩ ⟨hk,hc,he⟩;simp only at hk hc he⊢
 have tk:∀ j,most.toNat=j->(l.take j).foldl stepJ d=runM d l most:=fun j h=>by rw [runM,h]
 conv=>whnf
 refine bcase_p (fun h5=>?_) (fun h5=>?_)<;>conv=>whnf
 rotate_left
 ·refine aA ?_
  have:e=runM d l most:=by
   rw [he,runM]
   rcases hc with h|h
   ·rw [List.take_of_length_le (by omega),List.take_of_length_le (by omega)]
   ·have:l=[]:=List.length_eq_zero_iff.1 (by omega);subst this;simp
  rw [<-this];exact ret_of rfl rfl
 have hk2:k<l.length:=by omega
 have en:∀ x,stepJ e l[k]=x->(l.take (k+1)).foldl stepJ d=x:=fun x hx=>by rw [take_snoc hk2,List.foldl_append,<-he];exact hx
 refine bcase_p (fun h6=>?_) (fun h6=>?_)<;>conv=>whnf
 rotate_left
 ·refine aA ?_
  have:e=runM d l most:=by
   rcases hc with h|h
   ·rw [he];exact tk k (by omega)
   ·subst h;rw [he];exact tk 0 (by omega)
  rw [<-this];exact ret_of rfl rfl
 refine aA ?_;refine idxK_nat (by omega) (w0 ?_);refine getRow_of (x:=encJ l[k]) (by simp [hk2]) (aW ?_);refine aA ?_;refine idxK_nat (by omega) (w0 ?_);refine getRow_of (x:=encJ l[k]) (by simp [hk2]) (aW ?_);refine aA ?_
 refine bcase_intro (fun h7=>?_) (fun h7=>?_)<;>conv=>whnf
 ·refine aA ?_;refine callX_pure (rdRight_ok e) (aW ?_)
  refine bcase_intro (fun h8=>?_) (fun h8=>?_)<;>conv=>whnf
  ·have hR:DR e:=drB_t.1 h8;refine aA ?_;refine callX_pure (rsync_ok e hR) (aW ?_)
   have hs:stepJ e l[k]=⟨wrS e.sec e.ca,[]⟩:=by rw [stepJ,if_pos h7,syncM,if_pos hR]
   exact ⟨(k+1,⟨wrS e.sec e.ca,[]⟩),⟨by simp only [];omega,.inl (by simp only [];omega),(en _ hs).symm⟩,by simp only [];omega,(le0 (le_of_cov ⟨rfl,rfl,rfl,rfl,rfl,trivial⟩ ⟨rfl,rfl,trivial⟩ ⟨rfl,rfl,rfl,rfl⟩))⟩
  ·have hR:¬DR e:=drB_f.1 h8;refine aA ?_
   have hs:stepJ e l[k]=e:=by rw [stepJ,if_pos h7,syncM,if_neg hR]
   exact ⟨(k+1,e),⟨by simp only [];omega,.inl (by simp only [];omega),(en _ hs).symm⟩,by simp only [];omega,(le0 (le_of_cov ⟨rfl,rfl,rfl,rfl,rfl,trivial⟩ ⟨rfl,rfl,trivial⟩ ⟨rfl,rfl,rfl,rfl⟩))⟩
 have h7':l[k].1≠true:=by rw [h7];decide
 have bad:¬(DR e/\okW e.sec.length l[k].2=true/\e.ca.length<200)->(l.take (k+1)).foldl stepJ d=e:=fun g=>en e (step_bad h7' g)
 have m1:(e.sec.map encB).length=e.sec.length:=List.length_map ..
 have m2:(e.ca.map encW).length=e.ca.length:=List.length_map ..
 refine aA ?_;refine callX_pure (rdRight_ok e) (aW ?_)
 refine bcase_intro (fun h8=>?_) (fun h8=>?_)<;>conv=>whnf
 rotate_left
 ·refine aA ?_;exact ⟨(k+1,e),⟨by simp only [];omega,.inl (by simp only [];omega),(bad (fun g=>drB_f.1 h8 g.1)).symm⟩,by simp only [];omega,(le0 (le_of_cov ⟨rfl,rfl,rfl,rfl,rfl,trivial⟩ ⟨rfl,rfl,trivial⟩ ⟨rfl,rfl,rfl,rfl⟩))⟩
 have hR:DR e:=drB_t.1 h8;refine aA ?_
 refine bcase_p (fun g1=>?_) (fun g1=>?_)<;>conv=>whnf
 rotate_left
 ·refine aA ?_;exact ⟨(k+1,e),⟨by simp only [];omega,.inl (by simp only [];omega),(bad (fun g=>g1 (okW_out.1 g.2.1).1)).symm⟩,by simp only [];omega,(le0 (le_of_cov ⟨rfl,rfl,rfl,rfl,rfl,trivial⟩ ⟨rfl,rfl,trivial⟩ ⟨rfl,rfl,rfl,rfl⟩))⟩
 refine aA ?_
 refine bcase_p (fun g2=>?_) (fun g2=>?_)<;>conv=>whnf
 rotate_left
 ·refine aA ?_;exact ⟨(k+1,e),⟨by simp only [];omega,.inl (by simp only [];omega),(bad (fun g=>g2 (by rw [m1];exact (okW_out.1 g.2.1).2.1))).symm⟩,by simp only [];omega,(le0 (le_of_cov ⟨rfl,rfl,rfl,rfl,rfl,trivial⟩ ⟨rfl,rfl,trivial⟩ ⟨rfl,rfl,rfl,rfl⟩))⟩
 refine aA ?_
 refine bcase_p (fun g3=>?_) (fun g3=>?_)<;>conv=>whnf
 rotate_left
 ·refine aA ?_;exact ⟨(k+1,e),⟨by simp only [];omega,.inl (by simp only [];omega),(bad (fun g=>g3 (by rw [(okW_out.1 g.2.1).2.2];rfl))).symm⟩,by simp only [];omega,(le0 (le_of_cov ⟨rfl,rfl,rfl,rfl,rfl,trivial⟩ ⟨rfl,rfl,trivial⟩ ⟨rfl,rfl,rfl,rfl⟩))⟩
 refine aA ?_
 refine bcase_p (fun g4=>?_) (fun g4=>?_)<;>conv=>whnf
 rotate_left
 ·refine aA ?_;exact ⟨(k+1,e),⟨by simp only [];omega,.inl (by simp only [];omega),(bad (fun g=>g4 (by rw [m2];omega))).symm⟩,by simp only [];omega,(le0 (le_of_cov ⟨rfl,rfl,rfl,rfl,rfl,trivial⟩ ⟨rfl,rfl,trivial⟩ ⟨rfl,rfl,rfl,rfl⟩))⟩
 have hok:okW e.sec.length l[k].2=true:=okW_out.2 ⟨g1,by rw [<-m1];exact g2,by omega⟩
 have hs:stepJ e l[k]=⟨e.sec,e.ca++[l[k].2]⟩:=by
  rw [stepJ,if_neg h7',putM,if_pos ⟨hR,hok⟩,if_neg (by omega)]
 refine aA ?_;refine condK_of (okRows_map (fun _=>rfl) _) (aW ?_);refine roomK_le 1000 1000 (by simp;omega) (by decide) (by decide) (by decide) (aW ?_);refine roomK_le 1000 1000 (by show (e.ca.map encW).length+1<=1000;omega) (by decide) (by decide) (by decide) (aW ?_)
 exact ⟨(k+1,⟨e.sec,e.ca++[l[k].2]⟩),⟨by simp only [];omega,.inl (by simp only [];omega),(en _ hs).symm⟩,by simp only [];omega,
  len [.frz 65 ((e.ca++[l[k].2]).map encW) 2,.cd 3 1 65 ((e.ca++[l[k].2]).map encW) 2] ⟨⟨false,by rw [List.map_append];rfl⟩,⟨rfl,rfl,rfl⟩,trivial⟩ (le_of_cov ⟨rfl,rfl,rfl,rfl,rfl,trivial⟩ ⟨rfl,rfl,trivial⟩ ⟨rfl,rfl,rfl,rfl⟩)⟩
abbrev Nst:=List ByteArray×(Nat->Pg)
def new0:Nst:=(List.replicate 35 nul16,fun _=>zP)
end Go.Lk
