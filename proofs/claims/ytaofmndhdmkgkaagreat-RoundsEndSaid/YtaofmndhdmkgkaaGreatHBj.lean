/-
  What is proved here: what functions of the program compute, and what follows; no condition beyond each theorem's own.
-/
import Derived.Test.YtaofmndhdmkgkaaGreatHBi
set_option linter.unusedSimpArgs false
set_option linter.unusedVariables false
set_option linter.unnecessarySimpa false
set_option linter.unusedSectionVars false
namespace Go.Lk
open Go Go.Proofs Go.RowKit
def nm12R:List (Nat×Nat):=[(1000000,2000264),(1000001,2000265),(1000004,2000266)]
set_option maxRecDepth 20000 in
set_option maxHeartbeats 16000000 in
theorem roundsEnd_ok (many:Int) (m0:0<=many) (m1:many<=255) (pages:List Pg) (hp:pages.length<=9223372036854775807) (work:List (List MOp)) (hl:work.length<=9223372036854775807) (hl2:∀ l∈work,l.length<=9223372036854775807) (faults:List Bool) (hf:faults.length<=9223372036854775807):
  ACall Tryz.prog 12 [.int .u8 many,.lst (pages.map encP),.lst (work.map encTd),.lst (faults.map encBl)] (.bool true):=by
 have hmw:(work.map encTd).length=work.length:=List.length_map ..
 have hmf:(faults.map encBl).length=faults.length:=List.length_map ..
 refine acall_of Tryz.func12 4 rfl (by kernel_rfl) (aP ?_);refine callX_pure (small19_ok work hl hl2) (aW ?_)
 refine bcase_p (fun q0=>?_) (fun q0=>?_)<;>conv=>whnf
 ·refine aP ?_;refine callX_pure awake20_ok (aP ?_);exact ret_of rfl rfl
 refine aP ?_
 refine bcase_p (fun q00=>?_) (fun q00=>?_)<;>conv=>whnf
 ·refine aP ?_;refine callX_pure awake20_ok (aP ?_);exact ret_of rfl rfl
 have hS:SmOk work:=by
  rcases Classical.em (SmOk work) with h|h
  ·exact h
  ·rw [smN_no h] at q0;exact absurd (by decide) q0
 obtain ⟨n,hn⟩:∃ n:Nat,1+many%8=n:=⟨(1+many%8).toNat,by omega⟩
 have n1:1<=n:=by omega
 have n8:n<=8:=by omega
 have h60:∀ l∈work,l.length<=60:=fun l h=>by have:=(hS.one l h).len;omega
 have hw:∀ l∈work,l.length<=1000:=fun l h=>by have:=(hS.one l h).len;omega
 have hB:=begin19_ok many m0 m1 pages hp work hS.n1 hS.n4 h60 n hn;have hI0:=HI.new n1 n8 pages hS.n1 hS.n4;have hc0:(begM n pages work).clk=0:=rfl;have hd0:=begM_doc n n1 n8 pages work;obtain ⟨M0,hM⟩:∃ M0,begM n pages work=M0:=⟨_,rfl⟩;rw [hM] at hB hI0 hc0 hd0;refine aP ?_;refine callX_ptr hB (Nat.le_of_ble_eq_true rfl) (aP ?_);have hokp:=hd0.okp;have h4:=hS.n4
 have h20:∀ l∈work,l.length<=20:=fun l h=>(hS.one l h).len
 have hsb:=sum_bd h20;have hbd:=bound30_ok work (by omega) (fun l h=>by have:=h20 l h;omega)
 have hbn:bdN work=10*(sumL work:Int)+1:=by rw [bdN];omega
 have hx0:M0.s.next=0:=by rw [<-hM];rfl
 have hMP:Phi M0=9*sumL work:=by rw [<-hM];exact Phi_sum n pages work h4
 obtain ⟨N,hN⟩:=runN_ex M0 work.length faults (10*sumL work+1);have hle:=hN.le;have hrun0:=run47_ok hI0.g hw work.length (by omega) faults (by omega) (10*sumL work+1) (by omega) N hN
 have hrun:HCall Tryz.prog 29 [.ptr 1000000 0 0,.d (.int .i64 (work.map encTd).length),.d (.lst (faults.map encBl)),.d (.int .i64 (bdN work))] (mH M0) (mH (rnds M0 work.length faults N)) (.int .i64 N):=by rw [hmw];exact hrun0
 have hI:=hI0.rnds work.length faults N;have hcl:=(rnds_clk M0 work.length faults N).1;have hz:=left_zero hI.g (hN.stops hI0.g (by omega) (by omega));obtain ⟨R,hR2⟩:∃ R,rnds M0 work.length faults N=R:=⟨_,rfl⟩;rw [hR2] at hrun hI hz hcl;obtain ⟨hE1,hE2,⟨hn,hE3⟩,hE4⟩:=ended_of hI.g hw hz;obtain ⟨P,hP,hrp,hbad⟩:=hI.rp hokp (quiet_of hI.g hz);have hall:=ev_all hI hz;have hev:=hI.evl
 have hme:(R.ev.map encEvA).length=R.ev.length:=List.length_map ..
 have hpg:=pages_m_ok R hP.inv.pj.fm;rw [pages_doc hP] at hpg;refine callX_pure hbd (aP ?_);refine callH_blk hrun nm12R rfl ⟨rfl,rfl,rfl,trivial⟩ rfl (aP ?_);refine aloop (ι:=Nat) (fun i=>[(9,.ptr 2000264 0 0),(10,.d (.lst ((bg19 pages).map encP))),(14,.d (.int .i64 (sumL (work.take i)))),(54,.d (.lst (work.map encTd))),(55,.d (.int .i64 (work.map encTd).length)),(56,.d (.int .i64 i))])
  (fun i=>[(2000264,.box (mCk 2000264 R) false),(2000265,.row (R.ws.map encWA) 11 false),(2000266,.row (R.ev.map encEvA) 11 false)])
  (fun i=>i<=work.length) (fun i=>work.length-i) 0 (Nat.zero_le _) (le0 (le_of_cov ⟨rfl,rfl,rfl,rfl,rfl,rfl,trivial⟩ ⟨rfl,rfl,rfl,trivial⟩ ⟨rfl,rfl,rfl,rfl⟩)) ?_
 intro i hi;have hb:=sum_tk (k:=i) h20
 conv=>whnf
 refine bcase_p (fun g1=>?_) (fun g1=>?_)<;>conv=>whnf
 ·have hi2:i<work.length:=by omega
  have hml:(work[i].map encMO).length=work[i].length:=List.length_map ..
  have h1:=h20 _ (List.getElem_mem hi2);have es:=sum_succ hi2;refine idxK_nat (by omega) (w0 ?_);refine getRow_of (x:=encTd work[i]) (by simp [hi2]) (aW ?_);refine aP ?_;refine callH_blk (hE1 i) nm12R rfl ⟨rfl,rfl,rfl,trivial⟩ rfl (aP ?_);rw [show ((sumL (work.take i):Nat):Int)+(((work[i].map encMO).length:Nat):Int)=((sumL (work.take (i+1)):Nat):Int) by omega];exact ⟨i+1,by omega,by omega,(le0 (le_of_cov ⟨rfl,rfl,rfl,rfl,rfl,rfl,trivial⟩ ⟨rfl,rfl,rfl,trivial⟩ ⟨rfl,rfl,rfl,rfl⟩))⟩
 have hil:i=work.length:=by omega
 subst hil;rw [List.take_length] at hb⊢;refine aP ?_;refine callH_blk (history_ok R (by omega)) nm12R rfl ⟨rfl,rfl,rfl,trivial⟩ rfl (aP ?_);refine callX_own (evs_ok R.ev (by omega)) (aP ?_);refine callX_pure (replay_ok R.ev (by omega) (new9 pages).2 P hrp hbad) (aP ?_);refine callH_blk (clock_ok R) nm12R rfl ⟨rfl,rfl,rfl,trivial⟩ rfl (aP ?_);refine callX_pure (times_ok R.ev (by omega) R.clk (by omega) hI.tg.ti) (aP ?_);refine callH_blk hpg nm12R rfl ⟨rfl,rfl,rfl,trivial⟩ rfl (aP ?_);refine callX_pure (Hy.same_ok (bgN P 16) (bgN P 16) (by have:=bg_len P;omega)) (w0 ?_);refine bcase_t (by simp) (aP ?_);refine callH_blk hE4 nm12R rfl ⟨rfl,rfl,rfl,trivial⟩ rfl (aP ?_);refine callX_pure awake20_ok (aP ?_)
 first|exact ret_of rfl rfl|exact rfl
end Go.Lk
