/-
  What is proved here: what functions of the program compute, and what follows; no condition beyond each theorem's own.
-/
import Derived.Test.YtaofmndhdmkgkaaGreatFAw
set_option linter.unusedSimpArgs false
set_option linter.unusedVariables false
set_option linter.unnecessarySimpa false
set_option linter.unusedSectionVars false
namespace Go.Lk
open Go Go.Proofs Go.RowKit
def nm11R:List (Nat×Nat):=[(1000000,2000216),(1000001,2000217),(1000004,2000218)]
structure Ended (R:MS) (work:List (List MOp)):Prop where
 lf:∀ i:Nat,HCall Tryz.prog 38 [.ptr 1000000 0 0,.d (.int .i64 i)] (mH R) (mH R) (.int .i64 0)
 st:∀ i:Nat,HCall Tryz.prog 35 [.ptr 1000000 0 0,.d (.int .i64 i)] (mH R) (mH R) (.int .i64 0)
 ha:∃ k:Nat,HCall Tryz.prog 42 [.ptr 1000000 0 0] (mH R) (mH R) (.agg [.int .i64 k,.int .i64 1,.lst [],.lst []])
 fl:HCall Tryz.prog 43 [.ptr 1000000 0 0] (mH R) (mH R) (.int .i64 0)
theorem ended_of {work:List (List MOp)} {R:MS} (h:MGE work R) (hw:∀ l∈work,l.length<=1000) (hz:∀ k,lfV R k=0):Ended R work:=by
 refine ⟨fun i=>?_,fun i=>?_,⟨R.h.n,?_⟩,?_⟩
 ·have:=left_any h hw i
  rwa [hz i] at this
 ·have:=stateV_ok R i
  rwa [stV_zero h hz i] at this
 ·have hh:=hall_zero h hz;have:=hall_ok R (by rw [hh.1];exact Nat.zero_le _) (by rw [hh.2];exact Nat.zero_le _)
  have e:encHA R.h=.agg [.int .i64 R.h.n,.int .i64 1,.lst [],.lst []]:=by rw [encHA,HA.cells,hh.1,hh.2];rfl
  rwa [e] at this
 ·have:=flight_ok R
  rwa [out_zero h hz] at this
set_option maxRecDepth 20000 in
set_option maxHeartbeats 16000000 in
theorem roundsBehind_ok (many:Int) (m0:0<=many) (m1:many<=255) (work:List (List MOp)) (hl:work.length<=9223372036854775807) (hl2:∀ l∈work,l.length<=9223372036854775807) (acts:List (Int×Int)) (ha:acts.length<=9223372036854775807) (faults:List Bool) (hf:faults.length<=9223372036854775807):
  ACall Tryz.prog 11 [.int .u8 many,.lst (work.map encTd),.lst (acts.map encI),.lst (faults.map encBl)] (.bool true):=by
 have hma:(acts.map encI).length=acts.length:=List.length_map ..
 have hmw:(work.map encTd).length=work.length:=List.length_map ..
 have hmf:(faults.map encBl).length=faults.length:=List.length_map ..
 refine acall_of Tryz.func11 4 rfl (by kernel_rfl) (aP ?_);refine callX_pure (small19_ok work hl hl2) (aW ?_)
 refine bcase_p (fun q0=>?_) (fun q0=>?_)<;>conv=>whnf
 ·refine aP ?_;refine callX_pure awake20_ok (aP ?_);exact ret_of rfl rfl
 refine aP ?_
 refine bcase_p (fun q00=>?_) (fun q00=>?_)<;>conv=>whnf
 ·refine aP ?_;refine callX_pure awake20_ok (aP ?_);exact ret_of rfl rfl
 have hS:SmOk work:=by
  rcases Classical.em (SmOk work) with h|h
  ·exact h
  ·rw [smN_no h] at q0;exact absurd (by decide) q0
 obtain ⟨n,hn⟩:∃ n:Nat,1+many%8=n:=⟨(1+many%8).toNat,by omega⟩
 have n1:1<=n:=by omega
 have n8:n<=8:=by omega
 have h60:∀ l∈work,l.length<=60:=fun l h=>by have:=(hS.one l h).len;omega
 have hw:∀ l∈work,l.length<=1000:=fun l h=>by have:=(hS.one l h).len;omega
 have hB:=begin19_ok many m0 m1 [] (by decide) work hS.n1 hS.n4 h60 n hn;have hI0:=HI.new n1 n8 [] hS.n1 hS.n4;have hc0:(begM n [] work).clk=0:=rfl;have hd0:=begM_doc n n1 n8 [] work;obtain ⟨M0,hM⟩:∃ M0,begM n [] work=M0:=⟨_,rfl⟩;rw [hM] at hB hI0 hc0 hd0;refine aP ?_;refine callX_ptr hB (Nat.le_of_ble_eq_true rfl) (aP ?_);have h4:=hS.n4
 have h20:∀ l∈work,l.length<=20:=fun l h=>(hS.one l h).len
 have hsb:=sum_bd h20;have hbd:=bound30_ok work (by omega) (fun l h=>by have:=h20 l h;omega)
 have hbn:bdN work=10*(sumL work:Int)+1:=by rw [bdN];omega
 have hx0:M0.s.next=0:=by rw [<-hM];rfl
 refine aloop (ι:=Nat) (fun k=>[(1,.d (.lst (work.map encTd))),(2,.d (.lst (acts.map encI))),(3,.d (.lst (faults.map encBl))),(9,.ptr 2000216 0 0),(12,.d (.int .i64 k))])
  (fun k=>[(2000216,.box (mCk 2000216 (runMS M0 (acts.take k))) false),(2000217,.row ((runMS M0 (acts.take k)).ws.map encWA) 11 false),(2000218,.row ((runMS M0 (acts.take k)).ev.map encEvA) 11 false)])
  (fun k=>k<=acts.length/\k<=200) (fun k=>200-k) 0 ⟨by omega,by decide⟩ (le0 (le_of_cov ⟨rfl,rfl,rfl,rfl,rfl,trivial⟩ ⟨rfl,rfl,rfl,trivial⟩ ⟨rfl,rfl,rfl,rfl⟩)) ?_
 rintro k ⟨hk,hk3⟩;have hI:=hI0.run (acts.take k)
 have hkl:(acts.take k).length<=k:=by rw [List.length_take];omega
 have hck:(runMS M0 (acts.take k)).clk<=k:=by
  have:=(run_clk (acts.take k) M0).1;omega
 have hnx:=nx_run (acts.take k) hI0.g;have hPh:=dec_run (acts.take k) hI0.g
 have es:∀ hk2:k<acts.length,runMS M0 (acts.take (k+1))=(doMS (runMS M0 (acts.take k)) acts[k]).1:=fun hk2=>run_snoc hk2 M0
 obtain ⟨M,hM2⟩:∃ M,runMS M0 (acts.take k)=M:=⟨_,rfl⟩;rw [hM2] at hI hck hnx hPh;rw [hM2]
 conv=>whnf
 refine bcase_p (fun h5=>?_) (fun h5=>?_)<;>conv=>whnf
 rotate_left
 ·have hMP:Phi M0=9*sumL work:=by rw [<-hM];exact Phi_sum n [] work h4
  obtain ⟨N,hN⟩:=runN_ex M work.length faults (10*sumL work+1);have hle:=hN.le;have hrun0:=run47_ok hI.g hw work.length (by omega) faults (by omega) (10*sumL work+1) (by omega) N hN
  have hrun:HCall Tryz.prog 29 [.ptr 1000000 0 0,.d (.int .i64 (work.map encTd).length),.d (.lst (faults.map encBl)),.d (.int .i64 (bdN work))] (mH M) (mH (rnds M work.length faults N)) (.int .i64 N):=by rw [hmw];exact hrun0
  have hR:=hI.g.rnds work.length faults N;have hz:=left_zero hR (hN.stops hI.g (by omega) (by omega));obtain ⟨hE1,hE2,⟨hn,hE3⟩,hE4⟩:=ended_of hR hw hz;obtain ⟨R,hR2⟩:∃ R,rnds M work.length faults N=R:=⟨_,rfl⟩;rw [hR2] at hrun hE1 hE2 hE3 hE4;refine aP ?_;refine callX_pure hbd (aP ?_);refine callH_blk hrun nm11R rfl ⟨rfl,rfl,rfl,trivial⟩ rfl (aP ?_);refine aloop (ι:=Nat) (fun i=>[(9,.ptr 2000216 0 0),(57,.d (.int .i64 (work.map encTd).length)),(58,.d (.int .i64 i))])
   (fun i=>[(2000216,.box (mCk 2000216 R) false),(2000217,.row (R.ws.map encWA) 11 false),(2000218,.row (R.ev.map encEvA) 11 false)])
   (fun i=>i<=work.length) (fun i=>work.length-i) 0 (Nat.zero_le _) (le0 (le_of_cov ⟨rfl,rfl,rfl,trivial⟩ ⟨rfl,rfl,rfl,trivial⟩ ⟨rfl,rfl,rfl,rfl⟩)) ?_
  intro i hi
  conv=>whnf
  refine bcase_p (fun g1=>?_) (fun g1=>?_)<;>conv=>whnf
  ·refine callH_blk (hE1 i) nm11R rfl ⟨rfl,rfl,rfl,trivial⟩ rfl (aP ?_);refine callH_blk (hE2 i) nm11R rfl ⟨rfl,rfl,rfl,trivial⟩ rfl (aP ?_);exact ⟨i+1,by omega,by omega,(le0 (le_of_cov ⟨rfl,rfl,rfl,trivial⟩ ⟨rfl,rfl,rfl,trivial⟩ ⟨rfl,rfl,rfl,rfl⟩))⟩
  refine aP ?_;refine callH_blk hE3 nm11R rfl ⟨rfl,rfl,rfl,trivial⟩ rfl (aP ?_);refine wK (h0:=by simp) (h1:=by simp) (aP ?_);refine bcase_t (by simp) (aP ?_);refine callH_blk hE4 nm11R rfl ⟨rfl,rfl,rfl,trivial⟩ rfl (aP ?_);refine callX_pure awake20_ok (aP ?_)
  first|exact ret_of rfl rfl|exact rfl
 refine bcase_p (fun h6=>?_) (fun h6=>?_)<;>conv=>whnf
 rotate_left
 ·have hMP:Phi M0=9*sumL work:=by rw [<-hM];exact Phi_sum n [] work h4
  obtain ⟨N,hN⟩:=runN_ex M work.length faults (10*sumL work+1);have hle:=hN.le;have hrun0:=run47_ok hI.g hw work.length (by omega) faults (by omega) (10*sumL work+1) (by omega) N hN
  have hrun:HCall Tryz.prog 29 [.ptr 1000000 0 0,.d (.int .i64 (work.map encTd).length),.d (.lst (faults.map encBl)),.d (.int .i64 (bdN work))] (mH M) (mH (rnds M work.length faults N)) (.int .i64 N):=by rw [hmw];exact hrun0
  have hR:=hI.g.rnds work.length faults N;have hz:=left_zero hR (hN.stops hI.g (by omega) (by omega));obtain ⟨hE1,hE2,⟨hn,hE3⟩,hE4⟩:=ended_of hR hw hz;obtain ⟨R,hR2⟩:∃ R,rnds M work.length faults N=R:=⟨_,rfl⟩;rw [hR2] at hrun hE1 hE2 hE3 hE4;refine aP ?_;refine callX_pure hbd (aP ?_);refine callH_blk hrun nm11R rfl ⟨rfl,rfl,rfl,trivial⟩ rfl (aP ?_);refine aloop (ι:=Nat) (fun i=>[(9,.ptr 2000216 0 0),(57,.d (.int .i64 (work.map encTd).length)),(58,.d (.int .i64 i))])
   (fun i=>[(2000216,.box (mCk 2000216 R) false),(2000217,.row (R.ws.map encWA) 11 false),(2000218,.row (R.ev.map encEvA) 11 false)])
   (fun i=>i<=work.length) (fun i=>work.length-i) 0 (Nat.zero_le _) (le0 (le_of_cov ⟨rfl,rfl,rfl,trivial⟩ ⟨rfl,rfl,rfl,trivial⟩ ⟨rfl,rfl,rfl,rfl⟩)) ?_
  intro i hi
  conv=>whnf
  refine bcase_p (fun g1=>?_) (fun g1=>?_)<;>conv=>whnf
  ·refine callH_blk (hE1 i) nm11R rfl ⟨rfl,rfl,rfl,trivial⟩ rfl (aP ?_);refine callH_blk (hE2 i) nm11R rfl ⟨rfl,rfl,rfl,trivial⟩ rfl (aP ?_);exact ⟨i+1,by omega,by omega,(le0 (le_of_cov ⟨rfl,rfl,rfl,trivial⟩ ⟨rfl,rfl,rfl,trivial⟩ ⟨rfl,rfl,rfl,rfl⟩))⟩
  refine aP ?_;refine callH_blk hE3 nm11R rfl ⟨rfl,rfl,rfl,trivial⟩ rfl (aP ?_);refine wK (h0:=by simp) (h1:=by simp) (aP ?_);refine bcase_t (by simp) (aP ?_);refine callH_blk hE4 nm11R rfl ⟨rfl,rfl,rfl,trivial⟩ rfl (aP ?_);refine callX_pure awake20_ok (aP ?_)
  first|exact ret_of rfl rfl|exact rfl
 have hk2:k<acts.length:=by omega
 refine aP ?_;refine idxK_nat (by omega) (w0 ?_);refine getRow_of (x:=encI acts[k]) (by simp [hk2]) (aW ?_);refine callH_blk (doL_ok hI.g hw (by omega) acts[k]) nm11R rfl ⟨rfl,rfl,rfl,trivial⟩ rfl (aP ?_);have e:=es hk2;rw [hM2] at e;refine ⟨k+1,⟨by omega,by omega⟩,by omega,?_⟩;rw [e];exact (le0 (le_of_cov ⟨rfl,rfl,rfl,rfl,rfl,trivial⟩ ⟨rfl,rfl,rfl,trivial⟩ ⟨rfl,rfl,rfl,rfl⟩))
def nmSa:List (Nat×Nat):=[(1000000,2000184),(1000001,2000185),(1000004,2000186)]
def nmSb:List (Nat×Nat):=[(1000000,2000240),(1000001,2000241),(1000004,2000242)]
set_option maxRecDepth 20000 in
set_option maxHeartbeats 16000000 in
theorem roundsSame_ok (many:Int) (m0:0<=many) (m1:many<=255) (work:List (List MOp)) (hl:work.length<=9223372036854775807) (hl2:∀ l∈work,l.length<=9223372036854775807) (first:Int) (f0:0<=first) (f1:first<=255):
  ACall Tryz.prog 13 [.int .u8 many,.lst (work.map encTd),.int .u8 first] (.bool true):=by
 have hmw:(work.map encTd).length=work.length:=List.length_map ..
 obtain ⟨f,rfl⟩:∃ f:Nat,(f:Int)=first:=⟨first.toNat,by omega⟩
 refine acall_of Tryz.func13 3 rfl (by kernel_rfl) (aP ?_);refine callX_pure (small19_ok work hl hl2) (aW ?_)
 refine bcase_p (fun q0=>?_) (fun q0=>?_)<;>conv=>whnf
 ·refine aP ?_;refine callX_pure awake20_ok (aP ?_);exact ret_of rfl rfl
 have hS:SmOk work:=by
  rcases Classical.em (SmOk work) with h|h
  ·exact h
  ·rw [smN_no h] at q0;exact absurd (by decide) q0
 obtain ⟨n,hn⟩:∃ n:Nat,1+many%8=n:=⟨(1+many%8).toNat,by omega⟩
 have n1:1<=n:=by omega
 have n8:n<=8:=by omega
 have h60:∀ l∈work,l.length<=60:=fun l h=>by have:=(hS.one l h).len;omega
 have hw:∀ l∈work,l.length<=1000:=fun l h=>by have:=(hS.one l h).len;omega
 have hB:=begin19_ok many m0 m1 [] (by decide) work hS.n1 hS.n4 h60 n hn;have hI0:=HI.new n1 n8 [] hS.n1 hS.n4;have hc0:(begM n [] work).clk=0:=rfl;have hd0:=begM_doc n n1 n8 [] work;obtain ⟨M0,hM⟩:∃ M0,begM n [] work=M0:=⟨_,rfl⟩;rw [hM] at hB hI0 hc0 hd0;refine aP ?_;refine callX_ptr hB (Nat.le_of_ble_eq_true rfl) (aP ?_);have h4:=hS.n4
 have h20:∀ l∈work,l.length<=20:=fun l h=>(hS.one l h).len
 have hsb:=sum_bd h20;have hbd:=bound30_ok work (by omega) (fun l h=>by have:=h20 l h;omega)
 have hbn:bdN work=10*(sumL work:Int)+1:=by rw [bdN];omega
 have hx0:M0.s.next=0:=by rw [<-hM];rfl
 have hMP:Phi M0=9*sumL work:=by rw [<-hM];exact Phi_sum n [] work h4
 refine callX_ptr hB (Nat.le_of_ble_eq_true rfl) (w0 ?_);obtain ⟨N,hN⟩:=runN_ex M0 work.length [] 1000;obtain ⟨a,ha⟩:=runN_ex M0 work.length [] f;obtain ⟨b,hb⟩:=runN_ex (rnds M0 work.length [] a) work.length [] 1000;have hNab:=run_parts hI0.g (by omega) hx0 (by omega) hN ha hb;have hale:=ha.le;have hNle:=hN.le;have hble:=hb.le;have hca:=(rnds_clk M0 work.length [] a).1;have h10:=run47_ok hI0.g hw work.length (by omega) [] (by decide) 1000 (by omega) N hN;have h20':=run47_ok hI0.g hw work.length (by omega) [] (by decide) f (by omega) a ha;have h30:=run47_ok (hI0.g.rnds work.length [] a) hw work.length (by omega) [] (by decide) 1000 (by omega) b hb;rw [rnds_add,<-hNab] at h30;have hI:=hI0.rnds work.length [] N;have hcm:=rnds_clk1 hI0.g [] N;rw [hc0,Int.zero_add,<-hmw] at hcm;have hm0:0<= (N:Int)*((work.map encTd).length:Int):=Int.mul_nonneg (by omega) (by omega);have hm1:(N:Int)*((work.map encTd).length:Int) <=1000*4:=Int.mul_le_mul (by omega) (by omega) (by omega) (by omega)
 have h1:HCall Tryz.prog 29 [.ptr 1000000 0 0,.d (.int .i64 (work.map encTd).length),.d (.lst []),.d (.int .i64 1000)] (mH M0) (mH (rnds M0 work.length [] N)) (.int .i64 N):=by rw [hmw];exact h10
 have h2:HCall Tryz.prog 29 [.ptr 1000000 0 0,.d (.int .i64 (work.map encTd).length),.d (.lst []),.d (.int .i64 f)] (mH M0) (mH (rnds M0 work.length [] a)) (.int .i64 a):=by rw [hmw];exact h20'
 have h3:HCall Tryz.prog 29 [.ptr 1000000 0 0,.d (.int .i64 (work.map encTd).length),.d (.lst []),.d (.int .i64 1000)] (mH (rnds M0 work.length [] a)) (mH (rnds M0 work.length [] N)) (.int .i64 b):=by rw [hmw];exact h30
 rw [hmw] at hcm;rw [<-hmw] at hcm;obtain ⟨A,hA⟩:∃ A,rnds M0 work.length [] a=A:=⟨_,rfl⟩;rw [hA] at h2 h3;obtain ⟨M,hM2⟩:∃ M,rnds M0 work.length [] N=M:=⟨_,rfl⟩;rw [hM2] at h1 h3 hI
 have hcm2:M.clk=(N:Int)*((work.map encTd).length:Int):=by rw [<-hM2,hmw];have:=rnds_clk1 hI0.g [] N;omega
 obtain ⟨P,hP⟩:=hI.doc;have hpg:=pages_m_ok M hP.inv.pj.fm;rw [pages_doc hP] at hpg
 clear hcm
 refine aP ?_;refine callH_blk (hcall_nil h1) nmSa rfl ⟨rfl,rfl,rfl,trivial⟩ rfl (aP ?_);refine callH_blk (hcall_nil h2) nmSb rfl ⟨rfl,rfl,rfl,trivial⟩ rfl (aP ?_);refine callH_blk (hcall_nil h3) nmSb rfl ⟨rfl,rfl,rfl,trivial⟩ rfl (aP ?_);refine callH_blk (clock_ok M) nmSa rfl ⟨rfl,rfl,rfl,trivial⟩ rfl (aP ?_);refine callH_blk (clock_ok M) nmSb rfl ⟨rfl,rfl,rfl,trivial⟩ rfl (aP ?_);refine callH_blk (clock_ok M) nmSa rfl ⟨rfl,rfl,rfl,trivial⟩ rfl (aP ?_);refine callH_blk hpg nmSa rfl ⟨rfl,rfl,rfl,trivial⟩ rfl (aP ?_);refine callH_blk hpg nmSb rfl ⟨rfl,rfl,rfl,trivial⟩ rfl (aP ?_);refine callX_pure (Hy.same_ok (bgN P 16) (bgN P 16) (by have:=bg_len P;omega)) (w0 ?_);refine bcase_t (by simp) (aP ?_);refine callX_pure awake20_ok (aP ?_)
 first|exact ret_of rfl rfl|exact rfl
end Go.Lk
