/-
  What is proved here: what functions of the program compute, and what follows; no condition beyond each theorem's own.
-/
import Derived.Test.YtnlfingofodhlaaGreatCAi
import Derived.Test.YtnlfingofodhlaaGreatCAk
import Derived.Test.YtnlfingofodhlaaGreatCAm
import Derived.Test.YtnlfingofodhlaaGreatCAn
import Derived.Test.YtnlfingofodhlaaGreatCAw
set_option linter.unusedSimpArgs false
set_option linter.unusedVariables false
set_option linter.unnecessarySimpa false
set_option linter.unusedSectionVars false
namespace Go.Lk
open Go Go.Proofs Go.RowKit
def nm6:List (Nat×Nat):=[(1000000,2000264),(1000001,2000265),(1000004,2000266)]
theorem wkTk_len (n:Nat):(wkTk n).length=n:=by rw [wkTk,List.length_map,List.length_range]
theorem wkTk_one {n:Nat} {l:List MOp} (h:l∈wkTk n):∃ k,l=[tkOp k]:=by
 obtain ⟨k,_,rfl⟩:=List.mem_map.1 h;exact ⟨k,rfl⟩
theorem wkTk_op {n:Nat}:∀ l∈wkTk n,∀ o∈l,o.1=1:=fun l hl o ho=>by
 obtain ⟨k,rfl⟩:=wkTk_one hl
 rw [List.mem_singleton] at ho;subst ho;rfl
noncomputable def tM0 (n:Nat):MS:=begM 1 [] (wkTk n)
noncomputable def tM2 (n:Nat):MS:=(stepM (stN (tM0 n) n).1 2).1
structure TkF (n:Nat):Prop where
 go:∀ k:Nat,k<n->(stepM (stN (tM0 n) k).1 k).2=true
 hl:(stN (tM0 n) n).1.h=⟨1,[(0,false),(1,false)],(List.range (n-2)).map (·+2)⟩
 no:(stepM (stN (tM0 n) n).1 2).2=false
 ev:(psN (tM2 n) n (10*n)).ev.map (fun e=>(e.who,e.res))=(List.range n).map fun k=>(k,(0,newP (k+1)))
 pg:DocI (psN (tM2 n) n (10*n)).p (tkP n) 1
 pn:(bgN (tkP n) 16).length=n
theorem tk_facts {n:Nat} (hn:n=3\/n=4):TkF n:=by
 have hM:MGE (wkTk n) (tM0 n):=begM_mge 1 (by decide) (by decide) [] (wkTk n) (by rw [wkTk_len];omega) (by rw [wkTk_len];omega);have hw:=wkTk_op (n:=n);have hM1:=hM.stN n;have hM2:MGE (wkTk n) (tM2 n):=hM1.step 2;have hd:DocI (tM0 n).p (fun _=>zP) 1:=begM_doc 1 (by decide) (by decide) [] (wkTk n)
 have e2:tM2 n=(stepM1 (tk1 (tM0 n).p n) 2).1:=by
  rw [tM2,show ((2:Int))=((2:Nat):Int) from rfl,stepM_1 hM1 hw 2,stN_1 hM hw];rfl
 have eE:psN (tM2 n) n (10*n)=tkE (tM0 n).p n:=by rw [psN_1 hM2 hw,e2];rfl
 have hk:∀ k,k<n->(workP (tkp (tM0 n).p k) (tkOp k)).2=(0,newP (k+1)):=fun k hk=>(tk_step (tk_doc hd (by decide) k (by omega)) (by decide) (by omega)).1
 have hev:(tkE (tM0 n).p n).ev.map (fun e=>(e.who,e.res))=(List.range n).map (fun k=>(k,(workP (tkp (tM0 n).p k) (tkOp k)).2)) /\ (tkE (tM0 n).p n).p=tkp (tM0 n).p n:=by
  rcases hn with rfl|rfl
  ·exact tk3_b _
  ·exact tk4_b _
 refine ⟨fun k hkn=>?_,?_,?_,?_,?_,?_⟩
 ·rw [stepM_1 (hM.stN k) hw,stN_1 hM hw]
  have hx:∀ {l:List Bool},(List.range n).map (fun k=>(stepM1 (stN1 (newMS (tM0 n).p 1 (wkTk n)) k).1 k).2)=l->l[k]?=some (stepM1 (stN1 (tM0 n) k).1 k).2:=fun e=>by
   rw [<-e,List.getElem?_map,List.getElem?_range hkn];rfl
  rcases hn with rfl|rfl
  ·have:=hx (tk3_a _).1
   match k,hkn with
   |0,_=>exact (Option.some.inj this).symm
   |1,_=>exact (Option.some.inj this).symm
   |2,_=>exact (Option.some.inj this).symm
  ·have:=hx (tk4_a _).1
   match k,hkn with
   |0,_=>exact (Option.some.inj this).symm
   |1,_=>exact (Option.some.inj this).symm
   |2,_=>exact (Option.some.inj this).symm
   |3,_=>exact (Option.some.inj this).symm
 ·rw [stN_1 hM hw]
  rcases hn with rfl|rfl
  ·exact (tk3_a _).2.1
  ·exact (tk4_a _).2.1
 ·rw [show ((2:Int))=((2:Nat):Int) from rfl,stepM_1 hM1 hw 2,stN_1 hM hw]
  rcases hn with rfl|rfl
  ·exact (tk3_a _).2.2
  ·exact (tk4_a _).2.2
 ·rw [eE,hev.1]
  refine List.map_congr_left fun k hkm=>?_
  rw [hk k (List.mem_range.1 hkm)]
 ·rw [eE,hev.2];exact tk_doc hd (by decide) n (by omega)
 ·rcases hn with rfl|rfl<;>rfl
set_option maxRecDepth 20000 in
set_option maxHeartbeats 16000000 in
theorem tickets_ok (many:Int) (m0:0<=many) (m1:many<=255):ACall Tryz.prog 6 [.int .u8 many] (.bool true):=by
 obtain ⟨n,hn1⟩:∃ n:Nat,3+many%2=n:=⟨(3+many%2).toNat,by omega⟩
 have hn:n=3\/n=4:=by omega
 have hT:=tk_facts hn;have hB:=begin19_ok 0 (by decide) (by decide) [] (by decide) (wkTk n) (by rw [wkTk_len];omega) (by rw [wkTk_len];omega) (fun l hl=>by obtain ⟨k,rfl⟩:=wkTk_one hl;simp) 1 rfl
 have hW:∀ l∈wkTk n,l.length<=1000:=fun l hl=>by obtain ⟨k,rfl⟩:=wkTk_one hl;simp
 have hI0:HI (new9 []).2 1 (wkTk n) (tM0 n):=HI.new (by decide) (by decide) [] (by rw [wkTk_len];omega) (by rw [wkTk_len];omega);have hM:MGE (wkTk n) (tM0 n):=hI0.g;have hc0:(tM0 n).clk=0:=rfl;rw [show begM 1 [] (wkTk n)=tM0 n from rfl] at hB;refine acall_of Tryz.func6 1 rfl (by kernel_rfl) (aP ?_);refine divK_rem (by decide) m0 (aP ?_);rw [hn1];refine aloop (ι:=Nat) (fun k=>[(3,.d (.int .i64 n)),(4,.own 29),(19,.d (.int .i64 n)),(20,.d (.int .i64 k))])
  (fun k=>[(29,.row ((wkTk k).map encTd) 1 false)])
  (fun k=>k<=n) (fun k=>n-k) 0 (Nat.zero_le _) (le1 (.row 4 29 1) ⟨rfl,rfl⟩ (le_of_cov ⟨rfl,rfl,rfl,rfl,trivial⟩ ⟨rfl,trivial⟩ ⟨rfl,rfl,rfl,rfl⟩)) ?_
 intro k hk
 conv=>whnf
 refine bcase_p (fun g1=>?_) (fun g1=>?_)<;>conv=>whnf
 ·have hml:((wkTk k).map encTd).length=k:=by rw [List.length_map,wkTk_len]
  have et:(wkTk (k+1)).map encTd=(wkTk k).map encTd++[encTd [tkOp k]]:=by
   rw [wkTk,List.range_succ,List.map_append,List.map_append];rfl
  refine aP ?_;refine roomK_le 100 100 (by show ((wkTk k).map encTd).length+1<=100;omega) (by decide) (by decide) (by decide) (aP ?_);refine ⟨k+1,by omega,by omega,?_⟩;rw [et];exact (le0 (le_of_cov ⟨rfl,rfl,rfl,rfl,trivial⟩ ⟨rfl,trivial⟩ ⟨rfl,rfl,rfl,rfl⟩))
 have hkn:k=n:=by omega
 subst hkn;refine aP ?_;refine callX_ptr hB (Nat.le_of_ble_eq_true rfl) (aP ?_);refine aloop (ι:=Nat) (fun j=>[(3,.d (.int .i64 k)),(6,.ptr 2000264 0 0),(39,.d (.int .i64 k)),(40,.d (.int .i64 j))])
  (fun j=>[(2000264,.box (mCk 2000264 (stN (tM0 k) j).1) false),(2000265,.row ((stN (tM0 k) j).1.ws.map encWA) 11 false),(2000266,.row ((stN (tM0 k) j).1.ev.map encEvA) 11 false)])
  (fun j=>j<=k) (fun j=>k-j) 0 (Nat.zero_le _) (le0 (le_of_cov ⟨rfl,rfl,rfl,rfl,trivial⟩ ⟨rfl,rfl,rfl,trivial⟩ ⟨rfl,rfl,rfl,rfl⟩)) ?_
 intro j hj;have hcs:=(stN_clk (tM0 k) j).1
 conv=>whnf
 refine bcase_p (fun z4=>?_) (fun z4=>?_)<;>conv=>whnf
 ·obtain ⟨t,t0,t1,g⟩:=(hM.stN j).ex;have hsk:=stepM_ok g t1 hW (by omega) j;rw [hT.go j (by omega)] at hsk;refine aP ?_;refine callH_blk hsk nm6 rfl ⟨rfl,rfl,rfl,trivial⟩ rfl (aP ?_);exact ⟨j+1,by omega,by omega,(le0 (le_of_cov ⟨rfl,rfl,rfl,rfl,trivial⟩ ⟨rfl,rfl,rfl,trivial⟩ ⟨rfl,rfl,rfl,rfl⟩))⟩
 have hjk:j=k:=by omega
 subst hjk;have hI1:=hI0.stN j;have hM2:MGE (wkTk j) (tM2 j):=(hM.stN j).step 2;have hI2:HI (new9 []).2 1 (wkTk j) (tM2 j):=hI1.step 2;obtain ⟨t,t0,t1,g⟩:=(hM.stN j).ex;have hs2:=stepM_ok g t1 hW (by omega) 2;rw [hT.no] at hs2;rw [show (stepM (stN (tM0 j) j).1 2).1=tM2 j from rfl] at hs2
 have hc2:(tM2 j).clk<=5:=by
  have:=(stepM_clk (stN (tM0 j) j).1 2).1;show (stepM (stN (tM0 j) j).1 2).1.clk<=5;omega
 have hh2:=hall_ok (stN (tM0 j) j).1 (by have:=hI1.g.ok.hall.len;omega) (by have:=hI1.g.ok.hall.len;omega)
 have hql:(((List.range (j-2)).map (·+2)).map encTk).length=j-2:=by rw [List.length_map,List.length_map,List.length_range]
 obtain ⟨q2,hq2⟩:∃ q2,((List.range (j-2)).map (·+2)).map encTk=encTk 2::q2:=by
  rcases hn with rfl|rfl
  ·exact ⟨[],rfl⟩
  ·exact ⟨[encTk 3],rfl⟩
 rw [hq2] at hql;obtain ⟨M1,hM1⟩:∃ M1,(stN (tM0 j) j).1=M1:=⟨_,rfl⟩;have hTl:=hT.hl;rw [hM1] at hh2 hs2 hTl⊢;obtain ⟨qq,hqq⟩:∃ qq,(List.range (j-2)).map (·+2)=qq:=⟨_,rfl⟩;rw [hqq] at hTl hq2;rw [hTl] at hh2;replace hh2:HCall Tryz.prog 34 [.ptr 1000000 0 0] (mH M1) (mH M1) (.agg [.int .i64 1,.int .i64 1,.lst [encCl (0,false),encCl (1,false)],.lst (qq.map encTk)]):=hh2;rw [hq2] at hh2;refine aP ?_;refine callH_blk hh2 nm6 rfl ⟨rfl,rfl,rfl,trivial⟩ rfl (aP ?_)
 refine bcase_p (fun c1=>?_) (fun c1=>?_)<;>conv=>whnf
 rotate_left
 ·exact absurd rfl c1
 refine aP ?_;refine idxK_nat (i:=0) (by simp) (w0 ?_);refine getRow_of (x:=encCl (0,false)) rfl (aP ?_);refine idxK_nat (i:=1) (by simp) (w0 ?_);refine getRow_of (x:=encCl (1,false)) rfl (aP ?_);refine idxK_nat (i:=0) (by simp) (w0 ?_);refine getRow_of (x:=encTk 2) rfl (aP ?_);refine callH_blk hs2 nm6 rfl ⟨rfl,rfl,rfl,trivial⟩ rfl (aP ?_);refine aloop (ι:=Nat) (fun i=>[(3,.d (.int .i64 j)),(6,.ptr 2000264 0 0),(91,.d (.int .i64 (10*(j:Int)))),(92,.d (.int .i64 i))])
  (fun i=>[(2000264,.box (mCk 2000264 (psN (tM2 j) j i)) false),(2000265,.row ((psN (tM2 j) j i).ws.map encWA) 11 false),(2000266,.row ((psN (tM2 j) j i).ev.map encEvA) 11 false)])
  (fun i=>i<=10*j) (fun i=>10*j-i) 0 (Nat.zero_le _) (le0 (le_of_cov ⟨rfl,rfl,rfl,rfl,trivial⟩ ⟨rfl,rfl,rfl,trivial⟩ ⟨rfl,rfl,rfl,rfl⟩)) ?_
 intro i hi;have hM3:=hM2.psN j i;have hcl:=(psN_clk (tM2 j) j i).1
 have hki:(j:Int)*(i:Int) <=160:=by
  have:j*i<=4*40:=Nat.mul_le_mul (by omega) (by omega)
  have e:(j:Int)*(i:Int)=((j*i:Nat):Int):=by rw [Int.natCast_mul]
  rw [e];omega
 conv=>whnf
 refine bcase_p (fun z3=>?_) (fun z3=>?_)<;>conv=>whnf
 ·refine aP ?_;obtain ⟨M,hM5⟩:∃ M,psN (tM2 j) j i=M:=⟨_,rfl⟩
  have e5:psN (tM2 j) j (i+1)=(stN M j).1:=by rw [psN,hM5]
  rw [hM5] at hM3 hcl⊢;refine aloop (ι:=Nat) (fun u=>[(3,.d (.int .i64 j)),(6,.ptr 2000264 0 0),(91,.d (.int .i64 (10*(j:Int)))),(92,.d (.int .i64 i)),(94,.d (.int .i64 j)),(95,.d (.int .i64 u))])
   (fun u=>[(2000264,.box (mCk 2000264 (stN M u).1) false),(2000265,.row ((stN M u).1.ws.map encWA) 11 false),(2000266,.row ((stN M u).1.ev.map encEvA) 11 false)])
   (fun u=>u<=j) (fun u=>j-u) 0 (Nat.zero_le _) (le0 (le_of_cov ⟨rfl,rfl,rfl,rfl,rfl,rfl,trivial⟩ ⟨rfl,rfl,rfl,trivial⟩ ⟨rfl,rfl,rfl,rfl⟩)) ?_
  intro u hu;have hcs:=(stN_clk M u).1
  conv=>whnf
  refine bcase_p (fun z5=>?_) (fun z5=>?_)<;>conv=>whnf
  ·obtain ⟨t,t0,t1,g⟩:=(hM3.stN u).ex;have hsk:=stepM_ok g t1 hW (by omega) u;refine aP ?_;refine callH_blk hsk nm6 rfl ⟨rfl,rfl,rfl,trivial⟩ rfl (aP ?_);exact ⟨u+1,by omega,by omega,(le0 (le_of_cov ⟨rfl,rfl,rfl,rfl,rfl,rfl,trivial⟩ ⟨rfl,rfl,rfl,trivial⟩ ⟨rfl,rfl,rfl,rfl⟩))⟩
  have huj:u=j:=by omega
  rw [huj,<-e5];refine aP ?_;exact ⟨i+1,by omega,by omega,(le0 (le_of_cov ⟨rfl,rfl,rfl,rfl,trivial⟩ ⟨rfl,rfl,rfl,trivial⟩ ⟨rfl,rfl,rfl,rfl⟩))⟩
 have hi3:i=10*j:=by omega
 subst hi3;have hev2:=hT.ev;have hpg2:=hT.pg;obtain ⟨M,hM5⟩:∃ M,psN (tM2 j) j (10*j)=M:=⟨_,rfl⟩;rw [hM5] at hev2 hpg2 hcl⊢
 have hlen:M.ev.length=j:=by
  have:=congrArg List.length hev2
  rw [List.length_map,List.length_map,List.length_range] at this;exact this
 have hme:(M.ev.map encEvA).length=M.ev.length:=List.length_map ..
 have hpg:=pages_m_ok M hpg2.inv.pj.fm;rw [pages_doc hpg2] at hpg
 have hpn:((bgN (tkP j) 16).map encP).length=j:=by rw [List.length_map,hT.pn]
 refine aP ?_;refine callH_blk (history_ok M (by omega)) nm6 rfl ⟨rfl,rfl,rfl,trivial⟩ rfl (aP ?_);refine aloop (ι:=Nat) (fun i=>[(3,.d (.int .i64 j)),(6,.ptr 2000264 0 0),(12,.d (.lst (M.ev.map encEvA))),(105,.d (.lst (M.ev.map encEvA))),(106,.d (.int .i64 (M.ev.map encEvA).length)),(107,.d (.int .i64 i))])
  (fun i=>[(2000264,.box (mCk 2000264 M) false),(2000265,.row (M.ws.map encWA) 11 false),(2000266,.row (M.ev.map encEvA) 11 false)])
  (fun i=>i<=M.ev.length) (fun i=>M.ev.length-i) 0 (Nat.zero_le _) (le0 (le_of_cov ⟨rfl,rfl,rfl,rfl,rfl,rfl,trivial⟩ ⟨rfl,rfl,rfl,trivial⟩ ⟨rfl,rfl,rfl,rfl⟩)) ?_
 intro i hi
 conv=>whnf
 refine bcase_p (fun z1=>?_) (fun z1=>?_)<;>conv=>whnf
 ·have hi2:i<M.ev.length:=by omega
  have hz:(M.ev[i].who,M.ev[i].res)=(i,((0:Int),newP (i+1))):=by
   have e1:=congrArg (fun l=>l[i]?) hev2;simp only [List.getElem?_map,List.getElem?_eq_getElem hi2,List.getElem?_range (show i<j by omega)] at e1;exact Option.some.inj e1
  obtain ⟨v,hv⟩:∃ v,M.ev[i]=v:=⟨_,rfl⟩;rw [hv] at hz;obtain ⟨a,b,c,d,e,f⟩:=v;have h1:a=i:=(Prod.mk.inj hz).1;have h2:c=(0,newP (i+1)):=(Prod.mk.inj hz).2;rw [h1,h2] at hv
  have hvr:(M.ev.map encEvA)[i]?=some (encEvA ⟨i,b,(0,newP (i+1)),d,e,f⟩):=by rw [List.getElem?_map,List.getElem?_eq_getElem hi2,hv];rfl
  refine idxK_nat (by omega) (w0 ?_);refine getRow_of hvr (aP ?_);refine bcase_t (by simp) (aP ?_);refine bcase_t (by simp) (aP ?_);exact ⟨i+1,by omega,by omega,(le0 (le_of_cov ⟨rfl,rfl,rfl,rfl,rfl,rfl,trivial⟩ ⟨rfl,rfl,rfl,trivial⟩ ⟨rfl,rfl,rfl,rfl⟩))⟩
 have hij:i=M.ev.length:=by omega
 refine aP ?_;refine callH_blk hpg nm6 rfl ⟨rfl,rfl,rfl,trivial⟩ rfl (aP ?_);refine callX_pure awake19_ok (aP ?_)
 first|exact ret_of rfl rfl|exact rfl
end Go.Lk
