/-
  What is proved here: what functions of the program compute, and what follows; no condition beyond each theorem's own.
-/
import Derived.Test.YtaofmndhdmkgkaaGreatFAn
import Derived.Test.YtaofmndhdmkgkaaGreatFAt
import Derived.Test.YtaofmndhdmkgkaaGreatFAu
set_option linter.unusedSimpArgs false
set_option linter.unusedVariables false
set_option linter.unnecessarySimpa false
set_option linter.unusedSectionVars false
namespace Go.Lk
open Go Go.Proofs Go.RowKit
def tickM (m:MS):MS:={m with clk:=m.clk+1}
theorem step_no_ok (m:MS) (k:Int) (hn:¬(0<=k/\k<m.ws.length)):HCall Tryz.prog 34 [.ptr 1000000 0 0,.d (.int .i64 k)] (mH m) (mH m) (.bool false):=by
 have hi:=isWorker_ok m k
 have e:(decide (0<=k)&&decide (k<m.ws.length))=false:=by
  rw [Bool.eq_false_iff];simpa using fun h=>by omega
 rw [e] at hi;refine hcall_of Tryz.func34 2 rfl (by kernel_rfl) (by rfl) (aP ?_);refine callH_blk hi nm3 rfl ⟨rfl,rfl,rfl,trivial⟩ rfl (aP ?_);exact hret_of rfl rfl rfl ⟨rfl,rfl,rfl,trivial⟩
set_option maxRecDepth 20000 in
set_option maxHeartbeats 16000000 in
theorem step0_ok (m m':MS) (k:Nat) (w:WA) (b:Bool) (hk:m.ws[k]?=some w) (hs:w.st=0) (hc0:-1000000<=m.clk) (hc1:m.clk<=1000000)
  (H:HCall Tryz.prog 80 [.ptr 1000000 0 0,.d (.int .i64 k),.ptr 1000001 k 0,.d (.int .i64 m.clk)] (mH (tickM m)) (mH m') (.bool b)):
  HCall Tryz.prog 34 [.ptr 1000000 0 0,.d (.int .i64 k)] (mH m) (mH m') (.bool b):=by
 have hi:=isWorker_ok m k
 have e:(decide (0<= (k:Int))&&decide ((k:Int)<m.ws.length))=true:=by
  have:=(List.getElem?_eq_some_iff.1 hk).1
  simp;omega
 rw [e] at hi;have hg:=ws_get hk;have hlt:=ws_lt hk;refine hcall_of Tryz.func34 2 rfl (by kernel_rfl) (by rfl) (aP ?_);refine callH_blk hi nm3 rfl ⟨rfl,rfl,rfl,trivial⟩ rfl (aP ?_);refine idxK_nat (by omega) (aP ?_);refine getRow_of hg (aP ?_);refine callH_blk H nm3 rfl ⟨by kernel_rfl,rfl,rfl,trivial⟩ rfl (aP ?_);exact hret_of rfl rfl rfl ⟨rfl,rfl,rfl,trivial⟩
set_option maxRecDepth 20000 in
set_option maxHeartbeats 16000000 in
theorem step1_ok (m m':MS) (k:Nat) (w:WA) (b:Bool) (hk:m.ws[k]?=some w) (hs:w.st=1) (hc0:-1000000<=m.clk) (hc1:m.clk<=1000000)
  (H:HCall Tryz.prog 81 [.ptr 1000000 0 0,.d (.int .i64 k),.ptr 1000001 k 0,.d (.int .i64 m.clk)] (mH (tickM m)) (mH m') (.bool b)):
  HCall Tryz.prog 34 [.ptr 1000000 0 0,.d (.int .i64 k)] (mH m) (mH m') (.bool b):=by
 have hi:=isWorker_ok m k
 have e:(decide (0<= (k:Int))&&decide ((k:Int)<m.ws.length))=true:=by
  have:=(List.getElem?_eq_some_iff.1 hk).1
  simp;omega
 rw [e] at hi;have hg:=ws_get hk;have hlt:=ws_lt hk;refine hcall_of Tryz.func34 2 rfl (by kernel_rfl) (by rfl) (aP ?_);refine callH_blk hi nm3 rfl ⟨rfl,rfl,rfl,trivial⟩ rfl (aP ?_);refine idxK_nat (by omega) (aP ?_);refine getRow_of hg (aP ?_);refine callH_blk H nm3 rfl ⟨by kernel_rfl,rfl,rfl,trivial⟩ rfl (aP ?_);exact hret_of rfl rfl rfl ⟨rfl,rfl,rfl,trivial⟩
set_option maxRecDepth 20000 in
set_option maxHeartbeats 16000000 in
theorem step2_ok (m m':MS) (k:Nat) (w:WA) (b:Bool) (hk:m.ws[k]?=some w) (hs:w.st=2) (hc0:-1000000<=m.clk) (hc1:m.clk<=1000000)
  (H:HCall Tryz.prog 82 [.ptr 1000000 0 0,.d (.int .i64 k),.ptr 1000001 k 0] (mH (tickM m)) (mH m') (.bool b)):
  HCall Tryz.prog 34 [.ptr 1000000 0 0,.d (.int .i64 k)] (mH m) (mH m') (.bool b):=by
 have hi:=isWorker_ok m k
 have e:(decide (0<= (k:Int))&&decide ((k:Int)<m.ws.length))=true:=by
  have:=(List.getElem?_eq_some_iff.1 hk).1
  simp;omega
 rw [e] at hi;have hg:=ws_get hk;have hlt:=ws_lt hk;refine hcall_of Tryz.func34 2 rfl (by kernel_rfl) (by rfl) (aP ?_);refine callH_blk hi nm3 rfl ⟨rfl,rfl,rfl,trivial⟩ rfl (aP ?_);refine idxK_nat (by omega) (aP ?_);refine getRow_of hg (aP ?_);refine callH_blk H nm3 rfl ⟨by kernel_rfl,rfl,rfl,trivial⟩ rfl (aP ?_);exact hret_of rfl rfl rfl ⟨rfl,rfl,rfl,trivial⟩
set_option maxRecDepth 20000 in
set_option maxHeartbeats 16000000 in
theorem step3_ok (m m':MS) (k:Nat) (w:WA) (b:Bool) (hk:m.ws[k]?=some w) (hs:w.st=3) (hc0:-1000000<=m.clk) (hc1:m.clk<=1000000)
  (H:HCall Tryz.prog 83 [.ptr 1000000 0 0,.d (.int .i64 k),.ptr 1000001 k 0] (mH (tickM m)) (mH m') (.bool b)):
  HCall Tryz.prog 34 [.ptr 1000000 0 0,.d (.int .i64 k)] (mH m) (mH m') (.bool b):=by
 have hi:=isWorker_ok m k
 have e:(decide (0<= (k:Int))&&decide ((k:Int)<m.ws.length))=true:=by
  have:=(List.getElem?_eq_some_iff.1 hk).1
  simp;omega
 rw [e] at hi;have hg:=ws_get hk;have hlt:=ws_lt hk;refine hcall_of Tryz.func34 2 rfl (by kernel_rfl) (by rfl) (aP ?_);refine callH_blk hi nm3 rfl ⟨rfl,rfl,rfl,trivial⟩ rfl (aP ?_);refine idxK_nat (by omega) (aP ?_);refine getRow_of hg (aP ?_);refine callH_blk H nm3 rfl ⟨by kernel_rfl,rfl,rfl,trivial⟩ rfl (aP ?_);exact hret_of rfl rfl rfl ⟨rfl,rfl,rfl,trivial⟩
set_option maxRecDepth 20000 in
set_option maxHeartbeats 16000000 in
theorem step5_ok (m m':MS) (k:Nat) (w:WA) (hk:m.ws[k]?=some w) (hs:w.st=5) (hc0:-1000000<=m.clk) (hc1:m.clk<=1000000)
  (H:HCall Tryz.prog 84 [.ptr 1000000 0 0,.ptr 1000001 k 0,.d (.int .i64 m.clk)] (mH (tickM m)) (mH m') (.tup [])):
  HCall Tryz.prog 34 [.ptr 1000000 0 0,.d (.int .i64 k)] (mH m) (mH m') (.bool true):=by
 have hi:=isWorker_ok m k
 have e:(decide (0<= (k:Int))&&decide ((k:Int)<m.ws.length))=true:=by
  have:=(List.getElem?_eq_some_iff.1 hk).1
  simp;omega
 rw [e] at hi;have hg:=ws_get hk;have hlt:=ws_lt hk;refine hcall_of Tryz.func34 2 rfl (by kernel_rfl) (by rfl) (aP ?_);refine callH_blk hi nm3 rfl ⟨rfl,rfl,rfl,trivial⟩ rfl (aP ?_);refine idxK_nat (by omega) (aP ?_);refine getRow_of hg (aP ?_);refine callH_blk H nm3 rfl ⟨by kernel_rfl,rfl,rfl,trivial⟩ rfl (aP ?_);exact hret_of rfl rfl rfl ⟨rfl,rfl,rfl,trivial⟩
set_option maxRecDepth 20000 in
set_option maxHeartbeats 16000000 in
theorem step6_ok (m m':MS) (k:Nat) (w:WA) (hk:m.ws[k]?=some w) (hs:w.st=6) (hc0:-1000000<=m.clk) (hc1:m.clk<=1000000)
  (H:HCall Tryz.prog 85 [.ptr 1000000 0 0,.d (.int .i64 k),.ptr 1000001 k 0,.d (.int .i64 m.clk)] (mH (tickM m)) (mH m') (.tup [])):
  HCall Tryz.prog 34 [.ptr 1000000 0 0,.d (.int .i64 k)] (mH m) (mH m') (.bool true):=by
 have hi:=isWorker_ok m k
 have e:(decide (0<= (k:Int))&&decide ((k:Int)<m.ws.length))=true:=by
  have:=(List.getElem?_eq_some_iff.1 hk).1
  simp;omega
 rw [e] at hi;have hg:=ws_get hk;have hlt:=ws_lt hk;refine hcall_of Tryz.func34 2 rfl (by kernel_rfl) (by rfl) (aP ?_);refine callH_blk hi nm3 rfl ⟨rfl,rfl,rfl,trivial⟩ rfl (aP ?_);refine idxK_nat (by omega) (aP ?_);refine getRow_of hg (aP ?_);refine callH_blk H nm3 rfl ⟨by kernel_rfl,rfl,rfl,trivial⟩ rfl (aP ?_);exact hret_of rfl rfl rfl ⟨rfl,rfl,rfl,trivial⟩
set_option maxRecDepth 20000 in
set_option maxHeartbeats 16000000 in
theorem step4_ok (m:MS) (k:Nat) (w:WA) (hk:m.ws[k]?=some w) (hs:w.st=4) (hc0:-1000000<=m.clk) (hc1:m.clk<=1000000):
  HCall Tryz.prog 34 [.ptr 1000000 0 0,.d (.int .i64 k)] (mH m) (mH (tickM m)) (.bool false):=by
 have hi:=isWorker_ok m k
 have e:(decide (0<= (k:Int))&&decide ((k:Int)<m.ws.length))=true:=by
  have:=(List.getElem?_eq_some_iff.1 hk).1
  simp;omega
 rw [e] at hi;have hg:=ws_get hk;have hlt:=ws_lt hk;refine hcall_of Tryz.func34 2 rfl (by kernel_rfl) (by rfl) (aP ?_);refine callH_blk hi nm3 rfl ⟨rfl,rfl,rfl,trivial⟩ rfl (aP ?_);refine idxK_nat (by omega) (aP ?_);refine getRow_of hg (aP ?_);exact hret_of rfl rfl rfl ⟨by kernel_rfl,rfl,rfl,trivial⟩
set_option maxRecDepth 20000 in
set_option maxHeartbeats 16000000 in
theorem pumpM_ok (m:MS) (o:SU m.s) (hU:Us m.p.d):HCall Tryz.prog 36 [.ptr 1000000 0 0] (mH m) (mH (pumpM m)) (.tup []):=by
 have hp:=pump_ok m.s m.p.d o hU;refine hcall_of Tryz.func36 1 rfl (by kernel_rfl) (by rfl) (aP ?_);refine callX_pure hp (aP ?_);exact hret_of rfl rfl rfl ⟨by kernel_rfl,rfl,rfl,trivial⟩
set_option maxRecDepth 20000 in
set_option maxHeartbeats 16000000 in
theorem ageM_ok (m:MS) (age t:Int) (g:Gd t m.p) (ht:t<=2147483647) (ht0:0<=t):HCall Tryz.prog 20 [.ptr 1000000 0 0,.d (.int .i64 age)] (mH m) (mH (ageM m age)) (.tup []):=by
 have h1:=tick_ok m.p 1 (by rw [g.now];exact ht0) (by rw [g.now];exact ht)
 have hF:FM (tickP m.p 1).f:=by
  rw [tickP];repeat' split
  all_goals exact g.fm
 have hn:(tickP m.p 1).now<=2147483647:=by
  have:=g.now
  rw [tickP];repeat' split
  all_goals (try dsimp only)
  all_goals omega
 have h2:=poolDo_ok (tickP m.p 1) (8,age,ByteArray.empty) hF hn;refine hcall_of Tryz.func20 2 rfl (by kernel_rfl) (by rfl) (aP ?_);refine callX_pure h1 (aP ?_);refine callX_pure h2 (aP ?_);exact hret_of rfl rfl rfl ⟨by kernel_rfl,rfl,rfl,trivial⟩
theorem state_ok (m:MS) (k:Int):HCall Tryz.prog 35 [.ptr 1000000 0 0,.d (.int .i64 k)] (mH m) (mH m) (.int .i64 (if 0<=k then (match m.ws[k.toNat]? with|some w=>(w.st:Int)|none=>0) else 0)):=by
 have hi:=isWorker_ok m k
 have hm:(m.ws.map encWA).length=m.ws.length:=List.length_map ..
 refine hcall_of Tryz.func35 2 rfl (by kernel_rfl) (by rfl) ?_
 by_cases h:0<=k/\k<m.ws.length
 ·rw [show (decide (0<=k)&&decide (k<m.ws.length))=true by simpa using h] at hi
  have hk:k.toNat<m.ws.length:=by omega
  rw [if_pos h.1,List.getElem?_eq_getElem hk]
  conv=>whnf
  refine aP ?_;refine callH_blk hi nm3 rfl ⟨rfl,rfl,rfl,trivial⟩ rfl (aP ?_);refine idxK_int h.1 (by omega) (aP ?_);refine getRow_of (ws_get (List.getElem?_eq_getElem hk)) (aP ?_);exact hret_of rfl rfl rfl ⟨rfl,rfl,rfl,trivial⟩
 ·rw [show (decide (0<=k)&&decide (k<m.ws.length))=false by rw [Bool.eq_false_iff];simpa using fun g=>by omega] at hi
  have e:(if 0<=k then (match m.ws[k.toNat]? with|some w=>(w.st:Int)|none=>0) else 0)=0:=by
   split
   ·rw [List.getElem?_eq_none (by omega)]
   ·rfl
  rw [e]
  conv=>whnf
  refine aP ?_;refine callH_blk hi nm3 rfl ⟨rfl,rfl,rfl,trivial⟩ rfl (aP ?_);exact hret_of rfl rfl rfl ⟨rfl,rfl,rfl,trivial⟩
theorem flight_ok (m:MS):HCall Tryz.prog 43 [.ptr 1000000 0 0] (mH m) (mH m) (.int .i64 m.s.out.length):=by
 refine hcall_of Tryz.func43 1 rfl (by kernel_rfl) (by rfl) (aP ?_);exact hret_of rfl (by rw [List.length_map];rfl) rfl ⟨rfl,rfl,rfl,trivial⟩
theorem clock_ok (m:MS):HCall Tryz.prog 47 [.ptr 1000000 0 0] (mH m) (mH m) (.int .i64 m.clk):=by
 refine hcall_of Tryz.func47 1 rfl (by kernel_rfl) (by rfl) (aP ?_);exact hret_of rfl rfl rfl ⟨rfl,rfl,rfl,trivial⟩
theorem cloneEv_ok {l:List (List D)} (hok:okRows 11 l=true) (hl:l.length<=1000000):HCall Tryz.prog 75 [.own 1000000] [(1000000,.row l 11 false)] [(1000000,.row l 11 false)] (.lst l):=by
 refine hcall_of Tryz.func75 1 rfl (by kernel_rfl) (by rfl) (w0 ?_);refine nilK_of (w0 ?_);intro r hr
 conv=>whnf
 refine bcase_intro (fun h=>?_) (fun h=>?_)<;>conv=>whnf
 ·have:=hr h;subst this;refine aP ?_;exact hret_of rfl rfl rfl ⟨rfl,trivial⟩
 ·refine aP ?_;refine condK_of hok (w0 ?_);refine roomK_le 1000100 1000 (by show 0+List.length _<=1000100;omega) (by decide) (by decide) (by decide) (aP ?_);exact hret_of rfl rfl rfl ⟨rfl,trivial⟩
theorem history_ok (m:MS) (hl:m.ev.length<=1000000):HCall Tryz.prog 31 [.ptr 1000000 0 0] (mH m) (mH m) (.lst (m.ev.map encEvA)):=by
 have hc:=cloneEv_ok (encEvA_ok m.ev) (by rw [List.length_map];exact hl);refine hcall_of Tryz.func31 1 rfl (by kernel_rfl) (by rfl) (aP ?_);refine callX_blk hc [(1000000,1000004)] rfl ⟨rfl,trivial⟩ rfl (aP ?_);exact hret_of rfl rfl rfl ⟨rfl,rfl,rfl,trivial⟩
theorem left_m_ok (m:MS) (k:Int) (hb:∀ w∈m.ws,w.ended<=1000000/\w.todo.length<=1000000):HCall Tryz.prog 38 [.ptr 1000000 0 0,.d (.int .i64 k)] (mH m) (mH m) (.int .i64 (if 0<=k then (match m.ws[k.toNat]? with|some w=>((w.todo.length:Int)-w.ended)|none=>0) else 0)):=by
 have hi:=isWorker_ok m k
 have hm:(m.ws.map encWA).length=m.ws.length:=List.length_map ..
 refine hcall_of Tryz.func38 2 rfl (by kernel_rfl) (by rfl) ?_
 by_cases h:0<=k/\k<m.ws.length
 ·rw [show (decide (0<=k)&&decide (k<m.ws.length))=true by simpa using h] at hi
  have hk:k.toNat<m.ws.length:=by omega
  rw [if_pos h.1,List.getElem?_eq_getElem hk];have hb1:=hb _ (List.getElem_mem hk)
  have hmt:(m.ws[k.toNat].todo.map encMO).length=m.ws[k.toNat].todo.length:=List.length_map ..
  have hg:=ws_get (List.getElem?_eq_getElem hk)
  conv=>whnf
  refine aP ?_;refine callH_blk hi nm3 rfl ⟨rfl,rfl,rfl,trivial⟩ rfl (aP ?_);refine idxK_int h.1 (by omega) (aP ?_);refine getRow_of hg (aP ?_);refine idxK_int h.1 (by omega) (aP ?_);refine getRow_of hg (aP ?_);exact hret_of rfl (by rw [hmt];rfl) rfl ⟨rfl,rfl,rfl,trivial⟩
 ·rw [show (decide (0<=k)&&decide (k<m.ws.length))=false by rw [Bool.eq_false_iff];simpa using fun g=>by omega] at hi
  have e:(if 0<=k then (match m.ws[k.toNat]? with|some w=>((w.todo.length:Int)-w.ended)|none=>0) else 0)=0:=by
   split
   ·rw [List.getElem?_eq_none (by omega)]
   ·rfl
  rw [e]
  conv=>whnf
  refine aP ?_;refine callH_blk hi nm3 rfl ⟨rfl,rfl,rfl,trivial⟩ rfl (aP ?_);exact hret_of rfl rfl rfl ⟨rfl,rfl,rfl,trivial⟩
theorem fin_no_ok (m:MS) (i:Int) (b:Bool) (h:i<0\/ (m.s.out.length:Int) <=i):HCall Tryz.prog 37 [.ptr 1000000 0 0,.d (.int .i64 i),.d (.bool b)] (mH m) (mH m) (.bool false):=by
 have hf:=flight_ok m;refine hcall_of Tryz.func37 3 rfl (by kernel_rfl) (by rfl) (w0 ?_)
 refine bcase_p (fun h1=>?_) (fun h1=>?_)<;>conv=>whnf
 ·refine aP ?_;exact hret_of rfl rfl rfl ⟨rfl,rfl,rfl,trivial⟩
 ·refine aP ?_;refine callH_blk hf nm3 rfl ⟨rfl,rfl,rfl,trivial⟩ rfl (aP ?_);exact hret_of rfl rfl rfl ⟨rfl,rfl,rfl,trivial⟩
set_option maxRecDepth 20000 in
set_option maxHeartbeats 16000000 in
theorem fin_again_ok (m:MS) (i:Nat) (o:SOk m.s) (hU:Us m.p.d) (hi:i<m.s.out.length) (h3:(m.s.out[i]).tr<3) (hn:m.s.next<2147483647):
  HCall Tryz.prog 37 [.ptr 1000000 0 0,.d (.int .i64 i),.d (.bool true)] (mH m) (mH {m with s:=againSA m.s i m.s.out[i]}) (.bool true):=by
 have hd:=doneAgain_ok m.s m.p.d o hU i hi h3 hn;have hf:=flight_ok m;refine hcall_of Tryz.func37 3 rfl (by kernel_rfl) (by rfl) (aP ?_);refine callH_blk hf nm3 rfl ⟨rfl,rfl,rfl,trivial⟩ rfl (aP ?_);refine callX_pure hd (aP ?_);exact hret_of rfl rfl rfl ⟨by kernel_rfl,rfl,rfl,trivial⟩
set_option maxRecDepth 20000 in
set_option maxHeartbeats 16000000 in
theorem fin_told_ok (m:MS) (i:Nat) (b:Bool) (o:SOk m.s) (hU:Us m.p.d) (hi:i<m.s.out.length) (h3:¬(b=true/\ (m.s.out[i]).tr<3/\m.s.next<2147483647)) (w:WA) (hk:m.ws[(m.s.out[i]).who]?=some w) (hs:w.st=4) (hc0:0<=m.clk) (hc1:m.clk<=1000000):
  HCall Tryz.prog 37 [.ptr 1000000 0 0,.d (.int .i64 i),.d (.bool b)] (mH m) (mH {m with s:=dropSA m.s i,ws:=m.ws.set (m.s.out[i]).who (toldW m w b)}) (.bool true):=by
 have hd:=doneTold_ok m.s m.p.d o hU i hi b h3;have hg:=ws_get hk;have hlt:=ws_lt hk;have hiw:=isWorker_ok {m with s:=dropSA m.s i} (m.s.out[i]).who
 rw [show (decide (0<= ((m.s.out[i]).who:Int))&&decide (((m.s.out[i]).who:Int)<({m with s:=dropSA m.s i}:MS).ws.length))=true by
  have:=(List.getElem?_eq_some_iff.1 hk).1
  simp;omega] at hiw
 have hcx:({m with s:=dropSA m.s i}:MS).clk=m.clk:=rfl
 cases b with
 |false=>
  have hf:=flight_ok m;refine hcall_of Tryz.func37 3 rfl (by kernel_rfl) (by rfl) (aP ?_);refine callH_blk hf nm3 rfl ⟨rfl,rfl,rfl,trivial⟩ rfl (aP ?_);refine callX_pure hd (aP ?_);refine callH_blk hiw nm3 rfl ⟨by kernel_rfl,rfl,rfl,trivial⟩ rfl (aP ?_);refine idxK_nat (by omega) (aP ?_);refine getRow_of hg (aP ?_);refine bcase_t (by rfl) (aP ?_);refine getRow_of hg (aP ?_);exact hret_of rfl rfl rfl ⟨by kernel_rfl,rowE (ws_set (toldW m w false)),rfl,trivial⟩
 |true=>
  have hf:=flight_ok m;refine hcall_of Tryz.func37 3 rfl (by kernel_rfl) (by rfl) (aP ?_);refine callH_blk hf nm3 rfl ⟨rfl,rfl,rfl,trivial⟩ rfl (aP ?_);refine callX_pure hd (aP ?_);refine callH_blk hiw nm3 rfl ⟨by kernel_rfl,rfl,rfl,trivial⟩ rfl (aP ?_);refine idxK_nat (by omega) (aP ?_);refine getRow_of hg (aP ?_);refine bcase_f (by rfl) (aP ?_);refine callH_blk (tell_ok m.ws (m.s.out[i]).who w hk (8,zP) (m.clk-1)) [(1000001,1000001)] rfl ⟨rfl,trivial⟩ rfl (aP ?_);exact hret_of rfl rfl rfl ⟨by kernel_rfl,rfl,rfl,trivial⟩
theorem nd_len:∀ (n:Nat) (l:List Nat),l.Nodup->(∀ x∈l,x<n)->l.length<=n
 |0,[],_,_=>Nat.le_refl _
 |0,x::_,_,h=>absurd (h x (.head _)) (Nat.not_lt_zero _)
 |n+1,l,hd,h=>by
  by_cases hm:n∈l
  ·have e:=List.length_erase_of_mem hm
   have:=nd_len n (l.erase n) (hd.erase n) fun x hx=>by
    have h1:=(hd.mem_erase_iff).1 hx;have:=h x h1.2;have:=h1.1;omega
   have hp:=List.length_pos_of_mem hm;omega
  ·have:=nd_len n l hd fun x hx=>by
    have:=h x hx
    have:x≠n:=fun e=>hm (e▸hx)
    omega
   omega
theorem nd_len3 {l:List Nat} {k:Nat} (hd:l.Nodup) (h:∀ x∈l,x<4) (hk:k<4) (hn:k∉l):l.length<=3:=by
 have:=nd_len 4 (k::l) (List.nodup_cons.2 ⟨hn,hd⟩) fun x hx=>by
  cases hx with
  |head=>exact hk
  |tail _ hx=>exact h x hx
 simpa using this
theorem LSh.lok {x:Nat->Bool} {n:Nat} {l:LA} (h:LSh x n l) (h4:n<=4):LOk l:=by
 have hl:=nd_len 4 _ h.li.nd fun w hw=>by have:=h.lt w hw;omega
 exact ⟨by simpa using hl,fun w hw=>by have:=h.lt w hw;omega,h.li.up,h.li.nd,h.li.one,h.shut⟩
theorem act_gd {t:Int} (o:MOp):∀ (ks:List Int) (p:PS) (r:MRes),Gd t p->Gd t (actG o ks p r).1/\ (actG o ks p r).1.f.fr.length=p.f.fr.length
 | [],p,r,h=>⟨h,rfl⟩
 |k::ks,p,r,h=>by
  rw [actG]
  split
  ·exact ⟨h.do _,do_len h _⟩
  ·have ih:=act_gd o ks _ (r.1,(poolDo p (k,o.2.1,o.2.2)).2.1) (h.do (k,o.2.1,o.2.2));exact ⟨ih.1,ih.2.trans (do_len h _)⟩
theorem work_gd {t:Int} {p:PS} (h:Gd t p) (o:MOp):Gd t (workP p o).1/\ (workP p o).1.f.fr.length=p.f.fr.length:=by
 obtain ⟨h1,h2⟩:=act_gd o (actsK o.1) p (0,zP) h;rw [workP,backP]
 split
 ·exact ⟨h1.do _,(do_len h1 _).trans h2⟩
 ·exact ⟨h1,h2⟩
structure MG (work:List (List MOp)) (t:Int) (m:MS):Prop where
 ok:MOk m
 gd:Gd t m.p
 td:m.ws.map (·.todo)=work
 ev:(m.ev.length:Int) <=m.clk
theorem MG.c0 {work t m} (g:MG work t m):0<=m.clk:=by have:=g.ev;omega
theorem MG.lat {work t m} (g:MG work t m) {i:Nat} (hi:i<17):∃ l,m.lat[i]?=some l/\lg m.lat i=l/\LSh (xk m.ws) m.ws.length l:=by
 have hl:=g.ok.ll;refine ⟨m.lat[i]'(by omega),List.getElem?_eq_getElem (by omega),?_,g.ok.li i _ (List.getElem?_eq_getElem (by omega))⟩
 rw [lg,List.getElem?_eq_getElem (by omega)];rfl
theorem set_td {ws:List WA} {k:Nat} {w w':WA} (hk:ws[k]?=some w) (e:w'.todo=w.todo):(ws.set k w').map (·.todo)=ws.map (·.todo):=by
 obtain ⟨hlt,rfl⟩:=List.getElem?_eq_some_iff.1 hk;rw [List.map_set,e]
 have h2:k<(ws.map (·.todo)).length:=by rw [List.length_map];exact hlt
 have:ws[k].todo=(ws.map (·.todo))[k]:=by simp
 rw [this];exact List.set_getElem_self h2
theorem MG.step {work t m} (g:MG work t m) (k:Int):MG work t (stepM m k).1:=by
 rw [stepM]
 split
 ·exact g
 split
 ·exact g
 ·rename_i w hk;have hwk:=work_gd g.gd w.op;have ok:=(g.ok.clk (m.clk+1)).stepW (m:={m with clk:=m.clk+1}) hk m.clk hwk.2;have hev:=g.ev;refine ⟨ok,?_,?_,?_⟩
  ·unfold stepW;repeat' split
   all_goals first|exact g.gd|exact hwk.1
  ·rw [<-g.td]
   unfold stepW;repeat' split
   all_goals first|rfl|exact set_td hk rfl
  ·unfold stepW;repeat' split
   all_goals first|(show (m.ev.length:Int) <=m.clk+1;omega)|(show (((m.ev++[_]).length:Nat):Int) <=m.clk+1;rw [List.length_append,List.length_singleton];omega)
theorem latM_lg (m:MS) (k:Int):latM m k=lg m.lat k.toNat:=rfl
set_option maxHeartbeats 4000000 in
theorem stepM_ok {work t m} (g:MG work t m) (ht:t<=2147483647) (hw:∀ l∈work,l.length<=1000) (hc:m.clk<=100000) (k:Int):
  HCall Tryz.prog 34 [.ptr 1000000 0 0,.d (.int .i64 k)] (mH m) (mH (stepM m k).1) (.bool (stepM m k).2):=by
 have o:=g.ok;have hn4:=o.n4
 by_cases hk0:k<0
 ·rw [stepM,if_pos hk0];exact step_no_ok m k (by omega)
 cases hk:m.ws[k.toNat]? with
 |none=>
  rw [stepM,if_neg hk0,hk];have:=List.getElem?_eq_none_iff.1 hk;exact step_no_ok m k (by omega)
 |some w=>
  obtain ⟨i,rfl⟩:∃ i:Nat,k=(i:Int):=⟨k.toNat,by omega⟩;rw [Int.toNat_natCast] at hk;have v:=o.w i w hk;have hlt:=(List.getElem?_eq_some_iff.1 hk).1
  have hi4:i<4:=by omega
  have hc0:-1000000<=m.clk:=by have:=g.c0;omega
  have hc1:m.clk<=1000000:=by omega
  have hcl:m.h.cl.length<=1000:=by have:=o.hall.len;omega
  have e:stepM m i=stepW (tickM m) i w m.clk:=by rw [stepM,if_neg hk0,Int.toNat_natCast,hk];rfl
  have hwt:w.todo.length<=1000:=hw _ (by rw [<-g.td];exact List.mem_map_of_mem (List.mem_of_getElem? hk))
  have hev:m.ev.length<=100000:=by have:=g.ev;omega
  have hk':(tickM m).ws[i]?=some w:=hk;rw [e];have h6:=v.st6
  have hst:w.st=0\/w.st=1\/w.st=2\/w.st=3\/w.st=4\/w.st=5\/w.st=6:=by omega
  rcases hst with hs|hs|hs|hs|hs|hs|hs
  ·simp only [stepW,hs]
   split
   ·rename_i hd;exact step0_ok m _ i w false hk hs hc0 hc1 (begin_end_ok (tickM m) i w m.clk hk' hd)
   ·rename_i hd
    have hn:i∉m.h.all:=fun h=>(v.hal.1 h) hs
    have h3:=nd_len3 o.hall.nd o.hall.lt hi4 hn;exact step0_ok m _ i w true hk hs hc0 hc1 (begin_go_ok (tickM m) i w m.clk hk' hd o.hall hi4 hn (by have h3:m.h.cl.length+m.h.q.length<=3:=(by simpa using h3);exact h3))
  ·have hb:=v.bu (by omega);simp only [stepW,hs]
   split
   ·rename_i hcc;exact step1_ok m _ i w false hk hs hc0 hc1 (ask_no_ok (tickM m) i w m.clk hcl hcc)
   rename_i hcc
   replace hcc:isCl m.h i=true:=by simpa [tickM] using hcc
   split
   ·rename_i hr;exact step1_ok m _ i w true hk hs hc0 hc1 (ask_ref_ok (tickM m) i w m.clk hk' hb hcl hcc hr)
   ·rename_i hr
    replace hr:refB w.op=false:=by simpa using hr
    obtain ⟨r1,r2,r3,r4⟩:=refB_ff hr;obtain ⟨l,hl,el,sh⟩:=g.lat (i:=w.op.2.1.toNat) (by omega)
    have ol:LOk (latM m w.op.2.1):=by rw [latM_lg,el];exact sh.lok hn4
    have hna:i∉l.all:=fun h=>by
     have:=((v.lt w.op.2.1.toNat l hl).1 h).1
     rw [v.nask (by omega)] at this;cases this
    have hn:i∉(latM m w.op.2.1).hs++(latM m w.op.2.1).q.map (·.1):=by rw [latM_lg,el];exact hna
    have h3:=nd_len3 ol.nd ol.lt hi4 hn;exact step1_ok m _ i w true hk hs hc0 hc1 (ask_go_ok (tickM m) i w m.clk hk' hb hcl hcc hr o.ll hi4 ol hn (by have h3:(latM m w.op.2.1).hs.length+(latM m w.op.2.1).q.length<=3:=(by simpa using h3);exact h3))
  ·have hb:=v.bu (by omega);obtain ⟨r1,r2,r3,r4⟩:=refB_ff (v.val (v.ask (by omega) (by omega)));obtain ⟨l,hl,el,sh⟩:=g.lat (i:=w.op.2.1.toNat) (by omega)
   have ol:LOk (lg m.lat w.op.2.1.toNat):=by rw [el];exact sh.lok hn4
   simp only [stepW,hs]
   split
   ·rename_i hh;exact step2_ok m _ i w false hk hs hc0 hc1 (enter_no_ok (tickM m) i w hk' hb (by omega) (by omega) ol hh)
   ·rename_i hh;exact step2_ok m _ i w true hk hs hc0 hc1 (enter_go_ok (tickM m) i w hk' hb (by omega) (by omega) ol (by simpa [latM_lg] using hh))
  ·have hb:=v.bu (by omega);have ha:=v.ask (by omega) (by omega);obtain ⟨r1,r2,r3,r4⟩:=refB_ff (v.val ha);have hcc:=v.cl (by omega)
   have hh:heldW m.h i=false:=by rw [v.held];exact v.npin (by omega)
   simp only [stepW,hs]
   split
   ·rename_i hf;exact step3_ok m _ i w false hk hs hc0 hc1 (pin_no_ok (tickM m) i w hk' hb o.hall hcc hh g.gd.fm (by rw [pinR,if_pos hf]))
   rename_i hf;replace hf:¬m.h.n<=heldN m.h.cl:=hf
   have hpr:pinR m.h i=(pinH m.h i,0):=by rw [pinR,if_neg hf]
   split
   ·rename_i h4
    have hkj:i<m.s.jobs.length:=by rw [o.sj];exact hlt
    have hjn:m.s.jobs[i]=none:=by
     cases q:m.s.jobs[i] with
     |none=>rfl
     |some p=>
      have:=(v.job p).1 (.inl (by rw [List.getElem?_eq_getElem hkj,q]));omega
    exact step3_ok m _ i w true hk hs hc0 hc1 (pin4_ok (tickM m) i w hk' hb o.hall hcc hh g.gd.fm hpr h4.1 h4.2 o.su.toSOk g.gd.us hkj hjn r3 r4)
   ·rename_i h5;exact step3_ok m _ i w true hk hs hc0 hc1 (pin5_ok (tickM m) i w hk' hb o.hall hcc hh g.gd.fm hpr h5)
  ·simp only [stepW,hs];exact step4_ok m i w hk hs hc0 hc1
  ·have hb:=v.bu (by omega);have ha:=v.ask (by omega) (by omega);simp only [stepW,hs];exact step5_ok m _ i w hk hs hc0 hc1 (work_ok (tickM m) i w m.clk t hk' hb g.gd ht (v.val ha))
  ·have hb:=v.bu (by omega);have hcc:=v.cl (by omega);simp only [stepW,hs];refine step6_ok m (leaveM (tickM m) i w m.clk) i w hk hs hc0 hc1 ?_
   cases ha:w.asked with
   |false=>
    cases hp:w.pinned with
    |false=>exact leave_nn_ok (tickM m) i w m.clk hk' hb hwt hev o.hall hi4 hcc hp ha
    |true=>exact leave_pn_ok (tickM m) i w m.clk hk' hb hwt hev o.hall hi4 hcc hp ha (v.held.trans hp)
   |true=>
    obtain ⟨r1,r2,r3,r4⟩:=refB_ff (v.val ha);obtain ⟨l,hl,el,sh⟩:=g.lat (i:=w.op.2.1.toNat) (by omega)
    have ol:LOk (lg m.lat w.op.2.1.toNat):=by rw [el];exact sh.lok hn4
    have hhs:i∈(lg m.lat w.op.2.1.toNat).hs:=by rw [el];exact v.hold ha (by omega) l hl
    cases hp:w.pinned with
    |false=>exact leave_na_ok (tickM m) i w m.clk hk' hb hwt hev o.hall hi4 hcc hp ha o.ll (by omega) (by omega) ol hhs
    |true=>exact leave_pa_ok (tickM m) i w m.clk hk' hb hwt hev o.hall hi4 hcc hp ha (v.held.trans hp) o.ll (by omega) (by omega) ol hhs
theorem finM_ok {work t m} (g:MG work t m) (hc:m.clk<=100000) (i:Int) (b:Bool):
  HCall Tryz.prog 37 [.ptr 1000000 0 0,.d (.int .i64 i),.d (.bool b)] (mH m) (mH (finM m i b).1) (.bool (finM m i b).2):=by
 have o:=g.ok
 by_cases hn:i<0\/ (m.s.out.length:Int) <=i
 ·rw [finM,if_pos hn];exact fin_no_ok m i b hn
 obtain ⟨n,rfl⟩:∃ n:Nat,i=(n:Int):=⟨i.toNat,by omega⟩
 have hi:n<m.s.out.length:=by omega
 rw [finM,if_neg hn,Int.toNat_natCast,doneS,List.getElem?_eq_getElem hi];simp only [];have hlt:=o.su.lt m.s.out[n] (List.getElem_mem hi)
 by_cases h3:b=true/\ (m.s.out[n]).tr<3/\m.s.next<2147483647
 ·rw [if_pos h3];obtain ⟨rfl,h4,h5⟩:=h3;exact fin_again_ok m n o.su.toSOk g.gd.us hi h4 h5
 ·rw [if_neg h3];simp only []
  have hwl:(m.s.out[n]).who<m.ws.length:=by rw [<-o.sj];exact hlt.2.1
  have hk:m.ws[(m.s.out[n]).who]?=some m.ws[(m.s.out[n]).who]:=List.getElem?_eq_getElem hwl;have hs:(m.ws[(m.s.out[n]).who]).st=4:=((o.w _ _ hk).job (m.s.out[n]).pg).1 (.inr ⟨m.s.out[n],List.getElem_mem hi,rfl,rfl⟩) |>.1;rw [hk];simp only [];rw [if_neg (fun z=>z hs)];exact fin_told_ok m n b o.su.toSOk g.gd.us hi h3 _ hk hs g.c0 (by omega)
theorem MG.fin {work t m} (g:MG work t m) (i:Int) (b:Bool):MG work t (finM m i b).1:=by
 refine ⟨g.ok.fin i b,?_,?_,?_⟩
 ·rw [finM];repeat' split
  all_goals exact g.gd
 ·rw [<-g.td,finM];repeat' split
  all_goals first|rfl|(rename_i hk _;exact set_td hk (by rw [toldW];split<;>rfl))
 ·rw [finM];repeat' split
  all_goals exact g.ev
theorem MG.pump {work t m} (g:MG work t m):MG work t (pumpM m):=⟨g.ok.pump,g.gd,g.td,g.ev⟩
def tickT (t:Int):Int:=if 2147483647-t<1 then 2147483647 else t+1
theorem tick_gd {t:Int} {p:PS} (h:Gd t p):Gd (tickT t) (tickP p 1) /\ (tickP p 1).f=p.f:=by
 rw [tickP,if_neg (by decide),h.now,tickT]
 split
 ·exact ⟨⟨h.fm,h.us,rfl⟩,rfl⟩
 ·exact ⟨⟨h.fm,h.us,rfl⟩,rfl⟩
theorem tickT_le {t:Int} (h0:0<=t) (h:t<=2147483647):0<=tickT t/\tickT t<=2147483647:=by
 rw [tickT];split<;>omega
theorem MG.age {work t m} (g:MG work t m) (n:Int):MG work (tickT t) (ageM m n):=by
 obtain ⟨h1,h2⟩:=tick_gd g.gd
 have hl:(poolDo (tickP m.p 1) (8,n,ByteArray.empty)).1.f.fr.length=m.p.f.fr.length:=by rw [do_len h1,h2]
 have o:=g.ok;exact ⟨⟨o.n1,o.n4,o.hall,o.hw,o.ll,o.li,o.su,o.sj,o.fr.trans hl.symm,o.w⟩,h1.do _,g.td,g.ev⟩
structure MGE (work:List (List MOp)) (m:MS):Prop where
 ex:∃ t,0<=t/\t<=2147483647/\MG work t m
theorem MGE.do_ {work m} (h:MGE work m) (a:Int×Int):MGE work (doMS m a).1:=by
 obtain ⟨t,h0,h1,g⟩:=h.ex
 rw [doMS];repeat' split
 ·exact ⟨t,h0,h1,g.pump⟩
 ·exact ⟨t,h0,h1,g.fin _ _⟩
 ·exact ⟨tickT t,(tickT_le h0 h1).1,(tickT_le h0 h1).2,g.age _⟩
 ·exact ⟨t,h0,h1,g.step _⟩
 ·exact ⟨t,h0,h1,g.step _⟩
theorem stepW_clk (m:MS) (k:Nat) (w:WA) (now:Int):(stepW m k w now).1.clk=m.clk:=by
 unfold stepW;repeat' split
 all_goals rfl
theorem stepM_clk (m:MS) (k:Int):(stepM m k).1.clk<=m.clk+1/\m.clk<= (stepM m k).1.clk:=by
 rw [stepM];repeat' split
 ·exact ⟨by show m.clk<=_;omega,Int.le_refl _⟩
 ·exact ⟨by show m.clk<=_;omega,Int.le_refl _⟩
 ·rw [stepW_clk];dsimp only;omega
theorem finM_clk (m:MS) (i:Int) (b:Bool):(finM m i b).1.clk=m.clk:=by
 rw [finM];repeat' split
 all_goals rfl
theorem doMS_clk (m:MS) (a:Int×Int):(doMS m a).1.clk<=m.clk+1/\m.clk<= (doMS m a).1.clk:=by
 rw [doMS];repeat' split
 ·exact ⟨by show m.clk<=_;omega,Int.le_refl _⟩
 ·rw [finM_clk];omega
 ·exact ⟨by show m.clk<=_;omega,Int.le_refl _⟩
 ·exact stepM_clk _ _
 ·exact stepM_clk _ _
set_option maxRecDepth 20000 in
set_option maxHeartbeats 16000000 in
theorem doL_ok {work m} (g:MGE work m) (hw:∀ l∈work,l.length<=1000) (hc:m.clk<=100000) (a:Int×Int):
  HCall Tryz.prog 18 [.ptr 1000000 0 0,.agg [.d (.int .i64 a.1),.d (.int .i64 a.2)]] (mH m) (mH (doMS m a).1) (.int .i64 (if (doMS m a).2=true then 1 else 0)):=by
 obtain ⟨t,h0,h1,g⟩:=g.ex;refine hcall_of Tryz.func18 2 rfl (by kernel_rfl) (by rfl) ?_;rw [doMS]
 conv=>whnf
 refine aP ?_
 refine bcase_p (fun e6=>?_) (fun e6=>?_)<;>conv=>whnf
 ·rw [if_pos e6];refine aP ?_;refine callH_blk (pumpM_ok m g.ok.su g.gd.us) nm3 rfl ⟨rfl,rfl,rfl,trivial⟩ rfl (aP ?_);exact hret_of rfl rfl rfl ⟨rfl,rfl,rfl,trivial⟩
 rw [if_neg e6];refine aP ?_
 refine bcase_p (fun e7=>?_) (fun e7=>?_)<;>conv=>whnf
 ·rw [if_pos (.inl e7)];have hf:=finM_ok g hc a.2 (decide (a.1=8));refine aP ?_;refine callH_blk hf nm3 rfl ⟨rfl,rfl,rfl,trivial⟩ rfl (aP ?_)
  refine bcase_intro (fun r=>?_) (fun r=>?_)<;>conv=>whnf
  ·rw [if_pos r];refine aP ?_;exact hret_of rfl rfl rfl ⟨rfl,rfl,rfl,trivial⟩
  ·rw [if_neg (by rw [r];decide)];refine aP ?_;exact hret_of rfl rfl rfl ⟨rfl,rfl,rfl,trivial⟩
 refine aP ?_
 refine bcase_p (fun e8=>?_) (fun e8=>?_)<;>conv=>whnf
 ·rw [if_pos (.inr e8)];have hf:=finM_ok g hc a.2 (decide (a.1=8));refine aP ?_;refine callH_blk hf nm3 rfl ⟨rfl,rfl,rfl,trivial⟩ rfl (aP ?_)
  refine bcase_intro (fun r=>?_) (fun r=>?_)<;>conv=>whnf
  ·rw [if_pos r];refine aP ?_;exact hret_of rfl rfl rfl ⟨rfl,rfl,rfl,trivial⟩
  ·rw [if_neg (by rw [r];decide)];refine aP ?_;exact hret_of rfl rfl rfl ⟨rfl,rfl,rfl,trivial⟩
 rw [if_neg (fun z=>z.elim e7 e8)];refine aP ?_
 refine bcase_p (fun e9=>?_) (fun e9=>?_)<;>conv=>whnf
 ·rw [if_pos e9];refine aP ?_;refine callH_blk (ageM_ok m a.2 t g.gd h1 h0) nm3 rfl ⟨rfl,rfl,rfl,trivial⟩ rfl (aP ?_);exact hret_of rfl rfl rfl ⟨rfl,rfl,rfl,trivial⟩
 rw [if_neg e9];have hs:=stepM_ok g h1 hw hc ((if a.2<0 then 0 else a.2)%5)
 have em:max a.2 0%5=(if a.2<0 then 0 else a.2)%5:=by congr 1;split<;>omega
 obtain ⟨kk,hkk⟩:∃ kk,(if a.2<0 then 0 else a.2)%5=kk:=⟨_,rfl⟩;rw [hkk] at hs em⊢;refine aP ?_;refine divK_rem (by decide) (by omega) (w0 ?_);rw [em];refine aP ?_;refine callH_blk hs nm3 rfl ⟨rfl,rfl,rfl,trivial⟩ rfl (aP ?_)
 refine bcase_intro (fun r=>?_) (fun r=>?_)<;>conv=>whnf
 ·rw [if_pos r];refine aP ?_;exact hret_of rfl rfl rfl ⟨rfl,rfl,rfl,trivial⟩
 ·rw [if_neg (by rw [r];decide)];refine aP ?_;exact hret_of rfl rfl rfl ⟨rfl,rfl,rfl,trivial⟩
def encTd (l:List MOp):List D:=[.lst (l.map encMO)]
theorem encMO_ok:∀ (l:List MOp),okRows 3 (l.map encMO)=true
 | []=>rfl
 |_::r=>encMO_ok r
def mSC (m:MS):List SC:=.row (m.ws.map encWA) 11::([.d (.lst (m.p.f.fr.map encF)),.d (.int .i64 m.p.f.hand),.d (encIs m.p.f.tb),.d (.lst (m.p.f.pg.map encP)),.d (encIs m.p.f.dt),.d (.lst (m.p.d.sec.map encB)),.d (.lst (m.p.d.ca.map encW)),.d (.int .i64 m.p.now)]++(m.h.cells.map SC.d++((lg m.lat 0).cells.map SC.d++((lg m.lat 1).cells.map SC.d++((lg m.lat 2).cells.map SC.d++((lg m.lat 3).cells.map SC.d++((lg m.lat 4).cells.map SC.d++((lg m.lat 5).cells.map SC.d++((lg m.lat 6).cells.map SC.d++((lg m.lat 7).cells.map SC.d++((lg m.lat 8).cells.map SC.d++((lg m.lat 9).cells.map SC.d++((lg m.lat 10).cells.map SC.d++((lg m.lat 11).cells.map SC.d++((lg m.lat 12).cells.map SC.d++((lg m.lat 13).cells.map SC.d++((lg m.lat 14).cells.map SC.d++((lg m.lat 15).cells.map SC.d++((lg m.lat 16).cells.map SC.d++((m.s.cells m.p.d).map SC.d++[.d (.int .i64 m.clk),.row (m.ev.map encEvA) 11]))))))))))))))))))))
def z3:List AV:=[.nil,.d (.bool false),.nil]
def mb0 (n:Nat) (p:PS):List AV:=.own 64::(p.box++([.d (.int .i64 n),.d (.int .i64 1),.nil,.nil]++(z3++(z3++(z3++(z3++(z3++(z3++(z3++(z3++(z3++(z3++(z3++(z3++(z3++(z3++(z3++(z3++(z3++[.nil,.d (.int .i64 0),.d (.bool false),.nil,.nil,.nil,.d (.int .i64 0),.nil,.nil,.d (.int .i64 0),.nil])))))))))))))))))))
theorem rep_snoc (k:Nat):List.replicate (k+1) [D.int .i64 1]=List.replicate k [D.int .i64 1]++[[D.int .i64 1]]:=List.replicate_succ'
set_option maxRecDepth 20000 in
set_option maxHeartbeats 16000000 in
theorem machNew_ok (d:DS) (n:Nat) (todo:List (List MOp)) (p:PS) (hop:openM d n=(p,0)) (hU:Us p.d) (h1:1<=todo.length) (h4:todo.length<=4) (h60:∀ l∈todo,l.length<=60):
  PCall Tryz.prog 27 [encDS d,.int .i64 n,.lst (todo.map encTd)] (mSC (newMS p n todo)) [.int .i64 0]:=by
 have hm:(todo.map encTd).length=todo.length:=List.length_map ..
 have ho:=open_ok d n;rw [hop] at ho;refine pcall_of Tryz.func27 3 rfl (by kernel_rfl) (aP ?_);refine aloop (ι:=Nat) (fun k=>[(1,.d (.int .i64 n)),(2,.d (.lst (todo.map encTd))),(3,.ptr 3 0 0),(25,.d (.lst (todo.map encTd))),(26,.d (.int .i64 (todo.map encTd).length)),(27,.d (.int .i64 k))]) (fun _=>[(3,.box (d.cells.map AV.d) false)])
  (fun k=>k<=todo.length) (fun k=>todo.length-k) 0 (Nat.zero_le _) (le0 (le_of_cov ⟨rfl,rfl,rfl,rfl,rfl,rfl,trivial⟩ ⟨rfl,trivial⟩ ⟨rfl,rfl,rfl,rfl⟩)) ?_
 intro k hk
 conv=>whnf
 refine bcase_p (fun h5=>?_) (fun h5=>?_)<;>conv=>whnf
 ·have hk2:k<todo.length:=by omega
  have hl:=h60 todo[k] (List.getElem_mem hk2)
  have hml:(todo[k].map encMO).length=todo[k].length:=List.length_map ..
  refine idxK_nat (by omega) (w0 ?_);refine getRow_of (x:=encTd todo[k]) (by simp [hk2]) (aW ?_);refine aP ?_;exact ⟨k+1,by omega,by omega,(le0 (le_of_cov ⟨rfl,rfl,rfl,rfl,rfl,rfl,trivial⟩ ⟨rfl,trivial⟩ ⟨rfl,rfl,rfl,rfl⟩))⟩
 refine aP ?_;refine callX_pure ho (aP ?_);refine aloop (ι:=Nat) (fun k=>[(10,.ptr 10 0 0),(12,.ptr 48 0 0),(13,.own 69),(49,.d (.lst (todo.map encTd))),(50,.d (.int .i64 (todo.map encTd).length)),(51,.d (.int .i64 k))]) (fun k=>[(10,.box p.box false),(48,.box (mb0 n p) false),(64,.row (((todo.take k).map newWA).map encWA) 11 false),(69,.row (List.replicate k [D.int .i64 1]) 1 false)])
  (fun k=>k<=todo.length) (fun k=>todo.length-k) 0 (Nat.zero_le _) (len [.row 13 69 1,.cell 48 0 64 11] ⟨⟨rfl,rfl⟩,⟨⟨rfl,rfl⟩,rfl,rfl⟩,trivial⟩ (le_of_cov ⟨rfl,rfl,rfl,rfl,rfl,rfl,trivial⟩ ⟨rfl,rfl,rfl,rfl,trivial⟩ ⟨rfl,rfl,rfl,rfl⟩)) ?_
 intro k hk
 conv=>whnf
 refine bcase_p (fun h6=>?_) (fun h6=>?_)<;>conv=>whnf
 ·have hk2:k<todo.length:=by omega
  have hl:=h60 todo[k] (List.getElem_mem hk2)
  have hml:(todo[k].map encMO).length=todo[k].length:=List.length_map ..
  have htk:(todo.take k).length=k:=by rw [List.length_take];omega
  have hmr:(((todo.take k).map newWA).map encWA).length=k:=by rw [List.length_map,List.length_map,htk]
  refine idxK_nat (by omega) (w0 ?_);refine getRow_of (x:=encTd todo[k]) (by simp [hk2]) (aW ?_);refine aP ?_;refine callX_own (cloneOp (encMO_ok todo[k]) (by omega)) (aP ?_);refine roomK_le 1000 1000 (by show (((todo.take k).map newWA).map encWA).length+1<=1000;omega) (by decide) (by decide) (by decide) (aP ?_);refine roomK_le 1000 1000 (by show (List.replicate k [D.int .i64 1]).length+1<=1000;rw [List.length_replicate];omega) (by decide) (by decide) (by decide) (aP ?_);refine ⟨k+1,by omega,by omega,le0 (le_of_cov ⟨rfl,rfl,rfl,rfl,rfl,rfl,trivial⟩ ⟨rfl,rfl,?_,?_,trivial⟩ ⟨rfl,rfl,rfl,rfl⟩)⟩
  ·rw [take_snoc hk2,List.map_append,List.map_append];kernel_rfl
  ·rw [rep_snoc];kernel_rfl
 have hkl:k=todo.length:=by omega
 subst hkl;rw [List.take_length];refine aP ?_;refine callX_pure (schedNew_ok todo.length p.d h1 h4 hU) (aP ?_);refine ⟨6,.tmp 7,[],48,_,rfl,rfl,rfl,?_,rfl,rfl⟩;refine .inl ⟨64,rfl,rfl,rfl,?_⟩
 repeat refine ⟨rfl,?_⟩
 exact .inr ⟨rfl,rfl,trivial⟩
noncomputable def stAt (d:DS) (k:Nat):Option Pg:=if (getS d ((k:Int)+1)).2=0 then some (getS d ((k:Int)+1)).1 else none
noncomputable def lsN (d:DS) (k:Nat):List Pg:=(List.range k).filterMap (stAt d)
theorem fm_len {α:Type} (f:Nat->Option α) (k:Nat):((List.range k).filterMap f).length<=k:=by
 have:=List.length_filterMap_le f (List.range k)
 rwa [List.length_range] at this
theorem fm_succ {α:Type} (f:Nat->Option α) (k:Nat):(List.range (k+1)).filterMap f=(List.range k).filterMap f++(f k).toList:=by
 rw [List.range_succ,List.filterMap_append]
 congr 1
set_option maxHeartbeats 4000000 in
theorem storeList_ok (d:DS):ACall Tryz.prog 51 [encDS d] (.lst ((lsN d 16).map encP)):=by
 refine acall_of Tryz.func51 1 rfl (by kernel_rfl) (aP ?_);refine aloop (ι:=Nat) (fun k=>[(1,.ptr 1 0 0),(3,.own 22),(4,.d (.int .i64 ((k:Int)+1)))]) (fun k=>[(1,.box (d.cells.map AV.d) false),(22,.row ((lsN d k).map encP) 3 false)])
  (fun k=>k<=16) (fun k=>16-k) 0 (Nat.zero_le _) (le1 (.row 3 22 3) ⟨rfl,rfl⟩ (le_of_cov ⟨rfl,rfl,rfl,trivial⟩ ⟨rfl,rfl,trivial⟩ ⟨rfl,rfl,rfl,rfl⟩)) ?_
 intro k hk;have hln:=fm_len (stAt d) k
 have hml:((lsN d k).map encP).length=(lsN d k).length:=List.length_map ..
 replace hln:(lsN d k).length<=k:=hln;have es:=fm_succ (stAt d) k;replace es:lsN d (k+1)=lsN d k++(stAt d k).toList:=es;obtain ⟨q,hq⟩:∃ q,getS d ((k:Int)+1)=q:=⟨_,rfl⟩;have hget:=getS_ok d ((k:Int)+1);rw [stAt,hq] at es;rw [hq] at hget
 conv=>whnf
 refine bcase_p (fun h5=>?_) (fun h5=>?_)<;>conv=>whnf
 ·refine aP ?_;refine callX_pure hget (aP ?_)
  refine bcase_p (fun h6=>?_) (fun h6=>?_)<;>conv=>whnf
  ·rw [if_pos h6] at es;refine aP ?_;refine roomK_le 1000 100 (by show ((lsN d k).map encP).length+1<=1000;omega) (by decide) (by decide) (by decide) (aP ?_);rw [show (k:Int)+1+1=((k+1:Nat):Int)+1 by omega];exact ⟨k+1,by omega,by omega,le0 (le_of_cov ⟨rfl,rfl,rfl,trivial⟩ ⟨rfl,by rw [es,List.map_append];rfl,trivial⟩ ⟨rfl,rfl,rfl,rfl⟩)⟩
  ·rw [if_neg h6] at es;refine aP ?_;rw [show (k:Int)+1+1=((k+1:Nat):Int)+1 by omega];exact ⟨k+1,by omega,by omega,le0 (le_of_cov ⟨rfl,rfl,rfl,trivial⟩ ⟨rfl,by rw [es,Option.toList,List.append_nil];rfl,trivial⟩ ⟨rfl,rfl,rfl,rfl⟩)⟩
 ·have:k=16:=by omega
  subst this;refine aP ?_;exact ret_of rfl rfl
noncomputable def getO (l:List Pg) (id:Int):Pg×Bool:=if Hy.mapB l=true/\Hy.plB l id=true then (l[Hy.plN l id]?.getD zP,true) else (zP,false)
theorem opsGet_ok (l:List Pg) (id:Int) (hl:l.length<=1000):ACall Tryz.prog 25 [.agg [.lst (l.map encP)],.int .i64 id] (.tup [.agg (encP (getO l id).1),.bool (getO l id).2]):=by
 have h1:=Hy.opsRight_ok l (by omega);have h2:=Hy.place_ok l id (by omega)
 have hm:(l.map encP).length=l.length:=List.length_map ..
 cases e1:Hy.mapB l with
 |false=>
  rw [e1] at h1;rw [getO,if_neg (by rw [e1];simp)];refine acall_of Tryz.func25 2 rfl (by kernel_rfl) (aP ?_);refine callX_pure h1 (aP ?_);exact ret_of rfl rfl
 |true=>
  rw [e1] at h1
  cases e2:Hy.plB l id with
  |false=>
   rw [e2] at h2;rw [getO,if_neg (by rw [e2];simp)];refine acall_of Tryz.func25 2 rfl (by kernel_rfl) (aP ?_);refine callX_pure h1 (aP ?_);refine callX_pure h2 (aP ?_);exact ret_of rfl rfl
  |true=>
   rw [e2] at h2
   have hlt:Hy.plN l id<l.length:=by
    refine Classical.byContradiction fun g=>?_
    rw [Hy.plB,List.getElem?_eq_none (by omega)] at e2;cases e2
   rw [getO,if_pos ⟨e1,e2⟩,List.getElem?_eq_getElem hlt];refine acall_of Tryz.func25 2 rfl (by kernel_rfl) (aP ?_);refine callX_pure h1 (aP ?_);refine callX_pure h2 (aP ?_);refine idxK_nat (by omega) (w0 ?_);refine getRow_of (x:=encP l[Hy.plN l id]) (by simp [hlt]) (aP ?_);exact ret_of rfl rfl
noncomputable def pgAt (m:MS) (k:Nat):Option Pg:=if (findF m.p.f ((k:Int)+1)).2=true then some (atP m.p.f.pg (findF m.p.f ((k:Int)+1)).1.toNat) else if (getO (lsN m.p.d 16) ((k:Int)+1)).2=true then some (getO (lsN m.p.d 16) ((k:Int)+1)).1 else none
noncomputable def pgsN (m:MS) (k:Nat):List Pg:=(List.range k).filterMap (pgAt m)
noncomputable def pagesM (m:MS):List Pg:=pgsN m 16
set_option maxRecDepth 20000 in
set_option maxHeartbeats 16000000 in
theorem pages_m_ok (m:MS) (hF:FM m.p.f):HCall Tryz.prog 19 [.ptr 1000000 0 0] (mH m) (mH m) (.agg [.lst ((pagesM m).map encP)]):=by
 refine hcall_of Tryz.func19 1 rfl (by kernel_rfl) (by rfl) ?_;have hlo:=storeList_ok m.p.d;have hlo16:(lsN m.p.d 16).length<=16:=fm_len _ _;obtain ⟨L,hL⟩:∃ L,lsN m.p.d 16=L:=⟨_,rfl⟩;rw [hL] at hlo hlo16
 conv=>whnf
 refine aP ?_;refine callX_pure hlo (aP ?_);refine aloop (ι:=Nat) (fun k=>[(0,.ptr 1000000 0 0),(2,.ptr 2 0 0),(3,.ptr 3 0 0),(4,.ptr 4 0 0),(5,.d (.int .i64 ((k:Int)+1)))]) (fun k=>[(1000000,.box (mCells m) false),(1000001,.row (m.ws.map encWA) 11 false),(1000004,.row (m.ev.map encEvA) 11 false),(2,.box [.nil] false),(3,.box [.d (.lst (L.map encP))] false),(4,.box [.own 44] false),(44,.row ((pgsN m k).map encP) 3 false)])
  (fun k=>k<=16) (fun k=>16-k) 0 (Nat.zero_le _) (le1 (.cell 4 0 44 3) ⟨⟨rfl,rfl⟩,rfl,rfl⟩ (le_of_cov ⟨rfl,rfl,rfl,rfl,rfl,trivial⟩ ⟨rfl,rfl,rfl,rfl,rfl,rfl,rfl,trivial⟩ ⟨rfl,rfl,rfl,rfl⟩)) ?_
 intro k hk;have hln:(pgsN m k).length<=k:=fm_len (pgAt m) k
 have hml:((pgsN m k).map encP).length=(pgsN m k).length:=List.length_map ..
 have es:pgsN m (k+1)=pgsN m k++(pgAt m k).toList:=fm_succ (pgAt m) k;have hf:=Find_ok m.p.f ((k:Int)+1) hF.tl hF.dl;have hg:=opsGet_ok L ((k:Int)+1) (by omega);rw [pgAt,hL] at es
 have hmp:(m.p.f.pg.map encP).length=m.p.f.pg.length:=List.length_map ..
 conv=>whnf
 refine bcase_p (fun h5=>?_) (fun h5=>?_)<;>conv=>whnf
 ·refine aP ?_
  rcases hF.find_cases (show ((k:Int)+1)≠0 by omega) with ⟨_,hno⟩|⟨i,_,hA⟩
  ·rw [findF_no hF hno (by omega)] at hf es;rw [if_neg (by decide)] at es;refine callX_pure hf (aP ?_);refine callX_pure hg (aP ?_)
   refine bcase_intro (fun h7=>?_) (fun h7=>?_)<;>conv=>whnf
   ·rw [if_pos h7] at es;refine aP ?_;refine roomK_le 1000 100 (by show ((pgsN m k).map encP).length+1<=1000;omega) (by decide) (by decide) (by decide) (aP ?_);rw [show (k:Int)+1+1=((k+1:Nat):Int)+1 by omega];exact ⟨k+1,by omega,by omega,le0 (le_of_cov ⟨rfl,rfl,rfl,rfl,rfl,trivial⟩ ⟨rfl,rfl,rfl,rfl,rfl,rfl,by rw [es,List.map_append];rfl,trivial⟩ ⟨rfl,rfl,rfl,rfl⟩)⟩
   ·rw [if_neg (by rw [show (getO L ((k:Int)+1)).2=false from h7];decide)] at es;refine aP ?_;rw [show (k:Int)+1+1=((k+1:Nat):Int)+1 by omega];exact ⟨k+1,by omega,by omega,le0 (le_of_cov ⟨rfl,rfl,rfl,rfl,rfl,trivial⟩ ⟨rfl,rfl,rfl,rfl,rfl,rfl,by rw [es,Option.toList,List.append_nil];rfl,trivial⟩ ⟨rfl,rfl,rfl,rfl⟩)⟩
  ·rw [findF_at hA] at hf es;have hip:=hA.hp;rw [if_pos rfl,Int.toNat_natCast,atP_eq hip] at es;refine callX_pure hf (aP ?_);refine idxK_nat (by omega) (w0 ?_);refine getRow_of (x:=encP m.p.f.pg[i]) (by simp [hip]) (aW ?_);refine aP ?_;refine roomK_le 1000 100 (by show ((pgsN m k).map encP).length+1<=1000;omega) (by decide) (by decide) (by decide) (aP ?_);rw [show (k:Int)+1+1=((k+1:Nat):Int)+1 by omega];exact ⟨k+1,by omega,by omega,le0 (le_of_cov ⟨rfl,rfl,rfl,rfl,rfl,trivial⟩ ⟨rfl,rfl,rfl,rfl,rfl,rfl,by rw [es,List.map_append];rfl,trivial⟩ ⟨rfl,rfl,rfl,rfl⟩)⟩
 ·have:k=16:=by omega
  subst this;refine aP ?_;exact hret_of rfl rfl rfl ⟨rfl,rfl,rfl,trivial⟩
structure OpsOk (l:List MOp):Prop where
 len:l.length<=20
 body:∀ o∈l,o.2.2.size<=100
structure SmOk (work:List (List MOp)):Prop where
 n1:1<=work.length
 n4:work.length<=4
 one:∀ l∈work,OpsOk l
open Classical in
noncomputable def smN (work:List (List MOp)):Int:=if SmOk work then ((work.flatten.length:Nat):Int) else-1
theorem smN_no {work:List (List MOp)} (h:¬SmOk work):smN work=-1:=by rw [smN,if_neg h]
theorem smN_yes {work:List (List MOp)} (h:SmOk work):smN work=((work.flatten.length:Nat):Int):=by rw [smN,if_pos h]
theorem flat_succ {work:List (List MOp)} {k:Nat} (hk:k<work.length):(work.take (k+1)).flatten.length=(work.take k).flatten.length+work[k].length:=by
 rw [take_snoc hk,List.flatten_append,List.length_append,List.flatten_cons,List.flatten_nil,List.append_nil]
theorem flat_bd {work:List (List MOp)} (h:∀ l∈work,l.length<=20):work.flatten.length<=20*work.length:=by
 induction work with
 |nil=>exact Nat.le_refl _
 |cons x r ih=>
  have:=h x (.head _)
  have:=ih fun l hl=>h l (.tail _ hl)
  rw [List.flatten_cons,List.length_append,List.length_cons];omega
set_option maxHeartbeats 4000000 in
theorem small19_ok (work:List (List MOp)) (hl:work.length<=9223372036854775807) (hl2:∀ l∈work,l.length<=9223372036854775807):ACall Tryz.prog 15 [.lst (work.map encTd)] (.int .i64 (smN work)):=by
 have hm:(work.map encTd).length=work.length:=List.length_map ..
 refine acall_of Tryz.func15 1 rfl (by kernel_rfl) (aP ?_)
 refine bcase_p (fun h1=>?_) (fun h1=>?_)<;>conv=>whnf
 ·refine aP ?_;rw [smN_no fun h=>by have:=h.n1;omega];exact ret_of rfl rfl
 refine aP ?_
 refine bcase_p (fun h4=>?_) (fun h4=>?_)<;>conv=>whnf
 ·refine aP ?_;rw [smN_no fun h=>by have:=h.n4;omega];exact ret_of rfl rfl
 refine aP ?_;refine aloop (ι:=Nat) (fun k=>[(3,.d (.int .i64 (work.take k).flatten.length)),(16,.d (.lst (work.map encTd))),(17,.d (.int .i64 (work.map encTd).length)),(18,.d (.int .i64 k))]) (fun _=>[])
  (fun k=>k<=work.length/\ ∀ l∈work.take k,OpsOk l) (fun k=>work.length-k) 0 ⟨Nat.zero_le _,fun l h=>by simp at h⟩ (le0 (le_of_cov ⟨rfl,rfl,rfl,rfl,trivial⟩ trivial ⟨rfl,rfl,rfl,rfl⟩)) ?_
 rintro k ⟨hk,hR⟩
 have hfb:=flat_bd fun l h=>(hR l h).len
 rw [List.length_take] at hfb
 conv=>whnf
 refine bcase_p (fun h5=>?_) (fun h5=>?_)<;>conv=>whnf
 ·have hk2:k<work.length:=by omega
  have hml:(work[k].map encMO).length=work[k].length:=List.length_map ..
  have hmem:=List.getElem_mem hk2;refine idxK_nat (by omega) (w0 ?_);refine getRow_of (x:=encTd work[k]) (by simp [hk2]) (aW ?_)
  refine bcase_p (fun h6=>?_) (fun h6=>?_)<;>conv=>whnf
  ·refine aP ?_;rw [smN_no fun h=>by have:=(h.one _ hmem).len;omega];exact ret_of rfl rfl
  refine aP ?_;refine aloop (ι:=Nat) (fun q=>[(3,.d (.int .i64 (work.take k).flatten.length)),(5,.d (.lst (work[k].map encMO))),(16,.d (.lst (work.map encTd))),(17,.d (.int .i64 (work.map encTd).length)),(18,.d (.int .i64 k)),(25,.d (.lst (work[k].map encMO))),(26,.d (.int .i64 (work[k].map encMO).length)),(27,.d (.int .i64 q))]) (fun _=>[])
   (fun q=>q<=work[k].length/\ ∀ o∈work[k].take q,o.2.2.size<=100) (fun q=>work[k].length-q) 0 ⟨Nat.zero_le _,fun o h=>by simp at h⟩ (le0 (le_of_cov ⟨rfl,rfl,rfl,rfl,rfl,rfl,rfl,rfl,trivial⟩ trivial ⟨rfl,rfl,rfl,rfl⟩)) ?_
  rintro q ⟨hq,hR2⟩
  conv=>whnf
  refine bcase_p (fun h7=>?_) (fun h7=>?_)<;>conv=>whnf
  ·have hq2:q<work[k].length:=by omega
   refine idxK_nat (by omega) (w0 ?_);refine getRow_of (x:=encMO work[k][q]) (by simp [hq2]) (aW ?_)
   refine bcase_p (fun h8=>?_) (fun h8=>?_)<;>conv=>whnf
   ·refine aP ?_;rw [smN_no fun h=>by have:=(h.one _ hmem).body _ (List.getElem_mem hq2);omega];exact ret_of rfl rfl
   refine aP ?_;refine ⟨q+1,⟨by omega,fun o h=>?_⟩,by omega,(le0 (le_of_cov ⟨rfl,rfl,rfl,rfl,rfl,rfl,rfl,rfl,trivial⟩ trivial ⟨rfl,rfl,rfl,rfl⟩))⟩;rw [take_snoc hq2] at h
   rcases List.mem_append.1 h with h|h
   ·exact hR2 o h
   ·simp at h;subst h;omega
  ·have hql:q=work[k].length:=by omega
   subst hql;rw [List.take_length] at hR2;have es:=flat_succ hk2;refine aP ?_;rw [show (((work.take k).flatten.length:Nat):Int)+(((work[k].map encMO).length:Nat):Int)=(((work.take (k+1)).flatten.length:Nat):Int) by omega];refine ⟨k+1,⟨by omega,fun l h=>?_⟩,by omega,(le0 (le_of_cov ⟨rfl,rfl,rfl,rfl,trivial⟩ trivial ⟨rfl,rfl,rfl,rfl⟩))⟩;rw [take_snoc hk2] at h
   rcases List.mem_append.1 h with h|h
   ·exact hR l h
   ·simp at h;subst h;exact ⟨by omega,hR2⟩
 ·have hkl:k=work.length:=by omega
  subst hkl;rw [List.take_length] at hR⊢;rw [smN_yes ⟨by omega,by omega,hR⟩];refine aP ?_;exact ret_of rfl rfl
open Classical in
noncomputable def newStep9 (st:Nst) (x:Pg):Nst:=if pgR x=true then (putD st.1 x,ud st.2 x.1.toNat x) else st
noncomputable def new9 (l:List Pg):Nst:=(l.take 16).foldl newStep9 new0
structure NI9 (st:Nst):Prop where
 rest:Rest st.1
 len:st.1.length=35
 z:st.1[0]?.getD ByteArray.empty=nul16
 on:OnD st.1 [] st.2 2147483647
theorem NI9.new:NI9 new0:=⟨new_rest,List.length_replicate ..,z_new,OnD.new (by decide)⟩
theorem NI9.put {st:Nst} (h:NI9 st) {x:Pg} (hx:pgR x=true):NI9 (putD st.1 x,ud st.2 x.1.toNat x):=by
 have hv:x.2.1<=2147483647:=(pgR_out.1 hx).2.2.2.1;obtain ⟨_,_,r1,r2⟩:=setS_rest h.rest hx;obtain ⟨p,hp,p1,p16⟩:=pg_nat hx;refine ⟨r1,r2.trans h.len,setD_0 h.rest,⟨fun q q1 q16 _=>?_,fun q q1 q16=>?_,fun q=>?_⟩⟩
 ·rw [get_put h.rest hx q1 q16]
  by_cases e:x.1=(q:Int)
  ·rw [if_pos e,show x.1.toNat=q by omega];simp only [ud_at];rw [if_neg (by omega)]
  ·rw [if_neg e];simp only [];rw [ud_ne _ _ (by omega)];exact h.on.dsk q q1 q16 (fun _ h=>by cases h)
 ·by_cases e:x.1=(q:Int)
  ·right
   rw [show x.1.toNat=q by omega];simp only [ud_at];exact ⟨hx,e⟩
  ·simp only [];rw [ud_ne _ _ (by omega)];exact h.on.okp q q1 q16
 ·by_cases e:q=x.1.toNat
  ·subst e
   simp only [ud_at];exact hv
  ·simp only []
   rw [ud_ne _ _ e];exact h.on.vb q
theorem NI9.step {st:Nst} (h:NI9 st) (x:Pg):NI9 (newStep9 st x):=by
 rw [newStep9]
 split
 ·rename_i g;exact h.put g
 ·exact h
theorem NI9.fold:∀ (l:List Pg) {st:Nst},NI9 st->NI9 (l.foldl newStep9 st)
 | [],_,h=>h
 |x::r,_,h=>NI9.fold r (h.step x)
theorem NI9.ofG (l:List Pg):NI9 (new9 l):=NI9.fold _ NI9.new
theorem NI9.us {st:Nst} (h:NI9 st):Us ⟨st.1,[]⟩:=h.rest.us
theorem stepsR_run9 {st:Nst} (h:NI9 st) {x:Pg} (hx:pgR x=true):stepsR ⟨st.1,[]⟩ x=planJ x.1.toNat (putB x) /\runM ⟨st.1,[]⟩ (planJ x.1.toNat (putB x)) 99=⟨putD st.1 x,[]⟩:=by
 obtain ⟨p,hp,p1,p16⟩:=pg_nat hx;have hr:=pgR_out.1 hx;refine ⟨?_,?_⟩
 ·rw [stepsR,if_neg (fun g=>g ⟨h.us,by omega,by omega⟩),if_neg (fun g=>by omega),if_pos hx]
 ·rw [runM];show ((planJ x.1.toNat (putB x)).take 99).foldl stepJ _=_;rw [List.take_of_length_le (show 10<=99 by decide),plan_runs h.rest (by omega) (by omega) (putB_size (pgR_out.1 hx).2.2.2.2)];rfl
theorem stepsR_no9 {st:Nst} (h:NI9 st) {x:Pg} (hx:pgR x=false) (hv:x.2.1≠0):stepsR ⟨st.1,[]⟩ x=[]:=by
 rw [stepsR]
 split
 ·rfl
 ·rw [if_neg (fun g=>hv g.1),if_neg (by rw [hx];decide)]
theorem pL_p {P:Nat->Pg} {j q:Nat} (e:j=q*3) (h:q<17):((pL P).drop j).take 3=encP (P q):=by
 subst e
 match q,h with
 |0,_=>rfl
 |1,_=>rfl
 |2,_=>rfl
 |3,_=>rfl
 |4,_=>rfl
 |5,_=>rfl
 |6,_=>rfl
 |7,_=>rfl
 |8,_=>rfl
 |9,_=>rfl
 |10,_=>rfl
 |11,_=>rfl
 |12,_=>rfl
 |13,_=>rfl
 |14,_=>rfl
 |15,_=>rfl
 |16,_=>rfl
 |q+17,h=>exact absurd h (by omega)
theorem pL_i {P:Nat->Pg} {j q:Nat} (e:j=q*3) (h:q<17):(pL P)[j]?=some (.int .i64 (P q).1):=by
 have:=congrArg (·[0]?) (pL_p (P:=P) e h);rw [List.getElem?_take,if_pos (by decide),List.getElem?_drop] at this;exact this
theorem pL_setP {P:Nat->Pg} {j q:Nat} (e:j=q*3) (h:q<17) (x:Pg):splice (pL P) j (encP x)=pL (ud P q x):=by
 subst e
 match q,h with
 |0,_=>rfl
 |1,_=>rfl
 |2,_=>rfl
 |3,_=>rfl
 |4,_=>rfl
 |5,_=>rfl
 |6,_=>rfl
 |7,_=>rfl
 |8,_=>rfl
 |9,_=>rfl
 |10,_=>rfl
 |11,_=>rfl
 |12,_=>rfl
 |13,_=>rfl
 |14,_=>rfl
 |15,_=>rfl
 |16,_=>rfl
 |q+17,h=>exact absurd h (by omega)
def bgAt (P:Nat->Pg) (k:Nat):Option Pg:=if (P (k+1)).1≠0 then some (P (k+1)) else none
def bgN (P:Nat->Pg) (k:Nat):List Pg:=(List.range k).filterMap (bgAt P)
noncomputable def bg19 (pages:List Pg):List Pg:=bgN (new9 pages).2 16
noncomputable def begM (n:Nat) (pages:List Pg) (work:List (List MOp)):MS:=newMS ⟨newFS n,⟨(new9 pages).1,[]⟩,0⟩ n work
set_option maxRecDepth 20000 in
set_option maxHeartbeats 16000000 in
theorem begin19_ok (many:Int) (m0:0<=many) (m1:many<=255) (pages:List Pg) (hpl:pages.length<=9223372036854775807) (work:List (List MOp)) (h1:1<=work.length) (h4:work.length<=4) (h60:∀ l∈work,l.length<=60) (n:Nat) (hn:1+many%8=(n:Int)):
  PCall Tryz.prog 17 [.int .u8 many,.lst (pages.map encP),.lst (work.map encTd)] (mSC (begM n pages work)) [.lst ((bg19 pages).map encP),.bool true]:=by
 have hm:(pages.map encP).length=pages.length:=List.length_map ..
 have hN:=NI9.ofG pages
 have hop:openM ⟨(new9 pages).1,[]⟩ n=(⟨newFS n,⟨(new9 pages).1,[]⟩,0⟩,0):=by
  have:=open_rest hN.rest hN.z (n:=n) (by omega) (by omega)
  rw [Int.toNat_natCast] at this;exact this
 have hNew:=machNew_ok ⟨(new9 pages).1,[]⟩ n work _ hop hN.us h1 h4 h60;refine pcall_of Tryz.func17 3 rfl (by kernel_rfl) (aP ?_);refine callX_pure dnew_ok (aW ?_);refine aP ?_;refine aloop (ι:=Nat×Nst) (fun k=>[(0,.d (.int .u8 many)),(1,.d (.lst (pages.map encP))),(2,.d (.lst (work.map encTd))),(9,.ptr 9 0 0),(11,.ptr 11 0 0),(12,.d (.int .i64 k.1))])
  (fun k=>[(9,.box [.d (.lst (k.2.1.map encB)),.d (.lst [])] false),(11,.box ((pL k.2.2).map AV.d) false)])
  (fun k=>k.1<=pages.length/\k.1<=16/\k.2=(pages.take k.1).foldl newStep9 new0/\NI9 k.2) (fun k=>16-k.1) (0,new0) ⟨by omega,by decide,rfl,NI9.new⟩ (le0 (le_of_cov ⟨rfl,rfl,rfl,rfl,rfl,rfl,trivial⟩ ⟨rfl,rfl,trivial⟩ ⟨rfl,rfl,rfl,rfl⟩)) ?_
 rintro ⟨k,st⟩ ⟨hk,hk16,hst,hI⟩;simp only at hk hk16 hst hI⊢
 have hfin:(¬k<pages.length) \/ (¬k<16)->st=new9 pages:=fun h=>by
  rw [hst,new9]
  by_cases e:k=16
  ·subst e;rfl
  ·have:k=pages.length:=by omega
   rw [List.take_of_length_le (by omega),List.take_of_length_le (by omega)]
 conv=>whnf
 refine bcase_p (fun h5=>?_) (fun h5=>?_)<;>conv=>whnf
 rotate_left
 ·refine aP ?_;have e:=hfin (by omega);subst e;refine aloop (ι:=Nat) (fun k=>[(0,.d (.int .u8 many)),(2,.d (.lst (work.map encTd))),(9,.ptr 9 0 0),(11,.ptr 11 0 0),(14,.own 76),(15,.d (.int .i64 ((k:Int)+1)))])
   (fun k=>[(9,.box [.d (.lst ((new9 pages).1.map encB)),.d (.lst [])] false),(11,.box ((pL (new9 pages).2).map AV.d) false),(76,.row ((bgN (new9 pages).2 k).map encP) 3 false)])
   (fun k=>k<=16) (fun k=>16-k) 0 (Nat.zero_le _) (le1 (.row 14 76 3) ⟨rfl,rfl⟩ (le_of_cov ⟨rfl,rfl,rfl,rfl,rfl,rfl,trivial⟩ ⟨rfl,rfl,rfl,trivial⟩ ⟨rfl,rfl,rfl,rfl⟩)) ?_
  intro k hk;have hln:(bgN (new9 pages).2 k).length<=k:=fm_len (bgAt (new9 pages).2) k
  have hml:((bgN (new9 pages).2 k).map encP).length=(bgN (new9 pages).2 k).length:=List.length_map ..
  have es:bgN (new9 pages).2 (k+1)=bgN (new9 pages).2 k++(bgAt (new9 pages).2 k).toList:=fm_succ (bgAt (new9 pages).2) k;have hlen:(pL (new9 pages).2).length=51:=rfl;rw [bgAt] at es
  conv=>whnf
  refine bcase_p (fun h5=>?_) (fun h5=>?_)<;>conv=>whnf
  ·refine aP ?_;refine idxK_int (by omega) (by omega) (w0 ?_);rw [show ((k:Int)+1).toNat=k+1 by omega]
   try (refine condK_of rfl ?_)
   refine (part_one (l:=pL (new9 pages).2) (.int .i64 ((new9 pages).2 (k+1)).1) (by first|rfl|simp only [killC_d]) (pL_i (by simp only [szs];omega) (by omega)) ?_)
   conv=>whnf
   refine aA ?_
   refine bcase_n (fun h7=>?_) (fun h7=>?_)<;>conv=>whnf
   ·rw [if_pos h7] at es;refine aP ?_;refine idxK_int (by omega) (by omega) (w0 ?_);rw [show ((k:Int)+1).toNat=k+1 by omega]
    try (refine condK_of rfl ?_)
    refine (part_agg (l:=pL (new9 pages).2) (l2:=encP ((new9 pages).2 (k+1))) (by first|rfl|simp only [killC_d]) (by first|omega|(simp only [szs];omega)) (pL_p (by simp only [szs];omega) (by omega)) ?_)
    conv=>whnf
    refine aA ?_;refine aP ?_;refine roomK_le 1000 100 (by show ((bgN (new9 pages).2 k).map encP).length+1<=1000;omega) (by decide) (by decide) (by decide) (aP ?_);rw [show (k:Int)+1+1=((k+1:Nat):Int)+1 by omega];exact ⟨k+1,by omega,by omega,le0 (le_of_cov ⟨rfl,rfl,rfl,rfl,rfl,rfl,trivial⟩ ⟨rfl,rfl,by rw [es,List.map_append];rfl,trivial⟩ ⟨rfl,rfl,rfl,rfl⟩)⟩
   ·rw [if_neg (by simpa using h7)] at es;refine aP ?_;rw [show (k:Int)+1+1=((k+1:Nat):Int)+1 by omega];exact ⟨k+1,by omega,by omega,le0 (le_of_cov ⟨rfl,rfl,rfl,rfl,rfl,rfl,trivial⟩ ⟨rfl,rfl,by rw [es,Option.toList,List.append_nil];rfl,trivial⟩ ⟨rfl,rfl,rfl,rfl⟩)⟩
  ·have:k=16:=by omega
   subst this;refine aP ?_;refine divK_rem (by decide) m0 (aP ?_);rw [hn];refine callX_ptr hNew (Nat.le_of_ble_eq_true rfl) (aP ?_);refine ⟨6,.tmp 7,[.tmp 8],2000672,_,rfl,rfl,rfl,?_,rfl,rfl⟩;refine .inl ⟨2000673,rfl,rfl,rfl,?_⟩
   repeat refine ⟨rfl,?_⟩
   exact .inl ⟨2000674,rfl,rfl,rfl,trivial⟩
 refine bcase_p (fun h6=>?_) (fun h6=>?_)<;>conv=>whnf
 rotate_left
 ·refine aP ?_;have e:=hfin (by omega);subst e;refine aloop (ι:=Nat) (fun k=>[(0,.d (.int .u8 many)),(2,.d (.lst (work.map encTd))),(9,.ptr 9 0 0),(11,.ptr 11 0 0),(14,.own 76),(15,.d (.int .i64 ((k:Int)+1)))])
   (fun k=>[(9,.box [.d (.lst ((new9 pages).1.map encB)),.d (.lst [])] false),(11,.box ((pL (new9 pages).2).map AV.d) false),(76,.row ((bgN (new9 pages).2 k).map encP) 3 false)])
   (fun k=>k<=16) (fun k=>16-k) 0 (Nat.zero_le _) (le1 (.row 14 76 3) ⟨rfl,rfl⟩ (le_of_cov ⟨rfl,rfl,rfl,rfl,rfl,rfl,trivial⟩ ⟨rfl,rfl,rfl,trivial⟩ ⟨rfl,rfl,rfl,rfl⟩)) ?_
  intro k hk;have hln:(bgN (new9 pages).2 k).length<=k:=fm_len (bgAt (new9 pages).2) k
  have hml:((bgN (new9 pages).2 k).map encP).length=(bgN (new9 pages).2 k).length:=List.length_map ..
  have es:bgN (new9 pages).2 (k+1)=bgN (new9 pages).2 k++(bgAt (new9 pages).2 k).toList:=fm_succ (bgAt (new9 pages).2) k;have hlen:(pL (new9 pages).2).length=51:=rfl;rw [bgAt] at es
  conv=>whnf
  refine bcase_p (fun h5=>?_) (fun h5=>?_)<;>conv=>whnf
  ·refine aP ?_;refine idxK_int (by omega) (by omega) (w0 ?_);rw [show ((k:Int)+1).toNat=k+1 by omega]
   try (refine condK_of rfl ?_)
   refine (part_one (l:=pL (new9 pages).2) (.int .i64 ((new9 pages).2 (k+1)).1) (by first|rfl|simp only [killC_d]) (pL_i (by simp only [szs];omega) (by omega)) ?_)
   conv=>whnf
   refine aA ?_
   refine bcase_n (fun h7=>?_) (fun h7=>?_)<;>conv=>whnf
   ·rw [if_pos h7] at es;refine aP ?_;refine idxK_int (by omega) (by omega) (w0 ?_);rw [show ((k:Int)+1).toNat=k+1 by omega]
    try (refine condK_of rfl ?_)
    refine (part_agg (l:=pL (new9 pages).2) (l2:=encP ((new9 pages).2 (k+1))) (by first|rfl|simp only [killC_d]) (by first|omega|(simp only [szs];omega)) (pL_p (by simp only [szs];omega) (by omega)) ?_)
    conv=>whnf
    refine aA ?_;refine aP ?_;refine roomK_le 1000 100 (by show ((bgN (new9 pages).2 k).map encP).length+1<=1000;omega) (by decide) (by decide) (by decide) (aP ?_);rw [show (k:Int)+1+1=((k+1:Nat):Int)+1 by omega];exact ⟨k+1,by omega,by omega,le0 (le_of_cov ⟨rfl,rfl,rfl,rfl,rfl,rfl,trivial⟩ ⟨rfl,rfl,by rw [es,List.map_append];rfl,trivial⟩ ⟨rfl,rfl,rfl,rfl⟩)⟩
   ·rw [if_neg (by simpa using h7)] at es;refine aP ?_;rw [show (k:Int)+1+1=((k+1:Nat):Int)+1 by omega];exact ⟨k+1,by omega,by omega,le0 (le_of_cov ⟨rfl,rfl,rfl,rfl,rfl,rfl,trivial⟩ ⟨rfl,rfl,by rw [es,Option.toList,List.append_nil];rfl,trivial⟩ ⟨rfl,rfl,rfl,rfl⟩)⟩
  ·have:k=16:=by omega
   subst this;refine aP ?_;refine divK_rem (by decide) m0 (aP ?_);rw [hn];refine callX_ptr hNew (Nat.le_of_ble_eq_true rfl) (aP ?_);refine ⟨6,.tmp 7,[.tmp 8],2000672,_,rfl,rfl,rfl,?_,rfl,rfl⟩;refine .inl ⟨2000673,rfl,rfl,rfl,?_⟩
   repeat refine ⟨rfl,?_⟩
   exact .inl ⟨2000674,rfl,rfl,rfl,trivial⟩
 have hk2:k<pages.length:=by omega
 have en:(pages.take (k+1)).foldl newStep9 new0=newStep9 st pages[k]:=by rw [take_snoc hk2,List.foldl_append,<-hst];rfl
 refine aP ?_;refine idxK_nat (by omega) (w0 ?_);refine getRow_of (x:=encP pages[k]) (by simp [hk2]) (aW ?_);refine callX_pure (rsteps_ok ⟨st.1,[]⟩ pages[k]) (aW ?_);obtain ⟨x,hx⟩:∃ x,pages[k]=x:=⟨_,rfl⟩
 have hxs:(pages.map encP)[k]?=some (encP x):=by simp [hk2,hx]
 rw [hx] at en⊢
 have skip:¬(pgR x=true)->(pages.take (k+1)).foldl newStep9 new0=st:=fun g=>by rw [en,newStep9,if_neg g]
 have hj:((stepsR ⟨st.1,[]⟩ x).map encJ).length=(stepsR ⟨st.1,[]⟩ x).length:=List.length_map ..
 refine aP ?_
 refine bcase_p (fun h7=>?_) (fun h7=>?_)<;>conv=>whnf
 ·refine aP ?_
  exact ⟨(k+1,st),⟨by simp only [];omega,by simp only [];omega,(skip fun g=>by
   rw [hj,(stepsR_run9 hI g).1] at h7
   exact absurd h7 (show ¬((10:Nat):Int)=0 by decide)).symm,hI⟩,by simp only [];omega,(le0 (le_of_cov ⟨rfl,rfl,rfl,rfl,rfl,rfl,trivial⟩ ⟨rfl,rfl,trivial⟩ ⟨rfl,rfl,rfl,rfl⟩))⟩
 refine idxK_nat (by omega) (w0 ?_);refine getRow_of hxs (aP ?_)
 refine bcase_p (fun h8=>?_) (fun h8=>?_)<;>conv=>whnf
 ·refine aP ?_;exact ⟨(k+1,st),⟨by simp only [];omega,by simp only [];omega,(skip fun g=>by have:=(pgR_out.1 g).2.2.1;omega).symm,hI⟩,by simp only [];omega,(le0 (le_of_cov ⟨rfl,rfl,rfl,rfl,rfl,rfl,trivial⟩ ⟨rfl,rfl,trivial⟩ ⟨rfl,rfl,rfl,rfl⟩))⟩
 have hR:pgR x=true:=by
  cases e:pgR x with
  |true=>rfl
  |false=>
   rw [hj,stepsR_no9 hI e h8] at h7;exact absurd rfl h7
 obtain ⟨r1,r2⟩:=stepsR_run9 hI hR;rw [r1];refine aP ?_;refine callX_pure (rrun_ok ⟨st.1,[]⟩ (planJ x.1.toNat (putB x)) 99 (show (10:Nat) <=1000000 by decide)) (aW ?_);rw [r2];refine aP ?_;obtain ⟨q,hq,q1,q16⟩:=pg_nat hR;have hI2:=hI.put hR;have en2:=en;rw [newStep9,if_pos hR] at en2;have hlen:(pL st.2).length=51:=rfl;refine idxK_nat (by omega) (w0 ?_);refine getRow_of hxs (aP ?_);refine idxK_nat (by omega) (w0 ?_);refine getRow_of hxs (aP ?_);refine idxK_int (by omega) (by omega) (w0 ?_)
 try (refine condK_of rfl ?_)
 refine (store_at (l:=pL st.2) (l2:=encP x) (l3:=pL (ud st.2 x.1.toNat x)) (by first|rfl|simp only [killC_d]) rfl (by first|omega|(simp only [szs];omega)) (by first|omega|(simp only [szs];omega)) rfl (pL_setP (by simp only [szs];omega) (by omega) _) ?_)
 conv=>whnf
 refine aA ?_;exact ⟨(k+1,(putD st.1 x,ud st.2 x.1.toNat x)),⟨by simp only [];omega,by simp only [];omega,en2.symm,hI2⟩,by simp only [];omega,(le0 (le_of_cov ⟨rfl,rfl,rfl,rfl,rfl,rfl,trivial⟩ ⟨rfl,rfl,trivial⟩ ⟨rfl,rfl,rfl,rfl⟩))⟩
theorem Inv.wr9 {p P W u} (h:Inv p P W 2147483647 u) {q i:Nat} (hA:AtF p.f (q:Int) i) {b:ByteArray} (hb:b.size<=16) (hv:(P q).2.1<2147483647) {l:List (Int×Int)} (hr:Dt.rightB l=true) (hl:∀ y∈l,(y∈p.f.dt\/y.1=(q:Int)) /\y.2<=p.now) (hl2:∀ y∈p.f.dt,y∈l) (hd:∃ y∈l,y.1=(q:Int)):
  Inv ⟨⟨p.f.fr,p.f.hand,p.f.tb,p.f.pg.set i (wrPg (p.f.pg[i]'hA.hp) b),l⟩,p.d,p.now⟩ (ud P q (wrPg (P q) b)) W 2147483647 u:=by
 have hi:=hA.hi;have hip:=hA.hp;have hg:=pgR_out.1 hA.pgr;have ePg:=h.at_ q i hA;rw [<-ePg] at hv;have hx:pgR (wrPg (p.f.pg[i]'hA.hp) b)=true:=pgR_out.2 ⟨hg.1,hg.2.1,by show 1<= (p.f.pg[i]'hA.hp).2.1+1;omega,by show (p.f.pg[i]'hA.hp).2.1+1<=_;omega,hb⟩
 have hm:=FM.wrote hA hx hA.pg hr fun y hy=>(hl y hy).1
 refine ⟨⟨hm,h.pj.rest,h.pj.ca,h.pj.z0,h.pj.n0,h.pj.n1,fun x hx=>(hl x hx).2⟩,h.pins,fun k j hB=>?_,⟨fun k k1 k16 hk=>?_,fun k k1 k16=>?_,fun k=>?_⟩,h.ub⟩
 ·have hC:=atF_of h.pj.fm (by have:=hB.p1;omega) hB.hi hB.fr;have hj2:j<(p.f.pg.set i (wrPg (p.f.pg[i]'hA.hp) b)).length:=hB.hp;show (p.f.pg.set i (wrPg (p.f.pg[i]'hA.hp) b))[j]'hj2=_
  by_cases e:k=q
  ·subst e;have:j=i:=hA.uni hC.hi hC.fr;subst this;rw [List.getElem_set_self,ud_at,ePg]
  ·have hne:i≠j:=fun e2=>by
    subst e2;have:=hA.fr.symm.trans hC.fr;omega
   rw [List.getElem_set_ne hne,ud_ne _ _ e];exact h.at_ k j hC
 ·have hne:k≠q:=fun e=>by subst e;obtain ⟨y,hy,ey⟩:=hd;exact hk y hy ey
  rw [ud_ne _ _ hne]
  exact h.on.dsk k k1 k16 fun x hx=>hk x (hl2 x hx)
 ·by_cases e:k=q
  ·subst e;rw [ud_at,<-ePg];exact .inr ⟨hx,hA.pg⟩
  ·rw [ud_ne _ _ e];exact h.on.okp k k1 k16
 ·by_cases e:k=q
  ·subst e;rw [ud_at,<-ePg];show (p.f.pg[i]'hA.hp).2.1+1<=2147483647;omega
  ·rw [ud_ne _ _ e];exact h.on.vb k
theorem look9 {p P W u} (h:Inv p P W 2147483647 u) {q i:Nat} (hA:AtF p.f (q:Int) i):lookS p.f q=((i:Int),0):=by
 rw [lookS,if_pos (fm_iff.2 hA.right),(find_mem hA.right.tb).2 ⟨hA.p1,hA.mem⟩];rfl
theorem write9 {p P W u} (h:Inv p P W 2147483647 u) {q i:Nat} (hv:(P q).2.1<2147483647) (hA:AtF p.f (q:Int) i) (hp:(p.f.fr[i]'hA.hi).2.1≠0) {b:ByteArray} (hb:b.size<=16):
  ∃ f',writeS p.f q b p.now=(f',0) /\Inv ⟨f',p.d,p.now⟩ (ud P q (wrPg (P q) b)) W 2147483647 u/\atP f'.pg i=wrPg (P q) b/\f'.fr=p.f.fr:=by
 have hip:=hA.hp;have hi:=hA.hi;have e:=look9 h hA;have ePg:=h.at_ q i hA;have hvq:=hv;rw [<-ePg] at hvq;have hm:=mark_any h.pj.fm hA.p1 hA.p16 h.pj.n0 h.pj.n1 h.pj.dt;obtain ⟨c1,c2,c3,c4⟩:=mark_cases (l:=p.f.dt) (p:=(q:Int)) (t:=p.now) (by rw [hm]);rw [hm] at c1 c2 c3 c4;refine ⟨⟨p.f.fr,p.f.hand,p.f.tb,p.f.pg.set i (wrPg (p.f.pg[i]'hA.hp) b),(if 0<=Dt.placeG p.f.dt q 0 then p.f.dt else p.f.dt++[((q:Int),p.now)])⟩,?_,?_,?_,rfl⟩
 ·rw [writeS,e,if_neg (fun q=>q rfl),Int.toNat_natCast,atF_eq hi,if_neg hp,if_neg (by omega),atP_eq hip,if_neg (by omega),hm,if_neg (fun q=>q rfl)]
 ·refine h.wr9 hA hb hv c1 (fun y hy=>⟨c2 y hy,?_⟩) c3 c4
  split at hy
  ·exact h.pj.dt y hy
  ·rcases List.mem_append.1 hy with g|g
   ·exact h.pj.dt y g
   ·rw [List.mem_singleton] at g;subst g;exact Int.le_refl _
 ·show atP (p.f.pg.set i _) i=_;rw [atP_eq (by rw [List.length_set];exact hip),List.getElem_set_self,ePg]
theorem write7 {p P W u} (h:Inv p P W 2147483647 u) {q i:Nat} (hv:(P q).2.1=2147483647) (hA:AtF p.f (q:Int) i) (hp:(p.f.fr[i]'hA.hi).2.1≠0) {b:ByteArray} (hb:b.size<=16):(writeS p.f q b p.now).2=7:=by
 have e:=look9 h hA;have hip:=hA.hp;have ePg:=h.at_ q i hA;rw [writeS,e,if_neg (fun q=>q rfl),Int.toNat_natCast,atF_eq hA.hi,if_neg hp,if_neg (by omega),atP_eq hip,if_pos (by rw [ePg];omega)]
theorem fetch9 {p P W u} (h:Inv p P W 2147483647 u) (hu0:0<=u) (hu:u<2147483647) {q:Nat} (h1:1<=q) (h16:q<=16) {n:Nat} (hl:p.f.fr.length=n):Did p 2147483647 (u+1) (thereM P W n 1 q) (poolFetch p q):=by
 rw [thereM,if_neg (show ¬((1:Int)=2/\ (P q).1≠0) from fun g=>absurd g.1 (by decide)),if_neg (show ¬((1:Int)=2) by decide)];rw [poolFetch]
 rcases h.where h1 with hn|⟨i,hA⟩
 ·rw [findF_no h.pj.fm hn (by omega),if_neg (show ¬false=true by decide),h.pj.get h1 h16,h.on.dsk q h1 h16 (h.out h1 hn)]
  by_cases hz:(P q).1=0
  ·rw [if_pos hz,if_pos ⟨rfl,hz⟩,if_pos (show (3:Int)≠0 by decide)];exact Did.same (h.mono (Int.le_refl _) (by omega)) zP 3
  ·rw [if_neg hz,if_neg (fun g=>hz g.2),if_neg (show ¬((0:Int)≠0) from fun g=>g rfl)];obtain ⟨x1,x2⟩:=h.on.nz h1 h16 hz;exact load_did (h.mono (Int.le_refl _) (show u<=u+1 by omega)) (by omega) h1 h16 hn x1 x2 false (fun _=>rfl) (h.on.vb q) hl
 ·have hi:=hA.hi;have hip:=hA.hp;have hk:=frOk_out.1 (h.pj.fm.ck.all i hi);have hub:=h.ub q;have hw:=h.wat hA;rw [hw] at hub;have hpin:=pinS_yes hA (by omega)
  have hbz:¬(W q=0/\bn W 16=n):=fun g=>by
   rw [<-hl] at g;exact h.busy.1 g.2 i hi (by rw [<-hw];exact g.1)
  rw [if_neg (fun g=>h.nz hA g.2),if_neg hbz,findF_at hA,if_pos rfl,hpin,if_neg (fun g=>g rfl),Int.toNat_natCast]
  have e1:atP (withF p.f i (upPin p.f.fr[i])).pg i=P q:=by
   rw [<-h.at_ q i hA];exact atP_eq hip
  have hin:=h.pin hA (y:=upPin p.f.fr[i]) (frOk_out.2 ⟨hk.1,hk.2.1,by show 0<= (p.f.fr[i]).2.1+1;omega,by show (p.f.fr[i]).2.1+1<=_;omega⟩) hA.fr (u':=u+1) (by show (p.f.fr[i]).2.1+1<=_;omega) (by omega);rw [ud_self,e1];refine ⟨rfl,rfl,?_,rfl,by show (p.f.fr.set i _).length=_;rw [List.length_set],rfl,by simp,fun g=>absurd rfl g⟩
  rw [hw];exact hin
theorem create9 {p P W u} (h:Inv p P W 2147483647 u) (hu0:0<=u) (hu:u<2147483647) {q:Nat} (h1:1<=q) (h16:q<=16) {n:Nat} (hl:p.f.fr.length=n):Did p 2147483647 (u+1) (thereM P W n 2 q) (poolCreate p q):=by
 rw [thereM,if_neg (show ¬((2:Int)=1/\ (P q).1=0) from fun g=>absurd g.1 (by decide)),if_pos (show ((2:Int)=2) from rfl)];rw [poolCreate]
 rcases h.where h1 with hn|⟨i,hA⟩
 ·rw [findF_no h.pj.fm hn (by omega),if_neg (show ¬false=true by decide),h.pj.get h1 h16,h.on.dsk q h1 h16 (h.out h1 hn)]
  by_cases hz:(P q).1=0
  ·rw [if_pos hz,if_neg (fun g=>g.2 hz),if_pos rfl];exact load_did (h.mono (Int.le_refl _) (show u<=u+1 by omega)) (by omega) h1 h16 hn (x:=newP q) (pg1_ok (by omega) (by omega)) rfl true (fun g=>by cases g) (by show (1:Int) <=2147483647;decide) hl
  ·rw [if_neg hz,if_pos ⟨rfl,hz⟩,if_neg (show ¬(0:Int)=3 by decide),if_pos rfl];exact Did.same (h.mono (Int.le_refl _) (by omega)) zP 4
 ·rw [if_pos ⟨rfl,h.nz hA⟩,findF_at hA,if_pos rfl];exact Did.same (h.mono (Int.le_refl _) (by omega)) zP 4
theorem hasPins9 {p P W u} (h:Inv p P W 2147483647 u) {q:Nat} (h1:1<=q) (h16:q<=16):hasPinsM p q=decide (0<W q):=by
 rw [hasPinsM]
 rcases h.where h1 with hn|⟨i,hA⟩
 ·rw [findF_no h.pj.fm hn (by omega),h.wout h1 h16 hn];rfl
 ·rw [findF_at hA,h.wat hA,Int.toNat_natCast,atF_eq hA.hi];rfl
theorem pinned9 {p P W u} (h:Inv p P W 2147483647 u) {q i:Nat} (hA:AtF p.f (q:Int) i) (hz:(p.f.fr[i]'hA.hi).2.1≠0) (b:ByteArray) (h1:1<=q) (h16:q<=16):
  poolDo p (3,(q:Int),b)=(p,P q,[],0) /\
  (∃ p' r,poolDo p (4,(q:Int),b)=(p',r.2,[],r.1) /\p'.now=p.now/\p'.f.fr.length=p.f.fr.length/\
   if 16<b.size then r=(5,zP) /\p'=p else if (P q).2.1=2147483647 then r=(7,zP) /\p'=p else r=(0,wrPg (P q) b) /\Inv p' (ud P q (wrPg (P q) b)) W 2147483647 u) /\
  ∃ p',poolDo p (5,(q:Int),b)=(p',zP,[],0) /\Inv p' P (ud W q (W q-1)) 2147483647 u/\p'.now=p.now/\p'.f.fr.length=p.f.fr.length:=by
 have hi:=hA.hi;have hip:=hA.hp;have hw:=h.wat hA;have hko:=frOk_out.1 (h.pj.fm.ck.all i hi);refine ⟨?_,?_,?_⟩
 ·rw [do_pinned (show 1<= (q:Int) by omega) (show (q:Int) <=16 by omega) (.inl rfl),pinned_at (a:=(3,(q:Int),b)) hA hz,if_neg (show ¬(3:Int)=4 by decide),if_neg (show ¬(3:Int)=5 by decide),h.at_ q i hA]
 ·rw [do_pinned (show 1<= (q:Int) by omega) (show (q:Int) <=16 by omega) (.inr (.inl rfl)),pinned_at (a:=(4,(q:Int),b)) hA hz,if_pos rfl]
  by_cases hb:16<b.size
  ·have e:writeS p.f q b p.now=(p.f,5):=by
    rw [writeS,look9 h hA,if_neg (fun q=>q rfl),Int.toNat_natCast,atF_eq hi,if_neg hz,if_pos hb]
   refine ⟨p,(5,zP),?_,rfl,rfl,?_⟩
   ·simp only [e];rfl
   ·rw [if_pos hb];exact ⟨rfl,rfl⟩
  ·by_cases hv:(P q).2.1=2147483647
   ·have e:=write7 h hv hA hz (b:=b) (by omega);refine ⟨p,(7,zP),?_,rfl,rfl,?_⟩
    ·simp only [e];rfl
    ·rw [if_neg hb,if_pos hv];exact ⟨rfl,rfl⟩
   ·have hvb:=h.on.vb q;obtain ⟨f',e1,e2,e3,e4⟩:=write9 h (by omega) hA hz (b:=b) (by omega);refine ⟨⟨f',p.d,p.now⟩,(0,wrPg (P q) b),?_,rfl,by show f'.fr.length=_;rw [e4],?_⟩
    ·simp only [e1];rw [if_neg (fun g=>g rfl),e3]
    ·rw [if_neg hb,if_neg hv];exact ⟨rfl,e2⟩
 ·rw [do_pinned (show 1<= (q:Int) by omega) (show (q:Int) <=16 by omega) (.inr (.inr rfl)),pinned_at (a:=(5,(q:Int),b)) hA hz,if_neg (show ¬(5:Int)=4 by decide),if_pos rfl,unpinS_yes hA hz,if_neg (fun g=>g rfl)];have hub:=h.ub q;rw [hw] at hub;have hin:=h.pin hA (y:=downPin p.f.fr[i]) (frOk_out.2 ⟨hko.1,hko.2.1,by show 0<= (p.f.fr[i]).2.1-1;omega,by show (p.f.fr[i]).2.1-1<=_;omega⟩) hA.fr (u':=u) (by show (p.f.fr[i]).2.1-1<=_;omega) (Int.le_refl _);refine ⟨_,rfl,?_,rfl,by show (p.f.fr.set i _).length=_;rw [List.length_set]⟩
  rw [hw];exact hin
def mdoc (P:Nat->Pg) (o:MOp):(Nat->Pg)×MRes:=
 if o.1=1 then (if (P o.2.1.toNat).1≠0 then (P,(4,zP)) else (ud P o.2.1.toNat (newP o.2.1.toNat),(0,newP o.2.1.toNat)))
 else if (P o.2.1.toNat).1=0 then (P,(3,zP))
 else if o.1=2 then (P,(0,P o.2.1.toNat))
 else if o.1=3 then (if 16<o.2.2.size then (P,(5,zP)) else if (P o.2.1.toNat).2.1=2147483647 then (P,(7,zP)) else (ud P o.2.1.toNat (wrPg (P o.2.1.toNat) o.2.2),(0,wrPg (P o.2.1.toNat) o.2.2)))
 else (ud P o.2.1.toNat zP,(0,zP))
structure DocI (p:PS) (P:Nat->Pg) (n:Nat):Prop where
 inv:Inv p P (fun _=>0) 2147483647 0
 len:p.f.fr.length=n
theorem Inv.u0 {p P u} (h:Inv p P (fun _=>0) 2147483647 u):Inv p P (fun _=>0) 2147483647 0:=⟨h.pj,h.pins,h.at_,h.on,fun _=>Int.le_refl _⟩
theorem ud_back (q:Nat):ud (ud (fun _=>(0:Int)) q 1) q ((ud (fun _=>(0:Int)) q 1) q-1)=fun _=>0:=by
 funext k
 by_cases e:k=q
 ·subst e;rw [ud_at,ud_at];rfl
 ·rw [ud_ne _ _ e,ud_ne _ _ e]
theorem back0 {p P u} (h:Inv p P (fun _=>0) 2147483647 u) (o:MOp) {q:Nat} (ho:o.2.1=(q:Int)) (h1:1<=q) (h16:q<=16) (r:MRes):backP o (p,r)=(p,r):=by
 rw [backP,if_neg];show ¬hasPinsM p o.2.1=true
 rw [ho,hasPins9 h h1 h16];decide
theorem pin_at {p P u} {q:Nat} (h:Inv p P (ud (fun _=>0) q 1) 2147483647 u) (h1:1<=q) (h16:q<=16):∃ i,∃ hA:AtF p.f (q:Int) i,(p.f.fr[i]'hA.hi).2.1≠0:=by
 rcases h.where h1 with hn|⟨i,hA⟩
 ·have:=h.wout h1 h16 hn
  rw [ud_at] at this;cases this
 ·refine ⟨i,hA,?_⟩
  rw [<-h.wat hA,ud_at];decide
theorem back1 {p P u} {q:Nat} (h:Inv p P (ud (fun _=>0) q 1) 2147483647 u) (o:MOp) (ho:o.2.1=(q:Int)) (h1:1<=q) (h16:q<=16) (r:MRes):
  ∃ p',backP o (p,r)=(p',r) /\Inv p' P (fun _=>0) 2147483647 0/\p'.now=p.now/\p'.f.fr.length=p.f.fr.length:=by
 obtain ⟨i,hA,hz⟩:=pin_at h h1 h16;obtain ⟨_,_,p',e,i',n',l'⟩:=pinned9 h hA hz ByteArray.empty h1 h16;rw [ud_back] at i';refine ⟨p',?_,i'.u0,n',l'⟩
 have hp:hasPinsM p o.2.1=true:=by rw [ho,hasPins9 h h1 h16,ud_at];rfl
 rw [backP,if_pos hp];simp only [];rw [ho,e];simp only [];rw [if_neg (fun g=>g.2 rfl)]
theorem do1 (p:PS) {q:Nat} (h1:1<=q) (h16:q<=16) (b:ByteArray):poolDo p (1,(q:Int),b)=poolFetch p q:=by
 rw [poolDo,if_neg (show ¬((1:Int)<1\/ (8:Int)<1) by decide),if_neg (show ¬((1:Int)≠8/\ ((q:Int)<1\/16<(q:Int))) by omega),if_pos rfl]
theorem do2 (p:PS) {q:Nat} (h1:1<=q) (h16:q<=16) (b:ByteArray):poolDo p (2,(q:Int),b)=poolCreate p q:=by
 rw [poolDo,if_neg (show ¬((2:Int)<1\/ (8:Int)<2) by decide),if_neg (show ¬((2:Int)≠8/\ ((q:Int)<1\/16<(q:Int))) by omega),if_neg (show ¬(2:Int)=1 by decide),if_pos rfl]
theorem do6 (p:PS) {q:Nat} (h1:1<=q) (h16:q<=16) (b:ByteArray):poolDo p (6,(q:Int),b)=poolRemove p q:=by
 rw [poolDo,if_neg (show ¬((6:Int)<1\/ (8:Int)<6) by decide),if_neg (show ¬((6:Int)≠8/\ ((q:Int)<1\/16<(q:Int))) by omega),if_neg (show ¬(6:Int)=1 by decide),if_neg (show ¬(6:Int)=2 by decide),if_pos rfl]
theorem act_err {p p':PS} {x:Pg} {l:List Jo} {e k:Int} {ks:List Int} {o:MOp} {r:MRes} (h:poolDo p (k,o.2.1,o.2.2)=(p',x,l,e)) (he:e≠0):actG o (k::ks) p r=(p',(e,zP)):=by
 rw [actG];simp only [h];rw [if_pos he]
theorem act_go {p p':PS} {x:Pg} {l:List Jo} {k:Int} {ks:List Int} {o:MOp} {r:MRes} (h:poolDo p (k,o.2.1,o.2.2)=(p',x,l,0)):actG o (k::ks) p r=actG o ks p' (r.1,x):=by
 rw [actG];simp only [h];rw [if_neg (fun g=>g rfl)]
theorem nofull {n:Nat} (hn:1<=n) (q:Nat):¬((fun _=>(0:Int)) q=0/\bn (fun _=>(0:Int)) 16=n):=fun g=>by
 have:bn (fun _=>(0:Int)) 16=0:=rfl;omega
theorem work9 {p P n} (h:DocI p P n) (hn:1<=n) (o:MOp) (hr:refB o=false):
  (workP p o).2=(mdoc P o).2/\DocI (workP p o).1 (mdoc P o).1 n:=by
 obtain ⟨h,hl⟩:=h;obtain ⟨⟨k1,k4⟩,q1,q16⟩:=refB_f hr;obtain ⟨k,id,b⟩:=o;simp only [] at k1 k4 q1 q16;obtain ⟨q,rfl⟩:∃ q:Nat,id=q:=⟨id.toNat,by omega⟩
 have h1:1<=q:=by omega
 have h16:q<=16:=by omega
 have key:∀ {p':PS} {P':Nat->Pg} {r:MRes},workP p (k,(q:Int),b)=(p',r)->Inv p' P' (fun _=>0) 2147483647 0->p'.f.fr.length=p.f.fr.length->mdoc P (k,(q:Int),b)=(P',r)->
   (workP p (k,(q:Int),b)).2=(mdoc P (k,(q:Int),b)).2/\DocI (workP p (k,(q:Int),b)).1 (mdoc P (k,(q:Int),b)).1 n:=by
  intro p' P' r e i m d;rw [e,d];exact ⟨rfl,i,m.trans hl⟩
 have hk:k=1\/k=2\/k=3\/k=4:=by omega
 by_cases hz:(P q).1=0
 ·rcases hk with rfl|hk
  ·have d:=create9 h (Int.le_refl _) (by decide) h1 h16 hl;rw [thereM,if_neg (fun g=>absurd g.1 (by decide)),if_neg (fun g=>g.2 hz),if_neg (nofull hn q),if_pos rfl] at d;obtain ⟨p1,l,e,i1,n1,m1,_⟩:=d.eq;rw [<-do2 p h1 h16 b] at e;obtain ⟨p2,e2,i2,n2,m2⟩:=back1 i1 (1,(q:Int),b) rfl h1 h16 (0,newP q);refine key (p':=p2) (P':=ud P q (newP q)) (r:=(0,newP q)) ?_ i2 (m2.trans m1) ?_
   ·rw [workP,show actsK 1=[2] from rfl,act_go (o:=(1,(q:Int),b)) e];exact e2
   ·rw [mdoc,if_pos rfl,if_neg (fun g=>g (by simpa using hz))];simp
  ·have hmd:mdoc P (k,(q:Int),b)=(P,(3,zP)):=by
    rw [mdoc,if_neg (by show ¬k=1;omega),if_pos (by simpa using hz)]
   by_cases h4:k=4
   ·subst h4;have d:=delete_did h (by decide) h1 h16;rw [if_neg (show ¬(0:Int)<0 by decide),if_pos hz] at d;obtain ⟨p1,l,e,i1,n1,m1,_⟩:=d.eq;rw [<-do6 p h1 h16 b] at e;refine key (p':=p1) (P':=P) (r:=(3,zP)) ?_ i1.u0 m1 hmd;rw [workP,show actsK 4=[6] from rfl,act_err (o:=(4,(q:Int),b)) e (by decide)];exact back0 i1 _ rfl h1 h16 _
   ·have d:=fetch9 h (Int.le_refl _) (by decide) h1 h16 hl;rw [thereM,if_pos ⟨rfl,hz⟩] at d;obtain ⟨p1,l,e,i1,n1,m1,_⟩:=d.eq;rw [<-do1 p h1 h16 b] at e;refine key (p':=p1) (P':=P) (r:=(3,zP)) ?_ i1.u0 m1 hmd
    obtain ⟨ks,hks⟩:∃ ks,actsK k=1::ks:=by
     rcases hk with rfl|rfl|rfl
     ·exact ⟨_,rfl⟩
     ·exact ⟨_,rfl⟩
     ·exact absurd rfl h4
    rw [workP,show actsK (k,(q:Int),b).1=1::ks from hks,act_err (o:=(k,(q:Int),b)) e (by decide)];exact back0 i1 _ rfl h1 h16 _
 ·have fet:∃ p1 l,poolDo p (1,(q:Int),b)=(p1,P q,l,0) /\Inv p1 P (ud (fun _=>0) q 1) 2147483647 1/\p1.f.fr.length=p.f.fr.length:=by
   have d:=fetch9 h (Int.le_refl _) (by decide) h1 h16 hl;rw [thereM,if_neg (fun g=>hz g.2),if_neg (fun g=>absurd g.1 (by decide)),if_neg (nofull hn q),if_neg (by decide),ud_self] at d;obtain ⟨p1,l,e,i1,n1,m1,_⟩:=d.eq;rw [<-do1 p h1 h16 b] at e;exact ⟨p1,l,e,i1,m1⟩
  rcases hk with rfl|rfl|rfl|rfl
  ·have d:=create9 h (Int.le_refl _) (by decide) h1 h16 hl;rw [thereM,if_neg (fun g=>absurd g.1 (by decide)),if_pos ⟨rfl,hz⟩] at d;obtain ⟨p1,l,e,i1,n1,m1,_⟩:=d.eq;rw [<-do2 p h1 h16 b] at e;refine key (p':=p1) (P':=P) (r:=(4,zP)) ?_ i1.u0 m1 ?_
   ·rw [workP,show actsK 1=[2] from rfl,act_err (o:=(1,(q:Int),b)) e (by decide)];exact back0 i1 _ rfl h1 h16 _
   ·rw [mdoc,if_pos rfl,if_pos (by simpa using hz)]
  ·obtain ⟨p1,l,e,i1,m1⟩:=fet;obtain ⟨i,hA,hp⟩:=pin_at i1 h1 h16;have e2:=(pinned9 i1 hA hp b h1 h16).1;obtain ⟨p2,e3,i2,n2,m2⟩:=back1 i1 (2,(q:Int),b) rfl h1 h16 (0,P q);refine key (p':=p2) (P':=P) (r:=(0,P q)) ?_ i2 (m2.trans m1) ?_
   ·rw [workP,show actsK 2=[1,3] from rfl,act_go (o:=(2,(q:Int),b)) e,act_go (o:=(2,(q:Int),b)) e2];exact e3
   ·rw [mdoc,if_neg (show ¬(2:Int)=1 by decide),if_neg (by simpa using hz),if_pos rfl];simp
  ·obtain ⟨p1,l,e,i1,m1⟩:=fet;obtain ⟨i,hA,hp⟩:=pin_at i1 h1 h16;obtain ⟨p2,r,e2,n2,m2,c⟩:=(pinned9 i1 hA hp b h1 h16).2.1
   have fin:∀ {P':Nat->Pg},Inv p2 P' (ud (fun _=>0) q 1) 2147483647 1->(r.1≠0->r.2=zP)->mdoc P (3,(q:Int),b)=(P',r)->
     (workP p (3,(q:Int),b)).2=(mdoc P (3,(q:Int),b)).2/\DocI (workP p (3,(q:Int),b)).1 (mdoc P (3,(q:Int),b)).1 n:=by
    intro P' i2 hr0 d;obtain ⟨p3,e3,i3,n3,m3⟩:=back1 i2 (3,(q:Int),b) rfl h1 h16 r;refine key (p':=p3) (P':=P') (r:=r) ?_ i3 (m3.trans (m2.trans m1)) d;rw [workP,show actsK 3=[1,4] from rfl,act_go (o:=(3,(q:Int),b)) e]
    by_cases hr0':r.1=0
    ·rw [hr0'] at e2;rw [act_go (o:=(3,(q:Int),b)) e2];rw [show ((0,r.2):MRes)=r by rw [<-hr0']];exact e3
    ·rw [act_err (o:=(3,(q:Int),b)) e2 hr0',show ((r.1,zP):MRes)=r by rw [<-hr0 hr0']];exact e3
   have hmd:mdoc P (3,(q:Int),b)=(if 16<b.size then (P,(5,zP)) else if (P q).2.1=2147483647 then (P,(7,zP)) else (ud P q (wrPg (P q) b),(0,wrPg (P q) b))):=by
    rw [mdoc,if_neg (show ¬(3:Int)=1 by decide),if_neg (by simpa using hz),if_neg (show ¬(3:Int)=2 by decide),if_pos rfl];simp
   by_cases hb:16<b.size
   ·rw [if_pos hb] at c hmd;obtain ⟨rfl,rfl⟩:=c;exact fin i1 (fun _=>rfl) hmd
   ·rw [if_neg hb] at c hmd
    by_cases hv:(P q).2.1=2147483647
    ·rw [if_pos hv] at c hmd;obtain ⟨rfl,rfl⟩:=c;exact fin i1 (fun _=>rfl) hmd
    ·rw [if_neg hv] at c hmd;obtain ⟨rfl,i2⟩:=c;exact fin i2 (fun g=>absurd rfl g) hmd
  ·have d:=delete_did h (by decide) h1 h16;rw [if_neg (show ¬(0:Int)<0 by decide),if_neg hz] at d;obtain ⟨p1,l,e,i1,n1,m1,_⟩:=d.eq;rw [<-do6 p h1 h16 b] at e;refine key (p':=p1) (P':=ud P q zP) (r:=(0,zP)) ?_ i1.u0 m1 ?_
   ·rw [workP,show actsK 4=[6] from rfl,act_go (o:=(4,(q:Int),b)) e];exact back0 i1 _ rfl h1 h16 _
   ·rw [mdoc,if_neg (show ¬(4:Int)=1 by decide),if_neg (by simpa using hz),if_neg (show ¬(4:Int)=2 by decide),if_neg (show ¬(4:Int)=3 by decide)];simp
def oA:MOp:=(1,1,ByteArray.empty)
def wkA:List (List MOp):=[[oA]]
def mA (p:PS) (w:WA) (h:HA) (l:LA) (c:Int) (ev:List EvA):MS:=⟨[w],p,h,(List.replicate 17 noLA).set 1 l,⟨0,false,[none],0,[]⟩,c,ev⟩
theorem aw0 (p:PS):newMS p 1 wkA=mA p (newWA [oA]) ⟨1,[],[]⟩ noLA 0 []:=rfl
theorem aw1 (p:PS):stepM (mA p (newWA [oA]) ⟨1,[],[]⟩ noLA 0 []) 0=(mA p ⟨[oA],0,1,false,false,0,0,(0,zP)⟩ ⟨1,[(0,false)],[]⟩ noLA 1 [],true):=rfl
theorem aw2 (p:PS):stepM (mA p ⟨[oA],0,1,false,false,0,0,(0,zP)⟩ ⟨1,[(0,false)],[]⟩ noLA 1 []) 0=(mA p ⟨[oA],0,2,true,false,0,0,(0,zP)⟩ ⟨1,[(0,false)],[]⟩ ⟨[0],true,[]⟩ 2 [],true):=rfl
theorem aw3 (p:PS):stepM (mA p ⟨[oA],0,2,true,false,0,0,(0,zP)⟩ ⟨1,[(0,false)],[]⟩ ⟨[0],true,[]⟩ 2 []) 0=(mA p ⟨[oA],0,3,true,false,0,0,(0,zP)⟩ ⟨1,[(0,false)],[]⟩ ⟨[0],true,[]⟩ 3 [],true):=rfl
theorem aw4 (p:PS):stepM (mA p ⟨[oA],0,3,true,false,0,0,(0,zP)⟩ ⟨1,[(0,false)],[]⟩ ⟨[0],true,[]⟩ 3 []) 0=(mA p ⟨[oA],0,5,true,true,0,0,(0,zP)⟩ ⟨1,[(0,true)],[]⟩ ⟨[0],true,[]⟩ 4 [],true):=by
 show (if hasF p 1=false/\ ((1:Int)=2\/ (1:Int)=3) then _ else _)=_;rw [if_neg (fun g=>absurd g.2 (by decide))];rfl
theorem aw5 (p:PS):stepM (mA p ⟨[oA],0,5,true,true,0,0,(0,zP)⟩ ⟨1,[(0,true)],[]⟩ ⟨[0],true,[]⟩ 4 []) 0=(mA (workP p oA).1 ⟨[oA],0,6,true,true,0,4,(workP p oA).2⟩ ⟨1,[(0,true)],[]⟩ ⟨[0],true,[]⟩ 5 [],true):=rfl
theorem aw6 (p:PS) (r:MRes):stepM (mA p ⟨[oA],0,6,true,true,0,4,r⟩ ⟨1,[(0,true)],[]⟩ ⟨[0],true,[]⟩ 5 []) 0=(mA p ⟨[oA],1,0,false,false,0,0,(0,zP)⟩ ⟨1,[],[]⟩ noLA 6 [⟨0,oA,r,0,4,5⟩],true):=rfl
theorem aw7 (p:PS) (c:Int) (ev:List EvA):stepM (mA p ⟨[oA],1,0,false,false,0,0,(0,zP)⟩ ⟨1,[],[]⟩ noLA c ev) 0=(mA p ⟨[oA],1,0,false,false,0,0,(0,zP)⟩ ⟨1,[],[]⟩ noLA (c+1) ev,false):=rfl
noncomputable def awk:Nat->MS
 |0=>newMS (p0 1) 1 wkA
 |k+1=>(stepM (awk k) 0).1
theorem p0_doc {n:Nat} (h1:1<=n) (h8:n<=8):DocI (p0 n) (fun _=>zP) n:=⟨(p0_inv h1 h8).mono (by decide) (by decide),List.length_replicate ..⟩
theorem takeM_r {s:ByteArray} (h:(takeM s).2=0):pgR (takeM s).1=true:=by
 rw [takeM] at h⊢
 split at h
 ·cases h
 rw [if_neg (by assumption)]
 split at h
 ·cases h
 rw [if_neg (by assumption)]
 split at h
 ·cases h
 rw [if_neg (by assumption)]
 split at h
 ·rename_i g;rw [if_pos g];exact g.1
 ·cases h
theorem getR_r {s:List ByteArray} {q:Nat} (h:(getR s q).2=0):pgR (getR s q).1=true/\ (getR s q).1.1=(q:Int):=by
 rw [getR] at h⊢
 split at h
 ·rename_i g;exact absurd h g
 rename_i g;rw [if_neg g]
 split at h
 ·cases h
 rename_i g2;rw [if_neg g2];exact ⟨takeM_r (by simpa using g),by simpa using g2⟩
theorem pages_pairwise {f:Nat->Option Pg} (hf:∀ k x,f k=some x->x.1=(k:Int)+1) (n:Nat):((List.range n).filterMap f).Pairwise fun a b=>a.1<b.1:=by
 rw [List.pairwise_filterMap]
 refine List.pairwise_lt_range.imp fun {a b} hab x hx y hy=>?_
 have:=hf a x hx;have:=hf b y hy;omega
theorem mr_of {l:List Pg} (h1:∀ x∈l,pgR x=true) (h2:l.Pairwise fun a b=>a.1<b.1):Hy.MRight l:=
 ⟨h1,fun i hi=>(List.pairwise_iff_getElem.1 h2) i (i+1) (by omega) hi (by omega)⟩
theorem getO_yes {l:List Pg} (h1:∀ x∈l,pgR x=true) (h2:l.Pairwise fun a b=>a.1<b.1) {x:Pg} (hx:x∈l):getO l x.1=(x,true):=by
 obtain ⟨i,hi,rfl⟩:=List.mem_iff_getElem.1 hx
 have e:Hy.plN l l[i].1=i:=Hy.plN_at hi (Int.le_refl _) fun j hj hjl=>(List.pairwise_iff_getElem.1 h2) j i hjl hi hj
 rw [getO,if_pos ⟨Hy.mapB_t.2 (mr_of h1 h2),by rw [Hy.plB,e,List.getElem?_eq_getElem hi];simp⟩,e,List.getElem?_eq_getElem hi];rfl
theorem getO_no {l:List Pg} {id:Int} (h:∀ x∈l,x.1≠id):getO l id=(zP,false):=by
 rw [getO,if_neg];rintro ⟨_,g⟩;rw [Hy.plB] at g
 split at g
 ·rename_i p hp;exact h p (List.mem_of_getElem? hp) (by simpa using g)
 ·cases g
theorem stAt_of {d:DS} {k:Nat} {x:Pg} (hd:∀ q:Nat,1<=q->q<=16->getS d q=getR d.sec q) (hk:k<16) (h:stAt d k=some x):pgR x=true/\x.1=(k:Int)+1:=by
 have e:=hd (k+1) (by omega) (by omega);rw [show (((k+1:Nat):Int))=(k:Int)+1 by omega] at e;rw [stAt,e] at h
 split at h
 ·rename_i g
  cases h
  have:=getR_r g;exact ⟨this.1,by omega⟩
 ·cases h
theorem lsN_mem {d:DS} {x:Pg}:x∈lsN d 16↔∃ k,k<16/\stAt d k=some x:=by
 rw [lsN,List.mem_filterMap];simp [List.mem_range]
theorem fm_congr {f g:Nat->Option Pg} {n:Nat} (h:∀ k,k<n->f k=g k):(List.range n).filterMap f=(List.range n).filterMap g:=by
 induction n with
 |zero=>rfl
 |succ n ih=>rw [fm_succ,fm_succ,ih fun k hk=>h k (by omega),h n (by omega)]
theorem pages_doc {m:MS} {P:Nat->Pg} {n:Nat} (h:DocI m.p P n):pagesM m=bgN P 16:=by
 have hi:=h.inv
 have hd:∀ q:Nat,1<=q->q<=16->getS m.p.d q=getR m.p.d.sec q:=fun q h1 h16=>hi.pj.get h1 h16
 have r1:∀ x∈lsN m.p.d 16,pgR x=true:=fun x hx=>by
  obtain ⟨k,hk,e⟩:=lsN_mem.1 hx;exact (stAt_of hd hk e).1
 have r2:(lsN m.p.d 16).Pairwise fun a b=>a.1<b.1:=by
  have e:lsN m.p.d 16=(List.range 16).filterMap fun k=>if k<16 then stAt m.p.d k else none:=fm_congr fun k hk=>by rw [if_pos hk]
  rw [e];refine pages_pairwise (fun k x hx=>?_) 16
  split at hx
  ·rename_i hk;exact (stAt_of hd hk hx).2
  ·cases hx
 refine fm_congr fun k hk=>?_
 rw [pgAt,bgAt,show ((k:Int)+1)=((k+1:Nat):Int) by omega]
 rcases hi.where (q:=k+1) (by omega) with hn|⟨i,hA⟩
 ·rw [findF_no hi.pj.fm hn (by omega),if_neg (by decide)];have e:=hi.on.dsk (k+1) (by omega) (by omega) (hi.out (by omega) hn)
  by_cases hz:(P (k+1)).1=0
  ·rw [if_pos hz] at e;rw [getO_no,if_neg (by decide),if_neg (show ¬(P (k+1)).1≠0 from fun g=>g hz)];intro x hx ex;obtain ⟨j,hj,ej⟩:=lsN_mem.1 hx;have h2:=(stAt_of hd hj ej).2
   have:j=k:=by omega
   subst this;rw [stAt,show ((j:Int)+1)=((j+1:Nat):Int) by omega,hd (j+1) (by omega) (by omega),e,if_neg (by decide)] at ej
   cases ej
  ·rw [if_neg hz] at e;rw [if_pos hz]
   have hm:P (k+1)∈lsN m.p.d 16:=lsN_mem.2 ⟨k,hk,by
    rw [stAt,show ((k:Int)+1)=((k+1:Nat):Int) by omega,hd (k+1) (by omega) (by omega),e,if_pos rfl]⟩
   have:=getO_yes r1 r2 hm;rw [(hi.on.nz (q:=k+1) (by omega) (by omega) hz).2] at this;rw [this,if_pos rfl]
 ·rw [findF_at hA,if_pos rfl,if_pos (hi.nz hA)];simp only [Int.toNat_natCast];rw [atP_eq hA.hp,hi.at_ (k+1) i hA]
theorem MG.new {p:PS} {n:Nat} {work:List (List MOp)} (n1:1<=n) (n8:n<=8) (hp:p.f.fr.length=n) (hg:Gd 0 p) (t1:1<=work.length) (t4:work.length<=4):MG work 0 (newMS p n work):=
 ⟨new_mok n1 n8 hp t1 t4,hg,by
  show (work.map newWA).map (·.todo)=work;rw [List.map_map]
  exact List.map_id'' (fun _=>rfl) _,Int.le_refl _⟩
theorem DocI.gd {p P n} (h:DocI p P n):Gd p.now p:=⟨h.inv.pj.fm,by
 have:=h.inv.pj.rest.us
 rw [<-h.inv.pj.d] at this;exact this,rfl⟩
theorem awk_mg:∀ k,MG wkA 0 (awk k)
 |0=>MG.new (Nat.le_refl 1) (by decide) (List.length_replicate ..) (p0_doc (Nat.le_refl 1) (by decide)).gd (Nat.le_refl 1) (by decide)
 |k+1=>(awk_mg k).step 0
def mCk (k:Nat) (m:MS):List AV:=.own (k+1)::(m.p.box++(m.h.cells.map AV.d++(latC m.lat++((m.s.cells m.p.d).map AV.d++[.d (.int .i64 m.clk),.own (k+2)]))))
theorem wkA_60:∀ l∈wkA,l.length<=60:=fun l h=>by rw [wkA,List.mem_singleton] at h;subst h;decide
def stV (m:MS) (k:Nat):Int:=match m.ws[k]? with|some w=>(w.st:Int)|none=>0
theorem stateV_ok (m:MS) (k:Nat):HCall Tryz.prog 35 [.ptr 1000000 0 0,.d (.int .i64 k)] (mH m) (mH m) (.int .i64 (stV m k)):=by
 have h:=state_ok m k;rw [if_pos (by omega),Int.toNat_natCast] at h;exact h
def encU (x:Int):List D:=[.int .u8 x]
noncomputable def runMS (m:MS) (l:List (Int×Int)):MS:=l.foldl (fun m a=>(doMS m a).1) m
theorem run_snoc {l:List (Int×Int)} {k:Nat} (hk:k<l.length) (m:MS):runMS m (l.take (k+1))=(doMS (runMS m (l.take k)) l[k]).1:=by
 rw [runMS,take_snoc hk,List.foldl_append];rfl
theorem run_ind {Q:MS->Prop} (hQ:∀ m a,Q m->Q (doMS m a).1):∀ (l:List (Int×Int)) {m:MS},Q m->Q (runMS m l)
 | [],m,h=>h
 |a::l,m,h=>run_ind hQ l (m:=(doMS m a).1) (hQ m a h)
theorem run_clk:∀ (l:List (Int×Int)) (m:MS),(runMS m l).clk<=m.clk+l.length/\m.clk<= (runMS m l).clk
 | [],m=>by constructor<;>simp [runMS]
 |a::l,m=>by
  have h1:=doMS_clk m a;have h2:=run_clk l (doMS m a).1;have e:runMS m (a::l)=runMS (doMS m a).1 l:=rfl;rw [e,List.length_cons];omega
theorem begM_doc (n:Nat) (n1:1<=n) (n8:n<=8) (pages:List Pg) (work:List (List MOp)):DocI (begM n pages work).p (new9 pages).2 n:=
 ⟨Inv.new n1 n8 (NI9.ofG pages).rest (NI9.ofG pages).z (NI9.ofG pages).on (Int.le_refl 0),List.length_replicate ..⟩
theorem begM_mg (n:Nat) (n1:1<=n) (n8:n<=8) (pages:List Pg) (work:List (List MOp)) (h1:1<=work.length) (h4:work.length<=4):MG work 0 (begM n pages work):=
 MG.new n1 n8 (List.length_replicate ..) (begM_doc n n1 n8 pages work).gd h1 h4
theorem begM_mge (n:Nat) (n1:1<=n) (n8:n<=8) (pages:List Pg) (work:List (List MOp)) (h1:1<=work.length) (h4:work.length<=4):MGE work (begM n pages work):=
 ⟨0,Int.le_refl 0,by decide,begM_mg n n1 n8 pages work h1 h4⟩
inductive Tr (m:MS):MS->Prop
 |same (h':HA) (lat':List LA) (s':SA) (c':Int) (hc:c'=m.clk\/c'=m.clk+1):Tr m ⟨m.ws,m.p,h',lat',s',c',m.ev⟩
 |age (a:Int):Tr m (ageM m a)
 |beg (k:Nat) (w:WA) (h':HA) (hk:m.ws[k]?=some w) (hs:w.st=0) (he:w.ended<w.todo.length):Tr m ⟨m.ws.set k {w with began:=m.clk,st:=1},m.p,h',m.lat,m.s,m.clk+1,m.ev⟩
 |mid (k:Nat) (w:WA) (a p:Bool) (s:Nat) (h':HA) (lat':List LA) (s':SA) (hk:m.ws[k]?=some w) (h1:1<=w.st) (h5:w.st<6) (h2:2<=s) (h6:s<=5):Tr m ⟨m.ws.set k {w with asked:=a,pinned:=p,st:=s},m.p,h',lat',s',m.clk+1,m.ev⟩
 |wake (k:Nat) (w:WA) (s':SA) (hk:m.ws[k]?=some w) (hs:w.st=4):Tr m ⟨m.ws.set k {w with st:=5},m.p,m.h,m.lat,s',m.clk,m.ev⟩
 |fail (k:Nat) (w:WA) (s':SA) (hk:m.ws[k]?=some w) (hs:w.st=4):Tr m ⟨m.ws.set k (tellW w (8,zP) (m.clk-1)),m.p,m.h,m.lat,s',m.clk,m.ev⟩
 |refuse (k:Nat) (w:WA) (hk:m.ws[k]?=some w) (hs:w.st=1) (hr:refB w.op=true):Tr m ⟨m.ws.set k (tellW w (1,zP) m.clk),m.p,m.h,m.lat,m.s,m.clk+1,m.ev⟩
 |work (k:Nat) (w:WA) (hk:m.ws[k]?=some w) (hs:w.st=5) (hr:refB w.op=false):Tr m ⟨m.ws.set k (tellW w (workP m.p w.op).2 m.clk),(workP m.p w.op).1,m.h,m.lat,m.s,m.clk+1,m.ev⟩
 |leave (k:Nat) (w:WA) (h':HA) (lat':List LA) (hk:m.ws[k]?=some w) (hs:w.st=6):Tr m ⟨m.ws.set k (leftW w),m.p,h',lat',m.s,m.clk+1,m.ev++[⟨k,w.op,w.res,w.began,w.done,m.clk⟩]⟩
theorem tr_step {m:MS} (o:MOk m) (k:Int):Tr m (stepM m k).1:=by
 rw [stepM]
 split
 ·exact .same m.h m.lat m.s m.clk (.inl rfl)
 split
 ·exact .same m.h m.lat m.s m.clk (.inl rfl)
 ·rename_i w hk;have v:=o.w _ w hk;have no:Tr m {m with clk:=m.clk+1}:=.same m.h m.lat m.s (m.clk+1) (.inr rfl);unfold stepW
  split
  ·rename_i hs
   split
   ·exact no
   ·exact .beg _ w _ hk hs (by omega)
  ·rename_i hs
   split
   ·exact no
   split
   ·rename_i hr;exact .refuse _ w hk hs hr
   ·exact .mid _ w true w.pinned 2 _ _ _ hk (by omega) (by omega) (by omega) (by omega)
  ·rename_i hs
   split
   ·exact no
   ·exact .mid _ w w.asked w.pinned 3 _ _ _ hk (by omega) (by omega) (by omega) (by omega)
  ·rename_i hs
   split
   ·exact no
   split
   ·exact .mid _ w w.asked true 4 _ _ _ hk (by omega) (by omega) (by omega) (by omega)
   ·exact .mid _ w w.asked true 5 _ _ _ hk (by omega) (by omega) (by omega) (by omega)
  ·rename_i hs;exact .work _ w hk hs (v.val (v.ask (by omega) (by omega)))
  ·rename_i hs;exact .leave _ w _ _ hk hs
  ·exact no
theorem tr_fin {m:MS} (o:MOk m) (i:Int) (b:Bool):Tr m (finM m i b).1:=by
 rw [finM]
 split
 ·exact .same m.h m.lat m.s m.clk (.inl rfl)
 split
 ·exact .same m.h m.lat _ m.clk (.inl rfl)
 ·split
  ·exact .same m.h m.lat _ m.clk (.inl rfl)
  ·rename_i w hk
   split
   ·exact .same m.h m.lat _ m.clk (.inl rfl)
   ·rename_i hs;unfold toldW
    split
    ·exact .fail _ w _ hk (by omega)
    ·exact .wake _ w _ hk (by omega)
theorem tr_do {m:MS} (o:MOk m) (a:Int×Int):Tr m (doMS m a).1:=by
 rw [doMS];repeat' split
 ·exact .same m.h m.lat _ m.clk (.inl rfl)
 ·exact tr_fin o _ _
 ·exact .age _
 ·exact tr_step o _
 ·exact tr_step o _
def mdocX (P:Nat->Pg) (o:MOp):(Nat->Pg)×MRes:=if refB o=true then (P,(1,zP)) else mdoc P o
theorem mdocX_8 (P:Nat->Pg) (o:MOp):(mdocX P o).2.1≠8:=by
 rw [mdocX]
 split
 ·exact (by decide:(1:Int)≠8)
 rw [mdoc];repeat' split
 all_goals first|exact (by decide:(4:Int)≠8)|exact (by decide:(0:Int)≠8)|exact (by decide:(3:Int)≠8)|exact (by decide:(5:Int)≠8)|exact (by decide:(7:Int)≠8)
theorem bg_len (P:Nat->Pg):(bgN P 16).length<=16:=fm_len _ _
theorem set_some {ws:List WA} {k j:Nat} {w v:WA} (h:(ws.set k w)[j]?=some v):(j=k/\v=w) \/ (j≠k/\ws[j]?=some v):=by
 rw [List.getElem?_set] at h
 split at h
 ·rename_i e;subst e
  split at h
  ·cases h;exact .inl ⟨rfl,rfl⟩
  ·cases h
 ·rename_i e;exact .inr ⟨fun g=>e g.symm,h⟩
def opsK (l:List EvA) (k:Nat):List MOp:=(l.filter fun e=>e.who==k).map (·.op)
theorem opsK_snoc (l:List EvA) (e:EvA) (k:Nat):opsK (l++[e]) k=opsK l k++(if e.who=k then [e.op] else []):=by
 rw [opsK,List.filter_append,List.map_append,<-opsK]
 by_cases h:e.who=k
 ·rw [if_pos h];simp [h]
 ·rw [if_neg h];simp [h]
structure PG (m:MS):Prop where
 who:∀ e∈m.ev,e.who<m.ws.length
 ops:∀ (k:Nat) (w:WA),m.ws[k]?=some w->opsK m.ev k=w.todo.take w.ended
 bu:∀ (k:Nat) (w:WA),m.ws[k]?=some w->w.st≠0->w.ended<w.todo.length
theorem PG.upd {m:MS} (g:PG m) {k:Nat} {w w':WA} {p':PS} {h':HA} {lat':List LA} {s':SA} {c':Int} (hk:m.ws[k]?=some w) (e1:w'.todo=w.todo) (e2:w'.ended=w.ended) (hb:w.ended<w.todo.length):PG ⟨m.ws.set k w',p',h',lat',s',c',m.ev⟩:=by
 refine ⟨fun e he=>by show e.who<(m.ws.set k w').length;rw [List.length_set];exact g.who e he,fun j v hj=>?_,fun j v hj hs=>?_⟩
 ·rcases set_some hj with ⟨rfl,rfl⟩|⟨_,h⟩
  ·rw [e1,e2];exact g.ops _ w hk
  ·exact g.ops j v h
 ·rcases set_some hj with ⟨rfl,rfl⟩|⟨_,h⟩
  ·rw [e1,e2];exact hb
  ·exact g.bu j v h hs
theorem PG.tr {m m':MS} (g:PG m) (t:Tr m m'):PG m':=by
 cases t with
 |same h' lat' s' c' hc=>exact ⟨g.who,g.ops,g.bu⟩
 |age a=>exact ⟨g.who,g.ops,g.bu⟩
 |beg k w h' hk hs he=>exact g.upd hk rfl rfl he
 |mid k w a p s h' lat' s' hk h1 h5 h2 h6=>exact g.upd hk rfl rfl (g.bu k w hk (by omega))
 |wake k w s' hk hs=>exact g.upd hk rfl rfl (g.bu k w hk (by omega))
 |fail k w s' hk hs=>exact g.upd hk rfl rfl (g.bu k w hk (by omega))
 |refuse k w hk hs hr=>exact g.upd hk rfl rfl (g.bu k w hk (by omega))
 |work k w hk hs hr=>exact g.upd hk rfl rfl (g.bu k w hk (by omega))
 |leave k w h' lat' hk hs=>
  have hlt:=(List.getElem?_eq_some_iff.1 hk).1;have hb:=g.bu k w hk (by omega);refine ⟨fun e he=>?_,fun j v hj=>?_,fun j v hj hs'=>?_⟩
  ·show e.who<(m.ws.set k (leftW w)).length;rw [List.length_set]
   rcases List.mem_append.1 he with he|he
   ·exact g.who e he
   ·rw [List.mem_singleton.1 he];exact hlt
  ·show opsK (m.ev++[_]) j=_;rw [opsK_snoc]
   rcases set_some hj with ⟨rfl,rfl⟩|⟨hne,h⟩
   ·rw [if_pos rfl,g.ops _ w hk];show _++[w.op]=w.todo.take (w.ended+1)
    rw [take_snoc hb,WA.op,List.getElem?_eq_getElem hb];rfl
   ·rw [if_neg (fun e=>hne e.symm),List.append_nil];exact g.ops j v h
  ·rcases set_some hj with ⟨rfl,rfl⟩|⟨_,h⟩
   ·exact absurd rfl hs'
   ·exact g.bu j v h hs'
structure TG (m:MS):Prop where
 c0:0<=m.clk
 n4:m.ws.length<=4
 ev:∀ e∈m.ev,e.who<4/\0<=e.began/\e.began<e.done/\e.done<e.ended/\e.ended<m.clk
 up:m.ev.Pairwise fun a b=>a.ended<b.ended
 seq:m.ev.Pairwise fun a b=>a.who=b.who->a.ended<b.began
 w1:∀ (k:Nat) (w:WA),m.ws[k]?=some w->w.st≠0->0<=w.began/\w.began<m.clk/\ ∀ e∈m.ev,e.who=k->e.ended<w.began
 w2:∀ (k:Nat) (w:WA),m.ws[k]?=some w->2<=w.st->w.began+1<m.clk
 w6:∀ (k:Nat) (w:WA),m.ws[k]?=some w->w.st=6->w.began<w.done/\w.done<m.clk
theorem TG.upd {m:MS} (g:TG m) {k:Nat} {w':WA} {p':PS} {h':HA} {lat':List LA} {s':SA} {c':Int} (hc:m.clk<=c')
  (h1:w'.st≠0->0<=w'.began/\w'.began<c'/\ ∀ e∈m.ev,e.who=k->e.ended<w'.began) (h2:2<=w'.st->w'.began+1<c') (h6:w'.st=6->w'.began<w'.done/\w'.done<c'):TG ⟨m.ws.set k w',p',h',lat',s',c',m.ev⟩:=by
 refine ⟨by have:=g.c0;show 0<=c';omega,by show (m.ws.set k w').length<=4;rw [List.length_set];exact g.n4,fun e he=>?_,g.up,g.seq,fun j v hj hs=>?_,fun j v hj hs=>?_,fun j v hj hs=>?_⟩
 ·have:=g.ev e he;show _/\_/\_/\_/\e.ended<c';omega
 ·rcases set_some hj with ⟨rfl,rfl⟩|⟨_,h⟩
  ·exact h1 hs
  ·have:=g.w1 j v h hs;exact ⟨this.1,by show _<c';omega,this.2.2⟩
 ·rcases set_some hj with ⟨rfl,rfl⟩|⟨_,h⟩
  ·exact h2 hs
  ·have:=g.w2 j v h hs
   show _<c';omega
 ·rcases set_some hj with ⟨rfl,rfl⟩|⟨_,h⟩
  ·exact h6 hs
  ·have:=g.w6 j v h hs;exact ⟨this.1,by show _<c';omega⟩
theorem TG.tr {m m':MS} (g:TG m) (t:Tr m m'):TG m':=by
 have c0:=g.c0
 cases t with
 |same h' lat' s' c' hc=>
  refine ⟨by show 0<=c';omega,g.n4,fun e he=>?_,g.up,g.seq,fun j v hj hs=>?_,fun j v hj hs=>?_,fun j v hj hs=>?_⟩
  ·have:=g.ev e he;show _/\_/\_/\_/\e.ended<c';omega
  ·have:=g.w1 j v hj hs;exact ⟨this.1,by show _<c';omega,this.2.2⟩
  ·have:=g.w2 j v hj hs
   show _<c';omega
  ·have:=g.w6 j v hj hs;exact ⟨this.1,by show _<c';omega⟩
 |age a=>exact ⟨g.c0,g.n4,g.ev,g.up,g.seq,g.w1,g.w2,g.w6⟩
 |beg k w h' hk hs he=>
  refine g.upd (by omega) (fun _=>⟨c0,by show m.clk<m.clk+1;omega,fun e he _=>(g.ev e he).2.2.2.2⟩) (fun q=>absurd (show 2<=1 from q) (by decide)) (fun q=>absurd (show 1=6 from q) (by decide))
 |mid k w a p s h' lat' s' hk h1 h5 h2 h6=>
  have a1:=g.w1 k w hk (by omega);refine g.upd (by omega) (fun _=>⟨a1.1,by show w.began<m.clk+1;omega,a1.2.2⟩) (fun _=>by show w.began+1<m.clk+1;omega) (fun q=>absurd (show s=6 from q) (by omega))
 |wake k w s' hk hs=>
  have a1:=g.w1 k w hk (by omega);have a2:=g.w2 k w hk (by omega);exact g.upd (by omega) (fun _=>a1) (fun _=>a2) (fun q=>absurd (show 5=6 from q) (by decide))
 |fail k w s' hk hs=>
  have a1:=g.w1 k w hk (by omega);have a2:=g.w2 k w hk (by omega);exact g.upd (by omega) (fun _=>a1) (fun _=>a2) (fun _=>⟨by show w.began<m.clk-1;omega,by show m.clk-1<m.clk;omega⟩)
 |refuse k w hk hs hr=>
  have a1:=g.w1 k w hk (by omega);exact g.upd (by omega) (fun _=>⟨a1.1,by show w.began<m.clk+1;omega,a1.2.2⟩) (fun _=>by show w.began+1<m.clk+1;omega) (fun _=>⟨a1.2.1,by show m.clk<m.clk+1;omega⟩)
 |work k w hk hs hr=>
  have a1:=g.w1 k w hk (by omega);exact g.upd (by omega) (fun _=>⟨a1.1,by show w.began<m.clk+1;omega,a1.2.2⟩) (fun _=>by show w.began+1<m.clk+1;omega) (fun _=>⟨a1.2.1,by show m.clk<m.clk+1;omega⟩)
 |leave k w h' lat' hk hs=>
  have hlt:=(List.getElem?_eq_some_iff.1 hk).1;have n4:=g.n4;have a1:=g.w1 k w hk (by omega);have a6:=g.w6 k w hk hs;refine ⟨by show 0<=m.clk+1;omega,by show (m.ws.set k _).length<=4;rw [List.length_set];exact g.n4,fun e he=>?_,?_,?_,fun j v hj hs'=>?_,fun j v hj hs'=>?_,fun j v hj hs'=>?_⟩
  ·rcases List.mem_append.1 he with he|he
   ·have:=g.ev e he;show _/\_/\_/\_/\e.ended<m.clk+1;omega
   ·rw [List.mem_singleton.1 he];exact ⟨by show k<4;omega,a1.1,a6.1,a6.2,by show m.clk<m.clk+1;omega⟩
  ·refine List.pairwise_append.2 ⟨g.up,by simp,fun a ha b hb=>?_⟩;rw [List.mem_singleton.1 hb];exact (g.ev a ha).2.2.2.2
  ·refine List.pairwise_append.2 ⟨g.seq,by simp,fun a ha b hb hw=>?_⟩;rw [List.mem_singleton.1 hb] at hw⊢;exact a1.2.2 a ha hw
  ·rcases set_some hj with ⟨rfl,rfl⟩|⟨hne,h⟩
   ·exact absurd rfl hs'
   ·have:=g.w1 j v h hs';refine ⟨this.1,by show _<m.clk+1;omega,fun e he hw=>?_⟩
    rcases List.mem_append.1 he with he|he
    ·exact this.2.2 e he hw
    ·rw [List.mem_singleton.1 he] at hw;exact absurd hw.symm hne
  ·rcases set_some hj with ⟨rfl,rfl⟩|⟨hne,h⟩
   ·exact absurd (show 2<=0 from hs') (by decide)
   ·have:=g.w2 j v h hs'
    show _<m.clk+1;omega
  ·rcases set_some hj with ⟨rfl,rfl⟩|⟨hne,h⟩
   ·exact absurd (show 0=6 from hs') (by decide)
   ·have:=g.w6 j v h hs';exact ⟨this.1,by show _<m.clk+1;omega⟩
structure Rc where
 op:MOp
 res:MRes
 done:Int
def evR (e:EvA):Rc:=⟨e.op,e.res,e.done⟩
def wR (w:WA):Option Rc:=if w.st=6 then some ⟨w.op,w.res,w.done⟩ else none
def pendR (ws:List WA):List Rc:=ws.filterMap wR
def allR (m:MS):List Rc:=m.ev.map evR++pendR m.ws
def goodR (r:Rc):Bool:=decide (r.res.1≠8)
def PlayOk:(Nat->Pg)->List Rc->(Nat->Pg)->Prop
 |P,[],P'=>P'=P
 |P,r::G,P'=>(mdocX P r.op).2=r.res/\PlayOk (mdocX P r.op).1 G P'
theorem PlayOk.snoc {o:MOp} {r:MRes} {d:Int}:∀ {G:List Rc} {P P':Nat->Pg},PlayOk P G P'->(mdocX P' o).2=r->PlayOk P (G++[⟨o,r,d⟩]) (mdocX P' o).1
 | [],P,P',h,hr=>by
  cases (show P'=P from h)
  exact ⟨hr,rfl⟩
 |x::G,P,P',h,hr=>⟨h.1,PlayOk.snoc (G:=G) h.2 hr⟩
theorem cut_set {ws:List WA} {k:Nat} {w:WA} (h:ws[k]?=some w):∃ A B,ws=A++w::B/\ ∀ w',ws.set k w'=A++w'::B:=by
 have hi:=(List.getElem?_eq_some_iff.1 h).1;have hj:=(List.getElem?_eq_some_iff.1 h).2;refine ⟨ws.take k,ws.drop (k+1),?_,fun w'=>?_⟩
 ·rw [<-hj,<-List.drop_eq_getElem_cons hi,List.take_append_drop]
 ·rw [List.set_eq_take_append_cons_drop,if_pos hi]
theorem pend_at {ws:List WA} {k:Nat} {w:WA} (h:ws[k]?=some w):∃ A B:List Rc,pendR ws=A++((wR w).toList++B) /\ ∀ w',pendR (ws.set k w')=A++((wR w').toList++B):=by
 obtain ⟨A,B,e1,e2⟩:=cut_set h
 have key:∀ v:WA,pendR (A++v::B)=pendR A++((wR v).toList++pendR B):=fun v=>by
  rw [pendR,List.filterMap_append,List.filterMap_cons]
  cases e:wR v<;>simp [pendR]
 exact ⟨pendR A,pendR B,(congrArg pendR e1).trans (key w),
  fun w'=>by rw [e2];exact key w'⟩
theorem pend_no {ws:List WA} {k:Nat} {w w':WA} (h:ws[k]?=some w) (h1:w.st≠6) (h2:w'.st≠6):pendR (ws.set k w')=pendR ws:=by
 obtain ⟨A,B,e1,e2⟩:=pend_at h;rw [e1,e2,wR,wR,if_neg h1,if_neg h2]
theorem pend_new {ws:List WA} {k:Nat} {w w':WA} (h:ws[k]?=some w) (h1:w.st≠6) (h2:w'.st=6):(pendR (ws.set k w')).Perm (pendR ws++[⟨w'.op,w'.res,w'.done⟩]):=by
 obtain ⟨A,B,e1,e2⟩:=pend_at h;rw [e1,e2,wR,wR,if_neg h1,if_pos h2];show (A++(_::B)).Perm ((A++B)++[_]);exact List.perm_middle.trans (List.perm_append_singleton _ _).symm
theorem pend_old {ws:List WA} {k:Nat} {w w':WA} (h:ws[k]?=some w) (h1:w.st=6) (h2:w'.st≠6):(pendR ws).Perm (⟨w.op,w.res,w.done⟩::pendR (ws.set k w')):=by
 obtain ⟨A,B,e1,e2⟩:=pend_at h;rw [e1,e2,wR,wR,if_pos h1,if_neg h2];show (A++(_::B)).Perm (_::(A++B));exact List.perm_middle
structure OG (P0:Nat->Pg) (n:Nat) (m:MS):Prop where
 n1:1<=n
 ex:∃ (G:List Rc) (P:Nat->Pg),PlayOk P0 G P/\DocI m.p P n/\G.Pairwise (fun a b=>a.done<b.done) /\ (∀ r∈G,r.done<m.clk) /\ ((allR m).filter goodR).Perm G
 bad:∀ r∈allR m,r.res.1=8->r.res=(8,zP)
theorem OG.keep {P0 n} {m m':MS} (g:OG P0 n m) (hp:m'.p=m.p) (hc:m.clk<=m'.clk) (ha:(allR m').Perm (allR m)):OG P0 n m':=by
 obtain ⟨G,P,g1,g2,g3,g4,g5⟩:=g.ex;refine ⟨g.n1,⟨G,P,g1,by rw [hp];exact g2,g3,fun r hr=>by have:=g4 r hr;omega,(ha.filter _).trans g5⟩,fun r hr=>g.bad r (ha.mem_iff.1 hr)⟩
theorem OG.same {P0 n} {m m':MS} (g:OG P0 n m) (hp:m'.p=m.p) (hc:m.clk<=m'.clk) (ha:allR m'=allR m):OG P0 n m':=g.keep hp hc (by rw [ha])
theorem OG.add {P0 n} {m m':MS} (g:OG P0 n m) {o:MOp} {r:MRes} (hw:∀ P,DocI m.p P n->r=(mdocX P o).2/\DocI m'.p (mdocX P o).1 n) (hc:m.clk<m'.clk) (ha:(allR m').Perm (allR m++[⟨o,r,m.clk⟩])):OG P0 n m':=by
 obtain ⟨G,P,g1,g2,g3,g4,g5⟩:=g.ex;obtain ⟨h1,h2⟩:=hw P g2
 have hne:r.1≠8:=by rw [h1];exact mdocX_8 P o
 refine ⟨g.n1,⟨G++[⟨o,r,m.clk⟩],(mdocX P o).1,g1.snoc h1.symm,h2,?_,fun x hx=>?_,?_⟩,fun x hx h8=>?_⟩
 ·refine List.pairwise_append.2 ⟨g3,by simp,fun a ha b hb=>?_⟩
  rw [List.mem_singleton.1 hb];exact g4 a ha
 ·rcases List.mem_append.1 hx with hx|hx
  ·have:=g4 x hx;omega
  ·rw [List.mem_singleton.1 hx];exact hc
 ·refine (ha.filter _).trans ?_;rw [List.filter_append];refine g5.append ?_
  have:goodR ⟨o,r,m.clk⟩=true:=by simp [goodR,hne]
  rw [List.filter_cons,if_pos this,List.filter_nil]
 ·rcases List.mem_append.1 (ha.mem_iff.1 hx) with hx|hx
  ·exact g.bad x hx h8
  ·rw [List.mem_singleton.1 hx] at h8;exact absurd h8 hne
theorem DocI.age {p P n} (h:DocI p P n) (a:Int) (b:ByteArray):DocI (poolDo (tickP p 1) (8,a,b)).1 P n:=by
 have ht:DocI (tickP p 1) P n:=by
  refine ⟨?_,?_⟩
  ·have hi:=h.inv;have n0:=hi.pj.n0;have n1:=hi.pj.n1
   have mk:∀ t:Int,p.now<=t->t<=2147483647->Inv ⟨p.f,p.d,t⟩ P (fun _=>0) 2147483647 0:=fun t t0 t1=>
    ⟨⟨hi.pj.fm,hi.pj.rest,hi.pj.ca,hi.pj.z0,by show 0<=t;omega,t1,fun x hx=>by have:=hi.pj.dt x hx;show x.2<=t;omega⟩,hi.pins,hi.at_,hi.on,hi.ub⟩
   rw [tickP];repeat' split
   ·exact hi
   ·exact mk _ (by omega) (Int.le_refl _)
   ·exact mk _ (by omega) (by omega)
  ·rw [tickP];repeat' split
   all_goals exact h.len
 have d:=(age_did ht.inv a).1;obtain ⟨q,l,e,i1,n1,m1,_⟩:=d.eq
 have e2:poolDo (tickP p 1) (8,a,b)=poolAge (tickP p 1) a:=by
  rw [poolDo,if_neg (show ¬((8:Int)<1\/ (8:Int)<8) by decide),if_neg (show ¬((8:Int)≠8/\_) from fun g=>g.1 rfl)];rfl
 rw [e2,e];exact ⟨i1,m1.trans ht.len⟩
theorem OG.tr {P0 n} {m m':MS} (g:OG P0 n m) (t:Tr m m'):OG P0 n m':=by
 cases t with
 |same h' lat' s' c' hc=>exact g.same rfl (by show m.clk<=c';omega) rfl
 |age a=>
  obtain ⟨G,P,g1,g2,g3,g4,g5⟩:=g.ex;exact ⟨g.n1,⟨G,P,g1,g2.age a _,g3,g4,g5⟩,g.bad⟩
 |beg k w h' hk hs he=>exact g.same rfl (by show m.clk<=m.clk+1;omega) (congrArg (m.ev.map evR++·) (pend_no hk (by omega) (show 1≠6 by decide)))
 |mid k w a p s h' lat' s' hk h1 h5 h2 h6=>exact g.same rfl (by show m.clk<=m.clk+1;omega) (congrArg (m.ev.map evR++·) (pend_no hk (by omega) (show s≠6 by omega)))
 |wake k w s' hk hs=>exact g.same rfl (Int.le_refl _) (congrArg (m.ev.map evR++·) (pend_no hk (by omega) (show 5≠6 by decide)))
 |fail k w s' hk hs=>
  obtain ⟨G,P,g1,g2,g3,g4,g5⟩:=g.ex;have ha:=List.Perm.append_left (m.ev.map evR) (pend_new (w':=tellW w (8,zP) (m.clk-1)) hk (by omega) rfl);rw [<-List.append_assoc] at ha;refine ⟨g.n1,⟨G,P,g1,g2,g3,g4,(ha.filter _).trans ?_⟩,fun r hr h8=>?_⟩
  ·rw [List.filter_append];have:List.filter goodR [(⟨w.op,(8,zP),m.clk-1⟩:Rc)]=[]:=rfl;rw [show ([⟨(tellW w (8,zP) (m.clk-1)).op,(tellW w (8,zP) (m.clk-1)).res,(tellW w (8,zP) (m.clk-1)).done⟩]:List Rc)=[⟨w.op,(8,zP),m.clk-1⟩] from rfl,this,List.append_nil];exact g5
  ·rcases List.mem_append.1 (ha.mem_iff.1 hr) with hr|hr
   ·exact g.bad r hr h8
   ·rw [List.mem_singleton.1 hr];rfl
 |refuse k w hk hs hr=>
  have ha:=List.Perm.append_left (m.ev.map evR) (pend_new (w':=tellW w (1,zP) m.clk) hk (by omega) rfl);rw [<-List.append_assoc] at ha;refine g.add (o:=w.op) (r:=(1,zP)) (fun P hP=>?_) (by show m.clk<m.clk+1;omega) ha;rw [mdocX,if_pos hr];exact ⟨rfl,hP⟩
 |work k w hk hs hr=>
  have ha:=List.Perm.append_left (m.ev.map evR) (pend_new (w':=tellW w (workP m.p w.op).2 m.clk) hk (by omega) rfl);rw [<-List.append_assoc] at ha;refine g.add (o:=w.op) (r:=(workP m.p w.op).2) (fun P hP=>?_) (by show m.clk<m.clk+1;omega) ha;rw [mdocX,if_neg (by rw [hr];decide)];exact work9 hP g.n1 w.op hr
 |leave k w h' lat' hk hs=>
  refine g.keep rfl (by show m.clk<=m.clk+1;omega) ?_;have hp:=pend_old (w':=leftW w) hk hs (show 0≠6 by decide);show ((m.ev++[_]).map evR++pendR (m.ws.set k (leftW w))).Perm (m.ev.map evR++pendR m.ws);rw [List.map_append,List.append_assoc];exact List.Perm.append_left _ hp.symm
structure HI (P0:Nat->Pg) (n:Nat) (work:List (List MOp)) (m:MS):Prop where
 g:MGE work m
 pg:PG m
 tg:TG m
 og:OG P0 n m
theorem MGE.ok {work m} (h:MGE work m):MOk m:=by obtain ⟨t,_,_,g⟩:=h.ex;exact g.ok
theorem HI.do_ {P0 n work m} (h:HI P0 n work m) (a:Int×Int):HI P0 n work (doMS m a).1:=
 have t:=tr_do h.g.ok a
 ⟨h.g.do_ a,h.pg.tr t,h.tg.tr t,h.og.tr t⟩
theorem MGE.step {work m} (h:MGE work m) (k:Int):MGE work (stepM m k).1:=by
 obtain ⟨t,h0,h1,g⟩:=h.ex;exact ⟨t,h0,h1,g.step k⟩
theorem HI.step {P0 n work m} (h:HI P0 n work m) (k:Int):HI P0 n work (stepM m k).1:=
 have t:=tr_step h.g.ok k
 ⟨h.g.step k,h.pg.tr t,h.tg.tr t,h.og.tr t⟩
theorem HI.run {P0 n work m} (h:HI P0 n work m) (l:List (Int×Int)):HI P0 n work (runMS m l):=run_ind (fun m a h=>h.do_ a) l h
theorem HI.new {n:Nat} (n1:1<=n) (n8:n<=8) (pages:List Pg) {work:List (List MOp)} (h1:1<=work.length) (h4:work.length<=4):HI (new9 pages).2 n work (begM n pages work):=by
 have hws:∀ (k:Nat) (w:WA),(work.map newWA)[k]?=some w->w.st=0/\w.ended=0:=fun k w h=>by
  rw [List.getElem?_map] at h;obtain ⟨l,_,rfl⟩:=Option.map_eq_some_iff.1 h;exact ⟨rfl,rfl⟩
 refine ⟨begM_mge n n1 n8 pages work h1 h4,⟨fun e he=>(by cases he),fun k w hk=>?_,fun k w hk hs=>absurd (hws k w hk).1 hs⟩,⟨Int.le_refl 0,by show (work.map newWA).length<=4;rw [List.length_map];exact h4,fun e he=>(by cases he),.nil,.nil,fun k w hk hs=>absurd (hws k w hk).1 hs,fun k w hk hs=>?_,fun k w hk hs=>?_⟩,⟨n1,⟨[],_,rfl,begM_doc n n1 n8 pages work,.nil,fun r hr=>(by cases hr),?_⟩,fun r hr=>?_⟩⟩
 ·rw [(hws k w hk).2];rfl
 ·have:=(hws k w hk).1;omega
 ·have:=(hws k w hk).1;omega
 ·have:pendR (work.map newWA)=[]:=by
   rw [pendR,List.filterMap_eq_nil_iff];intro w hw;obtain ⟨l,_,rfl⟩:=List.mem_map.1 hw;rfl
  show ((([]:List EvA).map evR++pendR (work.map newWA)).filter goodR).Perm []
  rw [this];exact .nil
 ·have:pendR (work.map newWA)=[]:=by
   rw [pendR,List.filterMap_eq_nil_iff];intro w hw;obtain ⟨l,_,rfl⟩:=List.mem_map.1 hw;rfl
  rw [allR] at hr;rw [show pendR (begM n pages work).ws=[] from this] at hr
  cases hr
end Go.Lk
