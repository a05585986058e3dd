/-
  What is proved here: what functions of the program compute, and what follows; no condition beyond each theorem's own.
-/
import Derived.Test.YtaofmndhdmkgkaaGreatHBc
import Derived.Test.YtaofmndhdmkgkaaGreatHBd
import Derived.Test.YtaofmndhdmkgkaaGreatHBf
set_option linter.unusedSimpArgs false
set_option linter.unusedVariables false
set_option linter.unnecessarySimpa false
set_option linter.unusedSectionVars false
namespace Go.Lk
open Go Go.Proofs Go.RowKit
set_option maxRecDepth 20000 in
set_option maxHeartbeats 16000000 in
theorem pumpM_ok (m:MS) (o:SU m.s) (hU:Us m.p.d):HCall Tryz.prog 36 [.ptr 1000000 0 0] (mH m) (mH (pumpM m)) (.tup []):=by
 have hp:=pump_ok m.s m.p.d o hU;refine hcall_of Tryz.func36 1 rfl (by kernel_rfl) (by rfl) (aP ?_);refine callX_pure hp (aP ?_);exact hret_of rfl rfl rfl ⟨by kernel_rfl,rfl,rfl,trivial⟩
theorem state_ok (m:MS) (k:Int):HCall Tryz.prog 35 [.ptr 1000000 0 0,.d (.int .i64 k)] (mH m) (mH m) (.int .i64 (if 0<=k then (match m.ws[k.toNat]? with|some w=>(w.st:Int)|none=>0) else 0)):=by
 have hi:=isWorker_ok m k
 have hm:(m.ws.map encWA).length=m.ws.length:=List.length_map ..
 refine hcall_of Tryz.func35 2 rfl (by kernel_rfl) (by rfl) ?_
 by_cases h:0<=k/\k<m.ws.length
 ·rw [show (decide (0<=k)&&decide (k<m.ws.length))=true by simpa using h] at hi
  have hk:k.toNat<m.ws.length:=by omega
  rw [if_pos h.1,List.getElem?_eq_getElem hk]
  conv=>whnf
  refine aP ?_;refine callH_blk hi nm3 rfl ⟨rfl,rfl,rfl,trivial⟩ rfl (aP ?_);refine idxK_int h.1 (by omega) (aP ?_);refine getRow_of (ws_get (List.getElem?_eq_getElem hk)) (aP ?_);exact hret_of rfl rfl rfl ⟨rfl,rfl,rfl,trivial⟩
 ·rw [show (decide (0<=k)&&decide (k<m.ws.length))=false by rw [Bool.eq_false_iff];simpa using fun g=>by omega] at hi
  have e:(if 0<=k then (match m.ws[k.toNat]? with|some w=>(w.st:Int)|none=>0) else 0)=0:=by
   split
   ·rw [List.getElem?_eq_none (by omega)]
   ·rfl
  rw [e]
  conv=>whnf
  refine aP ?_;refine callH_blk hi nm3 rfl ⟨rfl,rfl,rfl,trivial⟩ rfl (aP ?_);exact hret_of rfl rfl rfl ⟨rfl,rfl,rfl,trivial⟩
theorem flight_ok (m:MS):HCall Tryz.prog 43 [.ptr 1000000 0 0] (mH m) (mH m) (.int .i64 m.s.out.length):=by
 refine hcall_of Tryz.func43 1 rfl (by kernel_rfl) (by rfl) (aP ?_);exact hret_of rfl (by rw [List.length_map];rfl) rfl ⟨rfl,rfl,rfl,trivial⟩
theorem clock_ok (m:MS):HCall Tryz.prog 47 [.ptr 1000000 0 0] (mH m) (mH m) (.int .i64 m.clk):=by
 refine hcall_of Tryz.func47 1 rfl (by kernel_rfl) (by rfl) (aP ?_);exact hret_of rfl rfl rfl ⟨rfl,rfl,rfl,trivial⟩
theorem cloneEv_ok {l:List (List D)} (hok:okRows 11 l=true) (hl:l.length<=1000000):HCall Tryz.prog 75 [.own 1000000] [(1000000,.row l 11 false)] [(1000000,.row l 11 false)] (.lst l):=by
 refine hcall_of Tryz.func75 1 rfl (by kernel_rfl) (by rfl) (w0 ?_);refine nilK_of (w0 ?_);intro r hr
 conv=>whnf
 refine bcase_intro (fun h=>?_) (fun h=>?_)<;>conv=>whnf
 ·have:=hr h;subst this;refine aP ?_;exact hret_of rfl rfl rfl ⟨rfl,trivial⟩
 ·refine aP ?_;refine condK_of hok (w0 ?_);refine roomK_le 1000100 1000 (by show 0+List.length _<=1000100;omega) (by decide) (by decide) (by decide) (aP ?_);exact hret_of rfl rfl rfl ⟨rfl,trivial⟩
theorem history_ok (m:MS) (hl:m.ev.length<=1000000):HCall Tryz.prog 31 [.ptr 1000000 0 0] (mH m) (mH m) (.lst (m.ev.map encEvA)):=by
 have hc:=cloneEv_ok (encEvA_ok m.ev) (by rw [List.length_map];exact hl);refine hcall_of Tryz.func31 1 rfl (by kernel_rfl) (by rfl) (aP ?_);refine callX_blk hc [(1000000,1000004)] rfl ⟨rfl,trivial⟩ rfl (aP ?_);exact hret_of rfl rfl rfl ⟨rfl,rfl,rfl,trivial⟩
theorem left_m_ok (m:MS) (k:Int) (hb:∀ w∈m.ws,w.ended<=1000000/\w.todo.length<=1000000):HCall Tryz.prog 38 [.ptr 1000000 0 0,.d (.int .i64 k)] (mH m) (mH m) (.int .i64 (if 0<=k then (match m.ws[k.toNat]? with|some w=>((w.todo.length:Int)-w.ended)|none=>0) else 0)):=by
 have hi:=isWorker_ok m k
 have hm:(m.ws.map encWA).length=m.ws.length:=List.length_map ..
 refine hcall_of Tryz.func38 2 rfl (by kernel_rfl) (by rfl) ?_
 by_cases h:0<=k/\k<m.ws.length
 ·rw [show (decide (0<=k)&&decide (k<m.ws.length))=true by simpa using h] at hi
  have hk:k.toNat<m.ws.length:=by omega
  rw [if_pos h.1,List.getElem?_eq_getElem hk];have hb1:=hb _ (List.getElem_mem hk)
  have hmt:(m.ws[k.toNat].todo.map encMO).length=m.ws[k.toNat].todo.length:=List.length_map ..
  have hg:=ws_get (List.getElem?_eq_getElem hk)
  conv=>whnf
  refine aP ?_;refine callH_blk hi nm3 rfl ⟨rfl,rfl,rfl,trivial⟩ rfl (aP ?_);refine idxK_int h.1 (by omega) (aP ?_);refine getRow_of hg (aP ?_);refine idxK_int h.1 (by omega) (aP ?_);refine getRow_of hg (aP ?_);exact hret_of rfl (by rw [hmt];rfl) rfl ⟨rfl,rfl,rfl,trivial⟩
 ·rw [show (decide (0<=k)&&decide (k<m.ws.length))=false by rw [Bool.eq_false_iff];simpa using fun g=>by omega] at hi
  have e:(if 0<=k then (match m.ws[k.toNat]? with|some w=>((w.todo.length:Int)-w.ended)|none=>0) else 0)=0:=by
   split
   ·rw [List.getElem?_eq_none (by omega)]
   ·rfl
  rw [e]
  conv=>whnf
  refine aP ?_;refine callH_blk hi nm3 rfl ⟨rfl,rfl,rfl,trivial⟩ rfl (aP ?_);exact hret_of rfl rfl rfl ⟨rfl,rfl,rfl,trivial⟩
theorem fin_no_ok (m:MS) (i:Int) (b:Bool) (h:i<0\/ (m.s.out.length:Int) <=i):HCall Tryz.prog 37 [.ptr 1000000 0 0,.d (.int .i64 i),.d (.bool b)] (mH m) (mH m) (.bool false):=by
 have hf:=flight_ok m;refine hcall_of Tryz.func37 3 rfl (by kernel_rfl) (by rfl) (w0 ?_)
 refine bcase_p (fun h1=>?_) (fun h1=>?_)<;>conv=>whnf
 ·refine aP ?_;exact hret_of rfl rfl rfl ⟨rfl,rfl,rfl,trivial⟩
 ·refine aP ?_;refine callH_blk hf nm3 rfl ⟨rfl,rfl,rfl,trivial⟩ rfl (aP ?_);exact hret_of rfl rfl rfl ⟨rfl,rfl,rfl,trivial⟩
set_option maxRecDepth 20000 in
set_option maxHeartbeats 16000000 in
theorem fin_again_ok (m:MS) (i:Nat) (o:SOk m.s) (hU:Us m.p.d) (hi:i<m.s.out.length) (h3:(m.s.out[i]).tr<3) (hn:m.s.next<2147483647):
  HCall Tryz.prog 37 [.ptr 1000000 0 0,.d (.int .i64 i),.d (.bool true)] (mH m) (mH {m with s:=againSA m.s i m.s.out[i]}) (.bool true):=by
 have hd:=doneAgain_ok m.s m.p.d o hU i hi h3 hn;have hf:=flight_ok m;refine hcall_of Tryz.func37 3 rfl (by kernel_rfl) (by rfl) (aP ?_);refine callH_blk hf nm3 rfl ⟨rfl,rfl,rfl,trivial⟩ rfl (aP ?_);refine callX_pure hd (aP ?_);exact hret_of rfl rfl rfl ⟨by kernel_rfl,rfl,rfl,trivial⟩
set_option maxRecDepth 20000 in
set_option maxHeartbeats 16000000 in
theorem fin_told_ok (m:MS) (i:Nat) (b:Bool) (o:SOk m.s) (hU:Us m.p.d) (hi:i<m.s.out.length) (h3:¬(b=true/\ (m.s.out[i]).tr<3/\m.s.next<2147483647)) (w:WA) (hk:m.ws[(m.s.out[i]).who]?=some w) (hs:w.st=4) (hc0:0<=m.clk) (hc1:m.clk<=1000000):
  HCall Tryz.prog 37 [.ptr 1000000 0 0,.d (.int .i64 i),.d (.bool b)] (mH m) (mH {m with s:=dropSA m.s i,ws:=m.ws.set (m.s.out[i]).who (toldW m w b)}) (.bool true):=by
 have hd:=doneTold_ok m.s m.p.d o hU i hi b h3;have hg:=ws_get hk;have hlt:=ws_lt hk;have hiw:=isWorker_ok {m with s:=dropSA m.s i} (m.s.out[i]).who
 rw [show (decide (0<= ((m.s.out[i]).who:Int))&&decide (((m.s.out[i]).who:Int)<({m with s:=dropSA m.s i}:MS).ws.length))=true by
  have:=(List.getElem?_eq_some_iff.1 hk).1
  simp;omega] at hiw
 have hcx:({m with s:=dropSA m.s i}:MS).clk=m.clk:=rfl
 cases b with
 |false=>
  have hf:=flight_ok m;refine hcall_of Tryz.func37 3 rfl (by kernel_rfl) (by rfl) (aP ?_);refine callH_blk hf nm3 rfl ⟨rfl,rfl,rfl,trivial⟩ rfl (aP ?_);refine callX_pure hd (aP ?_);refine callH_blk hiw nm3 rfl ⟨by kernel_rfl,rfl,rfl,trivial⟩ rfl (aP ?_);refine idxK_nat (by omega) (aP ?_);refine getRow_of hg (aP ?_);refine bcase_t (by rfl) (aP ?_);refine getRow_of hg (aP ?_);exact hret_of rfl rfl rfl ⟨by kernel_rfl,rowE (ws_set (toldW m w false)),rfl,trivial⟩
 |true=>
  have hf:=flight_ok m;refine hcall_of Tryz.func37 3 rfl (by kernel_rfl) (by rfl) (aP ?_);refine callH_blk hf nm3 rfl ⟨rfl,rfl,rfl,trivial⟩ rfl (aP ?_);refine callX_pure hd (aP ?_);refine callH_blk hiw nm3 rfl ⟨by kernel_rfl,rfl,rfl,trivial⟩ rfl (aP ?_);refine idxK_nat (by omega) (aP ?_);refine getRow_of hg (aP ?_);refine bcase_f (by rfl) (aP ?_);refine callH_blk (tell_ok m.ws (m.s.out[i]).who w hk (8,zP) (m.clk-1)) [(1000001,1000001)] rfl ⟨rfl,trivial⟩ rfl (aP ?_);exact hret_of rfl rfl rfl ⟨by kernel_rfl,rfl,rfl,trivial⟩
theorem nd_len:∀ (n:Nat) (l:List Nat),l.Nodup->(∀ x∈l,x<n)->l.length<=n
 |0,[],_,_=>Nat.le_refl _
 |0,x::_,_,h=>absurd (h x (.head _)) (Nat.not_lt_zero _)
 |n+1,l,hd,h=>by
  by_cases hm:n∈l
  ·have e:=List.length_erase_of_mem hm
   have:=nd_len n (l.erase n) (hd.erase n) fun x hx=>by
    have h1:=(hd.mem_erase_iff).1 hx;have:=h x h1.2;have:=h1.1;omega
   have hp:=List.length_pos_of_mem hm;omega
  ·have:=nd_len n l hd fun x hx=>by
    have:=h x hx
    have:x≠n:=fun e=>hm (e▸hx)
    omega
   omega
theorem nd_len3 {l:List Nat} {k:Nat} (hd:l.Nodup) (h:∀ x∈l,x<4) (hk:k<4) (hn:k∉l):l.length<=3:=by
 have:=nd_len 4 (k::l) (List.nodup_cons.2 ⟨hn,hd⟩) fun x hx=>by
  cases hx with
  |head=>exact hk
  |tail _ hx=>exact h x hx
 simpa using this
theorem LSh.lok {x:Nat->Bool} {n:Nat} {l:LA} (h:LSh x n l) (h4:n<=4):LOk l:=by
 have hl:=nd_len 4 _ h.li.nd fun w hw=>by have:=h.lt w hw;omega
 exact ⟨by simpa using hl,fun w hw=>by have:=h.lt w hw;omega,h.li.up,h.li.nd,h.li.one,h.shut⟩
theorem act_gd {t:Int} (o:MOp):∀ (ks:List Int) (p:PS) (r:MRes),Gd t p->Gd t (actG o ks p r).1/\ (actG o ks p r).1.f.fr.length=p.f.fr.length
 | [],p,r,h=>⟨h,rfl⟩
 |k::ks,p,r,h=>by
  rw [actG]
  split
  ·exact ⟨h.do _,do_len h _⟩
  ·have ih:=act_gd o ks _ (r.1,(poolDo p (k,o.2.1,o.2.2)).2.1) (h.do (k,o.2.1,o.2.2));exact ⟨ih.1,ih.2.trans (do_len h _)⟩
theorem work_gd {t:Int} {p:PS} (h:Gd t p) (o:MOp):Gd t (workP p o).1/\ (workP p o).1.f.fr.length=p.f.fr.length:=by
 obtain ⟨h1,h2⟩:=act_gd o (actsK o.1) p (0,zP) h;rw [workP,backP]
 split
 ·exact ⟨h1.do _,(do_len h1 _).trans h2⟩
 ·exact ⟨h1,h2⟩
structure MG (work:List (List MOp)) (t:Int) (m:MS):Prop where
 ok:MOk m
 gd:Gd t m.p
 td:m.ws.map (·.todo)=work
 ev:(m.ev.length:Int) <=m.clk
theorem MG.c0 {work t m} (g:MG work t m):0<=m.clk:=by have:=g.ev;omega
theorem MG.lat {work t m} (g:MG work t m) {i:Nat} (hi:i<17):∃ l,m.lat[i]?=some l/\lg m.lat i=l/\LSh (xk m.ws) m.ws.length l:=by
 have hl:=g.ok.ll;refine ⟨m.lat[i]'(by omega),List.getElem?_eq_getElem (by omega),?_,g.ok.li i _ (List.getElem?_eq_getElem (by omega))⟩
 rw [lg,List.getElem?_eq_getElem (by omega)];rfl
theorem set_td {ws:List WA} {k:Nat} {w w':WA} (hk:ws[k]?=some w) (e:w'.todo=w.todo):(ws.set k w').map (·.todo)=ws.map (·.todo):=by
 obtain ⟨hlt,rfl⟩:=List.getElem?_eq_some_iff.1 hk;rw [List.map_set,e]
 have h2:k<(ws.map (·.todo)).length:=by rw [List.length_map];exact hlt
 have:ws[k].todo=(ws.map (·.todo))[k]:=by simp
 rw [this];exact List.set_getElem_self h2
theorem MG.step {work t m} (g:MG work t m) (k:Int):MG work t (stepM m k).1:=by
 rw [stepM]
 split
 ·exact g
 split
 ·exact g
 ·rename_i w hk;have hwk:=work_gd g.gd w.op;have ok:=(g.ok.clk (m.clk+1)).stepW (m:={m with clk:=m.clk+1}) hk m.clk hwk.2;have hev:=g.ev;refine ⟨ok,?_,?_,?_⟩
  ·unfold stepW;repeat' split
   all_goals first|exact g.gd|exact hwk.1
  ·rw [<-g.td]
   unfold stepW;repeat' split
   all_goals first|rfl|exact set_td hk rfl
  ·unfold stepW;repeat' split
   all_goals first|(show (m.ev.length:Int) <=m.clk+1;omega)|(show (((m.ev++[_]).length:Nat):Int) <=m.clk+1;rw [List.length_append,List.length_singleton];omega)
theorem latM_lg (m:MS) (k:Int):latM m k=lg m.lat k.toNat:=rfl
set_option maxHeartbeats 4000000 in
theorem stepM_ok {work t m} (g:MG work t m) (ht:t<=2147483647) (hw:∀ l∈work,l.length<=1000) (hc:m.clk<=100000) (k:Int):
  HCall Tryz.prog 34 [.ptr 1000000 0 0,.d (.int .i64 k)] (mH m) (mH (stepM m k).1) (.bool (stepM m k).2):=by
 have o:=g.ok;have hn4:=o.n4
 by_cases hk0:k<0
 ·rw [stepM,if_pos hk0];exact step_no_ok m k (by omega)
 cases hk:m.ws[k.toNat]? with
 |none=>
  rw [stepM,if_neg hk0,hk];have:=List.getElem?_eq_none_iff.1 hk;exact step_no_ok m k (by omega)
 |some w=>
  obtain ⟨i,rfl⟩:∃ i:Nat,k=(i:Int):=⟨k.toNat,by omega⟩;rw [Int.toNat_natCast] at hk;have v:=o.w i w hk;have hlt:=(List.getElem?_eq_some_iff.1 hk).1
  have hi4:i<4:=by omega
  have hc0:-1000000<=m.clk:=by have:=g.c0;omega
  have hc1:m.clk<=1000000:=by omega
  have hcl:m.h.cl.length<=1000:=by have:=o.hall.len;omega
  have e:stepM m i=stepW (tickM m) i w m.clk:=by rw [stepM,if_neg hk0,Int.toNat_natCast,hk];rfl
  have hwt:w.todo.length<=1000:=hw _ (by rw [<-g.td];exact List.mem_map_of_mem (List.mem_of_getElem? hk))
  have hev:m.ev.length<=100000:=by have:=g.ev;omega
  have hk':(tickM m).ws[i]?=some w:=hk;rw [e];have h6:=v.st6
  have hst:w.st=0\/w.st=1\/w.st=2\/w.st=3\/w.st=4\/w.st=5\/w.st=6:=by omega
  rcases hst with hs|hs|hs|hs|hs|hs|hs
  ·simp only [stepW,hs]
   split
   ·rename_i hd;exact step0_ok m _ i w false hk hs hc0 hc1 (begin_end_ok (tickM m) i w m.clk hk' hd)
   ·rename_i hd
    have hn:i∉m.h.all:=fun h=>(v.hal.1 h) hs
    have h3:=nd_len3 o.hall.nd o.hall.lt hi4 hn;exact step0_ok m _ i w true hk hs hc0 hc1 (begin_go_ok (tickM m) i w m.clk hk' hd o.hall hi4 hn (by have h3:m.h.cl.length+m.h.q.length<=3:=(by simpa using h3);exact h3))
  ·have hb:=v.bu (by omega);simp only [stepW,hs]
   split
   ·rename_i hcc;exact step1_ok m _ i w false hk hs hc0 hc1 (ask_no_ok (tickM m) i w m.clk hcl hcc)
   rename_i hcc
   replace hcc:isCl m.h i=true:=by simpa [tickM] using hcc
   split
   ·rename_i hr;exact step1_ok m _ i w true hk hs hc0 hc1 (ask_ref_ok (tickM m) i w m.clk hk' hb hcl hcc hr)
   ·rename_i hr
    replace hr:refB w.op=false:=by simpa using hr
    obtain ⟨r1,r2,r3,r4⟩:=refB_ff hr;obtain ⟨l,hl,el,sh⟩:=g.lat (i:=w.op.2.1.toNat) (by omega)
    have ol:LOk (latM m w.op.2.1):=by rw [latM_lg,el];exact sh.lok hn4
    have hna:i∉l.all:=fun h=>by
     have:=((v.lt w.op.2.1.toNat l hl).1 h).1
     rw [v.nask (by omega)] at this;cases this
    have hn:i∉(latM m w.op.2.1).hs++(latM m w.op.2.1).q.map (·.1):=by rw [latM_lg,el];exact hna
    have h3:=nd_len3 ol.nd ol.lt hi4 hn;exact step1_ok m _ i w true hk hs hc0 hc1 (ask_go_ok (tickM m) i w m.clk hk' hb hcl hcc hr o.ll hi4 ol hn (by have h3:(latM m w.op.2.1).hs.length+(latM m w.op.2.1).q.length<=3:=(by simpa using h3);exact h3))
  ·have hb:=v.bu (by omega);obtain ⟨r1,r2,r3,r4⟩:=refB_ff (v.val (v.ask (by omega) (by omega)));obtain ⟨l,hl,el,sh⟩:=g.lat (i:=w.op.2.1.toNat) (by omega)
   have ol:LOk (lg m.lat w.op.2.1.toNat):=by rw [el];exact sh.lok hn4
   simp only [stepW,hs]
   split
   ·rename_i hh;exact step2_ok m _ i w false hk hs hc0 hc1 (enter_no_ok (tickM m) i w hk' hb (by omega) (by omega) ol hh)
   ·rename_i hh;exact step2_ok m _ i w true hk hs hc0 hc1 (enter_go_ok (tickM m) i w hk' hb (by omega) (by omega) ol (by simpa [latM_lg] using hh))
  ·have hb:=v.bu (by omega);have ha:=v.ask (by omega) (by omega);obtain ⟨r1,r2,r3,r4⟩:=refB_ff (v.val ha);have hcc:=v.cl (by omega)
   have hh:heldW m.h i=false:=by rw [v.held];exact v.npin (by omega)
   simp only [stepW,hs]
   split
   ·rename_i hf;exact step3_ok m _ i w false hk hs hc0 hc1 (pin_no_ok (tickM m) i w hk' hb o.hall hcc hh g.gd.fm (by rw [pinR,if_pos hf]))
   rename_i hf;replace hf:¬m.h.n<=heldN m.h.cl:=hf
   have hpr:pinR m.h i=(pinH m.h i,0):=by rw [pinR,if_neg hf]
   split
   ·rename_i h4
    have hkj:i<m.s.jobs.length:=by rw [o.sj];exact hlt
    have hjn:m.s.jobs[i]=none:=by
     cases q:m.s.jobs[i] with
     |none=>rfl
     |some p=>
      have:=(v.job p).1 (.inl (by rw [List.getElem?_eq_getElem hkj,q]));omega
    exact step3_ok m _ i w true hk hs hc0 hc1 (pin4_ok (tickM m) i w hk' hb o.hall hcc hh g.gd.fm hpr h4.1 h4.2 o.su.toSOk g.gd.us hkj hjn r3 r4)
   ·rename_i h5;exact step3_ok m _ i w true hk hs hc0 hc1 (pin5_ok (tickM m) i w hk' hb o.hall hcc hh g.gd.fm hpr h5)
  ·simp only [stepW,hs];exact step4_ok m i w hk hs hc0 hc1
  ·have hb:=v.bu (by omega);have ha:=v.ask (by omega) (by omega);simp only [stepW,hs];exact step5_ok m _ i w hk hs hc0 hc1 (work_ok (tickM m) i w m.clk t hk' hb g.gd ht (v.val ha))
  ·have hb:=v.bu (by omega);have hcc:=v.cl (by omega);simp only [stepW,hs];refine step6_ok m (leaveM (tickM m) i w m.clk) i w hk hs hc0 hc1 ?_
   cases ha:w.asked with
   |false=>
    cases hp:w.pinned with
    |false=>exact leave_nn_ok (tickM m) i w m.clk hk' hb hwt hev o.hall hi4 hcc hp ha
    |true=>exact leave_pn_ok (tickM m) i w m.clk hk' hb hwt hev o.hall hi4 hcc hp ha (v.held.trans hp)
   |true=>
    obtain ⟨r1,r2,r3,r4⟩:=refB_ff (v.val ha);obtain ⟨l,hl,el,sh⟩:=g.lat (i:=w.op.2.1.toNat) (by omega)
    have ol:LOk (lg m.lat w.op.2.1.toNat):=by rw [el];exact sh.lok hn4
    have hhs:i∈(lg m.lat w.op.2.1.toNat).hs:=by rw [el];exact v.hold ha (by omega) l hl
    cases hp:w.pinned with
    |false=>exact leave_na_ok (tickM m) i w m.clk hk' hb hwt hev o.hall hi4 hcc hp ha o.ll (by omega) (by omega) ol hhs
    |true=>exact leave_pa_ok (tickM m) i w m.clk hk' hb hwt hev o.hall hi4 hcc hp ha (v.held.trans hp) o.ll (by omega) (by omega) ol hhs
theorem finM_ok {work t m} (g:MG work t m) (hc:m.clk<=100000) (i:Int) (b:Bool):
  HCall Tryz.prog 37 [.ptr 1000000 0 0,.d (.int .i64 i),.d (.bool b)] (mH m) (mH (finM m i b).1) (.bool (finM m i b).2):=by
 have o:=g.ok
 by_cases hn:i<0\/ (m.s.out.length:Int) <=i
 ·rw [finM,if_pos hn];exact fin_no_ok m i b hn
 obtain ⟨n,rfl⟩:∃ n:Nat,i=(n:Int):=⟨i.toNat,by omega⟩
 have hi:n<m.s.out.length:=by omega
 rw [finM,if_neg hn,Int.toNat_natCast,doneS,List.getElem?_eq_getElem hi];simp only [];have hlt:=o.su.lt m.s.out[n] (List.getElem_mem hi)
 by_cases h3:b=true/\ (m.s.out[n]).tr<3/\m.s.next<2147483647
 ·rw [if_pos h3];obtain ⟨rfl,h4,h5⟩:=h3;exact fin_again_ok m n o.su.toSOk g.gd.us hi h4 h5
 ·rw [if_neg h3];simp only []
  have hwl:(m.s.out[n]).who<m.ws.length:=by rw [<-o.sj];exact hlt.2.1
  have hk:m.ws[(m.s.out[n]).who]?=some m.ws[(m.s.out[n]).who]:=List.getElem?_eq_getElem hwl;have hs:(m.ws[(m.s.out[n]).who]).st=4:=((o.w _ _ hk).job (m.s.out[n]).pg).1 (.inr ⟨m.s.out[n],List.getElem_mem hi,rfl,rfl⟩) |>.1;rw [hk];simp only [];rw [if_neg (fun z=>z hs)];exact fin_told_ok m n b o.su.toSOk g.gd.us hi h3 _ hk hs g.c0 (by omega)
theorem MG.fin {work t m} (g:MG work t m) (i:Int) (b:Bool):MG work t (finM m i b).1:=by
 refine ⟨g.ok.fin i b,?_,?_,?_⟩
 ·rw [finM];repeat' split
  all_goals exact g.gd
 ·rw [<-g.td,finM];repeat' split
  all_goals first|rfl|(rename_i hk _;exact set_td hk (by rw [toldW];split<;>rfl))
 ·rw [finM];repeat' split
  all_goals exact g.ev
theorem MG.pump {work t m} (g:MG work t m):MG work t (pumpM m):=⟨g.ok.pump,g.gd,g.td,g.ev⟩
structure MGE (work:List (List MOp)) (m:MS):Prop where
 ex:∃ t,0<=t/\t<=2147483647/\MG work t m
theorem stepW_clk (m:MS) (k:Nat) (w:WA) (now:Int):(stepW m k w now).1.clk=m.clk:=by
 unfold stepW;repeat' split
 all_goals rfl
theorem stepM_clk (m:MS) (k:Int):(stepM m k).1.clk<=m.clk+1/\m.clk<= (stepM m k).1.clk:=by
 rw [stepM];repeat' split
 ·exact ⟨by show m.clk<=_;omega,Int.le_refl _⟩
 ·exact ⟨by show m.clk<=_;omega,Int.le_refl _⟩
 ·rw [stepW_clk];dsimp only;omega
theorem finM_clk (m:MS) (i:Int) (b:Bool):(finM m i b).1.clk=m.clk:=by
 rw [finM];repeat' split
 all_goals rfl
def encTd (l:List MOp):List D:=[.lst (l.map encMO)]
theorem encMO_ok:∀ (l:List MOp),okRows 3 (l.map encMO)=true
 | []=>rfl
 |_::r=>encMO_ok r
def mSC (m:MS):List SC:=.row (m.ws.map encWA) 11::([.d (.lst (m.p.f.fr.map encF)),.d (.int .i64 m.p.f.hand),.d (encIs m.p.f.tb),.d (.lst (m.p.f.pg.map encP)),.d (encIs m.p.f.dt),.d (.lst (m.p.d.sec.map encB)),.d (.lst (m.p.d.ca.map encW)),.d (.int .i64 m.p.now)]++(m.h.cells.map SC.d++((lg m.lat 0).cells.map SC.d++((lg m.lat 1).cells.map SC.d++((lg m.lat 2).cells.map SC.d++((lg m.lat 3).cells.map SC.d++((lg m.lat 4).cells.map SC.d++((lg m.lat 5).cells.map SC.d++((lg m.lat 6).cells.map SC.d++((lg m.lat 7).cells.map SC.d++((lg m.lat 8).cells.map SC.d++((lg m.lat 9).cells.map SC.d++((lg m.lat 10).cells.map SC.d++((lg m.lat 11).cells.map SC.d++((lg m.lat 12).cells.map SC.d++((lg m.lat 13).cells.map SC.d++((lg m.lat 14).cells.map SC.d++((lg m.lat 15).cells.map SC.d++((lg m.lat 16).cells.map SC.d++((m.s.cells m.p.d).map SC.d++[.d (.int .i64 m.clk),.row (m.ev.map encEvA) 11]))))))))))))))))))))
def z3:List AV:=[.nil,.d (.bool false),.nil]
def mb0 (n:Nat) (p:PS):List AV:=.own 64::(p.box++([.d (.int .i64 n),.d (.int .i64 1),.nil,.nil]++(z3++(z3++(z3++(z3++(z3++(z3++(z3++(z3++(z3++(z3++(z3++(z3++(z3++(z3++(z3++(z3++(z3++[.nil,.d (.int .i64 0),.d (.bool false),.nil,.nil,.nil,.d (.int .i64 0),.nil,.nil,.d (.int .i64 0),.nil])))))))))))))))))))
theorem rep_snoc (k:Nat):List.replicate (k+1) [D.int .i64 1]=List.replicate k [D.int .i64 1]++[[D.int .i64 1]]:=List.replicate_succ'
set_option maxRecDepth 20000 in
set_option maxHeartbeats 16000000 in
theorem machNew_ok (d:DS) (n:Nat) (todo:List (List MOp)) (p:PS) (hop:openM d n=(p,0)) (hU:Us p.d) (h1:1<=todo.length) (h4:todo.length<=4) (h60:∀ l∈todo,l.length<=60):
  PCall Tryz.prog 27 [encDS d,.int .i64 n,.lst (todo.map encTd)] (mSC (newMS p n todo)) [.int .i64 0]:=by
 have hm:(todo.map encTd).length=todo.length:=List.length_map ..
 have ho:=open_ok d n;rw [hop] at ho;refine pcall_of Tryz.func27 3 rfl (by kernel_rfl) (aP ?_);refine aloop (ι:=Nat) (fun k=>[(1,.d (.int .i64 n)),(2,.d (.lst (todo.map encTd))),(3,.ptr 3 0 0),(25,.d (.lst (todo.map encTd))),(26,.d (.int .i64 (todo.map encTd).length)),(27,.d (.int .i64 k))]) (fun _=>[(3,.box (d.cells.map AV.d) false)])
  (fun k=>k<=todo.length) (fun k=>todo.length-k) 0 (Nat.zero_le _) (le0 (le_of_cov ⟨rfl,rfl,rfl,rfl,rfl,rfl,trivial⟩ ⟨rfl,trivial⟩ ⟨rfl,rfl,rfl,rfl⟩)) ?_
 intro k hk
 conv=>whnf
 refine bcase_p (fun h5=>?_) (fun h5=>?_)<;>conv=>whnf
 ·have hk2:k<todo.length:=by omega
  have hl:=h60 todo[k] (List.getElem_mem hk2)
  have hml:(todo[k].map encMO).length=todo[k].length:=List.length_map ..
  refine idxK_nat (by omega) (w0 ?_);refine getRow_of (x:=encTd todo[k]) (by simp [hk2]) (aW ?_);refine aP ?_;exact ⟨k+1,by omega,by omega,(le0 (le_of_cov ⟨rfl,rfl,rfl,rfl,rfl,rfl,trivial⟩ ⟨rfl,trivial⟩ ⟨rfl,rfl,rfl,rfl⟩))⟩
 refine aP ?_;refine callX_pure ho (aP ?_);refine aloop (ι:=Nat) (fun k=>[(10,.ptr 10 0 0),(12,.ptr 48 0 0),(13,.own 69),(49,.d (.lst (todo.map encTd))),(50,.d (.int .i64 (todo.map encTd).length)),(51,.d (.int .i64 k))]) (fun k=>[(10,.box p.box false),(48,.box (mb0 n p) false),(64,.row (((todo.take k).map newWA).map encWA) 11 false),(69,.row (List.replicate k [D.int .i64 1]) 1 false)])
  (fun k=>k<=todo.length) (fun k=>todo.length-k) 0 (Nat.zero_le _) (len [.row 13 69 1,.cell 48 0 64 11] ⟨⟨rfl,rfl⟩,⟨⟨rfl,rfl⟩,rfl,rfl⟩,trivial⟩ (le_of_cov ⟨rfl,rfl,rfl,rfl,rfl,rfl,trivial⟩ ⟨rfl,rfl,rfl,rfl,trivial⟩ ⟨rfl,rfl,rfl,rfl⟩)) ?_
 intro k hk
 conv=>whnf
 refine bcase_p (fun h6=>?_) (fun h6=>?_)<;>conv=>whnf
 ·have hk2:k<todo.length:=by omega
  have hl:=h60 todo[k] (List.getElem_mem hk2)
  have hml:(todo[k].map encMO).length=todo[k].length:=List.length_map ..
  have htk:(todo.take k).length=k:=by rw [List.length_take];omega
  have hmr:(((todo.take k).map newWA).map encWA).length=k:=by rw [List.length_map,List.length_map,htk]
  refine idxK_nat (by omega) (w0 ?_);refine getRow_of (x:=encTd todo[k]) (by simp [hk2]) (aW ?_);refine aP ?_;refine callX_own (cloneOp (encMO_ok todo[k]) (by omega)) (aP ?_);refine roomK_le 1000 1000 (by show (((todo.take k).map newWA).map encWA).length+1<=1000;omega) (by decide) (by decide) (by decide) (aP ?_);refine roomK_le 1000 1000 (by show (List.replicate k [D.int .i64 1]).length+1<=1000;rw [List.length_replicate];omega) (by decide) (by decide) (by decide) (aP ?_);refine ⟨k+1,by omega,by omega,le0 (le_of_cov ⟨rfl,rfl,rfl,rfl,rfl,rfl,trivial⟩ ⟨rfl,rfl,?_,?_,trivial⟩ ⟨rfl,rfl,rfl,rfl⟩)⟩
  ·rw [take_snoc hk2,List.map_append,List.map_append];kernel_rfl
  ·rw [rep_snoc];kernel_rfl
 have hkl:k=todo.length:=by omega
 subst hkl;rw [List.take_length];refine aP ?_;refine callX_pure (schedNew_ok todo.length p.d h1 h4 hU) (aP ?_);refine ⟨6,.tmp 7,[],48,_,rfl,rfl,rfl,?_,rfl,rfl⟩;refine .inl ⟨64,rfl,rfl,rfl,?_⟩
 repeat refine ⟨rfl,?_⟩
 exact .inr ⟨rfl,rfl,trivial⟩
noncomputable def stAt (d:DS) (k:Nat):Option Pg:=if (getS d ((k:Int)+1)).2=0 then some (getS d ((k:Int)+1)).1 else none
noncomputable def lsN (d:DS) (k:Nat):List Pg:=(List.range k).filterMap (stAt d)
theorem fm_len {α:Type} (f:Nat->Option α) (k:Nat):((List.range k).filterMap f).length<=k:=by
 have:=List.length_filterMap_le f (List.range k)
 rwa [List.length_range] at this
theorem fm_succ {α:Type} (f:Nat->Option α) (k:Nat):(List.range (k+1)).filterMap f=(List.range k).filterMap f++(f k).toList:=by
 rw [List.range_succ,List.filterMap_append]
 congr 1
set_option maxHeartbeats 4000000 in
theorem storeList_ok (d:DS):ACall Tryz.prog 51 [encDS d] (.lst ((lsN d 16).map encP)):=by
 refine acall_of Tryz.func51 1 rfl (by kernel_rfl) (aP ?_);refine aloop (ι:=Nat) (fun k=>[(1,.ptr 1 0 0),(3,.own 22),(4,.d (.int .i64 ((k:Int)+1)))]) (fun k=>[(1,.box (d.cells.map AV.d) false),(22,.row ((lsN d k).map encP) 3 false)])
  (fun k=>k<=16) (fun k=>16-k) 0 (Nat.zero_le _) (le1 (.row 3 22 3) ⟨rfl,rfl⟩ (le_of_cov ⟨rfl,rfl,rfl,trivial⟩ ⟨rfl,rfl,trivial⟩ ⟨rfl,rfl,rfl,rfl⟩)) ?_
 intro k hk;have hln:=fm_len (stAt d) k
 have hml:((lsN d k).map encP).length=(lsN d k).length:=List.length_map ..
 replace hln:(lsN d k).length<=k:=hln;have es:=fm_succ (stAt d) k;replace es:lsN d (k+1)=lsN d k++(stAt d k).toList:=es;obtain ⟨q,hq⟩:∃ q,getS d ((k:Int)+1)=q:=⟨_,rfl⟩;have hget:=getS_ok d ((k:Int)+1);rw [stAt,hq] at es;rw [hq] at hget
 conv=>whnf
 refine bcase_p (fun h5=>?_) (fun h5=>?_)<;>conv=>whnf
 ·refine aP ?_;refine callX_pure hget (aP ?_)
  refine bcase_p (fun h6=>?_) (fun h6=>?_)<;>conv=>whnf
  ·rw [if_pos h6] at es;refine aP ?_;refine roomK_le 1000 100 (by show ((lsN d k).map encP).length+1<=1000;omega) (by decide) (by decide) (by decide) (aP ?_);rw [show (k:Int)+1+1=((k+1:Nat):Int)+1 by omega];exact ⟨k+1,by omega,by omega,le0 (le_of_cov ⟨rfl,rfl,rfl,trivial⟩ ⟨rfl,by rw [es,List.map_append];rfl,trivial⟩ ⟨rfl,rfl,rfl,rfl⟩)⟩
  ·rw [if_neg h6] at es;refine aP ?_;rw [show (k:Int)+1+1=((k+1:Nat):Int)+1 by omega];exact ⟨k+1,by omega,by omega,le0 (le_of_cov ⟨rfl,rfl,rfl,trivial⟩ ⟨rfl,by rw [es,Option.toList,List.append_nil];rfl,trivial⟩ ⟨rfl,rfl,rfl,rfl⟩)⟩
 ·have:k=16:=by omega
  subst this;refine aP ?_;exact ret_of rfl rfl
noncomputable def getO (l:List Pg) (id:Int):Pg×Bool:=if Hy.mapB l=true/\Hy.plB l id=true then (l[Hy.plN l id]?.getD zP,true) else (zP,false)
theorem opsGet_ok (l:List Pg) (id:Int) (hl:l.length<=1000):ACall Tryz.prog 25 [.agg [.lst (l.map encP)],.int .i64 id] (.tup [.agg (encP (getO l id).1),.bool (getO l id).2]):=by
 have h1:=Hy.opsRight_ok l (by omega);have h2:=Hy.place_ok l id (by omega)
 have hm:(l.map encP).length=l.length:=List.length_map ..
 cases e1:Hy.mapB l with
 |false=>
  rw [e1] at h1;rw [getO,if_neg (by rw [e1];simp)];refine acall_of Tryz.func25 2 rfl (by kernel_rfl) (aP ?_);refine callX_pure h1 (aP ?_);exact ret_of rfl rfl
 |true=>
  rw [e1] at h1
  cases e2:Hy.plB l id with
  |false=>
   rw [e2] at h2;rw [getO,if_neg (by rw [e2];simp)];refine acall_of Tryz.func25 2 rfl (by kernel_rfl) (aP ?_);refine callX_pure h1 (aP ?_);refine callX_pure h2 (aP ?_);exact ret_of rfl rfl
  |true=>
   rw [e2] at h2
   have hlt:Hy.plN l id<l.length:=by
    refine Classical.byContradiction fun g=>?_
    rw [Hy.plB,List.getElem?_eq_none (by omega)] at e2;cases e2
   rw [getO,if_pos ⟨e1,e2⟩,List.getElem?_eq_getElem hlt];refine acall_of Tryz.func25 2 rfl (by kernel_rfl) (aP ?_);refine callX_pure h1 (aP ?_);refine callX_pure h2 (aP ?_);refine idxK_nat (by omega) (w0 ?_);refine getRow_of (x:=encP l[Hy.plN l id]) (by simp [hlt]) (aP ?_);exact ret_of rfl rfl
noncomputable def pgAt (m:MS) (k:Nat):Option Pg:=if (findF m.p.f ((k:Int)+1)).2=true then some (atP m.p.f.pg (findF m.p.f ((k:Int)+1)).1.toNat) else if (getO (lsN m.p.d 16) ((k:Int)+1)).2=true then some (getO (lsN m.p.d 16) ((k:Int)+1)).1 else none
noncomputable def pgsN (m:MS) (k:Nat):List Pg:=(List.range k).filterMap (pgAt m)
noncomputable def pagesM (m:MS):List Pg:=pgsN m 16
set_option maxRecDepth 20000 in
set_option maxHeartbeats 16000000 in
theorem pages_m_ok (m:MS) (hF:FM m.p.f):HCall Tryz.prog 19 [.ptr 1000000 0 0] (mH m) (mH m) (.agg [.lst ((pagesM m).map encP)]):=by
 refine hcall_of Tryz.func19 1 rfl (by kernel_rfl) (by rfl) ?_;have hlo:=storeList_ok m.p.d;have hlo16:(lsN m.p.d 16).length<=16:=fm_len _ _;obtain ⟨L,hL⟩:∃ L,lsN m.p.d 16=L:=⟨_,rfl⟩;rw [hL] at hlo hlo16
 conv=>whnf
 refine aP ?_;refine callX_pure hlo (aP ?_);refine aloop (ι:=Nat) (fun k=>[(0,.ptr 1000000 0 0),(2,.ptr 2 0 0),(3,.ptr 3 0 0),(4,.ptr 4 0 0),(5,.d (.int .i64 ((k:Int)+1)))]) (fun k=>[(1000000,.box (mCells m) false),(1000001,.row (m.ws.map encWA) 11 false),(1000004,.row (m.ev.map encEvA) 11 false),(2,.box [.nil] false),(3,.box [.d (.lst (L.map encP))] false),(4,.box [.own 44] false),(44,.row ((pgsN m k).map encP) 3 false)])
  (fun k=>k<=16) (fun k=>16-k) 0 (Nat.zero_le _) (le1 (.cell 4 0 44 3) ⟨⟨rfl,rfl⟩,rfl,rfl⟩ (le_of_cov ⟨rfl,rfl,rfl,rfl,rfl,trivial⟩ ⟨rfl,rfl,rfl,rfl,rfl,rfl,rfl,trivial⟩ ⟨rfl,rfl,rfl,rfl⟩)) ?_
 intro k hk;have hln:(pgsN m k).length<=k:=fm_len (pgAt m) k
 have hml:((pgsN m k).map encP).length=(pgsN m k).length:=List.length_map ..
 have es:pgsN m (k+1)=pgsN m k++(pgAt m k).toList:=fm_succ (pgAt m) k;have hf:=Find_ok m.p.f ((k:Int)+1) hF.tl hF.dl;have hg:=opsGet_ok L ((k:Int)+1) (by omega);rw [pgAt,hL] at es
 have hmp:(m.p.f.pg.map encP).length=m.p.f.pg.length:=List.length_map ..
 conv=>whnf
 refine bcase_p (fun h5=>?_) (fun h5=>?_)<;>conv=>whnf
 ·refine aP ?_
  rcases hF.find_cases (show ((k:Int)+1)≠0 by omega) with ⟨_,hno⟩|⟨i,_,hA⟩
  ·rw [findF_no hF hno (by omega)] at hf es;rw [if_neg (by decide)] at es;refine callX_pure hf (aP ?_);refine callX_pure hg (aP ?_)
   refine bcase_intro (fun h7=>?_) (fun h7=>?_)<;>conv=>whnf
   ·rw [if_pos h7] at es;refine aP ?_;refine roomK_le 1000 100 (by show ((pgsN m k).map encP).length+1<=1000;omega) (by decide) (by decide) (by decide) (aP ?_);rw [show (k:Int)+1+1=((k+1:Nat):Int)+1 by omega];exact ⟨k+1,by omega,by omega,le0 (le_of_cov ⟨rfl,rfl,rfl,rfl,rfl,trivial⟩ ⟨rfl,rfl,rfl,rfl,rfl,rfl,by rw [es,List.map_append];rfl,trivial⟩ ⟨rfl,rfl,rfl,rfl⟩)⟩
   ·rw [if_neg (by rw [show (getO L ((k:Int)+1)).2=false from h7];decide)] at es;refine aP ?_;rw [show (k:Int)+1+1=((k+1:Nat):Int)+1 by omega];exact ⟨k+1,by omega,by omega,le0 (le_of_cov ⟨rfl,rfl,rfl,rfl,rfl,trivial⟩ ⟨rfl,rfl,rfl,rfl,rfl,rfl,by rw [es,Option.toList,List.append_nil];rfl,trivial⟩ ⟨rfl,rfl,rfl,rfl⟩)⟩
  ·rw [findF_at hA] at hf es;have hip:=hA.hp;rw [if_pos rfl,Int.toNat_natCast,atP_eq hip] at es;refine callX_pure hf (aP ?_);refine idxK_nat (by omega) (w0 ?_);refine getRow_of (x:=encP m.p.f.pg[i]) (by simp [hip]) (aW ?_);refine aP ?_;refine roomK_le 1000 100 (by show ((pgsN m k).map encP).length+1<=1000;omega) (by decide) (by decide) (by decide) (aP ?_);rw [show (k:Int)+1+1=((k+1:Nat):Int)+1 by omega];exact ⟨k+1,by omega,by omega,le0 (le_of_cov ⟨rfl,rfl,rfl,rfl,rfl,trivial⟩ ⟨rfl,rfl,rfl,rfl,rfl,rfl,by rw [es,List.map_append];rfl,trivial⟩ ⟨rfl,rfl,rfl,rfl⟩)⟩
 ·have:k=16:=by omega
  subst this;refine aP ?_;exact hret_of rfl rfl rfl ⟨rfl,rfl,rfl,trivial⟩
structure OpsOk (l:List MOp):Prop where
 len:l.length<=20
 body:∀ o∈l,o.2.2.size<=100
structure SmOk (work:List (List MOp)):Prop where
 n1:1<=work.length
 n4:work.length<=4
 one:∀ l∈work,OpsOk l
open Classical in
noncomputable def smN (work:List (List MOp)):Int:=if SmOk work then ((work.flatten.length:Nat):Int) else-1
theorem smN_no {work:List (List MOp)} (h:¬SmOk work):smN work=-1:=by rw [smN,if_neg h]
theorem smN_yes {work:List (List MOp)} (h:SmOk work):smN work=((work.flatten.length:Nat):Int):=by rw [smN,if_pos h]
theorem flat_succ {work:List (List MOp)} {k:Nat} (hk:k<work.length):(work.take (k+1)).flatten.length=(work.take k).flatten.length+work[k].length:=by
 rw [take_snoc hk,List.flatten_append,List.length_append,List.flatten_cons,List.flatten_nil,List.append_nil]
theorem flat_bd {work:List (List MOp)} (h:∀ l∈work,l.length<=20):work.flatten.length<=20*work.length:=by
 induction work with
 |nil=>exact Nat.le_refl _
 |cons x r ih=>
  have:=h x (.head _)
  have:=ih fun l hl=>h l (.tail _ hl)
  rw [List.flatten_cons,List.length_append,List.length_cons];omega
set_option maxHeartbeats 4000000 in
theorem small19_ok (work:List (List MOp)) (hl:work.length<=9223372036854775807) (hl2:∀ l∈work,l.length<=9223372036854775807):ACall Tryz.prog 15 [.lst (work.map encTd)] (.int .i64 (smN work)):=by
 have hm:(work.map encTd).length=work.length:=List.length_map ..
 refine acall_of Tryz.func15 1 rfl (by kernel_rfl) (aP ?_)
 refine bcase_p (fun h1=>?_) (fun h1=>?_)<;>conv=>whnf
 ·refine aP ?_;rw [smN_no fun h=>by have:=h.n1;omega];exact ret_of rfl rfl
 refine aP ?_
 refine bcase_p (fun h4=>?_) (fun h4=>?_)<;>conv=>whnf
 ·refine aP ?_;rw [smN_no fun h=>by have:=h.n4;omega];exact ret_of rfl rfl
 refine aP ?_;refine aloop (ι:=Nat) (fun k=>[(3,.d (.int .i64 (work.take k).flatten.length)),(16,.d (.lst (work.map encTd))),(17,.d (.int .i64 (work.map encTd).length)),(18,.d (.int .i64 k))]) (fun _=>[])
  (fun k=>k<=work.length/\ ∀ l∈work.take k,OpsOk l) (fun k=>work.length-k) 0 ⟨Nat.zero_le _,fun l h=>by simp at h⟩ (le0 (le_of_cov ⟨rfl,rfl,rfl,rfl,trivial⟩ trivial ⟨rfl,rfl,rfl,rfl⟩)) ?_
 rintro k ⟨hk,hR⟩
 have hfb:=flat_bd fun l h=>(hR l h).len
 rw [List.length_take] at hfb
 conv=>whnf
 refine bcase_p (fun h5=>?_) (fun h5=>?_)<;>conv=>whnf
 ·have hk2:k<work.length:=by omega
  have hml:(work[k].map encMO).length=work[k].length:=List.length_map ..
  have hmem:=List.getElem_mem hk2;refine idxK_nat (by omega) (w0 ?_);refine getRow_of (x:=encTd work[k]) (by simp [hk2]) (aW ?_)
  refine bcase_p (fun h6=>?_) (fun h6=>?_)<;>conv=>whnf
  ·refine aP ?_;rw [smN_no fun h=>by have:=(h.one _ hmem).len;omega];exact ret_of rfl rfl
  refine aP ?_;refine aloop (ι:=Nat) (fun q=>[(3,.d (.int .i64 (work.take k).flatten.length)),(5,.d (.lst (work[k].map encMO))),(16,.d (.lst (work.map encTd))),(17,.d (.int .i64 (work.map encTd).length)),(18,.d (.int .i64 k)),(25,.d (.lst (work[k].map encMO))),(26,.d (.int .i64 (work[k].map encMO).length)),(27,.d (.int .i64 q))]) (fun _=>[])
   (fun q=>q<=work[k].length/\ ∀ o∈work[k].take q,o.2.2.size<=100) (fun q=>work[k].length-q) 0 ⟨Nat.zero_le _,fun o h=>by simp at h⟩ (le0 (le_of_cov ⟨rfl,rfl,rfl,rfl,rfl,rfl,rfl,rfl,trivial⟩ trivial ⟨rfl,rfl,rfl,rfl⟩)) ?_
  rintro q ⟨hq,hR2⟩
  conv=>whnf
  refine bcase_p (fun h7=>?_) (fun h7=>?_)<;>conv=>whnf
  ·have hq2:q<work[k].length:=by omega
   refine idxK_nat (by omega) (w0 ?_);refine getRow_of (x:=encMO work[k][q]) (by simp [hq2]) (aW ?_)
   refine bcase_p (fun h8=>?_) (fun h8=>?_)<;>conv=>whnf
   ·refine aP ?_;rw [smN_no fun h=>by have:=(h.one _ hmem).body _ (List.getElem_mem hq2);omega];exact ret_of rfl rfl
   refine aP ?_;refine ⟨q+1,⟨by omega,fun o h=>?_⟩,by omega,(le0 (le_of_cov ⟨rfl,rfl,rfl,rfl,rfl,rfl,rfl,rfl,trivial⟩ trivial ⟨rfl,rfl,rfl,rfl⟩))⟩;rw [take_snoc hq2] at h
   rcases List.mem_append.1 h with h|h
   ·exact hR2 o h
   ·simp at h;subst h;omega
  ·have hql:q=work[k].length:=by omega
   subst hql;rw [List.take_length] at hR2;have es:=flat_succ hk2;refine aP ?_;rw [show (((work.take k).flatten.length:Nat):Int)+(((work[k].map encMO).length:Nat):Int)=(((work.take (k+1)).flatten.length:Nat):Int) by omega];refine ⟨k+1,⟨by omega,fun l h=>?_⟩,by omega,(le0 (le_of_cov ⟨rfl,rfl,rfl,rfl,trivial⟩ trivial ⟨rfl,rfl,rfl,rfl⟩))⟩;rw [take_snoc hk2] at h
   rcases List.mem_append.1 h with h|h
   ·exact hR l h
   ·simp at h;subst h;exact ⟨by omega,hR2⟩
 ·have hkl:k=work.length:=by omega
  subst hkl;rw [List.take_length] at hR⊢;rw [smN_yes ⟨by omega,by omega,hR⟩];refine aP ?_;exact ret_of rfl rfl
open Classical in
noncomputable def newStep9 (st:Nst) (x:Pg):Nst:=if pgR x=true then (putD st.1 x,ud st.2 x.1.toNat x) else st
noncomputable def new9 (l:List Pg):Nst:=(l.take 16).foldl newStep9 new0
structure NI9 (st:Nst):Prop where
 rest:Rest st.1
 len:st.1.length=35
 z:st.1[0]?.getD ByteArray.empty=nul16
 on:OnD st.1 [] st.2 2147483647
theorem NI9.new:NI9 new0:=⟨new_rest,List.length_replicate ..,z_new,OnD.new (by decide)⟩
theorem NI9.put {st:Nst} (h:NI9 st) {x:Pg} (hx:pgR x=true):NI9 (putD st.1 x,ud st.2 x.1.toNat x):=by
 have hv:x.2.1<=2147483647:=(pgR_out.1 hx).2.2.2.1;obtain ⟨_,_,r1,r2⟩:=setS_rest h.rest hx;obtain ⟨p,hp,p1,p16⟩:=pg_nat hx;refine ⟨r1,r2.trans h.len,setD_0 h.rest,⟨fun q q1 q16 _=>?_,fun q q1 q16=>?_,fun q=>?_⟩⟩
 ·rw [get_put h.rest hx q1 q16]
  by_cases e:x.1=(q:Int)
  ·rw [if_pos e,show x.1.toNat=q by omega];simp only [ud_at];rw [if_neg (by omega)]
  ·rw [if_neg e];simp only [];rw [ud_ne _ _ (by omega)];exact h.on.dsk q q1 q16 (fun _ h=>by cases h)
 ·by_cases e:x.1=(q:Int)
  ·right
   rw [show x.1.toNat=q by omega];simp only [ud_at];exact ⟨hx,e⟩
  ·simp only [];rw [ud_ne _ _ (by omega)];exact h.on.okp q q1 q16
 ·by_cases e:q=x.1.toNat
  ·subst e
   simp only [ud_at];exact hv
  ·simp only []
   rw [ud_ne _ _ e];exact h.on.vb q
theorem NI9.step {st:Nst} (h:NI9 st) (x:Pg):NI9 (newStep9 st x):=by
 rw [newStep9]
 split
 ·rename_i g;exact h.put g
 ·exact h
theorem NI9.fold:∀ (l:List Pg) {st:Nst},NI9 st->NI9 (l.foldl newStep9 st)
 | [],_,h=>h
 |x::r,_,h=>NI9.fold r (h.step x)
theorem NI9.ofG (l:List Pg):NI9 (new9 l):=NI9.fold _ NI9.new
theorem NI9.us {st:Nst} (h:NI9 st):Us ⟨st.1,[]⟩:=h.rest.us
theorem stepsR_run9 {st:Nst} (h:NI9 st) {x:Pg} (hx:pgR x=true):stepsR ⟨st.1,[]⟩ x=planJ x.1.toNat (putB x) /\runM ⟨st.1,[]⟩ (planJ x.1.toNat (putB x)) 99=⟨putD st.1 x,[]⟩:=by
 obtain ⟨p,hp,p1,p16⟩:=pg_nat hx;have hr:=pgR_out.1 hx;refine ⟨?_,?_⟩
 ·rw [stepsR,if_neg (fun g=>g ⟨h.us,by omega,by omega⟩),if_neg (fun g=>by omega),if_pos hx]
 ·rw [runM];show ((planJ x.1.toNat (putB x)).take 99).foldl stepJ _=_;rw [List.take_of_length_le (show 10<=99 by decide),plan_runs h.rest (by omega) (by omega) (putB_size (pgR_out.1 hx).2.2.2.2)];rfl
theorem stepsR_no9 {st:Nst} (h:NI9 st) {x:Pg} (hx:pgR x=false) (hv:x.2.1≠0):stepsR ⟨st.1,[]⟩ x=[]:=by
 rw [stepsR]
 split
 ·rfl
 ·rw [if_neg (fun g=>hv g.1),if_neg (by rw [hx];decide)]
theorem pL_p {P:Nat->Pg} {j q:Nat} (e:j=q*3) (h:q<17):((pL P).drop j).take 3=encP (P q):=by
 subst e
 match q,h with
 |0,_=>rfl
 |1,_=>rfl
 |2,_=>rfl
 |3,_=>rfl
 |4,_=>rfl
 |5,_=>rfl
 |6,_=>rfl
 |7,_=>rfl
 |8,_=>rfl
 |9,_=>rfl
 |10,_=>rfl
 |11,_=>rfl
 |12,_=>rfl
 |13,_=>rfl
 |14,_=>rfl
 |15,_=>rfl
 |16,_=>rfl
 |q+17,h=>exact absurd h (by omega)
theorem pL_i {P:Nat->Pg} {j q:Nat} (e:j=q*3) (h:q<17):(pL P)[j]?=some (.int .i64 (P q).1):=by
 have:=congrArg (·[0]?) (pL_p (P:=P) e h);rw [List.getElem?_take,if_pos (by decide),List.getElem?_drop] at this;exact this
theorem pL_setP {P:Nat->Pg} {j q:Nat} (e:j=q*3) (h:q<17) (x:Pg):splice (pL P) j (encP x)=pL (ud P q x):=by
 subst e
 match q,h with
 |0,_=>rfl
 |1,_=>rfl
 |2,_=>rfl
 |3,_=>rfl
 |4,_=>rfl
 |5,_=>rfl
 |6,_=>rfl
 |7,_=>rfl
 |8,_=>rfl
 |9,_=>rfl
 |10,_=>rfl
 |11,_=>rfl
 |12,_=>rfl
 |13,_=>rfl
 |14,_=>rfl
 |15,_=>rfl
 |16,_=>rfl
 |q+17,h=>exact absurd h (by omega)
def bgAt (P:Nat->Pg) (k:Nat):Option Pg:=if (P (k+1)).1≠0 then some (P (k+1)) else none
def bgN (P:Nat->Pg) (k:Nat):List Pg:=(List.range k).filterMap (bgAt P)
noncomputable def bg19 (pages:List Pg):List Pg:=bgN (new9 pages).2 16
noncomputable def begM (n:Nat) (pages:List Pg) (work:List (List MOp)):MS:=newMS ⟨newFS n,⟨(new9 pages).1,[]⟩,0⟩ n work
set_option maxRecDepth 20000 in
set_option maxHeartbeats 16000000 in
theorem begin19_ok (many:Int) (m0:0<=many) (m1:many<=255) (pages:List Pg) (hpl:pages.length<=9223372036854775807) (work:List (List MOp)) (h1:1<=work.length) (h4:work.length<=4) (h60:∀ l∈work,l.length<=60) (n:Nat) (hn:1+many%8=(n:Int)):
  PCall Tryz.prog 17 [.int .u8 many,.lst (pages.map encP),.lst (work.map encTd)] (mSC (begM n pages work)) [.lst ((bg19 pages).map encP),.bool true]:=by
 have hm:(pages.map encP).length=pages.length:=List.length_map ..
 have hN:=NI9.ofG pages
 have hop:openM ⟨(new9 pages).1,[]⟩ n=(⟨newFS n,⟨(new9 pages).1,[]⟩,0⟩,0):=by
  have:=open_rest hN.rest hN.z (n:=n) (by omega) (by omega)
  rw [Int.toNat_natCast] at this;exact this
 have hNew:=machNew_ok ⟨(new9 pages).1,[]⟩ n work _ hop hN.us h1 h4 h60;refine pcall_of Tryz.func17 3 rfl (by kernel_rfl) (aP ?_);refine callX_pure dnew_ok (aW ?_);refine aP ?_;refine aloop (ι:=Nat×Nst) (fun k=>[(0,.d (.int .u8 many)),(1,.d (.lst (pages.map encP))),(2,.d (.lst (work.map encTd))),(9,.ptr 9 0 0),(11,.ptr 11 0 0),(12,.d (.int .i64 k.1))])
  (fun k=>[(9,.box [.d (.lst (k.2.1.map encB)),.d (.lst [])] false),(11,.box ((pL k.2.2).map AV.d) false)])
  (fun k=>k.1<=pages.length/\k.1<=16/\k.2=(pages.take k.1).foldl newStep9 new0/\NI9 k.2) (fun k=>16-k.1) (0,new0) ⟨by omega,by decide,rfl,NI9.new⟩ (le0 (le_of_cov ⟨rfl,rfl,rfl,rfl,rfl,rfl,trivial⟩ ⟨rfl,rfl,trivial⟩ ⟨rfl,rfl,rfl,rfl⟩)) ?_
 rintro ⟨k,st⟩ ⟨hk,hk16,hst,hI⟩;simp only at hk hk16 hst hI⊢
 have hfin:(¬k<pages.length) \/ (¬k<16)->st=new9 pages:=fun h=>by
  rw [hst,new9]
  by_cases e:k=16
  ·subst e;rfl
  ·have:k=pages.length:=by omega
   rw [List.take_of_length_le (by omega),List.take_of_length_le (by omega)]
 conv=>whnf
 refine bcase_p (fun h5=>?_) (fun h5=>?_)<;>conv=>whnf
 rotate_left
 ·refine aP ?_;have e:=hfin (by omega);subst e;refine aloop (ι:=Nat) (fun k=>[(0,.d (.int .u8 many)),(2,.d (.lst (work.map encTd))),(9,.ptr 9 0 0),(11,.ptr 11 0 0),(14,.own 76),(15,.d (.int .i64 ((k:Int)+1)))])
   (fun k=>[(9,.box [.d (.lst ((new9 pages).1.map encB)),.d (.lst [])] false),(11,.box ((pL (new9 pages).2).map AV.d) false),(76,.row ((bgN (new9 pages).2 k).map encP) 3 false)])
   (fun k=>k<=16) (fun k=>16-k) 0 (Nat.zero_le _) (le1 (.row 14 76 3) ⟨rfl,rfl⟩ (le_of_cov ⟨rfl,rfl,rfl,rfl,rfl,rfl,trivial⟩ ⟨rfl,rfl,rfl,trivial⟩ ⟨rfl,rfl,rfl,rfl⟩)) ?_
  intro k hk;have hln:(bgN (new9 pages).2 k).length<=k:=fm_len (bgAt (new9 pages).2) k
  have hml:((bgN (new9 pages).2 k).map encP).length=(bgN (new9 pages).2 k).length:=List.length_map ..
  have es:bgN (new9 pages).2 (k+1)=bgN (new9 pages).2 k++(bgAt (new9 pages).2 k).toList:=fm_succ (bgAt (new9 pages).2) k;have hlen:(pL (new9 pages).2).length=51:=rfl;rw [bgAt] at es
  conv=>whnf
  refine bcase_p (fun h5=>?_) (fun h5=>?_)<;>conv=>whnf
  ·refine aP ?_;refine idxK_int (by omega) (by omega) (w0 ?_);rw [show ((k:Int)+1).toNat=k+1 by omega]
   try (refine condK_of rfl ?_)
   refine (part_one (l:=pL (new9 pages).2) (.int .i64 ((new9 pages).2 (k+1)).1) (by first|rfl|simp only [killC_d]) (pL_i (by simp only [szs];omega) (by omega)) ?_)
   conv=>whnf
   refine aA ?_
   refine bcase_n (fun h7=>?_) (fun h7=>?_)<;>conv=>whnf
   ·rw [if_pos h7] at es;refine aP ?_;refine idxK_int (by omega) (by omega) (w0 ?_);rw [show ((k:Int)+1).toNat=k+1 by omega]
    try (refine condK_of rfl ?_)
    refine (part_agg (l:=pL (new9 pages).2) (l2:=encP ((new9 pages).2 (k+1))) (by first|rfl|simp only [killC_d]) (by first|omega|(simp only [szs];omega)) (pL_p (by simp only [szs];omega) (by omega)) ?_)
    conv=>whnf
    refine aA ?_;refine aP ?_;refine roomK_le 1000 100 (by show ((bgN (new9 pages).2 k).map encP).length+1<=1000;omega) (by decide) (by decide) (by decide) (aP ?_);rw [show (k:Int)+1+1=((k+1:Nat):Int)+1 by omega];exact ⟨k+1,by omega,by omega,le0 (le_of_cov ⟨rfl,rfl,rfl,rfl,rfl,rfl,trivial⟩ ⟨rfl,rfl,by rw [es,List.map_append];rfl,trivial⟩ ⟨rfl,rfl,rfl,rfl⟩)⟩
   ·rw [if_neg (by simpa using h7)] at es;refine aP ?_;rw [show (k:Int)+1+1=((k+1:Nat):Int)+1 by omega];exact ⟨k+1,by omega,by omega,le0 (le_of_cov ⟨rfl,rfl,rfl,rfl,rfl,rfl,trivial⟩ ⟨rfl,rfl,by rw [es,Option.toList,List.append_nil];rfl,trivial⟩ ⟨rfl,rfl,rfl,rfl⟩)⟩
  ·have:k=16:=by omega
   subst this;refine aP ?_;refine divK_rem (by decide) m0 (aP ?_);rw [hn];refine callX_ptr hNew (Nat.le_of_ble_eq_true rfl) (aP ?_);refine ⟨6,.tmp 7,[.tmp 8],2000672,_,rfl,rfl,rfl,?_,rfl,rfl⟩;refine .inl ⟨2000673,rfl,rfl,rfl,?_⟩
   repeat refine ⟨rfl,?_⟩
   exact .inl ⟨2000674,rfl,rfl,rfl,trivial⟩
 refine bcase_p (fun h6=>?_) (fun h6=>?_)<;>conv=>whnf
 rotate_left
 ·refine aP ?_;have e:=hfin (by omega);subst e;refine aloop (ι:=Nat) (fun k=>[(0,.d (.int .u8 many)),(2,.d (.lst (work.map encTd))),(9,.ptr 9 0 0),(11,.ptr 11 0 0),(14,.own 76),(15,.d (.int .i64 ((k:Int)+1)))])
   (fun k=>[(9,.box [.d (.lst ((new9 pages).1.map encB)),.d (.lst [])] false),(11,.box ((pL (new9 pages).2).map AV.d) false),(76,.row ((bgN (new9 pages).2 k).map encP) 3 false)])
   (fun k=>k<=16) (fun k=>16-k) 0 (Nat.zero_le _) (le1 (.row 14 76 3) ⟨rfl,rfl⟩ (le_of_cov ⟨rfl,rfl,rfl,rfl,rfl,rfl,trivial⟩ ⟨rfl,rfl,rfl,trivial⟩ ⟨rfl,rfl,rfl,rfl⟩)) ?_
  intro k hk;have hln:(bgN (new9 pages).2 k).length<=k:=fm_len (bgAt (new9 pages).2) k
  have hml:((bgN (new9 pages).2 k).map encP).length=(bgN (new9 pages).2 k).length:=List.length_map ..
  have es:bgN (new9 pages).2 (k+1)=bgN (new9 pages).2 k++(bgAt (new9 pages).2 k).toList:=fm_succ (bgAt (new9 pages).2) k;have hlen:(pL (new9 pages).2).length=51:=rfl;rw [bgAt] at es
  conv=>whnf
  refine bcase_p (fun h5=>?_) (fun h5=>?_)<;>conv=>whnf
  ·refine aP ?_;refine idxK_int (by omega) (by omega) (w0 ?_);rw [show ((k:Int)+1).toNat=k+1 by omega]
   try (refine condK_of rfl ?_)
   refine (part_one (l:=pL (new9 pages).2) (.int .i64 ((new9 pages).2 (k+1)).1) (by first|rfl|simp only [killC_d]) (pL_i (by simp only [szs];omega) (by omega)) ?_)
   conv=>whnf
   refine aA ?_
   refine bcase_n (fun h7=>?_) (fun h7=>?_)<;>conv=>whnf
   ·rw [if_pos h7] at es;refine aP ?_;refine idxK_int (by omega) (by omega) (w0 ?_);rw [show ((k:Int)+1).toNat=k+1 by omega]
    try (refine condK_of rfl ?_)
    refine (part_agg (l:=pL (new9 pages).2) (l2:=encP ((new9 pages).2 (k+1))) (by first|rfl|simp only [killC_d]) (by first|omega|(simp only [szs];omega)) (pL_p (by simp only [szs];omega) (by omega)) ?_)
    conv=>whnf
    refine aA ?_;refine aP ?_;refine roomK_le 1000 100 (by show ((bgN (new9 pages).2 k).map encP).length+1<=1000;omega) (by decide) (by decide) (by decide) (aP ?_);rw [show (k:Int)+1+1=((k+1:Nat):Int)+1 by omega];exact ⟨k+1,by omega,by omega,le0 (le_of_cov ⟨rfl,rfl,rfl,rfl,rfl,rfl,trivial⟩ ⟨rfl,rfl,by rw [es,List.map_append];rfl,trivial⟩ ⟨rfl,rfl,rfl,rfl⟩)⟩
   ·rw [if_neg (by simpa using h7)] at es;refine aP ?_;rw [show (k:Int)+1+1=((k+1:Nat):Int)+1 by omega];exact ⟨k+1,by omega,by omega,le0 (le_of_cov ⟨rfl,rfl,rfl,rfl,rfl,rfl,trivial⟩ ⟨rfl,rfl,by rw [es,Option.toList,List.append_nil];rfl,trivial⟩ ⟨rfl,rfl,rfl,rfl⟩)⟩
  ·have:k=16:=by omega
   subst this;refine aP ?_;refine divK_rem (by decide) m0 (aP ?_);rw [hn];refine callX_ptr hNew (Nat.le_of_ble_eq_true rfl) (aP ?_);refine ⟨6,.tmp 7,[.tmp 8],2000672,_,rfl,rfl,rfl,?_,rfl,rfl⟩;refine .inl ⟨2000673,rfl,rfl,rfl,?_⟩
   repeat refine ⟨rfl,?_⟩
   exact .inl ⟨2000674,rfl,rfl,rfl,trivial⟩
 have hk2:k<pages.length:=by omega
 have en:(pages.take (k+1)).foldl newStep9 new0=newStep9 st pages[k]:=by rw [take_snoc hk2,List.foldl_append,<-hst];rfl
 refine aP ?_;refine idxK_nat (by omega) (w0 ?_);refine getRow_of (x:=encP pages[k]) (by simp [hk2]) (aW ?_);refine callX_pure (rsteps_ok ⟨st.1,[]⟩ pages[k]) (aW ?_);obtain ⟨x,hx⟩:∃ x,pages[k]=x:=⟨_,rfl⟩
 have hxs:(pages.map encP)[k]?=some (encP x):=by simp [hk2,hx]
 rw [hx] at en⊢
 have skip:¬(pgR x=true)->(pages.take (k+1)).foldl newStep9 new0=st:=fun g=>by rw [en,newStep9,if_neg g]
 have hj:((stepsR ⟨st.1,[]⟩ x).map encJ).length=(stepsR ⟨st.1,[]⟩ x).length:=List.length_map ..
 refine aP ?_
 refine bcase_p (fun h7=>?_) (fun h7=>?_)<;>conv=>whnf
 ·refine aP ?_
  exact ⟨(k+1,st),⟨by simp only [];omega,by simp only [];omega,(skip fun g=>by
   rw [hj,(stepsR_run9 hI g).1] at h7
   exact absurd h7 (show ¬((10:Nat):Int)=0 by decide)).symm,hI⟩,by simp only [];omega,(le0 (le_of_cov ⟨rfl,rfl,rfl,rfl,rfl,rfl,trivial⟩ ⟨rfl,rfl,trivial⟩ ⟨rfl,rfl,rfl,rfl⟩))⟩
 refine idxK_nat (by omega) (w0 ?_);refine getRow_of hxs (aP ?_)
 refine bcase_p (fun h8=>?_) (fun h8=>?_)<;>conv=>whnf
 ·refine aP ?_;exact ⟨(k+1,st),⟨by simp only [];omega,by simp only [];omega,(skip fun g=>by have:=(pgR_out.1 g).2.2.1;omega).symm,hI⟩,by simp only [];omega,(le0 (le_of_cov ⟨rfl,rfl,rfl,rfl,rfl,rfl,trivial⟩ ⟨rfl,rfl,trivial⟩ ⟨rfl,rfl,rfl,rfl⟩))⟩
 have hR:pgR x=true:=by
  cases e:pgR x with
  |true=>rfl
  |false=>
   rw [hj,stepsR_no9 hI e h8] at h7;exact absurd rfl h7
 obtain ⟨r1,r2⟩:=stepsR_run9 hI hR;rw [r1];refine aP ?_;refine callX_pure (rrun_ok ⟨st.1,[]⟩ (planJ x.1.toNat (putB x)) 99 (show (10:Nat) <=1000000 by decide)) (aW ?_);rw [r2];refine aP ?_;obtain ⟨q,hq,q1,q16⟩:=pg_nat hR;have hI2:=hI.put hR;have en2:=en;rw [newStep9,if_pos hR] at en2;have hlen:(pL st.2).length=51:=rfl;refine idxK_nat (by omega) (w0 ?_);refine getRow_of hxs (aP ?_);refine idxK_nat (by omega) (w0 ?_);refine getRow_of hxs (aP ?_);refine idxK_int (by omega) (by omega) (w0 ?_)
 try (refine condK_of rfl ?_)
 refine (store_at (l:=pL st.2) (l2:=encP x) (l3:=pL (ud st.2 x.1.toNat x)) (by first|rfl|simp only [killC_d]) rfl (by first|omega|(simp only [szs];omega)) (by first|omega|(simp only [szs];omega)) rfl (pL_setP (by simp only [szs];omega) (by omega) _) ?_)
 conv=>whnf
 refine aA ?_;exact ⟨(k+1,(putD st.1 x,ud st.2 x.1.toNat x)),⟨by simp only [];omega,by simp only [];omega,en2.symm,hI2⟩,by simp only [];omega,(le0 (le_of_cov ⟨rfl,rfl,rfl,rfl,rfl,rfl,trivial⟩ ⟨rfl,rfl,trivial⟩ ⟨rfl,rfl,rfl,rfl⟩))⟩
theorem Inv.wr9 {p P W u} (h:Inv p P W 2147483647 u) {q i:Nat} (hA:AtF p.f (q:Int) i) {b:ByteArray} (hb:b.size<=16) (hv:(P q).2.1<2147483647) {l:List (Int×Int)} (hr:Dt.rightB l=true) (hl:∀ y∈l,(y∈p.f.dt\/y.1=(q:Int)) /\y.2<=p.now) (hl2:∀ y∈p.f.dt,y∈l) (hd:∃ y∈l,y.1=(q:Int)):
  Inv ⟨⟨p.f.fr,p.f.hand,p.f.tb,p.f.pg.set i (wrPg (p.f.pg[i]'hA.hp) b),l⟩,p.d,p.now⟩ (ud P q (wrPg (P q) b)) W 2147483647 u:=by
 have hi:=hA.hi;have hip:=hA.hp;have hg:=pgR_out.1 hA.pgr;have ePg:=h.at_ q i hA;rw [<-ePg] at hv;have hx:pgR (wrPg (p.f.pg[i]'hA.hp) b)=true:=pgR_out.2 ⟨hg.1,hg.2.1,by show 1<= (p.f.pg[i]'hA.hp).2.1+1;omega,by show (p.f.pg[i]'hA.hp).2.1+1<=_;omega,hb⟩
 have hm:=FM.wrote hA hx hA.pg hr fun y hy=>(hl y hy).1
 refine ⟨⟨hm,h.pj.rest,h.pj.ca,h.pj.z0,h.pj.n0,h.pj.n1,fun x hx=>(hl x hx).2⟩,h.pins,fun k j hB=>?_,⟨fun k k1 k16 hk=>?_,fun k k1 k16=>?_,fun k=>?_⟩,h.ub⟩
 ·have hC:=atF_of h.pj.fm (by have:=hB.p1;omega) hB.hi hB.fr;have hj2:j<(p.f.pg.set i (wrPg (p.f.pg[i]'hA.hp) b)).length:=hB.hp;show (p.f.pg.set i (wrPg (p.f.pg[i]'hA.hp) b))[j]'hj2=_
  by_cases e:k=q
  ·subst e;have:j=i:=hA.uni hC.hi hC.fr;subst this;rw [List.getElem_set_self,ud_at,ePg]
  ·have hne:i≠j:=fun e2=>by
    subst e2;have:=hA.fr.symm.trans hC.fr;omega
   rw [List.getElem_set_ne hne,ud_ne _ _ e];exact h.at_ k j hC
 ·have hne:k≠q:=fun e=>by subst e;obtain ⟨y,hy,ey⟩:=hd;exact hk y hy ey
  rw [ud_ne _ _ hne]
  exact h.on.dsk k k1 k16 fun x hx=>hk x (hl2 x hx)
 ·by_cases e:k=q
  ·subst e;rw [ud_at,<-ePg];exact .inr ⟨hx,hA.pg⟩
  ·rw [ud_ne _ _ e];exact h.on.okp k k1 k16
 ·by_cases e:k=q
  ·subst e;rw [ud_at,<-ePg];show (p.f.pg[i]'hA.hp).2.1+1<=2147483647;omega
  ·rw [ud_ne _ _ e];exact h.on.vb k
theorem look9 {p P W u} (h:Inv p P W 2147483647 u) {q i:Nat} (hA:AtF p.f (q:Int) i):lookS p.f q=((i:Int),0):=by
 rw [lookS,if_pos (fm_iff.2 hA.right),(find_mem hA.right.tb).2 ⟨hA.p1,hA.mem⟩];rfl
theorem write9 {p P W u} (h:Inv p P W 2147483647 u) {q i:Nat} (hv:(P q).2.1<2147483647) (hA:AtF p.f (q:Int) i) (hp:(p.f.fr[i]'hA.hi).2.1≠0) {b:ByteArray} (hb:b.size<=16):
  ∃ f',writeS p.f q b p.now=(f',0) /\Inv ⟨f',p.d,p.now⟩ (ud P q (wrPg (P q) b)) W 2147483647 u/\atP f'.pg i=wrPg (P q) b/\f'.fr=p.f.fr:=by
 have hip:=hA.hp;have hi:=hA.hi;have e:=look9 h hA;have ePg:=h.at_ q i hA;have hvq:=hv;rw [<-ePg] at hvq;have hm:=mark_any h.pj.fm hA.p1 hA.p16 h.pj.n0 h.pj.n1 h.pj.dt;obtain ⟨c1,c2,c3,c4⟩:=mark_cases (l:=p.f.dt) (p:=(q:Int)) (t:=p.now) (by rw [hm]);rw [hm] at c1 c2 c3 c4;refine ⟨⟨p.f.fr,p.f.hand,p.f.tb,p.f.pg.set i (wrPg (p.f.pg[i]'hA.hp) b),(if 0<=Dt.placeG p.f.dt q 0 then p.f.dt else p.f.dt++[((q:Int),p.now)])⟩,?_,?_,?_,rfl⟩
 ·rw [writeS,e,if_neg (fun q=>q rfl),Int.toNat_natCast,atF_eq hi,if_neg hp,if_neg (by omega),atP_eq hip,if_neg (by omega),hm,if_neg (fun q=>q rfl)]
 ·refine h.wr9 hA hb hv c1 (fun y hy=>⟨c2 y hy,?_⟩) c3 c4
  split at hy
  ·exact h.pj.dt y hy
  ·rcases List.mem_append.1 hy with g|g
   ·exact h.pj.dt y g
   ·rw [List.mem_singleton] at g;subst g;exact Int.le_refl _
 ·show atP (p.f.pg.set i _) i=_;rw [atP_eq (by rw [List.length_set];exact hip),List.getElem_set_self,ePg]
theorem write7 {p P W u} (h:Inv p P W 2147483647 u) {q i:Nat} (hv:(P q).2.1=2147483647) (hA:AtF p.f (q:Int) i) (hp:(p.f.fr[i]'hA.hi).2.1≠0) {b:ByteArray} (hb:b.size<=16):(writeS p.f q b p.now).2=7:=by
 have e:=look9 h hA;have hip:=hA.hp;have ePg:=h.at_ q i hA;rw [writeS,e,if_neg (fun q=>q rfl),Int.toNat_natCast,atF_eq hA.hi,if_neg hp,if_neg (by omega),atP_eq hip,if_pos (by rw [ePg];omega)]
theorem fetch9 {p P W u} (h:Inv p P W 2147483647 u) (hu0:0<=u) (hu:u<2147483647) {q:Nat} (h1:1<=q) (h16:q<=16) {n:Nat} (hl:p.f.fr.length=n):Did p 2147483647 (u+1) (thereM P W n 1 q) (poolFetch p q):=by
 rw [thereM,if_neg (show ¬((1:Int)=2/\ (P q).1≠0) from fun g=>absurd g.1 (by decide)),if_neg (show ¬((1:Int)=2) by decide)];rw [poolFetch]
 rcases h.where h1 with hn|⟨i,hA⟩
 ·rw [findF_no h.pj.fm hn (by omega),if_neg (show ¬false=true by decide),h.pj.get h1 h16,h.on.dsk q h1 h16 (h.out h1 hn)]
  by_cases hz:(P q).1=0
  ·rw [if_pos hz,if_pos ⟨rfl,hz⟩,if_pos (show (3:Int)≠0 by decide)];exact Did.same (h.mono (Int.le_refl _) (by omega)) zP 3
  ·rw [if_neg hz,if_neg (fun g=>hz g.2),if_neg (show ¬((0:Int)≠0) from fun g=>g rfl)];obtain ⟨x1,x2⟩:=h.on.nz h1 h16 hz;exact load_did (h.mono (Int.le_refl _) (show u<=u+1 by omega)) (by omega) h1 h16 hn x1 x2 false (fun _=>rfl) (h.on.vb q) hl
 ·have hi:=hA.hi;have hip:=hA.hp;have hk:=frOk_out.1 (h.pj.fm.ck.all i hi);have hub:=h.ub q;have hw:=h.wat hA;rw [hw] at hub;have hpin:=pinS_yes hA (by omega)
  have hbz:¬(W q=0/\bn W 16=n):=fun g=>by
   rw [<-hl] at g;exact h.busy.1 g.2 i hi (by rw [<-hw];exact g.1)
  rw [if_neg (fun g=>h.nz hA g.2),if_neg hbz,findF_at hA,if_pos rfl,hpin,if_neg (fun g=>g rfl),Int.toNat_natCast]
  have e1:atP (withF p.f i (upPin p.f.fr[i])).pg i=P q:=by
   rw [<-h.at_ q i hA];exact atP_eq hip
  have hin:=h.pin hA (y:=upPin p.f.fr[i]) (frOk_out.2 ⟨hk.1,hk.2.1,by show 0<= (p.f.fr[i]).2.1+1;omega,by show (p.f.fr[i]).2.1+1<=_;omega⟩) hA.fr (u':=u+1) (by show (p.f.fr[i]).2.1+1<=_;omega) (by omega);rw [ud_self,e1];refine ⟨rfl,rfl,?_,rfl,by show (p.f.fr.set i _).length=_;rw [List.length_set],rfl,by simp,fun g=>absurd rfl g⟩
  rw [hw];exact hin
theorem create9 {p P W u} (h:Inv p P W 2147483647 u) (hu0:0<=u) (hu:u<2147483647) {q:Nat} (h1:1<=q) (h16:q<=16) {n:Nat} (hl:p.f.fr.length=n):Did p 2147483647 (u+1) (thereM P W n 2 q) (poolCreate p q):=by
 rw [thereM,if_neg (show ¬((2:Int)=1/\ (P q).1=0) from fun g=>absurd g.1 (by decide)),if_pos (show ((2:Int)=2) from rfl)];rw [poolCreate]
 rcases h.where h1 with hn|⟨i,hA⟩
 ·rw [findF_no h.pj.fm hn (by omega),if_neg (show ¬false=true by decide),h.pj.get h1 h16,h.on.dsk q h1 h16 (h.out h1 hn)]
  by_cases hz:(P q).1=0
  ·rw [if_pos hz,if_neg (fun g=>g.2 hz),if_pos rfl];exact load_did (h.mono (Int.le_refl _) (show u<=u+1 by omega)) (by omega) h1 h16 hn (x:=newP q) (pg1_ok (by omega) (by omega)) rfl true (fun g=>by cases g) (by show (1:Int) <=2147483647;decide) hl
  ·rw [if_neg hz,if_pos ⟨rfl,hz⟩,if_neg (show ¬(0:Int)=3 by decide),if_pos rfl];exact Did.same (h.mono (Int.le_refl _) (by omega)) zP 4
 ·rw [if_pos ⟨rfl,h.nz hA⟩,findF_at hA,if_pos rfl];exact Did.same (h.mono (Int.le_refl _) (by omega)) zP 4
theorem hasPins9 {p P W u} (h:Inv p P W 2147483647 u) {q:Nat} (h1:1<=q) (h16:q<=16):hasPinsM p q=decide (0<W q):=by
 rw [hasPinsM]
 rcases h.where h1 with hn|⟨i,hA⟩
 ·rw [findF_no h.pj.fm hn (by omega),h.wout h1 h16 hn];rfl
 ·rw [findF_at hA,h.wat hA,Int.toNat_natCast,atF_eq hA.hi];rfl
theorem pinned9 {p P W u} (h:Inv p P W 2147483647 u) {q i:Nat} (hA:AtF p.f (q:Int) i) (hz:(p.f.fr[i]'hA.hi).2.1≠0) (b:ByteArray) (h1:1<=q) (h16:q<=16):
  poolDo p (3,(q:Int),b)=(p,P q,[],0) /\
  (∃ p' r,poolDo p (4,(q:Int),b)=(p',r.2,[],r.1) /\p'.now=p.now/\p'.f.fr.length=p.f.fr.length/\
   if 16<b.size then r=(5,zP) /\p'=p else if (P q).2.1=2147483647 then r=(7,zP) /\p'=p else r=(0,wrPg (P q) b) /\Inv p' (ud P q (wrPg (P q) b)) W 2147483647 u) /\
  ∃ p',poolDo p (5,(q:Int),b)=(p',zP,[],0) /\Inv p' P (ud W q (W q-1)) 2147483647 u/\p'.now=p.now/\p'.f.fr.length=p.f.fr.length:=by
 have hi:=hA.hi;have hip:=hA.hp;have hw:=h.wat hA;have hko:=frOk_out.1 (h.pj.fm.ck.all i hi);refine ⟨?_,?_,?_⟩
 ·rw [do_pinned (show 1<= (q:Int) by omega) (show (q:Int) <=16 by omega) (.inl rfl),pinned_at (a:=(3,(q:Int),b)) hA hz,if_neg (show ¬(3:Int)=4 by decide),if_neg (show ¬(3:Int)=5 by decide),h.at_ q i hA]
 ·rw [do_pinned (show 1<= (q:Int) by omega) (show (q:Int) <=16 by omega) (.inr (.inl rfl)),pinned_at (a:=(4,(q:Int),b)) hA hz,if_pos rfl]
  by_cases hb:16<b.size
  ·have e:writeS p.f q b p.now=(p.f,5):=by
    rw [writeS,look9 h hA,if_neg (fun q=>q rfl),Int.toNat_natCast,atF_eq hi,if_neg hz,if_pos hb]
   refine ⟨p,(5,zP),?_,rfl,rfl,?_⟩
   ·simp only [e];rfl
   ·rw [if_pos hb];exact ⟨rfl,rfl⟩
  ·by_cases hv:(P q).2.1=2147483647
   ·have e:=write7 h hv hA hz (b:=b) (by omega);refine ⟨p,(7,zP),?_,rfl,rfl,?_⟩
    ·simp only [e];rfl
    ·rw [if_neg hb,if_pos hv];exact ⟨rfl,rfl⟩
   ·have hvb:=h.on.vb q;obtain ⟨f',e1,e2,e3,e4⟩:=write9 h (by omega) hA hz (b:=b) (by omega);refine ⟨⟨f',p.d,p.now⟩,(0,wrPg (P q) b),?_,rfl,by show f'.fr.length=_;rw [e4],?_⟩
    ·simp only [e1];rw [if_neg (fun g=>g rfl),e3]
    ·rw [if_neg hb,if_neg hv];exact ⟨rfl,e2⟩
 ·rw [do_pinned (show 1<= (q:Int) by omega) (show (q:Int) <=16 by omega) (.inr (.inr rfl)),pinned_at (a:=(5,(q:Int),b)) hA hz,if_neg (show ¬(5:Int)=4 by decide),if_pos rfl,unpinS_yes hA hz,if_neg (fun g=>g rfl)];have hub:=h.ub q;rw [hw] at hub;have hin:=h.pin hA (y:=downPin p.f.fr[i]) (frOk_out.2 ⟨hko.1,hko.2.1,by show 0<= (p.f.fr[i]).2.1-1;omega,by show (p.f.fr[i]).2.1-1<=_;omega⟩) hA.fr (u':=u) (by show (p.f.fr[i]).2.1-1<=_;omega) (Int.le_refl _);refine ⟨_,rfl,?_,rfl,by show (p.f.fr.set i _).length=_;rw [List.length_set]⟩
  rw [hw];exact hin
end Go.Lk
