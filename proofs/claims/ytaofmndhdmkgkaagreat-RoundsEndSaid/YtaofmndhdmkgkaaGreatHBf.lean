/-
  What is proved here: what functions of the program compute, and what follows; no condition beyond each theorem's own.
-/
import Derived.Test.YtaofmndhdmkgkaaGreatHAp
import Derived.Test.YtaofmndhdmkgkaaGreatHAt
import Derived.Test.YtaofmndhdmkgkaaGreatHBc
import Derived.Test.YtaofmndhdmkgkaaGreatHBe
set_option linter.unusedSimpArgs false
set_option linter.unusedVariables false
set_option linter.unnecessarySimpa false
set_option linter.unusedSectionVars false
namespace Go.Lk
open Go Go.Proofs Go.RowKit
theorem jbR_ok (js:List OJ):okRows 1 (jbR js)=true:=by
 rw [okRows,List.all_eq_true];intro x hx;obtain ⟨i,hi,rfl⟩:=List.mem_iff_getElem.1 hx
 have h2:i<js.length:=by rw [jbR_len] at hi;exact hi
 have:=jbR_get h2;rw [List.getElem?_eq_getElem hi,Option.some.injEq] at this
 rw [this];rfl
theorem jbR_set {js:List OJ} {k:Nat} (hk:k<js.length) (x:OJ):(jbR js).set k (jobsJ k x)=jbR (js.set k x):=by
 refine List.ext_getElem? fun i=>?_
 rw [jbR,jbR,List.getElem?_set,List.getElem?_mapIdx,List.getElem?_mapIdx,List.getElem?_set];simp only [List.length_mapIdx]
 by_cases e:k=i
 ·subst e;rw [if_pos rfl,if_pos rfl,if_pos hk,if_pos hk];rfl
 ·rw [if_neg e,if_neg e]
theorem jbR_none (n:Nat):List.replicate n [D.lst []]=jbR (List.replicate n none):=by
 refine List.ext_getElem? fun i=>?_
 rw [jbR,List.getElem?_mapIdx,List.getElem?_replicate,List.getElem?_replicate]
 split<;>rfl
def newSA (n:Nat):SA:=⟨0,false,List.replicate n none,0,[]⟩
set_option maxHeartbeats 4000000 in
theorem schedNew_ok (n:Nat) (d:DS) (h1:1<=n) (h4:n<=4) (hU:Us d):ACall Tryz.prog 73 [.agg (dvC 0 [] d),.lst (List.replicate n [D.int .i64 1])] (.tup [encSA (newSA n) d,.int .i64 0]):=by
 have hm:(List.replicate n [D.int .i64 1]).length=n:=List.length_replicate;refine acall_of Tryz.func73 2 rfl (by kernel_rfl) (aO ?_);refine callX_pure (dvRight_ok 0 [] d ⟨Nat.zero_le _,Nat.zero_le _,List.Pairwise.nil,fun f hf=>by cases hf⟩ hU) (aO ?_);refine callX_pure (lnew_ok n h1 h4) (aO ?_);rw [hm,Int.toNat_natCast];refine roomK_le 1000 100 (by omega) (by decide) (by decide) (by decide) (aO ?_);exact ret_of rfl (congrArg (fun R=>D.tup [D.agg [.lst ((List.replicate n none).map encLane),.int .i64 0,.bool false,.lst R,.lst (d.sec.map encB),.lst (d.ca.map encW),.int .i64 0,.lst [],.lst []],.int .i64 0]) (jbR_none n))
set_option maxHeartbeats 4000000 in
theorem schedAsk_ok (s:SA) (d:DS) (o:SOk s) (hU:Us d) (w:Nat) (hw:w<s.jobs.length) (hn:s.jobs[w]=none) (p:Int) (h1:1<=p) (h2:p<=16):
  ACall Tryz.prog 144 [encSA s d,.agg (encJob w p 0)] (.tup [encSA (askS s w p) d,.int .i64 0]):=by
 have n1:=o.n1;have n4:=o.n4;have hl:=jbR_len s.jobs;have hl0:(s.jobs.mapIdx jobsJ).length=s.jobs.length:=hl
 have hg:(jbR s.jobs)[w]?=some [.lst []]:=by have:=jbR_get hw;rw [hn] at this;exact this
 have es:(jbR s.jobs).set w (splice [D.lst []] 0 [D.lst [encJob w p 0]])=jbR (s.jobs.set w (some p)):=jbR_set hw (some p);refine acall_of Tryz.func144 2 rfl (by kernel_rfl) (aO ?_);refine callX_pure (schedR_ok s d o hU) (aO ?_);refine callX_pure (srequest_ok w p 0 h1 h2) (aO ?_);refine idxK_nat (by omega) (w0 ?_);refine getRow_of hg (aO ?_);refine callX_pure cost_ok (aO ?_);refine callX_pure (lpush_ok s.jobs s.at' s.giv n1 n4 o.at1 w hw hn p) (aO ?_);refine callX_own (cloneJs (jbR_ok s.jobs) (by omega)) (aO ?_);refine idxK_nat (by omega) (w0 ?_);refine getRow_of hg (aO ?_);refine callX_own (cloneJb (l:=[]) rfl (by simp)) (aO ?_);refine roomK_le 1000 100 (by show 0+1<=1000;omega) (by decide) (by decide) (by decide) (aO ?_);refine idxK_nat (by omega) (aO ?_);refine getRow_of hg (aO ?_);exact ret_of rfl (congrArg (fun R=>D.tup [D.agg [.lst ((s.jobs.set w (some p)).map encLane),.int .i64 s.at',.bool s.giv,.lst R,.lst (d.sec.map encB),.lst (d.ca.map encW),.int .i64 s.next,.lst (s.out.map encReq),.lst (s.out.map encOut)],.int .i64 0]) es)
structure PuI (s0:SA) (s:SA×Nat):Prop where
 su:SU s.1
 m:4<s.1.out.length+s.2
 eq:pumpG s.2 s.1=pumpS s0
def boxSA (s:SA) (d:DS) (J O:Nat):List AV:=[.d (.lst (s.jobs.map encLane)),.d (.int .i64 s.at'),.d (.bool s.giv),.own J,.d (.lst (d.sec.map encB)),.d (.lst (d.ca.map encW)),.d (.int .i64 s.next),.d (.lst (s.out.map encReq)),.own O]
theorem nextL_from {s:SA} {r:Option Nat} (h:nextL s=r):laneFrom s.jobs s.jobs.length (if s.giv=true then s.at'+1 else s.at')=r:=h
set_option maxRecDepth 20000 in
set_option maxHeartbeats 8000000 in
theorem pump_ok (s:SA) (d:DS) (o:SU s) (hU:Us d):ACall Tryz.prog 86 [encSA s d] (encSA (pumpS s) d):=by
 have hl:=jbR_len s.jobs;have hl0:(s.jobs.mapIdx jobsJ).length=s.jobs.length:=hl
 have hmo:(s.out.map encOut).length=s.out.length:=List.length_map ..
 have n4:=o.n4;have fl:=o.fl;refine acall_of Tryz.func86 1 rfl (by kernel_rfl) (aP ?_);refine callX_pure (schedR_ok s d o.toSOk hU) (aP ?_);refine callX_own (cloneJs (jbR_ok s.jobs) (by omega)) (aP ?_);refine callX_own (cloneJb (encOut_ok s.out) (by omega)) (aP ?_);refine aloop (ι:=SA×Nat) (fun s=>[(1,.ptr 1 0 0),(2,.ptr 2 0 0)]) (fun s=>[(1,.box (boxSA s.1 d 14 18) false),(2,.box [.nil,.d (.int .i64 0),.d (.bool false),.nil,.nil,.nil,.d (.int .i64 0),.nil,.nil] false),(14,.row (jbR s.1.jobs) 1 false),(18,.row (s.1.out.map encOut) 5 false)])
  (PuI s) (fun s=>4-s.1.out.length) (s,5) ⟨o,by dsimp only;omega,rfl⟩ (le0 (le_of_cov ⟨rfl,rfl,trivial⟩ ⟨rfl,rfl,rfl,rfl,trivial⟩ ⟨rfl,rfl,rfl,rfl⟩)) ?_
 rintro ⟨r,m⟩ ⟨hr,hm,he⟩;simp only [] at hr hm he⊢
 have hmr:(r.out.map encReq).length=r.out.length:=List.length_map ..
 have hmo2:(r.out.map encOut).length=r.out.length:=List.length_map ..
 have rfl4:=hr.fl;have rn4:=hr.n4;have hlr:=jbR_len r.jobs;obtain ⟨m,rfl⟩:∃ q,m=q+1:=⟨m-1,by omega⟩;rw [pumpG] at he
 conv=>whnf
 refine aA ?_
 refine bcase_p (fun h5=>?_) (fun h5=>?_)<;>conv=>whnf
 ·refine aP ?_
  refine bcase_p (fun h6=>?_) (fun h6=>?_)<;>conv=>whnf
  ·have hlt:r.out.length<4/\r.next<2147483647:=⟨by omega,by omega⟩;rw [if_pos hlt] at he
   cases hq:nextL r with
   |none=>
    rw [hq] at he;refine aP ?_;refine callX_pure (lnone_ok r.jobs r.at' r.giv hr.n1 rn4 hr.at1 (nextL_from hq)) (aP ?_);rw [<-he];exact ret_of rfl rfl
   |some k=>
    rw [hq] at he;obtain ⟨hk,p,hp⟩:=laneFrom_some hr.ne hq
    have hpk:r.jobs[k]=some p:=by rw [List.getElem?_eq_getElem hk,Option.some.injEq] at hp;exact hp
    have hpg:=hr.pg p (by rw [<-hpk];exact List.getElem_mem hk);have hg:=jbR_get hk;rw [hpk] at hg;have es:(jbR r.jobs).set k (splice [D.lst (jobL k (some p))] 0 [D.lst []])=jbR (r.jobs.set k none):=jbR_set hk none;have hs:=su_push (g:=true) hr hk hp hlt.1 hlt.2
    have he2:(r.jobs[k]?.getD none).getD 0=p:=by rw [hp];rfl
    simp only [he2] at he;refine aP ?_;refine callX_pure (lnext_ok r.jobs r.at' r.giv hr.n1 rn4 hr.at1 k (nextL_from hq)) (aP ?_);refine idxK_nat (by omega) (w0 ?_);refine getRow_of hg (aP ?_);refine idxK_nat (i:=0) (by simp [jobL]) (w0 ?_);refine getRow_of (x:=encJob k p 0) rfl (aP ?_);refine idxK_nat (by omega) (aP ?_);refine getRow_of hg (aP ?_);refine condK_of (fun e he=>by simp [jobL] at he;subst he;rfl) (w0 ?_);refine sliceK_lo (l:=1) (by simp [jobL]) (aP ?_);refine callX_own (cloneJb (l:=[]) rfl (by simp)) (aP ?_);refine idxK_nat (by omega) (aP ?_);refine getRow_of hg (aP ?_);refine callX_pure (submit_ok r.next r.out d hr.toSOk.flk hU p k 1 hpg.1 hpg.2 hlt.1 hlt.2) (aP ?_);refine roomK_le 1000 100 (by show (r.out.map encOut).length+1<=1000;omega) (by decide) (by decide) (by decide) (aP ?_);refine ⟨(⟨k,true,r.jobs.set k none,r.next+1,r.out++[⟨r.next,k,p,1⟩]⟩,m),⟨hs,by dsimp only;rw [List.length_append,List.length_singleton];omega,he⟩,by dsimp only;rw [List.length_append,List.length_singleton];omega,le0 (le_of_cov ⟨rfl,rfl,trivial⟩ ⟨?_,?_,?_,?_,trivial⟩ ⟨rfl,rfl,rfl,rfl⟩)⟩
    ·kernel_rfl
    ·kernel_rfl
    ·exact congrArg (fun R=>some (Blk.row R 1 false)) es
    ·dsimp only
     rw [List.map_append];kernel_rfl
  ·have hlt:¬(r.out.length<4/\r.next<2147483647):=by omega
   rw [if_neg hlt] at he;refine aP ?_;rw [<-he];exact ret_of rfl rfl
 ·have hlt:¬(r.out.length<4/\r.next<2147483647):=by omega
  rw [if_neg hlt] at he;refine aP ?_;rw [<-he];exact ret_of rfl rfl
noncomputable def jobD (d:DS) (f:Fly) (fault:Bool):List D:=[.int .i64 f.who,.int .i64 1,.int .i64 f.pg,.str (bif fault then ByteArray.empty else (dreadM d (2*f.pg+1)).1++(dreadM d (2*f.pg+1+1)).1),.int .i64 f.tr]
def dropSA (s:SA) (i:Nat):SA:={s with out:=s.out.eraseIdx i}
def againSA (s:SA) (i:Nat) (j:Fly):SA:={s with next:=s.next+1,out:=s.out.eraseIdx i++[⟨s.next,j.who,j.pg,j.tr+1⟩]}
theorem concatO (s:SA) (o:SOk s) (i:Nat):OCall Tryz.prog 156 [.lst ([(((s.out.map encOut).take i).drop 0),(((s.out.map encOut).take (s.out.map encOut).length).drop (i+1))].map enL)] ((s.out.eraseIdx i).map encOut) 5:=by
 have hlen:=o.fl
 have hc:=concatJb [(((s.out.map encOut).take i).drop 0),(((s.out.map encOut).take (s.out.map encOut).length).drop (i+1))] (fun l hl=>by
  simp at hl
  rcases hl with rfl|rfl
  ·exact okRows_take (encOut_ok s.out) _
  ·exact okRows_drop (okRows_take (encOut_ok s.out) _) _) (by simp) (Nat.le_trans (cut_tot encOut s.out i) (by omega))
 rwa [cut_two] at hc
theorem era_flk {s:SA} (o:SOk s) (i:Nat):FlOk s.next (s.out.eraseIdx i):=by
 have hsub:=List.eraseIdx_sublist s.out i;exact ⟨Nat.le_trans hsub.length_le o.fl,o.nx,o.up.sublist (hsub.map _),fun f hf=>⟨(o.lt f (hsub.mem hf)).1,(o.lt f (hsub.mem hf)).2.2.1⟩⟩
set_option maxRecDepth 20000 in
set_option maxHeartbeats 8000000 in
theorem doneAgain_ok (s:SA) (d:DS) (o:SOk s) (hU:Us d) (i:Nat) (hi:i<s.out.length) (h3:(s.out[i]).tr<3) (hn:s.next<2147483647):
  ACall Tryz.prog 87 [encSA s d,.int .i64 i,.bool true] (.tup [encSA (againSA s i s.out[i]) d,.agg [.int .i64 0,.int .i64 0,.int .i64 0,.str ByteArray.empty,.int .i64 0],.int .i64 0,.bool false]):=by
 have hsub:=(List.eraseIdx_sublist s.out i).length_le
 have hel:(s.out.eraseIdx i).length+1=s.out.length:=by rw [List.length_eraseIdx_of_lt hi];omega
 have hme:((s.out.eraseIdx i).map encOut).length=(s.out.eraseIdx i).length:=List.length_map ..
 have hmo:(s.out.map encOut).length=s.out.length:=List.length_map ..
 have hlen:=o.fl
 have hg:(s.out.map encOut)[i]?=some (encOut s.out[i]):=by rw [List.getElem?_map,List.getElem?_eq_getElem hi];rfl
 obtain ⟨g1,g2,g3,g4,g5⟩:=o.lt s.out[i] (List.getElem_mem hi);have hc:=concatO s o i;refine acall_of Tryz.func87 3 rfl (by kernel_rfl) (aO ?_);refine callX_pure (schedR_ok s d o hU) (aO ?_);refine idxK_nat (by omega) (w0 ?_);refine getRow_of hg (aO ?_);refine callX_pure (dfinish_ok s.next s.out d o.flk hU i hi true) (aO ?_);refine condK_of (fun e he=>encOut_len he) (w0 ?_);refine sliceK_hi (by omega) (aO ?_);refine condK_of (fun e he=>encOut_len he) (w0 ?_);refine sliceK_lo (l:=i+1) (by omega) (aO ?_);refine callX_own hc (w0 ?_)
 conv=>whnf
 refine aP ?_;refine bcase_t (by rfl) (aP ?_);refine callX_pure (submit_ok s.next (s.out.eraseIdx i) d (era_flk o i) hU s.out[i].pg s.out[i].who (s.out[i].tr+1) g3.1 g3.2 (by omega) hn) (aP ?_);refine roomK_le 1000 100 (by show ((s.out.eraseIdx i).map encOut).length+1<=1000;omega) (by decide) (by decide) (by decide) (aP ?_);refine ret_of rfl ?_;show _=D.tup [D.agg [.lst (s.jobs.map encLane),.int .i64 s.at',.bool s.giv,.lst (s.jobs.mapIdx jobsJ),.lst (d.sec.map encB),.lst (d.ca.map encW),.int .i64 ((s.next+1:Nat):Int),.lst ((s.out.eraseIdx i++[(⟨s.next,s.out[i].who,s.out[i].pg,s.out[i].tr+1⟩:Fly)]).map encReq),.lst ((s.out.eraseIdx i++[(⟨s.next,s.out[i].who,s.out[i].pg,s.out[i].tr+1⟩:Fly)]).map encOut)],_,_,_]
 rw [List.map_append,List.map_append];rfl
set_option maxRecDepth 20000 in
set_option maxHeartbeats 8000000 in
theorem doneTold_ok (s:SA) (d:DS) (o:SOk s) (hU:Us d) (i:Nat) (hi:i<s.out.length) (fault:Bool) (h3:¬(fault=true/\ (s.out[i]).tr<3/\s.next<2147483647)):
  ACall Tryz.prog 87 [encSA s d,.int .i64 i,.bool fault] (.tup [encSA (dropSA s i) d,.agg (jobD d s.out[i] fault),.int .i64 (if fault=true then 8 else 0),.bool true]):=by
 cases fault with
 |false=>
  have hmo:(s.out.map encOut).length=s.out.length:=List.length_map ..
  have hlen:=o.fl
  have hg:(s.out.map encOut)[i]?=some (encOut s.out[i]):=by rw [List.getElem?_map,List.getElem?_eq_getElem hi];rfl
  obtain ⟨g1,g2,g3,g4,g5⟩:=o.lt s.out[i] (List.getElem_mem hi);have hc:=concatO s o i;refine acall_of Tryz.func87 3 rfl (by kernel_rfl) (aO ?_);refine callX_pure (schedR_ok s d o hU) (aO ?_);refine idxK_nat (by omega) (w0 ?_);refine getRow_of hg (aO ?_);refine callX_pure (dfinish_ok s.next s.out d o.flk hU i hi false) (aO ?_);refine condK_of (fun e he=>encOut_len he) (w0 ?_);refine sliceK_hi (by omega) (aO ?_);refine condK_of (fun e he=>encOut_len he) (w0 ?_);refine sliceK_lo (l:=i+1) (by omega) (aO ?_);refine callX_own hc (w0 ?_)
  conv=>whnf
  refine aP ?_;refine bcase_f (by rfl) (aP ?_);exact ret_of rfl rfl
 |true=>
  have hmo:(s.out.map encOut).length=s.out.length:=List.length_map ..
  have hlen:=o.fl
  have hg:(s.out.map encOut)[i]?=some (encOut s.out[i]):=by rw [List.getElem?_map,List.getElem?_eq_getElem hi];rfl
  obtain ⟨g1,g2,g3,g4,g5⟩:=o.lt s.out[i] (List.getElem_mem hi);have hc:=concatO s o i;refine acall_of Tryz.func87 3 rfl (by kernel_rfl) (aO ?_);refine callX_pure (schedR_ok s d o hU) (aO ?_);refine idxK_nat (by omega) (w0 ?_);refine getRow_of hg (aO ?_);refine callX_pure (dfinish_ok s.next s.out d o.flk hU i hi true) (aO ?_);refine condK_of (fun e he=>encOut_len he) (w0 ?_);refine sliceK_hi (by omega) (aO ?_);refine condK_of (fun e he=>encOut_len he) (w0 ?_);refine sliceK_lo (l:=i+1) (by omega) (aO ?_);refine callX_own hc (w0 ?_)
  conv=>whnf
  refine aP ?_;refine bcase_t (by rfl) (aP ?_)
  refine bcase_p (fun h6=>?_) (fun h6=>?_)<;>conv=>whnf
  ·refine aP ?_
   refine bcase_p (fun h7=>?_) (fun h7=>?_)<;>conv=>whnf
   ·exact absurd ⟨rfl,by omega,by omega⟩ h3
   ·refine aP ?_;exact ret_of rfl rfl
  ·refine aP ?_;exact ret_of rfl rfl
def lg (l:List LA) (i:Nat):LA:=l[i]?.getD noLA
def lc (l:List LA) (i:Nat):List AV:=(lg l i).cells.map AV.d
def latC (l:List LA):List AV:=lc l 0++(lc l 1++(lc l 2++(lc l 3++(lc l 4++(lc l 5++(lc l 6++(lc l 7++(lc l 8++(lc l 9++(lc l 10++(lc l 11++(lc l 12++(lc l 13++(lc l 14++(lc l 15++lc l 16)))))))))))))))
def mCells (m:MS):List AV:=.own 1000001::(m.p.box++(m.h.cells.map AV.d++(latC m.lat++((m.s.cells m.p.d).map AV.d++[.d (.int .i64 m.clk),.own 1000004]))))
def mH (m:MS):List (Nat×Blk):=[(1000000,.box (mCells m) false),(1000001,.row (m.ws.map encWA) 11 false),(1000004,.row (m.ev.map encEvA) 11 false)]
def nm3:List (Nat×Nat):=[(1000000,1000000),(1000001,1000001),(1000004,1000004)]
theorem ws_get {m:MS} {k:Nat} {w:WA} (hk:m.ws[k]?=some w):(m.ws.map encWA)[k]?=some (encWA w):=by rw [List.getElem?_map,hk];rfl
theorem ws_set {ws:List WA} {k:Nat} (w':WA):(ws.map encWA).set k (encWA w')=(ws.set k w').map encWA:=by rw [List.map_set]
theorem ws2 {ws:List WA} {k:Nat} (x:List D) (w':WA):((ws.map encWA).set k x).set k (encWA w')=(ws.set k w').map encWA:=by rw [List.set_set,ws_set]
theorem ws3 {ws:List WA} {k:Nat} (x y:List D) (w':WA):(((ws.map encWA).set k x).set k y).set k (encWA w')=(ws.set k w').map encWA:=by rw [List.set_set,List.set_set,ws_set]
theorem rowE {R R':List (List D)} (h:R=R'):some (Blk.row R 11 false)=some (Blk.row R' 11 false):=by rw [h]
theorem ws_lt {m:MS} {k:Nat} {w:WA} (hk:m.ws[k]?=some w):k<(m.ws.map encWA).length:=by rw [List.length_map];exact (List.getElem?_eq_some_iff.1 hk).1
theorem isWorker_ok (m:MS) (k:Int):HCall Tryz.prog 79 [.ptr 1000000 0 0,.d (.int .i64 k)] (mH m) (mH m) (.bool (decide (0<=k)&&decide (k<m.ws.length))):=by
 refine hcall_of Tryz.func79 2 rfl (by kernel_rfl) (by rfl) (w0 ?_)
 refine bcase_p (fun h=>?_) (fun h=>?_)<;>conv=>whnf
 ·refine aP ?_;exact hret_of rfl (by rw [decide_eq_true h,Bool.true_and,List.length_map];rfl) rfl ⟨rfl,rfl,rfl,trivial⟩
 ·refine aP ?_;exact hret_of rfl (by rw [decide_eq_false h];rfl) rfl ⟨rfl,rfl,rfl,trivial⟩
theorem isClient_ok (m:MS) (k:Nat) (hl:m.h.cl.length<=1000):HCall Tryz.prog 138 [.ptr 1000000 0 0,.d (.int .i64 k)] (mH m) (mH m) (.bool (isCl m.h k)):=by
 have hm:(m.h.cl.map encCl).length=m.h.cl.length:=List.length_map ..
 refine hcall_of Tryz.func138 2 rfl (by kernel_rfl) (by rfl) (aP ?_);refine aloop (ι:=Nat) (fun i=>[(0,.ptr 1000000 0 0),(1,.d (.int .i64 k)),(11,.d (.lst (m.h.cl.map encCl))),(12,.d (.int .i64 (m.h.cl.map encCl).length)),(13,.d (.int .i64 i))]) (fun _=>mH m)
  (fun i=>i<=m.h.cl.length/\isCl m.h k=(m.h.cl.drop i).any fun c=>c.1==k) (fun i=>m.h.cl.length-i) 0 ⟨Nat.zero_le _,rfl⟩ (le0 (le_of_cov ⟨rfl,rfl,rfl,rfl,rfl,trivial⟩ ⟨rfl,rfl,rfl,trivial⟩ ⟨rfl,rfl,rfl,rfl⟩)) ?_
 rintro i ⟨hi,he⟩
 conv=>whnf
 refine bcase_p (fun h5=>?_) (fun h5=>?_)<;>conv=>whnf
 ·have hi2:i<m.h.cl.length:=by omega
  rw [drop_cons hi2,List.any_cons] at he;refine idxK_nat (by omega) (w0 ?_);refine getRow_of (x:=encCl m.h.cl[i]) (by simp [hi2]) (aW ?_)
  refine bcase_p (fun h6=>?_) (fun h6=>?_)<;>conv=>whnf
  ·have e6:(m.h.cl[i].1==k)=true:=by simpa using (show m.h.cl[i].1=k by omega)
   rw [e6,Bool.true_or] at he;rw [he];refine aP ?_;exact hret_of rfl rfl rfl ⟨rfl,rfl,rfl,trivial⟩
  ·have e6:(m.h.cl[i].1==k)=false:=by simpa using (show ¬m.h.cl[i].1=k by omega)
   rw [e6,Bool.false_or] at he;refine aP ?_;exact ⟨i+1,⟨by omega,he⟩,by omega,(le0 (le_of_cov ⟨rfl,rfl,rfl,rfl,rfl,trivial⟩ ⟨rfl,rfl,rfl,trivial⟩ ⟨rfl,rfl,rfl,rfl⟩))⟩
 ·have:i=m.h.cl.length:=by omega
  subst this;rw [List.drop_length] at he;rw [he];refine aP ?_;exact hret_of rfl rfl rfl ⟨rfl,rfl,rfl,trivial⟩
theorem begin_end_ok (m:MS) (k:Nat) (w:WA) (now:Int) (hk:m.ws[k]?=some w) (hd:w.todo.length<=w.ended):
  HCall Tryz.prog 80 [.ptr 1000000 0 0,.d (.int .i64 k),.ptr 1000001 k 0,.d (.int .i64 now)] (mH m) (mH m) (.bool false):=by
 have hg:=ws_get hk
 have hmt:(w.todo.map encMO).length=w.todo.length:=List.length_map ..
 refine hcall_of Tryz.func80 4 rfl (by kernel_rfl) (by rfl) (aP ?_);refine getRow_of hg (aP ?_);refine getRow_of hg (aP ?_);exact hret_of rfl rfl rfl ⟨rfl,rfl,rfl,trivial⟩
theorem begin_go_ok (m:MS) (k:Nat) (w:WA) (now:Int) (hk:m.ws[k]?=some w) (hd:¬w.todo.length<=w.ended) (o:HOk m.h) (hk4:k<4) (hn:k∉m.h.all) (hl:m.h.cl.length+m.h.q.length<=3):
  HCall Tryz.prog 80 [.ptr 1000000 0 0,.d (.int .i64 k),.ptr 1000001 k 0,.d (.int .i64 now)] (mH m) (mH {setW' m k {w with began:=now,st:=1} with h:=beginH m.h k}) (.bool true):=by
 have hg:=ws_get hk
 have hmt:(w.todo.map encMO).length=w.todo.length:=List.length_map ..
 refine hcall_of Tryz.func80 4 rfl (by kernel_rfl) (by rfl) (aP ?_);refine getRow_of hg (aP ?_);refine getRow_of hg (aP ?_);refine callX_pure (admitBegin_ok m.h o k hk4 hn hl) (aP ?_);refine getRow_of hg (aP ?_);refine getRow_of (get_set (ws_lt hk)) (aP ?_);exact hret_of rfl rfl rfl ⟨by kernel_rfl,rowE (ws2 _ {w with began:=now,st:=1}),rfl,trivial⟩
theorem refused_ok (o:MOp):ACall Tryz.prog 140 [.agg (encMO o)] (.bool (refB o)):=by
 have h:=Hy.opsDo_ok [] o (by simp);have hm:Hy.mapB []=true:=Hy.mapB_t.2 ⟨fun x hx=>(by cases hx),fun i hi=>absurd hi (by simp)⟩
 have e:decide ((Hy.doM [] o).2.1=1)=refB o:=by
  rw [Hy.doM,refB,hm]
  by_cases h1:o.1<1
  ·rw [if_pos (by simp [h1])];simp [h1]
  by_cases h2:4<o.1
  ·rw [if_pos (by simp [h2])];simp [h2]
  by_cases h3:o.2.1<1
  ·rw [if_pos (by simp [h3])];simp [h3]
  by_cases h4:16<o.2.1
  ·rw [if_pos (by simp [h4])];simp [h4]
  rw [if_neg (by simp [h1,h2,h3,h4]),decide_eq_false h1,decide_eq_false h2,decide_eq_false h3,decide_eq_false h4]
  by_cases h5:o.1=1
  ·rw [if_pos h5];rfl
  ·rw [if_neg h5];rfl
 rw [<-e];refine acall_of Tryz.func140 1 rfl (by kernel_rfl) (aO ?_);refine callX_pure h (aO ?_);exact ret_of rfl rfl
theorem lg_set {l:List LA} {i:Nat} {x:LA} (h:i<l.length) (j:Nat):lg (l.set i x) j=if i=j then x else lg l j:=by
 unfold lg;rw [List.getElem?_set]
 split
 ·rename_i e;subst e;first|rfl|(rw [if_pos h];rfl)
 ·rfl
theorem mc_lat (m:MS):∀ i,i<17->((mCells m).drop (13+i*3)).take 3=lc m.lat i
 |0,_=>rfl|1,_=>rfl|2,_=>rfl|3,_=>rfl|4,_=>rfl|5,_=>rfl|6,_=>rfl|7,_=>rfl|8,_=>rfl
 |9,_=>rfl|10,_=>rfl|11,_=>rfl|12,_=>rfl|13,_=>rfl|14,_=>rfl|15,_=>rfl|16,_=>rfl
 |n+17,h=>absurd h (by omega)
theorem mc_len (m:MS):(mCells m).length=75:=rfl
theorem lat_load {m:MS} {i j s:Nat} {K:List AV->Prop} (hi:i<17) (hj:j=13+i*3) (hs:s=3) (k:K (lc m.lat i)):bif Nat.ble (j+s) (mCells m).length then forceL (((mCells m).drop j).take s) K else False:=by
 subst hj hs;rw [mc_lat m i hi,mc_len,Nat.ble_eq_true_of_le (by omega)];exact k
theorem mc_set (m:MS) (x:LA) (hl:m.lat.length=17):∀ i,i<17->spliceF (mCells m) (13+i*3) (x.cells.map AV.d)=mCells {m with lat:=m.lat.set i x}:=by
 intro i hi
 have hs:=fun j=>lg_set (l:=m.lat) (i:=i) (x:=x) (by omega) j
 have h2:∀ j,lc (m.lat.set i x) j=if i=j then x.cells.map AV.d else lc m.lat j:=fun j=>by
  unfold lc;rw [hs j];split<;>rfl
 have e:mCells {m with lat:=m.lat.set i x}=.own 1000001::(m.p.box++(m.h.cells.map AV.d++(latC (m.lat.set i x)++((m.s.cells m.p.d).map AV.d++[.d (.int .i64 m.clk),.own 1000004])))):=rfl;rw [e,latC];simp only [h2]
 match i,hi with
 |0,_=>rfl|1,_=>rfl|2,_=>rfl|3,_=>rfl|4,_=>rfl|5,_=>rfl|6,_=>rfl|7,_=>rfl|8,_=>rfl
 |9,_=>rfl|10,_=>rfl|11,_=>rfl|12,_=>rfl|13,_=>rfl|14,_=>rfl|15,_=>rfl|16,_=>rfl
 |n+17,h=>exact absurd h (by omega)
theorem lat_store {m:MS} {i j s:Nat} {l:List AV} {x:LA} {K:List AV->Prop} (hi:i<17) (hl:m.lat.length=17) (hj:j=13+i*3) (hs:s=3) (hx:l=x.cells.map AV.d) (k:K (mCells {m with lat:=m.lat.set i x})):
  bif Nat.ble (j+s) (mCells m).length then storeK (mCells m) j (.agg l) K else False:=by
 subst hj hs hx;rw [mc_len,Nat.ble_eq_true_of_le (by omega)];show K (spliceF (mCells m) (13+i*3) (x.cells.map AV.d))
 rw [mc_set m x hl i hi];exact k
def rowW (ws:List WA):List (Nat×Blk):=[(1000001,.row (ws.map encWA) 11 false)]
theorem op_ok (ws:List WA) (k:Nat) (w:WA) (hk:ws[k]?=some w) (hb:w.ended<w.todo.length):HCall Tryz.prog 139 [.ptr 1000001 k 0] (rowW ws) (rowW ws) (.agg (encMO w.op)):=by
 have hg:(ws.map encWA)[k]?=some (encWA w):=by rw [List.getElem?_map,hk];rfl
 have hmt:(w.todo.map encMO).length=w.todo.length:=List.length_map ..
 have ho:(w.todo.map encMO)[w.ended]?=some (encMO w.op):=by rw [List.getElem?_map,WA.op,List.getElem?_eq_getElem hb];rfl
 refine hcall_of Tryz.func139 1 rfl (by kernel_rfl) (by rfl) (aP ?_);refine getRow_of hg (aP ?_);refine getRow_of hg (aP ?_);refine idxK_nat (by omega) (w0 ?_);refine getRow_of ho (aP ?_);exact hret_of rfl rfl rfl ⟨rfl,trivial⟩
theorem tell_ok (ws:List WA) (k:Nat) (w:WA) (hk:ws[k]?=some w) (r:MRes) (now:Int):HCall Tryz.prog 88 [.ptr 1000001 k 0,.agg ((encMR r).map AV.d),.d (.int .i64 now)] (rowW ws) (rowW (ws.set k (tellW w r now))) (.tup []):=by
 have hg:(ws.map encWA)[k]?=some (encWA w):=by rw [List.getElem?_map,hk];rfl
 have hlt:k<(ws.map encWA).length:=by rw [List.length_map];exact (List.getElem?_eq_some_iff.1 hk).1
 refine hcall_of Tryz.func88 3 rfl (by kernel_rfl) (by rfl) (aP ?_);refine getRow_of hg (aP ?_);refine getRow_of (get_set hlt) (aP ?_);refine getRow_of (get_set (by rw [List.length_set];exact hlt)) (aP ?_);exact hret_of rfl rfl rfl ⟨rowE (ws3 _ _ (tellW w r now)),trivial⟩
def askM (m:MS) (k:Nat) (w:WA):MS:={setW' m k {w with asked:=true,st:=2} with lat:=lsetM m.lat w.op.2.1 (askL (latM m w.op.2.1) k (decide (w.op.1≠2)))}
theorem refB_ff {o:MOp} (h:refB o=false):1<=o.1/\o.1<=4/\1<=o.2.1/\o.2.1<=16:=by
 simp only [refB,Bool.or_eq_false_iff,decide_eq_false_iff_not] at h;omega
set_option maxRecDepth 20000 in
set_option maxHeartbeats 8000000 in
theorem ask_no_ok (m:MS) (k:Nat) (w:WA) (now:Int) (hl:m.h.cl.length<=1000) (hc:isCl m.h k=false):
  HCall Tryz.prog 81 [.ptr 1000000 0 0,.d (.int .i64 k),.ptr 1000001 k 0,.d (.int .i64 now)] (mH m) (mH m) (.bool false):=by
 have hi:=isClient_ok m k hl;rw [hc] at hi;refine hcall_of Tryz.func81 4 rfl (by kernel_rfl) (by rfl) (aP ?_);refine callH_blk hi nm3 rfl ⟨rfl,rfl,rfl,trivial⟩ rfl (aP ?_);exact hret_of rfl rfl rfl ⟨rfl,rfl,rfl,trivial⟩
set_option maxRecDepth 20000 in
set_option maxHeartbeats 8000000 in
theorem ask_ref_ok (m:MS) (k:Nat) (w:WA) (now:Int) (hk:m.ws[k]?=some w) (hb:w.ended<w.todo.length) (hl:m.h.cl.length<=1000) (hc:isCl m.h k=true) (hr:refB w.op=true):
  HCall Tryz.prog 81 [.ptr 1000000 0 0,.d (.int .i64 k),.ptr 1000001 k 0,.d (.int .i64 now)] (mH m) (mH (setW' m k (tellW w (1,zP) now))) (.bool true):=by
 have hi:=isClient_ok m k hl;rw [hc] at hi;have hrf:=refused_ok w.op;rw [hr] at hrf;refine hcall_of Tryz.func81 4 rfl (by kernel_rfl) (by rfl) (aP ?_);refine callH_blk hi nm3 rfl ⟨rfl,rfl,rfl,trivial⟩ rfl (aP ?_);refine callH_blk (op_ok m.ws k w hk hb) [(1000001,1000001)] rfl ⟨rfl,trivial⟩ rfl (aP ?_);refine callX_pure hrf (aP ?_);refine callH_blk (tell_ok m.ws k w hk (1,zP) now) [(1000001,1000001)] rfl ⟨rfl,trivial⟩ rfl (aP ?_);exact hret_of rfl rfl rfl ⟨rfl,rfl,rfl,trivial⟩
set_option maxRecDepth 20000 in
set_option maxHeartbeats 8000000 in
theorem ask_go_ok (m:MS) (k:Nat) (w:WA) (now:Int) (hk:m.ws[k]?=some w) (hb:w.ended<w.todo.length) (hl:m.h.cl.length<=1000) (hc:isCl m.h k=true) (hr:refB w.op=false)
  (h17:m.lat.length=17) (hk4:k<4) (ol:LOk (latM m w.op.2.1)) (hn:k∉(latM m w.op.2.1).hs++(latM m w.op.2.1).q.map (·.1)) (hll:(latM m w.op.2.1).hs.length+(latM m w.op.2.1).q.length<=3):
  HCall Tryz.prog 81 [.ptr 1000000 0 0,.d (.int .i64 k),.ptr 1000001 k 0,.d (.int .i64 now)] (mH m) (mH (askM m k w)) (.bool true):=by
 have hi:=isClient_ok m k hl;rw [hc] at hi;have hrf:=refused_ok w.op;rw [hr] at hrf;obtain ⟨r1,r2,r3,r4⟩:=refB_ff hr;obtain ⟨i,hi2⟩:∃ i:Nat,w.op.2.1=(i:Int):=⟨w.op.2.1.toNat,by omega⟩
 have hi17:i<17:=by omega
 have eL:latM m w.op.2.1=lg m.lat i:=by rw [latM,hi2];rfl
 rw [eL] at ol hn hll;obtain ⟨b,hask⟩:=latchAsk_ok (lg m.lat i) ol k (decide (w.op.1≠2)) hk4 hn hll;have hg:=ws_get hk;have eb:decide (w.op.1≠2)=!decide (w.op.1=2):=decide_not;rw [eb] at hask;refine hcall_of Tryz.func81 4 rfl (by kernel_rfl) (by rfl) (aP ?_);refine callH_blk hi nm3 rfl ⟨rfl,rfl,rfl,trivial⟩ rfl (aP ?_);refine callH_blk (op_ok m.ws k w hk hb) [(1000001,1000001)] rfl ⟨rfl,trivial⟩ rfl (aP ?_);refine callX_pure hrf (aP ?_);rw [hi2];refine idxK_nat (by omega) (aP ?_);refine lat_load hi17 (by show 0+13+i*3=_;omega) rfl (aP ?_);refine callX_pure hask (aP ?_);refine idxK_nat (by omega) (aP ?_);refine lat_store (m:=m) (x:=askL (lg m.lat i) k (!decide (w.op.1=2))) hi17 h17 (by show 0+13+i*3=_;omega) rfl rfl (aP ?_);refine getRow_of hg (aP ?_);refine getRow_of (get_set (ws_lt hk)) (aP ?_)
 have em:askM m k w={setW' m k {w with asked:=true,st:=2} with lat:=m.lat.set i (askL (lg m.lat i) k (!decide (w.op.1=2)))}:=by
  rw [askM,eb,eL,lsetM,hi2];rfl
 rw [em];exact hret_of rfl rfl rfl ⟨by kernel_rfl,rowE (ws2 _ {w with asked:=true,st:=2}),rfl,trivial⟩
theorem writes_same {hp:Nat->Option Blk}:∀ {l:List (Nat×Blk)},covH hp l->writes hp l=hp
 | [],_=>rfl
 |(b,B)::r,h=>by
  have e:upd hp b (some B)=hp:=by
   funext t
   by_cases q:t=b
   ·subst q;rw [upd_same];exact h.1.symm
   ·rw [upd_other _ _ q]
  rw [writes,e];exact writes_same h.2
theorem callH_ro {P:Program} {f:FuncId} {args xs:List AV} {pre:List (Nat×Blk)} {d:D} {hp:Nat->Option Blk} {K:Eff->Prop} (H:HCall P f args pre pre d) (s:List (Nat×Nat))
  (hs:(keysN s pre&&valsN s)=true) (h4:nmGet s 1000004=none) (hc:covH hp (rnH s pre)) (hx:rnVs s args=xs) (k:K ⟨ofD d,[],none⟩):callH P f xs hp K:=by
 have h:=H.2 s hp (nmOk_of hs) (pre_cov hc);rw [h4,hx] at h;refine callH_of (e:=⟨ofD d,[],none⟩) ⟨h.1,fun own M ι w vs ho ha hh hd=>(h.2 own M ι w vs ho ha hh hd).mono fun en w' hq=>?_⟩ k;obtain ⟨v,M',ι',e1,e2,e3,e4,e5,e6,e7,e8⟩:=hq;refine ⟨v,M',ι',e1,e2,e3,e4,e5,?_,e7,e8⟩;have:(⟨ofD d,rnH s pre,none⟩:Eff).hp hp=hp:=writes_same hc;rw [this] at e6;exact e6
set_option maxRecDepth 20000 in
set_option maxHeartbeats 8000000 in
theorem enter_no_ok (m:MS) (k:Nat) (w:WA) (hk:m.ws[k]?=some w) (hb:w.ended<w.todo.length) (hi2:0<=w.op.2.1) (hi17:w.op.2.1.toNat<17) (ol:LOk (lg m.lat w.op.2.1.toNat)) (hho:holdsL (lg m.lat w.op.2.1.toNat) k=false):
  HCall Tryz.prog 82 [.ptr 1000000 0 0,.d (.int .i64 k),.ptr 1000001 k 0] (mH m) (mH m) (.bool false):=by
 have hh0:=holds_ok (lg m.lat w.op.2.1.toNat) ol k;rw [hho] at hh0;refine hcall_of Tryz.func82 3 rfl (by kernel_rfl) (by rfl) (aP ?_);refine callH_ro (op_ok m.ws k w hk hb) [(1000001,1000001)] rfl rfl ⟨rfl,trivial⟩ rfl (aP ?_);refine idxK_int hi2 (by omega) (aP ?_);refine lat_load hi17 (by show 0+13+w.op.2.1.toNat*3=_;omega) rfl (aP ?_);refine callX_pure hh0 (aP ?_);exact hret_of rfl rfl rfl ⟨rfl,rfl,rfl,trivial⟩
set_option maxRecDepth 20000 in
set_option maxHeartbeats 8000000 in
theorem enter_go_ok (m:MS) (k:Nat) (w:WA) (hk:m.ws[k]?=some w) (hb:w.ended<w.todo.length) (hi2:0<=w.op.2.1) (hi17:w.op.2.1.toNat<17) (ol:LOk (lg m.lat w.op.2.1.toNat)) (hho:holdsL (lg m.lat w.op.2.1.toNat) k=true):
  HCall Tryz.prog 82 [.ptr 1000000 0 0,.d (.int .i64 k),.ptr 1000001 k 0] (mH m) (mH (setW' m k {w with st:=3})) (.bool true):=by
 have hg:=ws_get hk;have hh0:=holds_ok (lg m.lat w.op.2.1.toNat) ol k;rw [hho] at hh0;refine hcall_of Tryz.func82 3 rfl (by kernel_rfl) (by rfl) (aP ?_);refine callH_ro (op_ok m.ws k w hk hb) [(1000001,1000001)] rfl rfl ⟨rfl,trivial⟩ rfl (aP ?_);refine idxK_int hi2 (by omega) (aP ?_);refine lat_load hi17 (by show 0+13+w.op.2.1.toNat*3=_;omega) rfl (aP ?_);refine callX_pure hh0 (aP ?_);refine getRow_of hg (aP ?_);exact hret_of rfl rfl rfl ⟨rfl,rowE (ws_set {w with st:=3}),rfl,trivial⟩
set_option maxRecDepth 20000 in
set_option maxHeartbeats 8000000 in
theorem pin_no_ok (m:MS) (k:Nat) (w:WA) (hk:m.ws[k]?=some w) (hb:w.ended<w.todo.length) (oh:HOk m.h) (hc:isCl m.h k=true) (hh:heldW m.h k=false) (hF:FM m.p.f) (hpr:pinR m.h k=(m.h,6)):
  HCall Tryz.prog 83 [.ptr 1000000 0 0,.d (.int .i64 k),.ptr 1000001 k 0] (mH m) (mH m) (.bool false):=by
 have hg:=ws_get hk;have hp:=admitPin_ok m.h oh k hc hh;rw [hpr] at hp;have hf:=Find_ok m.p.f w.op.2.1 hF.tl hF.dl;refine hcall_of Tryz.func83 3 rfl (by kernel_rfl) (by rfl) (aP ?_);refine callX_pure hp (aP ?_);exact hret_of rfl rfl rfl ⟨rfl,rfl,rfl,trivial⟩
def pin5M (m:MS) (k:Nat) (w:WA):MS:={setW' m k {w with pinned:=true,st:=5} with h:=pinH m.h k}
def pin4M (m:MS) (k:Nat) (w:WA):MS:={setW' m k {w with pinned:=true,st:=4} with h:=pinH m.h k,s:=askS m.s k w.op.2.1}
set_option maxRecDepth 20000 in
set_option maxHeartbeats 8000000 in
theorem pin5_ok (m:MS) (k:Nat) (w:WA) (hk:m.ws[k]?=some w) (hb:w.ended<w.todo.length) (oh:HOk m.h) (hc:isCl m.h k=true) (hh:heldW m.h k=false) (hF:FM m.p.f) (hpr:pinR m.h k=(pinH m.h k,0)) (hno:¬(hasF m.p w.op.2.1=false/\ (w.op.1=2\/w.op.1=3))):
  HCall Tryz.prog 83 [.ptr 1000000 0 0,.d (.int .i64 k),.ptr 1000001 k 0] (mH m) (mH (pin5M m k w)) (.bool true):=by
 have hg:=ws_get hk;have hp:=admitPin_ok m.h oh k hc hh;rw [hpr] at hp;have hf:=Find_ok m.p.f w.op.2.1 hF.tl hF.dl;refine hcall_of Tryz.func83 3 rfl (by kernel_rfl) (by rfl) (aP ?_);refine callX_pure hp (aP ?_);refine callH_ro (op_ok m.ws k w hk hb) [(1000001,1000001)] rfl rfl ⟨rfl,trivial⟩ rfl (aP ?_);refine callX_pure hf (aP ?_)
 refine bcase_intro (fun e=>?_) (fun e=>?_)<;>conv=>whnf
 ·refine aP ?_;refine getRow_of hg (aP ?_);refine getRow_of (get_set (ws_lt hk)) (aP ?_);exact hret_of rfl rfl rfl ⟨by kernel_rfl,rowE (ws2 _ {w with pinned:=true,st:=5}),rfl,trivial⟩
 ·have h2:¬(w.op.1=2\/w.op.1=3):=fun g=>hno ⟨e,g⟩
  refine aP ?_;refine getRow_of hg (aP ?_);refine getRow_of (get_set (ws_lt hk)) (aP ?_);exact hret_of rfl rfl rfl ⟨by kernel_rfl,rowE (ws2 _ {w with pinned:=true,st:=5}),rfl,trivial⟩
set_option maxRecDepth 20000 in
set_option maxHeartbeats 8000000 in
theorem pin4_ok (m:MS) (k:Nat) (w:WA) (hk:m.ws[k]?=some w) (hb:w.ended<w.todo.length) (oh:HOk m.h) (hc:isCl m.h k=true) (hh:heldW m.h k=false) (hF:FM m.p.f) (hpr:pinR m.h k=(pinH m.h k,0)) (hno:hasF m.p w.op.2.1=false) (h23:w.op.1=2\/w.op.1=3)
  (os:SOk m.s) (hU:Us m.p.d) (hkj:k<m.s.jobs.length) (hjn:m.s.jobs[k]=none) (h1:1<=w.op.2.1) (h16:w.op.2.1<=16):
  HCall Tryz.prog 83 [.ptr 1000000 0 0,.d (.int .i64 k),.ptr 1000001 k 0] (mH m) (mH (pin4M m k w)) (.bool true):=by
 have ha:=schedAsk_ok m.s m.p.d os hU k hkj hjn w.op.2.1 h1 h16;have hg:=ws_get hk;have hp:=admitPin_ok m.h oh k hc hh;rw [hpr] at hp;have hf:=Find_ok m.p.f w.op.2.1 hF.tl hF.dl;refine hcall_of Tryz.func83 3 rfl (by kernel_rfl) (by rfl) (aP ?_);refine callX_pure hp (aP ?_);refine callH_ro (op_ok m.ws k w hk hb) [(1000001,1000001)] rfl rfl ⟨rfl,trivial⟩ rfl (aP ?_);refine callX_pure hf (aP ?_)
 refine bcase_intro (fun e=>?_) (fun e=>?_)<;>conv=>whnf
 ·rw [hasF,e] at hno;cases hno
 ·refine aP ?_
  refine bcase_p (fun g=>?_) (fun g=>?_)<;>conv=>whnf
  ·refine aP ?_;refine callX_pure ha (aP ?_);refine getRow_of hg (aP ?_);refine getRow_of (get_set (ws_lt hk)) (aP ?_);exact hret_of rfl rfl rfl ⟨by kernel_rfl,rowE (ws2 _ {w with pinned:=true,st:=4}),rfl,trivial⟩
  ·refine aP ?_;refine callX_pure ha (aP ?_);refine getRow_of hg (aP ?_);refine getRow_of (get_set (ws_lt hk)) (aP ?_);exact hret_of rfl rfl rfl ⟨by kernel_rfl,rowE (ws2 _ {w with pinned:=true,st:=4}),rfl,trivial⟩
theorem acts_ok (k:Int):OCall Tryz.prog 145 [.int .i64 k] ((actsK k).map enc1) 1:=by
 refine ocall_of Tryz.func145 1 rfl (by kernel_rfl) ?_;rw [actsK]
 conv=>whnf
 refine bcase_p (fun h1=>?_) (fun h1=>?_)<;>conv=>whnf
 ·rw [if_pos h1];refine aP ?_;exact ⟨2,rfl,.inl ⟨6,rfl,rfl⟩⟩
 rw [if_neg h1];refine aP ?_
 refine bcase_p (fun h2=>?_) (fun h2=>?_)<;>conv=>whnf
 ·rw [if_pos h2];refine aP ?_;exact ⟨2,rfl,.inl ⟨9,rfl,rfl⟩⟩
 rw [if_neg h2];refine aP ?_
 refine bcase_p (fun h3=>?_) (fun h3=>?_)<;>conv=>whnf
 ·rw [if_pos h3];refine aP ?_;exact ⟨2,rfl,.inl ⟨12,rfl,rfl⟩⟩
 rw [if_neg h3];refine aP ?_
 refine bcase_p (fun h4=>?_) (fun h4=>?_)<;>conv=>whnf
 ·rw [if_pos h4];refine aP ?_;exact ⟨2,rfl,.inl ⟨15,rfl,rfl⟩⟩
 rw [if_neg h4];refine aP ?_;exact ⟨2,rfl,.inr ⟨rfl,rfl⟩⟩
def mCells' (m:MS) (d:DS):List AV:=.own 1000001::(m.p.box++(m.h.cells.map AV.d++(latC m.lat++((m.s.cells d).map AV.d++[.d (.int .i64 m.clk),.own 1000004]))))
def mH' (m:MS) (d:DS):List (Nat×Blk):=[(1000000,.box (mCells' m d) false),(1000001,.row (m.ws.map encWA) 11 false),(1000004,.row (m.ev.map encEvA) 11 false)]
def withP (m:MS) (p:PS):MS:={m with p:=p}
theorem hasPins_ok (m:MS) (d:DS) (id:Int) (hF:FM m.p.f) (h0:id≠0):HCall Tryz.prog 146 [.ptr 1000000 0 0,.d (.int .i64 id)] (mH' m d) (mH' m d) (.bool (hasPinsM m.p id)):=by
 have hfind:=Find_ok m.p.f id hF.tl hF.dl
 have hmf:(m.p.f.fr.map encF).length=m.p.f.fr.length:=List.length_map ..
 refine hcall_of Tryz.func146 2 rfl (by kernel_rfl) (by rfl) ?_;rw [hasPinsM]
 conv=>whnf
 refine aP ?_
 rcases hF.find_cases h0 with ⟨_,hno⟩|⟨i,_,hA⟩
 ·rw [findF_no hF hno h0] at hfind⊢;refine callX_pure hfind (aP ?_);exact hret_of rfl rfl rfl ⟨rfl,rfl,rfl,trivial⟩
 ·rw [findF_at hA] at hfind⊢;have hi:=hA.hi;refine callX_pure hfind (aP ?_);refine idxK_nat (by omega) (w0 ?_);refine getRow_of (x:=encF m.p.f.fr[i]) (by simp [hi]) (aW ?_);exact hret_of rfl (by simp only [Bool.true_and,Int.toNat_natCast,atF_eq hi];rfl) rfl ⟨rfl,rfl,rfl,trivial⟩
structure WkI (o:MOp) (p0:PS) (t:Int) (ks:List Int) (s:Nat×PS×MRes):Prop where
 le:s.1<=ks.length
 gd:Gd t s.2.1
 eq:actG o (ks.drop s.1) s.2.1 s.2.2=actG o ks p0 (0,zP)
theorem acts_len (k:Int):(actsK k).length<=2:=by
 rw [actsK];repeat' split
 all_goals decide
set_option maxRecDepth 20000 in
set_option maxHeartbeats 16000000 in
theorem work_ok (m:MS) (k:Nat) (w:WA) (now t:Int) (hk:m.ws[k]?=some w) (hb:w.ended<w.todo.length) (g:Gd t m.p) (ht:t<=2147483647) (hr:refB w.op=false):
  HCall Tryz.prog 84 [.ptr 1000000 0 0,.ptr 1000001 k 0,.d (.int .i64 now)] (mH m) (mH {setW' m k (tellW w (workP m.p w.op).2 now) with p:=(workP m.p w.op).1}) (.tup []):=by
 obtain ⟨r1,r2,r3,r4⟩:=refB_ff hr;have hal:=acts_len w.op.1
 have hma:((actsK w.op.1).map enc1).length=(actsK w.op.1).length:=List.length_map ..
 refine hcall_of Tryz.func84 3 rfl (by kernel_rfl) (by rfl) (aP ?_);refine callH_ro (op_ok m.ws k w hk hb) [(1000001,1000001)] rfl rfl ⟨rfl,trivial⟩ rfl (aP ?_);refine callX_own (acts_ok w.op.1) (aP ?_);refine aloop (ι:=Nat×PS×MRes) (fun s=>[(0,.ptr 1000000 0 0),(1,.ptr 1000001 k 0),(2,.d (.int .i64 now)),(6,.ptr 6 0 0),(7,.ptr 7 0 0),(22,.own 22),(23,.d (.int .i64 ((actsK w.op.1).map enc1).length)),(24,.d (.int .i64 s.1))])
  (fun s=>[(1000000,.box (mCells' (withP m s.2.1) m.p.d) false),(1000001,.row (m.ws.map encWA) 11 false),(1000004,.row (m.ev.map encEvA) 11 false),(6,.box ((encMO w.op).map AV.d) false),(7,.box ((encMR s.2.2).map AV.d) false),(22,.row ((actsK w.op.1).map enc1) 1 false)])
  (WkI w.op m.p t (actsK w.op.1)) (fun s=>(actsK w.op.1).length-s.1) (0,m.p,(0,zP)) ⟨Nat.zero_le _,g,rfl⟩ (le0 (le_of_cov ⟨rfl,rfl,rfl,rfl,rfl,rfl,rfl,rfl,trivial⟩ ⟨rfl,rfl,rfl,rfl,rfl,rfl,trivial⟩ ⟨rfl,rfl,rfl,rfl⟩)) ?_
 rintro ⟨i,p,r⟩ ⟨hi,gp,he⟩;simp only [] at hi gp he⊢
 conv=>whnf
 refine bcase_p (fun h5=>?_) (fun h5=>?_)<;>conv=>whnf
 ·have hi2:i<(actsK w.op.1).length:=by omega
  rw [List.drop_eq_getElem_cons hi2,actG] at he;have hdo:=poolDo_ok p ((actsK w.op.1)[i],w.op.2.1,w.op.2.2) gp.fm (by rw [gp.now];exact ht);have gact:=(gp.act ((actsK w.op.1)[i],w.op.2.1,w.op.2.2)).1;obtain ⟨q,hq⟩:∃ q,poolDo p ((actsK w.op.1)[i],w.op.2.1,w.op.2.2)=q:=⟨_,rfl⟩;rw [hq] at hdo he gact;refine idxK_nat (by omega) (w0 ?_);refine getRow_of (x:=enc1 (actsK w.op.1)[i]) (by simp [hi2]) (aW ?_);refine aP ?_;refine callX_pure hdo (aP ?_)
  refine bcase_p (fun e0=>?_) (fun e0=>?_)<;>conv=>whnf
  ·rw [if_neg (fun z=>z e0)] at he;refine aP ?_;refine ⟨(i+1,q.1,(r.1,q.2.1)),⟨by dsimp only;omega,gact,he⟩,by dsimp only;omega,(le0 (le_of_cov ⟨rfl,rfl,rfl,rfl,rfl,rfl,rfl,rfl,trivial⟩ ⟨rfl,rfl,rfl,rfl,rfl,rfl,trivial⟩ ⟨rfl,rfl,rfl,rfl⟩))⟩
  ·rw [if_pos e0] at he;have g1:Gd t q.1:=gact;have hdo5:=poolDo_ok q.1 (5,w.op.2.1,ByteArray.empty) g1.fm (by rw [g1.now];exact ht);obtain ⟨q5,hq5⟩:∃ q5,poolDo q.1 (5,w.op.2.1,ByteArray.empty)=q5:=⟨_,rfl⟩;rw [hq5] at hdo5;have hhp:=hasPins_ok (withP m q.1) m.p.d w.op.2.1 g1.fm (by omega);replace hhp:HCall Tryz.prog 146 [.ptr 1000000 0 0,.d (.int .i64 w.op.2.1)] (mH' (withP m q.1) m.p.d) (mH' (withP m q.1) m.p.d) (.bool (hasPinsM q.1 w.op.2.1)):=hhp
   have hWk:workP m.p w.op=backP w.op (q.1,(q.2.2.2,zP)):=by rw [workP,<-he]
   rw [backP] at hWk;simp only [] at hWk;refine aP ?_;refine callH_blk hhp nm3 rfl ⟨rfl,rfl,rfl,trivial⟩ rfl (w0 ?_)
   cases hpin:hasPinsM q.1 w.op.2.1 with
   |true=>
    rw [if_pos hpin,hq5] at hWk;refine aP ?_;refine callX_pure hdo5 (aP ?_)
    have hW:workP m.p w.op=(q5.1,(q.2.2.2,zP)):=by rw [hWk,if_neg (fun z=>e0 z.1)]
    refine aP ?_;refine callH_blk (tell_ok m.ws k w hk (q.2.2.2,zP) now) [(1000001,1000001)] rfl ⟨rfl,trivial⟩ rfl (aP ?_);rw [hW];exact hret_of rfl rfl rfl ⟨by kernel_rfl,rfl,rfl,trivial⟩
   |false=>
    rw [if_neg (by rw [hpin];decide)] at hWk;have hW:=hWk;refine aP ?_;refine callH_blk (tell_ok m.ws k w hk (q.2.2.2,zP) now) [(1000001,1000001)] rfl ⟨rfl,trivial⟩ rfl (aP ?_);rw [hW];exact hret_of rfl rfl rfl ⟨by kernel_rfl,rfl,rfl,trivial⟩
 ·have hil:i=(actsK w.op.1).length:=by omega
  subst hil;rw [List.drop_length,actG] at he;have g1:Gd t p:=gp;have hdo5:=poolDo_ok p (5,w.op.2.1,ByteArray.empty) g1.fm (by rw [g1.now];exact ht);obtain ⟨q5,hq5⟩:∃ q5,poolDo p (5,w.op.2.1,ByteArray.empty)=q5:=⟨_,rfl⟩;rw [hq5] at hdo5;have hhp:=hasPins_ok (withP m p) m.p.d w.op.2.1 g1.fm (by omega);replace hhp:HCall Tryz.prog 146 [.ptr 1000000 0 0,.d (.int .i64 w.op.2.1)] (mH' (withP m p) m.p.d) (mH' (withP m p) m.p.d) (.bool (hasPinsM p w.op.2.1)):=hhp
  have hWk:workP m.p w.op=backP w.op (p,r):=by rw [workP,<-he]
  rw [backP] at hWk;simp only [] at hWk;refine aP ?_;refine callH_blk hhp nm3 rfl ⟨rfl,rfl,rfl,trivial⟩ rfl (w0 ?_)
  cases hpin:hasPinsM p w.op.2.1 with
  |true=>
   rw [if_pos hpin,hq5] at hWk;refine aP ?_;refine callX_pure hdo5 (aP ?_)
   refine bcase_p (fun e1=>?_) (fun e1=>?_)<;>conv=>whnf
   ·refine aP ?_
    refine bcase_p (fun e2=>?_) (fun e2=>?_)<;>conv=>whnf
    ·have hW:workP m.p w.op=(q5.1,r):=by rw [hWk,if_neg (fun z=>z.2 e2)]
     refine aP ?_;refine callH_blk (tell_ok m.ws k w hk r now) [(1000001,1000001)] rfl ⟨rfl,trivial⟩ rfl (aP ?_);rw [hW];exact hret_of rfl rfl rfl ⟨by kernel_rfl,rfl,rfl,trivial⟩
    ·have hW:workP m.p w.op=(q5.1,(q5.2.2.2,zP)):=by rw [hWk,if_pos ⟨e1,e2⟩]
     refine aP ?_;refine callH_blk (tell_ok m.ws k w hk (q5.2.2.2,zP) now) [(1000001,1000001)] rfl ⟨rfl,trivial⟩ rfl (aP ?_);rw [hW];exact hret_of rfl rfl rfl ⟨by kernel_rfl,rfl,rfl,trivial⟩
   ·have hW:workP m.p w.op=(q5.1,r):=by rw [hWk,if_neg (fun z=>e1 z.1)]
    refine aP ?_;refine callH_blk (tell_ok m.ws k w hk r now) [(1000001,1000001)] rfl ⟨rfl,trivial⟩ rfl (aP ?_);rw [hW];exact hret_of rfl rfl rfl ⟨by kernel_rfl,rfl,rfl,trivial⟩
  |false=>
   rw [if_neg (by rw [hpin];decide)] at hWk;have hW:=hWk;refine aP ?_;refine callH_blk (tell_ok m.ws k w hk r now) [(1000001,1000001)] rfl ⟨rfl,trivial⟩ rfl (aP ?_);rw [hW];exact hret_of rfl rfl rfl ⟨by kernel_rfl,rfl,rfl,trivial⟩
theorem encEvA_ok:∀ (l:List EvA),okRows 11 (l.map encEvA)=true
 | []=>rfl
 |_::r=>encEvA_ok r
def leaveW (w:WA):WA:=⟨w.todo,w.ended+1,0,false,false,0,0,(0,zP)⟩
def leaveM (m:MS) (k:Nat) (w:WA) (now:Int):MS:={m with
 ws:=m.ws.set k (leaveW w)
 h:=endH (if w.pinned=true then unpinH m.h k else m.h) k
 lat:=if w.asked=true then lsetM m.lat w.op.2.1 (dropL (latM m w.op.2.1) k) else m.lat
 ev:=m.ev++[⟨k,w.op,w.res,w.began,w.done,now⟩]}
set_option maxRecDepth 20000 in
set_option maxHeartbeats 16000000 in
theorem leave_nn_ok (m:MS) (k:Nat) (w:WA) (now:Int) (hk:m.ws[k]?=some w) (hb:w.ended<w.todo.length) (hm:w.todo.length<=1000) (he:m.ev.length<=100000) (oh:HOk m.h) (hk4:k<4) (hc:isCl m.h k=true) (hp:w.pinned=false) (ha:w.asked=false):
  HCall Tryz.prog 85 [.ptr 1000000 0 0,.d (.int .i64 k),.ptr 1000001 k 0,.d (.int .i64 now)] (mH m) (mH (leaveM m k w now)) (.tup []):=by
 obtain ⟨ins,hend⟩:=admitEnd_ok m.h oh k hk4 hc;have hg:=ws_get hk
 have hme:(m.ev.map encEvA).length=m.ev.length:=List.length_map ..
 refine hcall_of Tryz.func85 4 rfl (by kernel_rfl) (by rfl) (aP ?_);refine callH_ro (op_ok m.ws k w hk hb) [(1000001,1000001)] rfl rfl ⟨rfl,trivial⟩ rfl (aP ?_);refine getRow_of hg (aP ?_);rw [hp];refine aP ?_;refine getRow_of hg (aP ?_);rw [ha];refine aP ?_;refine callX_pure hend (aP ?_);refine getRow_of hg (aP ?_);refine getRow_of hg (aP ?_);refine getRow_of hg (aP ?_);refine roomK_le 1000000 1000 (by show (m.ev.map encEvA).length+1<=1000000;omega) (by decide) (by decide) (by decide) (aP ?_);refine getRow_of hg (aP ?_);refine getRow_of hg (aP ?_);refine getRow_of hg (aP ?_)
 have em:leaveM m k w now={m with ws:=m.ws.set k (leaveW w),h:=endH m.h k,lat:=m.lat,ev:=m.ev++[⟨k,w.op,w.res,w.began,w.done,now⟩]}:=by
  rw [leaveM,hp,ha];rfl
 rw [em];exact hret_of rfl rfl rfl ⟨by kernel_rfl,rowE (ws_set (leaveW w)),rowE (by rw [List.map_append];rfl),trivial⟩
set_option maxRecDepth 20000 in
set_option maxHeartbeats 16000000 in
theorem leave_na_ok (m:MS) (k:Nat) (w:WA) (now:Int) (hk:m.ws[k]?=some w) (hb:w.ended<w.todo.length) (hm:w.todo.length<=1000) (he:m.ev.length<=100000) (oh:HOk m.h) (hk4:k<4) (hc:isCl m.h k=true) (hp:w.pinned=false) (ha:w.asked=true) (h17:m.lat.length=17) (hi2:0<=w.op.2.1) (hi17:w.op.2.1.toNat<17) (ol:LOk (lg m.lat w.op.2.1.toNat)) (hhs:k∈(lg m.lat w.op.2.1.toNat).hs):
  HCall Tryz.prog 85 [.ptr 1000000 0 0,.d (.int .i64 k),.ptr 1000001 k 0,.d (.int .i64 now)] (mH m) (mH (leaveM m k w now)) (.tup []):=by
 obtain ⟨ins,hend⟩:=admitEnd_ok m.h oh k hk4 hc;obtain ⟨ins2,hdrop⟩:=latchDrop_ok (lg m.lat w.op.2.1.toNat) ol k hhs;have hg:=ws_get hk
 have hme:(m.ev.map encEvA).length=m.ev.length:=List.length_map ..
 refine hcall_of Tryz.func85 4 rfl (by kernel_rfl) (by rfl) (aP ?_);refine callH_ro (op_ok m.ws k w hk hb) [(1000001,1000001)] rfl rfl ⟨rfl,trivial⟩ rfl (aP ?_);refine getRow_of hg (aP ?_);rw [hp];refine aP ?_;refine getRow_of hg (aP ?_);rw [ha];refine aP ?_;refine idxK_int hi2 (by omega) (aP ?_);refine lat_load (m:=m) hi17 (by show 0+13+w.op.2.1.toNat*3=_;omega) rfl (aP ?_);refine callX_pure hdrop (aP ?_);refine idxK_int hi2 (by omega) (aP ?_);refine lat_store (m:=m) (x:=dropL (lg m.lat w.op.2.1.toNat) k) hi17 h17 (by show 0+13+w.op.2.1.toNat*3=_;omega) rfl rfl (aP ?_);refine callX_pure hend (aP ?_);refine getRow_of hg (aP ?_);refine getRow_of hg (aP ?_);refine getRow_of hg (aP ?_);refine roomK_le 1000000 1000 (by show (m.ev.map encEvA).length+1<=1000000;omega) (by decide) (by decide) (by decide) (aP ?_);refine getRow_of hg (aP ?_);refine getRow_of hg (aP ?_);refine getRow_of hg (aP ?_)
 have em:leaveM m k w now={m with ws:=m.ws.set k (leaveW w),h:=endH m.h k,lat:=m.lat.set w.op.2.1.toNat (dropL (lg m.lat w.op.2.1.toNat) k),ev:=m.ev++[⟨k,w.op,w.res,w.began,w.done,now⟩]}:=by
  rw [leaveM,hp,ha];rfl
 rw [em];exact hret_of rfl rfl rfl ⟨by kernel_rfl,rowE (ws_set (leaveW w)),rowE (by rw [List.map_append];rfl),trivial⟩
set_option maxRecDepth 20000 in
set_option maxHeartbeats 16000000 in
theorem leave_pn_ok (m:MS) (k:Nat) (w:WA) (now:Int) (hk:m.ws[k]?=some w) (hb:w.ended<w.todo.length) (hm:w.todo.length<=1000) (he:m.ev.length<=100000) (oh:HOk m.h) (hk4:k<4) (hc:isCl m.h k=true) (hp:w.pinned=true) (ha:w.asked=false) (hh:heldW m.h k=true):
  HCall Tryz.prog 85 [.ptr 1000000 0 0,.d (.int .i64 k),.ptr 1000001 k 0,.d (.int .i64 now)] (mH m) (mH (leaveM m k w now)) (.tup []):=by
 have hup:=admitUnpin_ok m.h oh k hc hh;obtain ⟨ins,hend⟩:=admitEnd_ok (unpinH m.h k) (hok_unpin oh k) k hk4 ((isCl_set m.h k k false).trans hc);have hg:=ws_get hk
 have hme:(m.ev.map encEvA).length=m.ev.length:=List.length_map ..
 refine hcall_of Tryz.func85 4 rfl (by kernel_rfl) (by rfl) (aP ?_);refine callH_ro (op_ok m.ws k w hk hb) [(1000001,1000001)] rfl rfl ⟨rfl,trivial⟩ rfl (aP ?_);refine getRow_of hg (aP ?_);rw [hp];refine aP ?_;refine callX_pure hup (aP ?_);refine getRow_of hg (aP ?_);rw [ha];refine aP ?_;refine callX_pure hend (aP ?_);refine getRow_of hg (aP ?_);refine getRow_of hg (aP ?_);refine getRow_of hg (aP ?_);refine roomK_le 1000000 1000 (by show (m.ev.map encEvA).length+1<=1000000;omega) (by decide) (by decide) (by decide) (aP ?_);refine getRow_of hg (aP ?_);refine getRow_of hg (aP ?_);refine getRow_of hg (aP ?_)
 have em:leaveM m k w now={m with ws:=m.ws.set k (leaveW w),h:=endH (unpinH m.h k) k,lat:=m.lat,ev:=m.ev++[⟨k,w.op,w.res,w.began,w.done,now⟩]}:=by
  rw [leaveM,hp,ha];rfl
 rw [em];exact hret_of rfl rfl rfl ⟨by kernel_rfl,rowE (ws_set (leaveW w)),rowE (by rw [List.map_append];rfl),trivial⟩
set_option maxRecDepth 20000 in
set_option maxHeartbeats 16000000 in
theorem leave_pa_ok (m:MS) (k:Nat) (w:WA) (now:Int) (hk:m.ws[k]?=some w) (hb:w.ended<w.todo.length) (hm:w.todo.length<=1000) (he:m.ev.length<=100000) (oh:HOk m.h) (hk4:k<4) (hc:isCl m.h k=true) (hp:w.pinned=true) (ha:w.asked=true) (hh:heldW m.h k=true) (h17:m.lat.length=17) (hi2:0<=w.op.2.1) (hi17:w.op.2.1.toNat<17) (ol:LOk (lg m.lat w.op.2.1.toNat)) (hhs:k∈(lg m.lat w.op.2.1.toNat).hs):
  HCall Tryz.prog 85 [.ptr 1000000 0 0,.d (.int .i64 k),.ptr 1000001 k 0,.d (.int .i64 now)] (mH m) (mH (leaveM m k w now)) (.tup []):=by
 have hup:=admitUnpin_ok m.h oh k hc hh;obtain ⟨ins,hend⟩:=admitEnd_ok (unpinH m.h k) (hok_unpin oh k) k hk4 ((isCl_set m.h k k false).trans hc);obtain ⟨ins2,hdrop⟩:=latchDrop_ok (lg m.lat w.op.2.1.toNat) ol k hhs;have hg:=ws_get hk
 have hme:(m.ev.map encEvA).length=m.ev.length:=List.length_map ..
 refine hcall_of Tryz.func85 4 rfl (by kernel_rfl) (by rfl) (aP ?_);refine callH_ro (op_ok m.ws k w hk hb) [(1000001,1000001)] rfl rfl ⟨rfl,trivial⟩ rfl (aP ?_);refine getRow_of hg (aP ?_);rw [hp];refine aP ?_;refine callX_pure hup (aP ?_);refine getRow_of hg (aP ?_);rw [ha];refine aP ?_;refine idxK_int hi2 (by omega) (aP ?_);refine lat_load (m:={m with h:=unpinH m.h k}) hi17 (by show 0+13+w.op.2.1.toNat*3=_;omega) rfl (aP ?_);refine callX_pure hdrop (aP ?_);refine idxK_int hi2 (by omega) (aP ?_);refine lat_store (m:={m with h:=unpinH m.h k}) (x:=dropL (lg m.lat w.op.2.1.toNat) k) hi17 h17 (by show 0+13+w.op.2.1.toNat*3=_;omega) rfl rfl (aP ?_);refine callX_pure hend (aP ?_);refine getRow_of hg (aP ?_);refine getRow_of hg (aP ?_);refine getRow_of hg (aP ?_);refine roomK_le 1000000 1000 (by show (m.ev.map encEvA).length+1<=1000000;omega) (by decide) (by decide) (by decide) (aP ?_);refine getRow_of hg (aP ?_);refine getRow_of hg (aP ?_);refine getRow_of hg (aP ?_)
 have em:leaveM m k w now={m with ws:=m.ws.set k (leaveW w),h:=endH (unpinH m.h k) k,lat:=m.lat.set w.op.2.1.toNat (dropL (lg m.lat w.op.2.1.toNat) k),ev:=m.ev++[⟨k,w.op,w.res,w.began,w.done,now⟩]}:=by
  rw [leaveM,hp,ha];rfl
 rw [em];exact hret_of rfl rfl rfl ⟨by kernel_rfl,rowE (ws_set (leaveW w)),rowE (by rw [List.map_append];rfl),trivial⟩
def tickM (m:MS):MS:={m with clk:=m.clk+1}
theorem step_no_ok (m:MS) (k:Int) (hn:¬(0<=k/\k<m.ws.length)):HCall Tryz.prog 34 [.ptr 1000000 0 0,.d (.int .i64 k)] (mH m) (mH m) (.bool false):=by
 have hi:=isWorker_ok m k
 have e:(decide (0<=k)&&decide (k<m.ws.length))=false:=by
  rw [Bool.eq_false_iff];simpa using fun h=>by omega
 rw [e] at hi;refine hcall_of Tryz.func34 2 rfl (by kernel_rfl) (by rfl) (aP ?_);refine callH_blk hi nm3 rfl ⟨rfl,rfl,rfl,trivial⟩ rfl (aP ?_);exact hret_of rfl rfl rfl ⟨rfl,rfl,rfl,trivial⟩
set_option maxRecDepth 20000 in
set_option maxHeartbeats 16000000 in
theorem step0_ok (m m':MS) (k:Nat) (w:WA) (b:Bool) (hk:m.ws[k]?=some w) (hs:w.st=0) (hc0:-1000000<=m.clk) (hc1:m.clk<=1000000)
  (H:HCall Tryz.prog 80 [.ptr 1000000 0 0,.d (.int .i64 k),.ptr 1000001 k 0,.d (.int .i64 m.clk)] (mH (tickM m)) (mH m') (.bool b)):
  HCall Tryz.prog 34 [.ptr 1000000 0 0,.d (.int .i64 k)] (mH m) (mH m') (.bool b):=by
 have hi:=isWorker_ok m k
 have e:(decide (0<= (k:Int))&&decide ((k:Int)<m.ws.length))=true:=by
  have:=(List.getElem?_eq_some_iff.1 hk).1
  simp;omega
 rw [e] at hi;have hg:=ws_get hk;have hlt:=ws_lt hk;refine hcall_of Tryz.func34 2 rfl (by kernel_rfl) (by rfl) (aP ?_);refine callH_blk hi nm3 rfl ⟨rfl,rfl,rfl,trivial⟩ rfl (aP ?_);refine idxK_nat (by omega) (aP ?_);refine getRow_of hg (aP ?_);refine callH_blk H nm3 rfl ⟨by kernel_rfl,rfl,rfl,trivial⟩ rfl (aP ?_);exact hret_of rfl rfl rfl ⟨rfl,rfl,rfl,trivial⟩
set_option maxRecDepth 20000 in
set_option maxHeartbeats 16000000 in
theorem step1_ok (m m':MS) (k:Nat) (w:WA) (b:Bool) (hk:m.ws[k]?=some w) (hs:w.st=1) (hc0:-1000000<=m.clk) (hc1:m.clk<=1000000)
  (H:HCall Tryz.prog 81 [.ptr 1000000 0 0,.d (.int .i64 k),.ptr 1000001 k 0,.d (.int .i64 m.clk)] (mH (tickM m)) (mH m') (.bool b)):
  HCall Tryz.prog 34 [.ptr 1000000 0 0,.d (.int .i64 k)] (mH m) (mH m') (.bool b):=by
 have hi:=isWorker_ok m k
 have e:(decide (0<= (k:Int))&&decide ((k:Int)<m.ws.length))=true:=by
  have:=(List.getElem?_eq_some_iff.1 hk).1
  simp;omega
 rw [e] at hi;have hg:=ws_get hk;have hlt:=ws_lt hk;refine hcall_of Tryz.func34 2 rfl (by kernel_rfl) (by rfl) (aP ?_);refine callH_blk hi nm3 rfl ⟨rfl,rfl,rfl,trivial⟩ rfl (aP ?_);refine idxK_nat (by omega) (aP ?_);refine getRow_of hg (aP ?_);refine callH_blk H nm3 rfl ⟨by kernel_rfl,rfl,rfl,trivial⟩ rfl (aP ?_);exact hret_of rfl rfl rfl ⟨rfl,rfl,rfl,trivial⟩
set_option maxRecDepth 20000 in
set_option maxHeartbeats 16000000 in
theorem step2_ok (m m':MS) (k:Nat) (w:WA) (b:Bool) (hk:m.ws[k]?=some w) (hs:w.st=2) (hc0:-1000000<=m.clk) (hc1:m.clk<=1000000)
  (H:HCall Tryz.prog 82 [.ptr 1000000 0 0,.d (.int .i64 k),.ptr 1000001 k 0] (mH (tickM m)) (mH m') (.bool b)):
  HCall Tryz.prog 34 [.ptr 1000000 0 0,.d (.int .i64 k)] (mH m) (mH m') (.bool b):=by
 have hi:=isWorker_ok m k
 have e:(decide (0<= (k:Int))&&decide ((k:Int)<m.ws.length))=true:=by
  have:=(List.getElem?_eq_some_iff.1 hk).1
  simp;omega
 rw [e] at hi;have hg:=ws_get hk;have hlt:=ws_lt hk;refine hcall_of Tryz.func34 2 rfl (by kernel_rfl) (by rfl) (aP ?_);refine callH_blk hi nm3 rfl ⟨rfl,rfl,rfl,trivial⟩ rfl (aP ?_);refine idxK_nat (by omega) (aP ?_);refine getRow_of hg (aP ?_);refine callH_blk H nm3 rfl ⟨by kernel_rfl,rfl,rfl,trivial⟩ rfl (aP ?_);exact hret_of rfl rfl rfl ⟨rfl,rfl,rfl,trivial⟩
set_option maxRecDepth 20000 in
set_option maxHeartbeats 16000000 in
theorem step3_ok (m m':MS) (k:Nat) (w:WA) (b:Bool) (hk:m.ws[k]?=some w) (hs:w.st=3) (hc0:-1000000<=m.clk) (hc1:m.clk<=1000000)
  (H:HCall Tryz.prog 83 [.ptr 1000000 0 0,.d (.int .i64 k),.ptr 1000001 k 0] (mH (tickM m)) (mH m') (.bool b)):
  HCall Tryz.prog 34 [.ptr 1000000 0 0,.d (.int .i64 k)] (mH m) (mH m') (.bool b):=by
 have hi:=isWorker_ok m k
 have e:(decide (0<= (k:Int))&&decide ((k:Int)<m.ws.length))=true:=by
  have:=(List.getElem?_eq_some_iff.1 hk).1
  simp;omega
 rw [e] at hi;have hg:=ws_get hk;have hlt:=ws_lt hk;refine hcall_of Tryz.func34 2 rfl (by kernel_rfl) (by rfl) (aP ?_);refine callH_blk hi nm3 rfl ⟨rfl,rfl,rfl,trivial⟩ rfl (aP ?_);refine idxK_nat (by omega) (aP ?_);refine getRow_of hg (aP ?_);refine callH_blk H nm3 rfl ⟨by kernel_rfl,rfl,rfl,trivial⟩ rfl (aP ?_);exact hret_of rfl rfl rfl ⟨rfl,rfl,rfl,trivial⟩
set_option maxRecDepth 20000 in
set_option maxHeartbeats 16000000 in
theorem step5_ok (m m':MS) (k:Nat) (w:WA) (hk:m.ws[k]?=some w) (hs:w.st=5) (hc0:-1000000<=m.clk) (hc1:m.clk<=1000000)
  (H:HCall Tryz.prog 84 [.ptr 1000000 0 0,.ptr 1000001 k 0,.d (.int .i64 m.clk)] (mH (tickM m)) (mH m') (.tup [])):
  HCall Tryz.prog 34 [.ptr 1000000 0 0,.d (.int .i64 k)] (mH m) (mH m') (.bool true):=by
 have hi:=isWorker_ok m k
 have e:(decide (0<= (k:Int))&&decide ((k:Int)<m.ws.length))=true:=by
  have:=(List.getElem?_eq_some_iff.1 hk).1
  simp;omega
 rw [e] at hi;have hg:=ws_get hk;have hlt:=ws_lt hk;refine hcall_of Tryz.func34 2 rfl (by kernel_rfl) (by rfl) (aP ?_);refine callH_blk hi nm3 rfl ⟨rfl,rfl,rfl,trivial⟩ rfl (aP ?_);refine idxK_nat (by omega) (aP ?_);refine getRow_of hg (aP ?_);refine callH_blk H nm3 rfl ⟨by kernel_rfl,rfl,rfl,trivial⟩ rfl (aP ?_);exact hret_of rfl rfl rfl ⟨rfl,rfl,rfl,trivial⟩
set_option maxRecDepth 20000 in
set_option maxHeartbeats 16000000 in
theorem step6_ok (m m':MS) (k:Nat) (w:WA) (hk:m.ws[k]?=some w) (hs:w.st=6) (hc0:-1000000<=m.clk) (hc1:m.clk<=1000000)
  (H:HCall Tryz.prog 85 [.ptr 1000000 0 0,.d (.int .i64 k),.ptr 1000001 k 0,.d (.int .i64 m.clk)] (mH (tickM m)) (mH m') (.tup [])):
  HCall Tryz.prog 34 [.ptr 1000000 0 0,.d (.int .i64 k)] (mH m) (mH m') (.bool true):=by
 have hi:=isWorker_ok m k
 have e:(decide (0<= (k:Int))&&decide ((k:Int)<m.ws.length))=true:=by
  have:=(List.getElem?_eq_some_iff.1 hk).1
  simp;omega
 rw [e] at hi;have hg:=ws_get hk;have hlt:=ws_lt hk;refine hcall_of Tryz.func34 2 rfl (by kernel_rfl) (by rfl) (aP ?_);refine callH_blk hi nm3 rfl ⟨rfl,rfl,rfl,trivial⟩ rfl (aP ?_);refine idxK_nat (by omega) (aP ?_);refine getRow_of hg (aP ?_);refine callH_blk H nm3 rfl ⟨by kernel_rfl,rfl,rfl,trivial⟩ rfl (aP ?_);exact hret_of rfl rfl rfl ⟨rfl,rfl,rfl,trivial⟩
set_option maxRecDepth 20000 in
set_option maxHeartbeats 16000000 in
theorem step4_ok (m:MS) (k:Nat) (w:WA) (hk:m.ws[k]?=some w) (hs:w.st=4) (hc0:-1000000<=m.clk) (hc1:m.clk<=1000000):
  HCall Tryz.prog 34 [.ptr 1000000 0 0,.d (.int .i64 k)] (mH m) (mH (tickM m)) (.bool false):=by
 have hi:=isWorker_ok m k
 have e:(decide (0<= (k:Int))&&decide ((k:Int)<m.ws.length))=true:=by
  have:=(List.getElem?_eq_some_iff.1 hk).1
  simp;omega
 rw [e] at hi;have hg:=ws_get hk;have hlt:=ws_lt hk;refine hcall_of Tryz.func34 2 rfl (by kernel_rfl) (by rfl) (aP ?_);refine callH_blk hi nm3 rfl ⟨rfl,rfl,rfl,trivial⟩ rfl (aP ?_);refine idxK_nat (by omega) (aP ?_);refine getRow_of hg (aP ?_);exact hret_of rfl rfl rfl ⟨by kernel_rfl,rfl,rfl,trivial⟩
end Go.Lk
