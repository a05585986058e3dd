/-
  What is proved here: what functions of the program compute, and what follows; no condition beyond each theorem's own.
-/
import Derived.Test.YtaofmndhdmkgkaaGreatIAp
import Derived.Test.YtaofmndhdmkgkaaGreatIAv
import Derived.Test.YtaofmndhdmkgkaaGreatIBe
import Derived.Test.YtaofmndhdmkgkaaGreatIBg
set_option linter.unusedSimpArgs false
set_option linter.unusedVariables false
set_option linter.unnecessarySimpa false
set_option linter.unusedSectionVars false
namespace Go.Lk
open Go Go.Proofs Go.RowKit
structure PuI (s0:SA) (s:SA×Nat):Prop where
 su:SU s.1
 m:4<s.1.out.length+s.2
 eq:zLc s.2 s.1=yF s0
def boxSA (s:SA) (d:DS) (J O:Nat):List AV:=[.d (.lst (s.jobs.map zAv)),.d (.int .i64 s.at'),.d (.bool s.giv),.own J,.d (.lst (d.sec.map encB)),.d (.lst (d.ca.map encW)),.d (.int .i64 s.next),.d (.lst (s.out.map zDm)),.own O]
theorem zYe {s:SA} {r:Option Nat} (h:yEs s=r):zCb s.jobs s.jobs.length (if s.giv=true then s.at'+1 else s.at')=r:=h
set_option maxRecDepth 20000 in
set_option maxHeartbeats 8000000 in
theorem yUx (s:SA) (d:DS) (o:SU s) (hU:Us d):zAi Tryz.prog 86 [zWu s d] (zWu (yF s) d):=by
 have hl:=zUt s.jobs;have hl0:(s.jobs.mapIdx z3z).length=s.jobs.length:=hl
 have hmo:(s.out.map zBv).length=s.out.length:=List.length_map ..
 have n4:=o.n4;have fl:=o.fl;refine zAe Tryz.func86 1 rfl (by kernel_rfl) (aP ?_);refine zAa (zLf s d o.toSOk hU) (aP ?_);refine zAn (yH (yQw s.jobs) (by omega)) (aP ?_);refine zAn (z6q (zNy s.out) (by omega)) (aP ?_);refine zAq (ι:=SA×Nat) (fun s=>[(1,.ptr 1 0 0),(2,.ptr 2 0 0)]) (fun s=>[(1,.box (boxSA s.1 d 14 18) false),(2,.box [.nil,.d (.int .i64 0),.d (.bool false),.nil,.nil,.nil,.d (.int .i64 0),.nil,.nil] false),(14,.row (jbR s.1.jobs) 1 false),(18,.row (s.1.out.map zBv) 5 false)])
  (PuI s) (fun s=>4-s.1.out.length) (s,5) ⟨o,by dsimp only;omega,rfl⟩ (le0 (zAb ⟨rfl,rfl,trivial⟩ ⟨rfl,rfl,rfl,rfl,trivial⟩ ⟨rfl,rfl,rfl,rfl⟩)) ?_
 rintro ⟨r,m⟩ ⟨hr,hm,he⟩;simp only [] at hr hm he⊢
 have hmr:(r.out.map zDm).length=r.out.length:=List.length_map ..
 have hmo2:(r.out.map zBv).length=r.out.length:=List.length_map ..
 have rfl4:=hr.fl;have rn4:=hr.n4;have hlr:=zUt r.jobs;obtain ⟨m,rfl⟩:∃ q,m=q+1:=⟨m-1,by omega⟩;rw [zLc] at he
 conv=>whnf
 refine aA ?_
 refine bcase_p (fun h5=>?_) (fun h5=>?_)<;>conv=>whnf
 ·refine aP ?_
  refine bcase_p (fun h6=>?_) (fun h6=>?_)<;>conv=>whnf
  ·have hlt:r.out.length<4/\r.next<2147483647:=⟨by omega,by omega⟩;rw [if_pos hlt] at he
   cases hq:yEs r with
   |none=>
    rw [hq] at he;refine aP ?_;refine zAa (yNw r.jobs r.at' r.giv hr.n1 rn4 hr.at1 (zYe hq)) (aP ?_);rw [<-he];exact ret_of rfl rfl
   |some k=>
    rw [hq] at he;obtain ⟨hk,p,hp⟩:=zEz hr.ne hq
    have hpk:r.jobs[k]=some p:=by rw [List.getElem?_eq_getElem hk,Option.some.injEq] at hp;exact hp
    have hpg:=hr.pg p (by rw [<-hpk];exact List.getElem_mem hk);have hg:=z0a hk;rw [hpk] at hg;have es:(jbR r.jobs).set k (zAx [D.lst (jobL k (some p))] 0 [D.lst []])=jbR (r.jobs.set k none):=yIz hk none;have hs:=z9j (g:=true) hr hk hp hlt.1 hlt.2
    have he2:(r.jobs[k]?.getD none).getD 0=p:=by rw [hp];rfl
    simp only [he2] at he;refine aP ?_;refine zAa (yNv r.jobs r.at' r.giv hr.n1 rn4 hr.at1 k (zYe hq)) (aP ?_);refine zAd (by omega) (w0 ?_);refine zAc hg (aP ?_);refine zAd (i:=0) (by simp [jobL]) (w0 ?_);refine zAc (x:=zRq k p 0) rfl (aP ?_);refine zAd (by omega) (aP ?_);refine zAc hg (aP ?_);refine zAg (fun e he=>by simp [jobL] at he;subst he;rfl) (w0 ?_);refine zD (l:=1) (by simp [jobL]) (aP ?_);refine zAn (z6q (l:=[]) rfl (by simp)) (aP ?_);refine zAd (by omega) (aP ?_);refine zAc hg (aP ?_);refine zAa (z5u r.next r.out d hr.toSOk.flk hU p k 1 hpg.1 hpg.2 hlt.1 hlt.2) (aP ?_);refine zAj 1000 100 (by show (r.out.map zBv).length+1<=1000;omega) (by decide) (by decide) (by decide) (aP ?_);refine ⟨(⟨k,true,r.jobs.set k none,r.next+1,r.out++[⟨r.next,k,p,1⟩]⟩,m),⟨hs,by dsimp only;rw [List.length_append,List.length_singleton];omega,he⟩,by dsimp only;rw [List.length_append,List.length_singleton];omega,le0 (zAb ⟨rfl,rfl,trivial⟩ ⟨?_,?_,?_,?_,trivial⟩ ⟨rfl,rfl,rfl,rfl⟩)⟩
    ·kernel_rfl
    ·kernel_rfl
    ·exact congrArg (fun R=>some (Blk.row R 1 false)) es
    ·dsimp only
     rw [List.map_append];kernel_rfl
  ·have hlt:¬(r.out.length<4/\r.next<2147483647):=by omega
   rw [if_neg hlt] at he;refine aP ?_;rw [<-he];exact ret_of rfl rfl
 ·have hlt:¬(r.out.length<4/\r.next<2147483647):=by omega
  rw [if_neg hlt] at he;refine aP ?_;rw [<-he];exact ret_of rfl rfl
noncomputable def jobD (d:DS) (f:Fly) (fault:Bool):List D:=[.int .i64 f.who,.int .i64 1,.int .i64 f.pg,.str (bif fault then ByteArray.empty else (zIk d (2*f.pg+1)).1++(zIk d (2*f.pg+1+1)).1),.int .i64 f.tr]
def z3f (s:SA) (i:Nat):SA:={s with out:=s.out.eraseIdx i}
def yFy (s:SA) (i:Nat) (j:Fly):SA:={s with next:=s.next+1,out:=s.out.eraseIdx i++[⟨s.next,j.who,j.pg,j.tr+1⟩]}
theorem z6u (s:SA) (o:SOk s) (i:Nat):zDp Tryz.prog 156 [.lst ([(((s.out.map zBv).take i).drop 0),(((s.out.map zBv).take (s.out.map zBv).length).drop (i+1))].map enL)] ((s.out.eraseIdx i).map zBv) 5:=by
 have hlen:=o.fl
 have hc:=yMs [(((s.out.map zBv).take i).drop 0),(((s.out.map zBv).take (s.out.map zBv).length).drop (i+1))] (fun l hl=>by
  simp at hl
  rcases hl with rfl|rfl
  ·exact okRows_take (zNy s.out) _
  ·exact okRows_drop (okRows_take (zNy s.out) _) _) (by simp) (Nat.le_trans (yHg zBv s.out i) (by omega))
 rwa [zZk] at hc
theorem yTb {s:SA} (o:SOk s) (i:Nat):FlOk s.next (s.out.eraseIdx i):=by
 have hsub:=List.eraseIdx_sublist s.out i;exact ⟨Nat.le_trans hsub.length_le o.fl,o.nx,o.up.sublist (hsub.map _),fun f hf=>⟨(o.lt f (hsub.mem hf)).1,(o.lt f (hsub.mem hf)).2.2.1⟩⟩
set_option maxRecDepth 20000 in
set_option maxHeartbeats 8000000 in
theorem z3e (s:SA) (d:DS) (o:SOk s) (hU:Us d) (i:Nat) (hi:i<s.out.length) (h3:(s.out[i]).tr<3) (hn:s.next<2147483647):
  zAi Tryz.prog 87 [zWu s d,.int .i64 i,.bool true] (.tup [zWu (yFy s i s.out[i]) d,.agg [.int .i64 0,.int .i64 0,.int .i64 0,.str ByteArray.empty,.int .i64 0],.int .i64 0,.bool false]):=by
 have hsub:=(List.eraseIdx_sublist s.out i).length_le
 have hel:(s.out.eraseIdx i).length+1=s.out.length:=by rw [List.length_eraseIdx_of_lt hi];omega
 have hme:((s.out.eraseIdx i).map zBv).length=(s.out.eraseIdx i).length:=List.length_map ..
 have hmo:(s.out.map zBv).length=s.out.length:=List.length_map ..
 have hlen:=o.fl
 have hg:(s.out.map zBv)[i]?=some (zBv s.out[i]):=by rw [List.getElem?_map,List.getElem?_eq_getElem hi];rfl
 obtain ⟨g1,g2,g3,g4,g5⟩:=o.lt s.out[i] (List.getElem_mem hi);have hc:=z6u s o i;refine zAe Tryz.func87 3 rfl (by kernel_rfl) (aO ?_);refine zAa (zLf s d o hU) (aO ?_);refine zAd (by omega) (w0 ?_);refine zAc hg (aO ?_);refine zAa (zQc s.next s.out d o.flk hU i hi true) (aO ?_);refine zAg (fun e he=>zGp he) (w0 ?_);refine zCr (by omega) (aO ?_);refine zAg (fun e he=>zGp he) (w0 ?_);refine zD (l:=i+1) (by omega) (aO ?_);refine zAn hc (w0 ?_)
 conv=>whnf
 refine aP ?_;refine zDr (by rfl) (aP ?_);refine zAa (z5u s.next (s.out.eraseIdx i) d (yTb o i) hU s.out[i].pg s.out[i].who (s.out[i].tr+1) g3.1 g3.2 (by omega) hn) (aP ?_);refine zAj 1000 100 (by show ((s.out.eraseIdx i).map zBv).length+1<=1000;omega) (by decide) (by decide) (by decide) (aP ?_);refine ret_of rfl ?_;show _=D.tup [D.agg [.lst (s.jobs.map zAv),.int .i64 s.at',.bool s.giv,.lst (s.jobs.mapIdx z3z),.lst (d.sec.map encB),.lst (d.ca.map encW),.int .i64 ((s.next+1:Nat):Int),.lst ((s.out.eraseIdx i++[(⟨s.next,s.out[i].who,s.out[i].pg,s.out[i].tr+1⟩:Fly)]).map zDm),.lst ((s.out.eraseIdx i++[(⟨s.next,s.out[i].who,s.out[i].pg,s.out[i].tr+1⟩:Fly)]).map zBv)],_,_,_]
 rw [List.map_append,List.map_append];rfl
set_option maxRecDepth 20000 in
set_option maxHeartbeats 8000000 in
theorem z6x (s:SA) (d:DS) (o:SOk s) (hU:Us d) (i:Nat) (hi:i<s.out.length) (fault:Bool) (h3:¬(fault=true/\ (s.out[i]).tr<3/\s.next<2147483647)):
  zAi Tryz.prog 87 [zWu s d,.int .i64 i,.bool fault] (.tup [zWu (z3f s i) d,.agg (jobD d s.out[i] fault),.int .i64 (if fault=true then 8 else 0),.bool true]):=by
 cases fault with
 |false=>
  have hmo:(s.out.map zBv).length=s.out.length:=List.length_map ..
  have hlen:=o.fl
  have hg:(s.out.map zBv)[i]?=some (zBv s.out[i]):=by rw [List.getElem?_map,List.getElem?_eq_getElem hi];rfl
  obtain ⟨g1,g2,g3,g4,g5⟩:=o.lt s.out[i] (List.getElem_mem hi);have hc:=z6u s o i;refine zAe Tryz.func87 3 rfl (by kernel_rfl) (aO ?_);refine zAa (zLf s d o hU) (aO ?_);refine zAd (by omega) (w0 ?_);refine zAc hg (aO ?_);refine zAa (zQc s.next s.out d o.flk hU i hi false) (aO ?_);refine zAg (fun e he=>zGp he) (w0 ?_);refine zCr (by omega) (aO ?_);refine zAg (fun e he=>zGp he) (w0 ?_);refine zD (l:=i+1) (by omega) (aO ?_);refine zAn hc (w0 ?_)
  conv=>whnf
  refine aP ?_;refine zEu (by rfl) (aP ?_);exact ret_of rfl rfl
 |true=>
  have hmo:(s.out.map zBv).length=s.out.length:=List.length_map ..
  have hlen:=o.fl
  have hg:(s.out.map zBv)[i]?=some (zBv s.out[i]):=by rw [List.getElem?_map,List.getElem?_eq_getElem hi];rfl
  obtain ⟨g1,g2,g3,g4,g5⟩:=o.lt s.out[i] (List.getElem_mem hi);have hc:=z6u s o i;refine zAe Tryz.func87 3 rfl (by kernel_rfl) (aO ?_);refine zAa (zLf s d o hU) (aO ?_);refine zAd (by omega) (w0 ?_);refine zAc hg (aO ?_);refine zAa (zQc s.next s.out d o.flk hU i hi true) (aO ?_);refine zAg (fun e he=>zGp he) (w0 ?_);refine zCr (by omega) (aO ?_);refine zAg (fun e he=>zGp he) (w0 ?_);refine zD (l:=i+1) (by omega) (aO ?_);refine zAn hc (w0 ?_)
  conv=>whnf
  refine aP ?_;refine zDr (by rfl) (aP ?_)
  refine bcase_p (fun h6=>?_) (fun h6=>?_)<;>conv=>whnf
  ·refine aP ?_
   refine bcase_p (fun h7=>?_) (fun h7=>?_)<;>conv=>whnf
   ·exact absurd ⟨rfl,by omega,by omega⟩ h3
   ·refine aP ?_;exact ret_of rfl rfl
  ·refine aP ?_;exact ret_of rfl rfl
def lg (l:List LA) (i:Nat):LA:=l[i]?.getD noLA
def lc (l:List LA) (i:Nat):List AV:=(lg l i).cells.map AV.d
def latC (l:List LA):List AV:=lc l 0++(lc l 1++(lc l 2++(lc l 3++(lc l 4++(lc l 5++(lc l 6++(lc l 7++(lc l 8++(lc l 9++(lc l 10++(lc l 11++(lc l 12++(lc l 13++(lc l 14++(lc l 15++lc l 16)))))))))))))))
def zIs (m:MS):List AV:=.own 1000001::(m.p.box++(m.h.cells.map AV.d++(latC m.lat++((m.s.cells m.p.d).map AV.d++[.d (.int .i64 m.clk),.own 1000004]))))
def mH (m:MS):List (Nat×Blk):=[(1000000,.box (zIs m) false),(1000001,.row (m.ws.map zDn) 11 false),(1000004,.row (m.ev.map zAw) 11 false)]
def nm3:List (Nat×Nat):=[(1000000,1000000),(1000001,1000001),(1000004,1000004)]
theorem zEh {m:MS} {k:Nat} {w:WA} (hk:m.ws[k]?=some w):(m.ws.map zDn)[k]?=some (zDn w):=by rw [List.getElem?_map,hk];rfl
theorem zSc {ws:List WA} {k:Nat} (w':WA):(ws.map zDn).set k (zDn w')=(ws.set k w').map zDn:=by rw [List.map_set]
theorem ws2 {ws:List WA} {k:Nat} (x:List D) (w':WA):((ws.map zDn).set k x).set k (zDn w')=(ws.set k w').map zDn:=by rw [List.set_set,zSc]
theorem ws3 {ws:List WA} {k:Nat} (x y:List D) (w':WA):(((ws.map zDn).set k x).set k y).set k (zDn w')=(ws.set k w').map zDn:=by rw [List.set_set,List.set_set,zSc]
theorem rowE {R R':List (List D)} (h:R=R'):some (Blk.row R 11 false)=some (Blk.row R' 11 false):=by rw [h]
theorem zPr {m:MS} {k:Nat} {w:WA} (hk:m.ws[k]?=some w):k<(m.ws.map zDn).length:=by rw [List.length_map];exact (List.getElem?_eq_some_iff.1 hk).1
theorem zCi (m:MS) (k:Int):zBa Tryz.prog 79 [.ptr 1000000 0 0,.d (.int .i64 k)] (mH m) (mH m) (.bool (decide (0<=k)&&decide (k<m.ws.length))):=by
 refine zAr Tryz.func79 2 rfl (by kernel_rfl) (by rfl) (w0 ?_)
 refine bcase_p (fun h=>?_) (fun h=>?_)<;>conv=>whnf
 ·refine aP ?_;exact zAh rfl (by rw [decide_eq_true h,Bool.true_and,List.length_map];rfl) rfl ⟨rfl,rfl,rfl,trivial⟩
 ·refine aP ?_;exact zAh rfl (by rw [decide_eq_false h];rfl) rfl ⟨rfl,rfl,rfl,trivial⟩
theorem zMx (m:MS) (k:Nat) (hl:m.h.cl.length<=1000):zBa Tryz.prog 138 [.ptr 1000000 0 0,.d (.int .i64 k)] (mH m) (mH m) (.bool (isCl m.h k)):=by
 have hm:(m.h.cl.map zB).length=m.h.cl.length:=List.length_map ..
 refine zAr Tryz.func138 2 rfl (by kernel_rfl) (by rfl) (aP ?_);refine zAq (ι:=Nat) (fun i=>[(0,.ptr 1000000 0 0),(1,.d (.int .i64 k)),(11,.d (.lst (m.h.cl.map zB))),(12,.d (.int .i64 (m.h.cl.map zB).length)),(13,.d (.int .i64 i))]) (fun _=>mH m)
  (fun i=>i<=m.h.cl.length/\isCl m.h k=(m.h.cl.drop i).any fun c=>c.1==k) (fun i=>m.h.cl.length-i) 0 ⟨Nat.zero_le _,rfl⟩ (le0 (zAb ⟨rfl,rfl,rfl,rfl,rfl,trivial⟩ ⟨rfl,rfl,rfl,trivial⟩ ⟨rfl,rfl,rfl,rfl⟩)) ?_
 rintro i ⟨hi,he⟩
 conv=>whnf
 refine bcase_p (fun h5=>?_) (fun h5=>?_)<;>conv=>whnf
 ·have hi2:i<m.h.cl.length:=by omega
  rw [zBf hi2,List.any_cons] at he;refine zAd (by omega) (w0 ?_);refine zAc (x:=zB m.h.cl[i]) (by simp [hi2]) (aW ?_)
  refine bcase_p (fun h6=>?_) (fun h6=>?_)<;>conv=>whnf
  ·have e6:(m.h.cl[i].1==k)=true:=by simpa using (show m.h.cl[i].1=k by omega)
   rw [e6,Bool.true_or] at he;rw [he];refine aP ?_;exact zAh rfl rfl rfl ⟨rfl,rfl,rfl,trivial⟩
  ·have e6:(m.h.cl[i].1==k)=false:=by simpa using (show ¬m.h.cl[i].1=k by omega)
   rw [e6,Bool.false_or] at he;refine aP ?_;exact ⟨i+1,⟨by omega,he⟩,by omega,(le0 (zAb ⟨rfl,rfl,rfl,rfl,rfl,trivial⟩ ⟨rfl,rfl,rfl,trivial⟩ ⟨rfl,rfl,rfl,rfl⟩))⟩
 ·have:i=m.h.cl.length:=by omega
  subst this;rw [List.drop_length] at he;rw [he];refine aP ?_;exact zAh rfl rfl rfl ⟨rfl,rfl,rfl,trivial⟩
theorem z2j (m:MS) (k:Nat) (w:WA) (now:Int) (hk:m.ws[k]?=some w) (hd:w.todo.length<=w.ended):
  zBa Tryz.prog 80 [.ptr 1000000 0 0,.d (.int .i64 k),.ptr 1000001 k 0,.d (.int .i64 now)] (mH m) (mH m) (.bool false):=by
 have hg:=zEh hk
 have hmt:(w.todo.map zGl).length=w.todo.length:=List.length_map ..
 refine zAr Tryz.func80 4 rfl (by kernel_rfl) (by rfl) (aP ?_);refine zAc hg (aP ?_);refine zAc hg (aP ?_);exact zAh rfl rfl rfl ⟨rfl,rfl,rfl,trivial⟩
theorem z6m (m:MS) (k:Nat) (w:WA) (now:Int) (hk:m.ws[k]?=some w) (hd:¬w.todo.length<=w.ended) (o:HOk m.h) (hk4:k<4) (hn:k∉m.h.all) (hl:m.h.cl.length+m.h.q.length<=3):
  zBa Tryz.prog 80 [.ptr 1000000 0 0,.d (.int .i64 k),.ptr 1000001 k 0,.d (.int .i64 now)] (mH m) (mH {zMe m k {w with began:=now,st:=1} with h:=zNm m.h k}) (.bool true):=by
 have hg:=zEh hk
 have hmt:(w.todo.map zGl).length=w.todo.length:=List.length_map ..
 refine zAr Tryz.func80 4 rfl (by kernel_rfl) (by rfl) (aP ?_);refine zAc hg (aP ?_);refine zAc hg (aP ?_);refine zAa (zYz m.h o k hk4 hn hl) (aP ?_);refine zAc hg (aP ?_);refine zAc (zHw (zPr hk)) (aP ?_);exact zAh rfl rfl rfl ⟨by kernel_rfl,rowE (ws2 _ {w with began:=now,st:=1}),rfl,trivial⟩
theorem zYl (o:MOp):zAi Tryz.prog 140 [.agg (zGl o)] (.bool (refB o)):=by
 have h:=Hy.opsDo_ok [] o (by simp);have hm:Hy.mapB []=true:=Hy.mapB_t.2 ⟨fun x hx=>(by cases hx),fun i hi=>absurd hi (by simp)⟩
 have e:decide ((Hy.doM [] o).2.1=1)=refB o:=by
  rw [Hy.doM,refB,hm]
  by_cases h1:o.1<1
  ·rw [if_pos (by simp [h1])];simp [h1]
  by_cases h2:4<o.1
  ·rw [if_pos (by simp [h2])];simp [h2]
  by_cases h3:o.2.1<1
  ·rw [if_pos (by simp [h3])];simp [h3]
  by_cases h4:16<o.2.1
  ·rw [if_pos (by simp [h4])];simp [h4]
  rw [if_neg (by simp [h1,h2,h3,h4]),decide_eq_false h1,decide_eq_false h2,decide_eq_false h3,decide_eq_false h4]
  by_cases h5:o.1=1
  ·rw [if_pos h5];rfl
  ·rw [if_neg h5];rfl
 rw [<-e];refine zAe Tryz.func140 1 rfl (by kernel_rfl) (aO ?_);refine zAa h (aO ?_);exact ret_of rfl rfl
theorem lg_set {l:List LA} {i:Nat} {x:LA} (h:i<l.length) (j:Nat):lg (l.set i x) j=if i=j then x else lg l j:=by
 unfold lg;rw [List.getElem?_set]
 split
 ·rename_i e;subst e;first|rfl|(rw [if_pos h];rfl)
 ·rfl
theorem mc_lat (m:MS):∀ i,i<17->((zIs m).drop (13+i*3)).take 3=lc m.lat i
 |0,_=>rfl|1,_=>rfl|2,_=>rfl|3,_=>rfl|4,_=>rfl|5,_=>rfl|6,_=>rfl|7,_=>rfl|8,_=>rfl
 |9,_=>rfl|10,_=>rfl|11,_=>rfl|12,_=>rfl|13,_=>rfl|14,_=>rfl|15,_=>rfl|16,_=>rfl
 |n+17,h=>absurd h (by omega)
theorem yRa (m:MS):(zIs m).length=75:=rfl
theorem zOn {m:MS} {i j s:Nat} {K:List AV->Prop} (hi:i<17) (hj:j=13+i*3) (hs:s=3) (k:K (lc m.lat i)):bif Nat.ble (j+s) (zIs m).length then forceL (((zIs m).drop j).take s) K else False:=by
 subst hj hs;rw [mc_lat m i hi,yRa,Nat.ble_eq_true_of_le (by omega)];exact k
theorem mc_set (m:MS) (x:LA) (hl:m.lat.length=17):∀ i,i<17->spliceF (zIs m) (13+i*3) (x.cells.map AV.d)=zIs {m with lat:=m.lat.set i x}:=by
 intro i hi
 have hs:=fun j=>lg_set (l:=m.lat) (i:=i) (x:=x) (by omega) j
 have h2:∀ j,lc (m.lat.set i x) j=if i=j then x.cells.map AV.d else lc m.lat j:=fun j=>by
  unfold lc;rw [hs j];split<;>rfl
 have e:zIs {m with lat:=m.lat.set i x}=.own 1000001::(m.p.box++(m.h.cells.map AV.d++(latC (m.lat.set i x)++((m.s.cells m.p.d).map AV.d++[.d (.int .i64 m.clk),.own 1000004])))):=rfl;rw [e,latC];simp only [h2]
 match i,hi with
 |0,_=>rfl|1,_=>rfl|2,_=>rfl|3,_=>rfl|4,_=>rfl|5,_=>rfl|6,_=>rfl|7,_=>rfl|8,_=>rfl
 |9,_=>rfl|10,_=>rfl|11,_=>rfl|12,_=>rfl|13,_=>rfl|14,_=>rfl|15,_=>rfl|16,_=>rfl
 |n+17,h=>exact absurd h (by omega)
theorem zUy {m:MS} {i j s:Nat} {l:List AV} {x:LA} {K:List AV->Prop} (hi:i<17) (hl:m.lat.length=17) (hj:j=13+i*3) (hs:s=3) (hx:l=x.cells.map AV.d) (k:K (zIs {m with lat:=m.lat.set i x})):
  bif Nat.ble (j+s) (zIs m).length then zLi (zIs m) j (.agg l) K else False:=by
 subst hj hs hx;rw [yRa,Nat.ble_eq_true_of_le (by omega)];show K (spliceF (zIs m) (13+i*3) (x.cells.map AV.d))
 rw [mc_set m x hl i hi];exact k
def rowW (ws:List WA):List (Nat×Blk):=[(1000001,.row (ws.map zDn) 11 false)]
theorem zVg (ws:List WA) (k:Nat) (w:WA) (hk:ws[k]?=some w) (hb:w.ended<w.todo.length):zBa Tryz.prog 139 [.ptr 1000001 k 0] (rowW ws) (rowW ws) (.agg (zGl w.op)):=by
 have hg:(ws.map zDn)[k]?=some (zDn w):=by rw [List.getElem?_map,hk];rfl
 have hmt:(w.todo.map zGl).length=w.todo.length:=List.length_map ..
 have ho:(w.todo.map zGl)[w.ended]?=some (zGl w.op):=by rw [List.getElem?_map,WA.op,List.getElem?_eq_getElem hb];rfl
 refine zAr Tryz.func139 1 rfl (by kernel_rfl) (by rfl) (aP ?_);refine zAc hg (aP ?_);refine zAc hg (aP ?_);refine zAd (by omega) (w0 ?_);refine zAc ho (aP ?_);exact zAh rfl rfl rfl ⟨rfl,trivial⟩
theorem zLm (ws:List WA) (k:Nat) (w:WA) (hk:ws[k]?=some w) (r:MRes) (now:Int):zBa Tryz.prog 88 [.ptr 1000001 k 0,.agg ((yNb r).map AV.d),.d (.int .i64 now)] (rowW ws) (rowW (ws.set k (zKc w r now))) (.tup []):=by
 have hg:(ws.map zDn)[k]?=some (zDn w):=by rw [List.getElem?_map,hk];rfl
 have hlt:k<(ws.map zDn).length:=by rw [List.length_map];exact (List.getElem?_eq_some_iff.1 hk).1
 refine zAr Tryz.func88 3 rfl (by kernel_rfl) (by rfl) (aP ?_);refine zAc hg (aP ?_);refine zAc (zHw hlt) (aP ?_);refine zAc (zHw (by rw [List.length_set];exact hlt)) (aP ?_);exact zAh rfl rfl rfl ⟨rowE (ws3 _ _ (zKc w r now)),trivial⟩
def askM (m:MS) (k:Nat) (w:WA):MS:={zMe m k {w with asked:=true,st:=2} with lat:=zWx m.lat w.op.2.1 (askL (latM m w.op.2.1) k (decide (w.op.1≠2)))}
theorem zRe {o:MOp} (h:refB o=false):1<=o.1/\o.1<=4/\1<=o.2.1/\o.2.1<=16:=by
 simp only [refB,Bool.or_eq_false_iff,decide_eq_false_iff_not] at h;omega
set_option maxRecDepth 20000 in
set_option maxHeartbeats 8000000 in
theorem yGj (m:MS) (k:Nat) (w:WA) (now:Int) (hl:m.h.cl.length<=1000) (hc:isCl m.h k=false):
  zBa Tryz.prog 81 [.ptr 1000000 0 0,.d (.int .i64 k),.ptr 1000001 k 0,.d (.int .i64 now)] (mH m) (mH m) (.bool false):=by
 have hi:=zMx m k hl;rw [hc] at hi;refine zAr Tryz.func81 4 rfl (by kernel_rfl) (by rfl) (aP ?_);refine zAl hi nm3 rfl ⟨rfl,rfl,rfl,trivial⟩ rfl (aP ?_);exact zAh rfl rfl rfl ⟨rfl,rfl,rfl,trivial⟩
set_option maxRecDepth 20000 in
set_option maxHeartbeats 8000000 in
theorem yDr (m:MS) (k:Nat) (w:WA) (now:Int) (hk:m.ws[k]?=some w) (hb:w.ended<w.todo.length) (hl:m.h.cl.length<=1000) (hc:isCl m.h k=true) (hr:refB w.op=true):
  zBa Tryz.prog 81 [.ptr 1000000 0 0,.d (.int .i64 k),.ptr 1000001 k 0,.d (.int .i64 now)] (mH m) (mH (zMe m k (zKc w (1,zP) now))) (.bool true):=by
 have hi:=zMx m k hl;rw [hc] at hi;have hrf:=zYl w.op;rw [hr] at hrf;refine zAr Tryz.func81 4 rfl (by kernel_rfl) (by rfl) (aP ?_);refine zAl hi nm3 rfl ⟨rfl,rfl,rfl,trivial⟩ rfl (aP ?_);refine zAl (zVg m.ws k w hk hb) [(1000001,1000001)] rfl ⟨rfl,trivial⟩ rfl (aP ?_);refine zAa hrf (aP ?_);refine zAl (zLm m.ws k w hk (1,zP) now) [(1000001,1000001)] rfl ⟨rfl,trivial⟩ rfl (aP ?_);exact zAh rfl rfl rfl ⟨rfl,rfl,rfl,trivial⟩
set_option maxRecDepth 20000 in
set_option maxHeartbeats 8000000 in
theorem yGh (m:MS) (k:Nat) (w:WA) (now:Int) (hk:m.ws[k]?=some w) (hb:w.ended<w.todo.length) (hl:m.h.cl.length<=1000) (hc:isCl m.h k=true) (hr:refB w.op=false)
  (h17:m.lat.length=17) (hk4:k<4) (ol:LOk (latM m w.op.2.1)) (hn:k∉(latM m w.op.2.1).hs++(latM m w.op.2.1).q.map (·.1)) (hll:(latM m w.op.2.1).hs.length+(latM m w.op.2.1).q.length<=3):
  zBa Tryz.prog 81 [.ptr 1000000 0 0,.d (.int .i64 k),.ptr 1000001 k 0,.d (.int .i64 now)] (mH m) (mH (askM m k w)) (.bool true):=by
 have hi:=zMx m k hl;rw [hc] at hi;have hrf:=zYl w.op;rw [hr] at hrf;obtain ⟨r1,r2,r3,r4⟩:=zRe hr;obtain ⟨i,hi2⟩:∃ i:Nat,w.op.2.1=(i:Int):=⟨w.op.2.1.toNat,by omega⟩
 have hi17:i<17:=by omega
 have eL:latM m w.op.2.1=lg m.lat i:=by rw [latM,hi2];rfl
 rw [eL] at ol hn hll;obtain ⟨b,hask⟩:=z7y (lg m.lat i) ol k (decide (w.op.1≠2)) hk4 hn hll;have hg:=zEh hk;have eb:decide (w.op.1≠2)=!decide (w.op.1=2):=decide_not;rw [eb] at hask;refine zAr Tryz.func81 4 rfl (by kernel_rfl) (by rfl) (aP ?_);refine zAl hi nm3 rfl ⟨rfl,rfl,rfl,trivial⟩ rfl (aP ?_);refine zAl (zVg m.ws k w hk hb) [(1000001,1000001)] rfl ⟨rfl,trivial⟩ rfl (aP ?_);refine zAa hrf (aP ?_);rw [hi2];refine zAd (by omega) (aP ?_);refine zOn hi17 (by show 0+13+i*3=_;omega) rfl (aP ?_);refine zAa hask (aP ?_);refine zAd (by omega) (aP ?_);refine zUy (m:=m) (x:=askL (lg m.lat i) k (!decide (w.op.1=2))) hi17 h17 (by show 0+13+i*3=_;omega) rfl rfl (aP ?_);refine zAc hg (aP ?_);refine zAc (zHw (zPr hk)) (aP ?_)
 have em:askM m k w={zMe m k {w with asked:=true,st:=2} with lat:=m.lat.set i (askL (lg m.lat i) k (!decide (w.op.1=2)))}:=by
  rw [askM,eb,eL,zWx,hi2];rfl
 rw [em];exact zAh rfl rfl rfl ⟨by kernel_rfl,rowE (ws2 _ {w with asked:=true,st:=2}),rfl,trivial⟩
theorem zWl {hp:Nat->Option Blk}:∀ {l:List (Nat×Blk)},covH hp l->zAz hp l=hp
 | [],_=>rfl
 |(b,B)::r,h=>by
  have e:upd hp b (some B)=hp:=by
   funext t
   by_cases q:t=b
   ·subst q;rw [upd_same];exact h.1.symm
   ·rw [zAk _ _ q]
  rw [zAz,e];exact zWl h.2
theorem zGj {P:Program} {f:FuncId} {args xs:List AV} {pre:List (Nat×Blk)} {d:D} {hp:Nat->Option Blk} {K:Eff->Prop} (H:zBa P f args pre pre d) (s:List (Nat×Nat))
  (hs:(z0b s pre&&z9o s)=true) (h4:nmGet s 1000004=none) (hc:covH hp (rnH s pre)) (hx:rnVs s args=xs) (k:K ⟨ofD d,[],none⟩):yDu P f xs hp K:=by
 have h:=H.2 s hp (z0i hs) (zRc hc);rw [h4,hx] at h;refine yAb (e:=⟨ofD d,[],none⟩) ⟨h.1,fun own M ι w vs ho ha hh hd=>(h.2 own M ι w vs ho ha hh hd).mono fun en w' hq=>?_⟩ k;obtain ⟨v,M',ι',e1,e2,e3,e4,e5,e6,e7,e8⟩:=hq;refine ⟨v,M',ι',e1,e2,e3,e4,e5,?_,e7,e8⟩;have:(⟨ofD d,rnH s pre,none⟩:Eff).hp hp=hp:=zWl hc;rw [this] at e6;exact e6
set_option maxRecDepth 20000 in
set_option maxHeartbeats 8000000 in
theorem z7i (m:MS) (k:Nat) (w:WA) (hk:m.ws[k]?=some w) (hb:w.ended<w.todo.length) (hi2:0<=w.op.2.1) (hi17:w.op.2.1.toNat<17) (ol:LOk (lg m.lat w.op.2.1.toNat)) (hho:zMj (lg m.lat w.op.2.1.toNat) k=false):
  zBa Tryz.prog 82 [.ptr 1000000 0 0,.d (.int .i64 k),.ptr 1000001 k 0] (mH m) (mH m) (.bool false):=by
 have hh0:=yBa (lg m.lat w.op.2.1.toNat) ol k;rw [hho] at hh0;refine zAr Tryz.func82 3 rfl (by kernel_rfl) (by rfl) (aP ?_);refine zGj (zVg m.ws k w hk hb) [(1000001,1000001)] rfl rfl ⟨rfl,trivial⟩ rfl (aP ?_);refine zBp hi2 (by omega) (aP ?_);refine zOn hi17 (by show 0+13+w.op.2.1.toNat*3=_;omega) rfl (aP ?_);refine zAa hh0 (aP ?_);exact zAh rfl rfl rfl ⟨rfl,rfl,rfl,trivial⟩
set_option maxRecDepth 20000 in
set_option maxHeartbeats 8000000 in
theorem z7h (m:MS) (k:Nat) (w:WA) (hk:m.ws[k]?=some w) (hb:w.ended<w.todo.length) (hi2:0<=w.op.2.1) (hi17:w.op.2.1.toNat<17) (ol:LOk (lg m.lat w.op.2.1.toNat)) (hho:zMj (lg m.lat w.op.2.1.toNat) k=true):
  zBa Tryz.prog 82 [.ptr 1000000 0 0,.d (.int .i64 k),.ptr 1000001 k 0] (mH m) (mH (zMe m k {w with st:=3})) (.bool true):=by
 have hg:=zEh hk;have hh0:=yBa (lg m.lat w.op.2.1.toNat) ol k;rw [hho] at hh0;refine zAr Tryz.func82 3 rfl (by kernel_rfl) (by rfl) (aP ?_);refine zGj (zVg m.ws k w hk hb) [(1000001,1000001)] rfl rfl ⟨rfl,trivial⟩ rfl (aP ?_);refine zBp hi2 (by omega) (aP ?_);refine zOn hi17 (by show 0+13+w.op.2.1.toNat*3=_;omega) rfl (aP ?_);refine zAa hh0 (aP ?_);refine zAc hg (aP ?_);exact zAh rfl rfl rfl ⟨rfl,rowE (zSc {w with st:=3}),rfl,trivial⟩
set_option maxRecDepth 20000 in
set_option maxHeartbeats 8000000 in
theorem yKh (m:MS) (k:Nat) (w:WA) (hk:m.ws[k]?=some w) (hb:w.ended<w.todo.length) (oh:HOk m.h) (hc:isCl m.h k=true) (hh:zFm m.h k=false) (hF:FM m.p.f) (hpr:pinR m.h k=(m.h,6)):
  zBa Tryz.prog 83 [.ptr 1000000 0 0,.d (.int .i64 k),.ptr 1000001 k 0] (mH m) (mH m) (.bool false):=by
 have hg:=zEh hk;have hp:=zMo m.h oh k hc hh;rw [hpr] at hp;have hf:=zGu m.p.f w.op.2.1 hF.tl hF.dl;refine zAr Tryz.func83 3 rfl (by kernel_rfl) (by rfl) (aP ?_);refine zAa hp (aP ?_);exact zAh rfl rfl rfl ⟨rfl,rfl,rfl,trivial⟩
def pin5M (m:MS) (k:Nat) (w:WA):MS:={zMe m k {w with pinned:=true,st:=5} with h:=pinH m.h k}
def pin4M (m:MS) (k:Nat) (w:WA):MS:={zMe m k {w with pinned:=true,st:=4} with h:=pinH m.h k,s:=askS m.s k w.op.2.1}
set_option maxRecDepth 20000 in
set_option maxHeartbeats 8000000 in
theorem yUt (m:MS) (k:Nat) (w:WA) (hk:m.ws[k]?=some w) (hb:w.ended<w.todo.length) (oh:HOk m.h) (hc:isCl m.h k=true) (hh:zFm m.h k=false) (hF:FM m.p.f) (hpr:pinR m.h k=(pinH m.h k,0)) (hno:¬(hasF m.p w.op.2.1=false/\ (w.op.1=2\/w.op.1=3))):
  zBa Tryz.prog 83 [.ptr 1000000 0 0,.d (.int .i64 k),.ptr 1000001 k 0] (mH m) (mH (pin5M m k w)) (.bool true):=by
 have hg:=zEh hk;have hp:=zMo m.h oh k hc hh;rw [hpr] at hp;have hf:=zGu m.p.f w.op.2.1 hF.tl hF.dl;refine zAr Tryz.func83 3 rfl (by kernel_rfl) (by rfl) (aP ?_);refine zAa hp (aP ?_);refine zGj (zVg m.ws k w hk hb) [(1000001,1000001)] rfl rfl ⟨rfl,trivial⟩ rfl (aP ?_);refine zAa hf (aP ?_)
 refine zAf (fun e=>?_) (fun e=>?_)<;>conv=>whnf
 ·refine aP ?_;refine zAc hg (aP ?_);refine zAc (zHw (zPr hk)) (aP ?_);exact zAh rfl rfl rfl ⟨by kernel_rfl,rowE (ws2 _ {w with pinned:=true,st:=5}),rfl,trivial⟩
 ·have h2:¬(w.op.1=2\/w.op.1=3):=fun g=>hno ⟨e,g⟩
  refine aP ?_;refine zAc hg (aP ?_);refine zAc (zHw (zPr hk)) (aP ?_);exact zAh rfl rfl rfl ⟨by kernel_rfl,rowE (ws2 _ {w with pinned:=true,st:=5}),rfl,trivial⟩
set_option maxRecDepth 20000 in
set_option maxHeartbeats 8000000 in
theorem yUs (m:MS) (k:Nat) (w:WA) (hk:m.ws[k]?=some w) (hb:w.ended<w.todo.length) (oh:HOk m.h) (hc:isCl m.h k=true) (hh:zFm m.h k=false) (hF:FM m.p.f) (hpr:pinR m.h k=(pinH m.h k,0)) (hno:hasF m.p w.op.2.1=false) (h23:w.op.1=2\/w.op.1=3)
  (os:SOk m.s) (hU:Us m.p.d) (hkj:k<m.s.jobs.length) (hjn:m.s.jobs[k]=none) (h1:1<=w.op.2.1) (h16:w.op.2.1<=16):
  zBa Tryz.prog 83 [.ptr 1000000 0 0,.d (.int .i64 k),.ptr 1000001 k 0] (mH m) (mH (pin4M m k w)) (.bool true):=by
 have ha:=z9a m.s m.p.d os hU k hkj hjn w.op.2.1 h1 h16;have hg:=zEh hk;have hp:=zMo m.h oh k hc hh;rw [hpr] at hp;have hf:=zGu m.p.f w.op.2.1 hF.tl hF.dl;refine zAr Tryz.func83 3 rfl (by kernel_rfl) (by rfl) (aP ?_);refine zAa hp (aP ?_);refine zGj (zVg m.ws k w hk hb) [(1000001,1000001)] rfl rfl ⟨rfl,trivial⟩ rfl (aP ?_);refine zAa hf (aP ?_)
 refine zAf (fun e=>?_) (fun e=>?_)<;>conv=>whnf
 ·rw [hasF,e] at hno;cases hno
 ·refine aP ?_
  refine bcase_p (fun g=>?_) (fun g=>?_)<;>conv=>whnf
  ·refine aP ?_;refine zAa ha (aP ?_);refine zAc hg (aP ?_);refine zAc (zHw (zPr hk)) (aP ?_);exact zAh rfl rfl rfl ⟨by kernel_rfl,rowE (ws2 _ {w with pinned:=true,st:=4}),rfl,trivial⟩
  ·refine aP ?_;refine zAa ha (aP ?_);refine zAc hg (aP ?_);refine zAc (zHw (zPr hk)) (aP ?_);exact zAh rfl rfl rfl ⟨by kernel_rfl,rowE (ws2 _ {w with pinned:=true,st:=4}),rfl,trivial⟩
theorem yRy (k:Int):zDp Tryz.prog 145 [.int .i64 k] ((zFv k).map enc1) 1:=by
 refine zBj Tryz.func145 1 rfl (by kernel_rfl) ?_;rw [zFv]
 conv=>whnf
 refine bcase_p (fun h1=>?_) (fun h1=>?_)<;>conv=>whnf
 ·rw [if_pos h1];refine aP ?_;exact ⟨2,rfl,.inl ⟨6,rfl,rfl⟩⟩
 rw [if_neg h1];refine aP ?_
 refine bcase_p (fun h2=>?_) (fun h2=>?_)<;>conv=>whnf
 ·rw [if_pos h2];refine aP ?_;exact ⟨2,rfl,.inl ⟨9,rfl,rfl⟩⟩
 rw [if_neg h2];refine aP ?_
 refine bcase_p (fun h3=>?_) (fun h3=>?_)<;>conv=>whnf
 ·rw [if_pos h3];refine aP ?_;exact ⟨2,rfl,.inl ⟨12,rfl,rfl⟩⟩
 rw [if_neg h3];refine aP ?_
 refine bcase_p (fun h4=>?_) (fun h4=>?_)<;>conv=>whnf
 ·rw [if_pos h4];refine aP ?_;exact ⟨2,rfl,.inl ⟨15,rfl,rfl⟩⟩
 rw [if_neg h4];refine aP ?_;exact ⟨2,rfl,.inr ⟨rfl,rfl⟩⟩
def yJe (m:MS) (d:DS):List AV:=.own 1000001::(m.p.box++(m.h.cells.map AV.d++(latC m.lat++((m.s.cells d).map AV.d++[.d (.int .i64 m.clk),.own 1000004]))))
def mH' (m:MS) (d:DS):List (Nat×Blk):=[(1000000,.box (yJe m d) false),(1000001,.row (m.ws.map zDn) 11 false),(1000004,.row (m.ev.map zAw) 11 false)]
def z9q (m:MS) (p:PS):MS:={m with p:=p}
theorem zXv (m:MS) (d:DS) (id:Int) (hF:FM m.p.f) (h0:id≠0):zBa Tryz.prog 146 [.ptr 1000000 0 0,.d (.int .i64 id)] (mH' m d) (mH' m d) (.bool (zEx m.p id)):=by
 have hfind:=zGu m.p.f id hF.tl hF.dl
 have hmf:(m.p.f.fr.map encF).length=m.p.f.fr.length:=List.length_map ..
 refine zAr Tryz.func146 2 rfl (by kernel_rfl) (by rfl) ?_;rw [zEx]
 conv=>whnf
 refine aP ?_
 rcases hF.find_cases h0 with ⟨_,hno⟩|⟨i,_,hA⟩
 ·rw [zCp hF hno h0] at hfind⊢;refine zAa hfind (aP ?_);exact zAh rfl rfl rfl ⟨rfl,rfl,rfl,trivial⟩
 ·rw [findF_at hA] at hfind⊢;have hi:=hA.hi;refine zAa hfind (aP ?_);refine zAd (by omega) (w0 ?_);refine zAc (x:=encF m.p.f.fr[i]) (by simp [hi]) (aW ?_);exact zAh rfl (by simp only [Bool.true_and,Int.toNat_natCast,zCg hi];rfl) rfl ⟨rfl,rfl,rfl,trivial⟩
structure WkI (o:MOp) (p0:PS) (t:Int) (ks:List Int) (s:Nat×PS×MRes):Prop where
 le:s.1<=ks.length
 gd:Gd t s.2.1
 eq:actG o (ks.drop s.1) s.2.1 s.2.2=actG o ks p0 (0,zP)
theorem yMh (k:Int):(zFv k).length<=2:=by
 rw [zFv];repeat' split
 all_goals decide
set_option maxRecDepth 20000 in
set_option maxHeartbeats 16000000 in
theorem yWl (m:MS) (k:Nat) (w:WA) (now t:Int) (hk:m.ws[k]?=some w) (hb:w.ended<w.todo.length) (g:Gd t m.p) (ht:t<=2147483647) (hr:refB w.op=false):
  zBa Tryz.prog 84 [.ptr 1000000 0 0,.ptr 1000001 k 0,.d (.int .i64 now)] (mH m) (mH {zMe m k (zKc w (workP m.p w.op).2 now) with p:=(workP m.p w.op).1}) (.tup []):=by
 obtain ⟨r1,r2,r3,r4⟩:=zRe hr;have hal:=yMh w.op.1
 have hma:((zFv w.op.1).map enc1).length=(zFv w.op.1).length:=List.length_map ..
 refine zAr Tryz.func84 3 rfl (by kernel_rfl) (by rfl) (aP ?_);refine zGj (zVg m.ws k w hk hb) [(1000001,1000001)] rfl rfl ⟨rfl,trivial⟩ rfl (aP ?_);refine zAn (yRy w.op.1) (aP ?_);refine zAq (ι:=Nat×PS×MRes) (fun s=>[(0,.ptr 1000000 0 0),(1,.ptr 1000001 k 0),(2,.d (.int .i64 now)),(6,.ptr 6 0 0),(7,.ptr 7 0 0),(22,.own 22),(23,.d (.int .i64 ((zFv w.op.1).map enc1).length)),(24,.d (.int .i64 s.1))])
  (fun s=>[(1000000,.box (yJe (z9q m s.2.1) m.p.d) false),(1000001,.row (m.ws.map zDn) 11 false),(1000004,.row (m.ev.map zAw) 11 false),(6,.box ((zGl w.op).map AV.d) false),(7,.box ((yNb s.2.2).map AV.d) false),(22,.row ((zFv w.op.1).map enc1) 1 false)])
  (WkI w.op m.p t (zFv w.op.1)) (fun s=>(zFv w.op.1).length-s.1) (0,m.p,(0,zP)) ⟨Nat.zero_le _,g,rfl⟩ (le0 (zAb ⟨rfl,rfl,rfl,rfl,rfl,rfl,rfl,rfl,trivial⟩ ⟨rfl,rfl,rfl,rfl,rfl,rfl,trivial⟩ ⟨rfl,rfl,rfl,rfl⟩)) ?_
 rintro ⟨i,p,r⟩ ⟨hi,gp,he⟩;simp only [] at hi gp he⊢
 conv=>whnf
 refine bcase_p (fun h5=>?_) (fun h5=>?_)<;>conv=>whnf
 ·have hi2:i<(zFv w.op.1).length:=by omega
  rw [List.drop_eq_getElem_cons hi2,actG] at he;have hdo:=zPa p ((zFv w.op.1)[i],w.op.2.1,w.op.2.2) gp.fm (by rw [gp.now];exact ht);have gact:=(gp.act ((zFv w.op.1)[i],w.op.2.1,w.op.2.2)).1;obtain ⟨q,hq⟩:∃ q,zBb p ((zFv w.op.1)[i],w.op.2.1,w.op.2.2)=q:=⟨_,rfl⟩;rw [hq] at hdo he gact;refine zAd (by omega) (w0 ?_);refine zAc (x:=enc1 (zFv w.op.1)[i]) (by simp [hi2]) (aW ?_);refine aP ?_;refine zAa hdo (aP ?_)
  refine bcase_p (fun e0=>?_) (fun e0=>?_)<;>conv=>whnf
  ·rw [if_neg (fun z=>z e0)] at he;refine aP ?_;refine ⟨(i+1,q.1,(r.1,q.2.1)),⟨by dsimp only;omega,gact,he⟩,by dsimp only;omega,(le0 (zAb ⟨rfl,rfl,rfl,rfl,rfl,rfl,rfl,rfl,trivial⟩ ⟨rfl,rfl,rfl,rfl,rfl,rfl,trivial⟩ ⟨rfl,rfl,rfl,rfl⟩))⟩
  ·rw [if_pos e0] at he;have g1:Gd t q.1:=gact;have hdo5:=zPa q.1 (5,w.op.2.1,ByteArray.empty) g1.fm (by rw [g1.now];exact ht);obtain ⟨q5,hq5⟩:∃ q5,zBb q.1 (5,w.op.2.1,ByteArray.empty)=q5:=⟨_,rfl⟩;rw [hq5] at hdo5;have hhp:=zXv (z9q m q.1) m.p.d w.op.2.1 g1.fm (by omega);replace hhp:zBa Tryz.prog 146 [.ptr 1000000 0 0,.d (.int .i64 w.op.2.1)] (mH' (z9q m q.1) m.p.d) (mH' (z9q m q.1) m.p.d) (.bool (zEx q.1 w.op.2.1)):=hhp
   have hWk:workP m.p w.op=zWr w.op (q.1,(q.2.2.2,zP)):=by rw [workP,<-he]
   rw [zWr] at hWk;simp only [] at hWk;refine aP ?_;refine zAl hhp nm3 rfl ⟨rfl,rfl,rfl,trivial⟩ rfl (w0 ?_)
   cases hpin:zEx q.1 w.op.2.1 with
   |true=>
    rw [if_pos hpin,hq5] at hWk;refine aP ?_;refine zAa hdo5 (aP ?_)
    have hW:workP m.p w.op=(q5.1,(q.2.2.2,zP)):=by rw [hWk,if_neg (fun z=>e0 z.1)]
    refine aP ?_;refine zAl (zLm m.ws k w hk (q.2.2.2,zP) now) [(1000001,1000001)] rfl ⟨rfl,trivial⟩ rfl (aP ?_);rw [hW];exact zAh rfl rfl rfl ⟨by kernel_rfl,rfl,rfl,trivial⟩
   |false=>
    rw [if_neg (by rw [hpin];decide)] at hWk;have hW:=hWk;refine aP ?_;refine zAl (zLm m.ws k w hk (q.2.2.2,zP) now) [(1000001,1000001)] rfl ⟨rfl,trivial⟩ rfl (aP ?_);rw [hW];exact zAh rfl rfl rfl ⟨by kernel_rfl,rfl,rfl,trivial⟩
 ·have hil:i=(zFv w.op.1).length:=by omega
  subst hil;rw [List.drop_length,actG] at he;have g1:Gd t p:=gp;have hdo5:=zPa p (5,w.op.2.1,ByteArray.empty) g1.fm (by rw [g1.now];exact ht);obtain ⟨q5,hq5⟩:∃ q5,zBb p (5,w.op.2.1,ByteArray.empty)=q5:=⟨_,rfl⟩;rw [hq5] at hdo5;have hhp:=zXv (z9q m p) m.p.d w.op.2.1 g1.fm (by omega);replace hhp:zBa Tryz.prog 146 [.ptr 1000000 0 0,.d (.int .i64 w.op.2.1)] (mH' (z9q m p) m.p.d) (mH' (z9q m p) m.p.d) (.bool (zEx p w.op.2.1)):=hhp
  have hWk:workP m.p w.op=zWr w.op (p,r):=by rw [workP,<-he]
  rw [zWr] at hWk;simp only [] at hWk;refine aP ?_;refine zAl hhp nm3 rfl ⟨rfl,rfl,rfl,trivial⟩ rfl (w0 ?_)
  cases hpin:zEx p w.op.2.1 with
  |true=>
   rw [if_pos hpin,hq5] at hWk;refine aP ?_;refine zAa hdo5 (aP ?_)
   refine bcase_p (fun e1=>?_) (fun e1=>?_)<;>conv=>whnf
   ·refine aP ?_
    refine bcase_p (fun e2=>?_) (fun e2=>?_)<;>conv=>whnf
    ·have hW:workP m.p w.op=(q5.1,r):=by rw [hWk,if_neg (fun z=>z.2 e2)]
     refine aP ?_;refine zAl (zLm m.ws k w hk r now) [(1000001,1000001)] rfl ⟨rfl,trivial⟩ rfl (aP ?_);rw [hW];exact zAh rfl rfl rfl ⟨by kernel_rfl,rfl,rfl,trivial⟩
    ·have hW:workP m.p w.op=(q5.1,(q5.2.2.2,zP)):=by rw [hWk,if_pos ⟨e1,e2⟩]
     refine aP ?_;refine zAl (zLm m.ws k w hk (q5.2.2.2,zP) now) [(1000001,1000001)] rfl ⟨rfl,trivial⟩ rfl (aP ?_);rw [hW];exact zAh rfl rfl rfl ⟨by kernel_rfl,rfl,rfl,trivial⟩
   ·have hW:workP m.p w.op=(q5.1,r):=by rw [hWk,if_neg (fun z=>e1 z.1)]
    refine aP ?_;refine zAl (zLm m.ws k w hk r now) [(1000001,1000001)] rfl ⟨rfl,trivial⟩ rfl (aP ?_);rw [hW];exact zAh rfl rfl rfl ⟨by kernel_rfl,rfl,rfl,trivial⟩
  |false=>
   rw [if_neg (by rw [hpin];decide)] at hWk;have hW:=hWk;refine aP ?_;refine zAl (zLm m.ws k w hk r now) [(1000001,1000001)] rfl ⟨rfl,trivial⟩ rfl (aP ?_);rw [hW];exact zAh rfl rfl rfl ⟨by kernel_rfl,rfl,rfl,trivial⟩
theorem z3j:∀ (l:List EvA),okRows 11 (l.map zAw)=true
 | []=>rfl
 |_::r=>z3j r
def zOq (w:WA):WA:=⟨w.todo,w.ended+1,0,false,false,0,0,(0,zP)⟩
def zIr (m:MS) (k:Nat) (w:WA) (now:Int):MS:={m with
 ws:=m.ws.set k (zOq w)
 h:=endH (if w.pinned=true then zJy m.h k else m.h) k
 lat:=if w.asked=true then zWx m.lat w.op.2.1 (zMr (latM m w.op.2.1) k) else m.lat
 ev:=m.ev++[⟨k,w.op,w.res,w.began,w.done,now⟩]}
set_option maxRecDepth 20000 in
set_option maxHeartbeats 16000000 in
theorem z8b (m:MS) (k:Nat) (w:WA) (now:Int) (hk:m.ws[k]?=some w) (hb:w.ended<w.todo.length) (hm:w.todo.length<=1000) (he:m.ev.length<=100000) (oh:HOk m.h) (hk4:k<4) (hc:isCl m.h k=true) (hp:w.pinned=false) (ha:w.asked=false):
  zBa Tryz.prog 85 [.ptr 1000000 0 0,.d (.int .i64 k),.ptr 1000001 k 0,.d (.int .i64 now)] (mH m) (mH (zIr m k w now)) (.tup []):=by
 obtain ⟨ins,hend⟩:=zJa m.h oh k hk4 hc;have hg:=zEh hk
 have hme:(m.ev.map zAw).length=m.ev.length:=List.length_map ..
 refine zAr Tryz.func85 4 rfl (by kernel_rfl) (by rfl) (aP ?_);refine zGj (zVg m.ws k w hk hb) [(1000001,1000001)] rfl rfl ⟨rfl,trivial⟩ rfl (aP ?_);refine zAc hg (aP ?_);rw [hp];refine aP ?_;refine zAc hg (aP ?_);rw [ha];refine aP ?_;refine zAa hend (aP ?_);refine zAc hg (aP ?_);refine zAc hg (aP ?_);refine zAc hg (aP ?_);refine zAj 1000000 1000 (by show (m.ev.map zAw).length+1<=1000000;omega) (by decide) (by decide) (by decide) (aP ?_);refine zAc hg (aP ?_);refine zAc hg (aP ?_);refine zAc hg (aP ?_)
 have em:zIr m k w now={m with ws:=m.ws.set k (zOq w),h:=endH m.h k,lat:=m.lat,ev:=m.ev++[⟨k,w.op,w.res,w.began,w.done,now⟩]}:=by
  rw [zIr,hp,ha];rfl
 rw [em];exact zAh rfl rfl rfl ⟨by kernel_rfl,rowE (zSc (zOq w)),rowE (by rw [List.map_append];rfl),trivial⟩
set_option maxRecDepth 20000 in
set_option maxHeartbeats 16000000 in
theorem z8a (m:MS) (k:Nat) (w:WA) (now:Int) (hk:m.ws[k]?=some w) (hb:w.ended<w.todo.length) (hm:w.todo.length<=1000) (he:m.ev.length<=100000) (oh:HOk m.h) (hk4:k<4) (hc:isCl m.h k=true) (hp:w.pinned=false) (ha:w.asked=true) (h17:m.lat.length=17) (hi2:0<=w.op.2.1) (hi17:w.op.2.1.toNat<17) (ol:LOk (lg m.lat w.op.2.1.toNat)) (hhs:k∈(lg m.lat w.op.2.1.toNat).hs):
  zBa Tryz.prog 85 [.ptr 1000000 0 0,.d (.int .i64 k),.ptr 1000001 k 0,.d (.int .i64 now)] (mH m) (mH (zIr m k w now)) (.tup []):=by
 obtain ⟨ins,hend⟩:=zJa m.h oh k hk4 hc;obtain ⟨ins2,hdrop⟩:=zRw (lg m.lat w.op.2.1.toNat) ol k hhs;have hg:=zEh hk
 have hme:(m.ev.map zAw).length=m.ev.length:=List.length_map ..
 refine zAr Tryz.func85 4 rfl (by kernel_rfl) (by rfl) (aP ?_);refine zGj (zVg m.ws k w hk hb) [(1000001,1000001)] rfl rfl ⟨rfl,trivial⟩ rfl (aP ?_);refine zAc hg (aP ?_);rw [hp];refine aP ?_;refine zAc hg (aP ?_);rw [ha];refine aP ?_;refine zBp hi2 (by omega) (aP ?_);refine zOn (m:=m) hi17 (by show 0+13+w.op.2.1.toNat*3=_;omega) rfl (aP ?_);refine zAa hdrop (aP ?_);refine zBp hi2 (by omega) (aP ?_);refine zUy (m:=m) (x:=zMr (lg m.lat w.op.2.1.toNat) k) hi17 h17 (by show 0+13+w.op.2.1.toNat*3=_;omega) rfl rfl (aP ?_);refine zAa hend (aP ?_);refine zAc hg (aP ?_);refine zAc hg (aP ?_);refine zAc hg (aP ?_);refine zAj 1000000 1000 (by show (m.ev.map zAw).length+1<=1000000;omega) (by decide) (by decide) (by decide) (aP ?_);refine zAc hg (aP ?_);refine zAc hg (aP ?_);refine zAc hg (aP ?_)
 have em:zIr m k w now={m with ws:=m.ws.set k (zOq w),h:=endH m.h k,lat:=m.lat.set w.op.2.1.toNat (zMr (lg m.lat w.op.2.1.toNat) k),ev:=m.ev++[⟨k,w.op,w.res,w.began,w.done,now⟩]}:=by
  rw [zIr,hp,ha];rfl
 rw [em];exact zAh rfl rfl rfl ⟨by kernel_rfl,rowE (zSc (zOq w)),rowE (by rw [List.map_append];rfl),trivial⟩
set_option maxRecDepth 20000 in
set_option maxHeartbeats 16000000 in
theorem z8d (m:MS) (k:Nat) (w:WA) (now:Int) (hk:m.ws[k]?=some w) (hb:w.ended<w.todo.length) (hm:w.todo.length<=1000) (he:m.ev.length<=100000) (oh:HOk m.h) (hk4:k<4) (hc:isCl m.h k=true) (hp:w.pinned=true) (ha:w.asked=false) (hh:zFm m.h k=true):
  zBa Tryz.prog 85 [.ptr 1000000 0 0,.d (.int .i64 k),.ptr 1000001 k 0,.d (.int .i64 now)] (mH m) (mH (zIr m k w now)) (.tup []):=by
 have hup:=zNj m.h oh k hc hh;obtain ⟨ins,hend⟩:=zJa (zJy m.h k) (zUp oh k) k hk4 ((zOi m.h k k false).trans hc);have hg:=zEh hk
 have hme:(m.ev.map zAw).length=m.ev.length:=List.length_map ..
 refine zAr Tryz.func85 4 rfl (by kernel_rfl) (by rfl) (aP ?_);refine zGj (zVg m.ws k w hk hb) [(1000001,1000001)] rfl rfl ⟨rfl,trivial⟩ rfl (aP ?_);refine zAc hg (aP ?_);rw [hp];refine aP ?_;refine zAa hup (aP ?_);refine zAc hg (aP ?_);rw [ha];refine aP ?_;refine zAa hend (aP ?_);refine zAc hg (aP ?_);refine zAc hg (aP ?_);refine zAc hg (aP ?_);refine zAj 1000000 1000 (by show (m.ev.map zAw).length+1<=1000000;omega) (by decide) (by decide) (by decide) (aP ?_);refine zAc hg (aP ?_);refine zAc hg (aP ?_);refine zAc hg (aP ?_)
 have em:zIr m k w now={m with ws:=m.ws.set k (zOq w),h:=endH (zJy m.h k) k,lat:=m.lat,ev:=m.ev++[⟨k,w.op,w.res,w.began,w.done,now⟩]}:=by
  rw [zIr,hp,ha];rfl
 rw [em];exact zAh rfl rfl rfl ⟨by kernel_rfl,rowE (zSc (zOq w)),rowE (by rw [List.map_append];rfl),trivial⟩
set_option maxRecDepth 20000 in
set_option maxHeartbeats 16000000 in
theorem z8c (m:MS) (k:Nat) (w:WA) (now:Int) (hk:m.ws[k]?=some w) (hb:w.ended<w.todo.length) (hm:w.todo.length<=1000) (he:m.ev.length<=100000) (oh:HOk m.h) (hk4:k<4) (hc:isCl m.h k=true) (hp:w.pinned=true) (ha:w.asked=true) (hh:zFm m.h k=true) (h17:m.lat.length=17) (hi2:0<=w.op.2.1) (hi17:w.op.2.1.toNat<17) (ol:LOk (lg m.lat w.op.2.1.toNat)) (hhs:k∈(lg m.lat w.op.2.1.toNat).hs):
  zBa Tryz.prog 85 [.ptr 1000000 0 0,.d (.int .i64 k),.ptr 1000001 k 0,.d (.int .i64 now)] (mH m) (mH (zIr m k w now)) (.tup []):=by
 have hup:=zNj m.h oh k hc hh;obtain ⟨ins,hend⟩:=zJa (zJy m.h k) (zUp oh k) k hk4 ((zOi m.h k k false).trans hc);obtain ⟨ins2,hdrop⟩:=zRw (lg m.lat w.op.2.1.toNat) ol k hhs;have hg:=zEh hk
 have hme:(m.ev.map zAw).length=m.ev.length:=List.length_map ..
 refine zAr Tryz.func85 4 rfl (by kernel_rfl) (by rfl) (aP ?_);refine zGj (zVg m.ws k w hk hb) [(1000001,1000001)] rfl rfl ⟨rfl,trivial⟩ rfl (aP ?_);refine zAc hg (aP ?_);rw [hp];refine aP ?_;refine zAa hup (aP ?_);refine zAc hg (aP ?_);rw [ha];refine aP ?_;refine zBp hi2 (by omega) (aP ?_);refine zOn (m:={m with h:=zJy m.h k}) hi17 (by show 0+13+w.op.2.1.toNat*3=_;omega) rfl (aP ?_);refine zAa hdrop (aP ?_);refine zBp hi2 (by omega) (aP ?_);refine zUy (m:={m with h:=zJy m.h k}) (x:=zMr (lg m.lat w.op.2.1.toNat) k) hi17 h17 (by show 0+13+w.op.2.1.toNat*3=_;omega) rfl rfl (aP ?_);refine zAa hend (aP ?_);refine zAc hg (aP ?_);refine zAc hg (aP ?_);refine zAc hg (aP ?_);refine zAj 1000000 1000 (by show (m.ev.map zAw).length+1<=1000000;omega) (by decide) (by decide) (by decide) (aP ?_);refine zAc hg (aP ?_);refine zAc hg (aP ?_);refine zAc hg (aP ?_)
 have em:zIr m k w now={m with ws:=m.ws.set k (zOq w),h:=endH (zJy m.h k) k,lat:=m.lat.set w.op.2.1.toNat (zMr (lg m.lat w.op.2.1.toNat) k),ev:=m.ev++[⟨k,w.op,w.res,w.began,w.done,now⟩]}:=by
  rw [zIr,hp,ha];rfl
 rw [em];exact zAh rfl rfl rfl ⟨by kernel_rfl,rowE (zSc (zOq w)),rowE (by rw [List.map_append];rfl),trivial⟩
def zGa (m:MS):MS:={m with clk:=m.clk+1}
theorem zYt (m:MS) (k:Int) (hn:¬(0<=k/\k<m.ws.length)):zBa Tryz.prog 34 [.ptr 1000000 0 0,.d (.int .i64 k)] (mH m) (mH m) (.bool false):=by
 have hi:=zCi m k
 have e:(decide (0<=k)&&decide (k<m.ws.length))=false:=by
  rw [Bool.eq_false_iff];simpa using fun h=>by omega
 rw [e] at hi;refine zAr Tryz.func34 2 rfl (by kernel_rfl) (by rfl) (aP ?_);refine zAl hi nm3 rfl ⟨rfl,rfl,rfl,trivial⟩ rfl (aP ?_);exact zAh rfl rfl rfl ⟨rfl,rfl,rfl,trivial⟩
set_option maxRecDepth 20000 in
set_option maxHeartbeats 16000000 in
theorem yCt (m m':MS) (k:Nat) (w:WA) (b:Bool) (hk:m.ws[k]?=some w) (hs:w.st=0) (hc0:-1000000<=m.clk) (hc1:m.clk<=1000000)
  (H:zBa Tryz.prog 80 [.ptr 1000000 0 0,.d (.int .i64 k),.ptr 1000001 k 0,.d (.int .i64 m.clk)] (mH (zGa m)) (mH m') (.bool b)):
  zBa Tryz.prog 34 [.ptr 1000000 0 0,.d (.int .i64 k)] (mH m) (mH m') (.bool b):=by
 have hi:=zCi m k
 have e:(decide (0<= (k:Int))&&decide ((k:Int)<m.ws.length))=true:=by
  have:=(List.getElem?_eq_some_iff.1 hk).1
  simp;omega
 rw [e] at hi;have hg:=zEh hk;have hlt:=zPr hk;refine zAr Tryz.func34 2 rfl (by kernel_rfl) (by rfl) (aP ?_);refine zAl hi nm3 rfl ⟨rfl,rfl,rfl,trivial⟩ rfl (aP ?_);refine zAd (by omega) (aP ?_);refine zAc hg (aP ?_);refine zAl H nm3 rfl ⟨by kernel_rfl,rfl,rfl,trivial⟩ rfl (aP ?_);exact zAh rfl rfl rfl ⟨rfl,rfl,rfl,trivial⟩
set_option maxRecDepth 20000 in
set_option maxHeartbeats 16000000 in
theorem z1q (m m':MS) (k:Nat) (w:WA) (b:Bool) (hk:m.ws[k]?=some w) (hs:w.st=1) (hc0:-1000000<=m.clk) (hc1:m.clk<=1000000)
  (H:zBa Tryz.prog 81 [.ptr 1000000 0 0,.d (.int .i64 k),.ptr 1000001 k 0,.d (.int .i64 m.clk)] (mH (zGa m)) (mH m') (.bool b)):
  zBa Tryz.prog 34 [.ptr 1000000 0 0,.d (.int .i64 k)] (mH m) (mH m') (.bool b):=by
 have hi:=zCi m k
 have e:(decide (0<= (k:Int))&&decide ((k:Int)<m.ws.length))=true:=by
  have:=(List.getElem?_eq_some_iff.1 hk).1
  simp;omega
 rw [e] at hi;have hg:=zEh hk;have hlt:=zPr hk;refine zAr Tryz.func34 2 rfl (by kernel_rfl) (by rfl) (aP ?_);refine zAl hi nm3 rfl ⟨rfl,rfl,rfl,trivial⟩ rfl (aP ?_);refine zAd (by omega) (aP ?_);refine zAc hg (aP ?_);refine zAl H nm3 rfl ⟨by kernel_rfl,rfl,rfl,trivial⟩ rfl (aP ?_);exact zAh rfl rfl rfl ⟨rfl,rfl,rfl,trivial⟩
set_option maxRecDepth 20000 in
set_option maxHeartbeats 16000000 in
theorem yCu (m m':MS) (k:Nat) (w:WA) (b:Bool) (hk:m.ws[k]?=some w) (hs:w.st=2) (hc0:-1000000<=m.clk) (hc1:m.clk<=1000000)
  (H:zBa Tryz.prog 82 [.ptr 1000000 0 0,.d (.int .i64 k),.ptr 1000001 k 0] (mH (zGa m)) (mH m') (.bool b)):
  zBa Tryz.prog 34 [.ptr 1000000 0 0,.d (.int .i64 k)] (mH m) (mH m') (.bool b):=by
 have hi:=zCi m k
 have e:(decide (0<= (k:Int))&&decide ((k:Int)<m.ws.length))=true:=by
  have:=(List.getElem?_eq_some_iff.1 hk).1
  simp;omega
 rw [e] at hi;have hg:=zEh hk;have hlt:=zPr hk;refine zAr Tryz.func34 2 rfl (by kernel_rfl) (by rfl) (aP ?_);refine zAl hi nm3 rfl ⟨rfl,rfl,rfl,trivial⟩ rfl (aP ?_);refine zAd (by omega) (aP ?_);refine zAc hg (aP ?_);refine zAl H nm3 rfl ⟨by kernel_rfl,rfl,rfl,trivial⟩ rfl (aP ?_);exact zAh rfl rfl rfl ⟨rfl,rfl,rfl,trivial⟩
set_option maxRecDepth 20000 in
set_option maxHeartbeats 16000000 in
theorem z1r (m m':MS) (k:Nat) (w:WA) (b:Bool) (hk:m.ws[k]?=some w) (hs:w.st=3) (hc0:-1000000<=m.clk) (hc1:m.clk<=1000000)
  (H:zBa Tryz.prog 83 [.ptr 1000000 0 0,.d (.int .i64 k),.ptr 1000001 k 0] (mH (zGa m)) (mH m') (.bool b)):
  zBa Tryz.prog 34 [.ptr 1000000 0 0,.d (.int .i64 k)] (mH m) (mH m') (.bool b):=by
 have hi:=zCi m k
 have e:(decide (0<= (k:Int))&&decide ((k:Int)<m.ws.length))=true:=by
  have:=(List.getElem?_eq_some_iff.1 hk).1
  simp;omega
 rw [e] at hi;have hg:=zEh hk;have hlt:=zPr hk;refine zAr Tryz.func34 2 rfl (by kernel_rfl) (by rfl) (aP ?_);refine zAl hi nm3 rfl ⟨rfl,rfl,rfl,trivial⟩ rfl (aP ?_);refine zAd (by omega) (aP ?_);refine zAc hg (aP ?_);refine zAl H nm3 rfl ⟨by kernel_rfl,rfl,rfl,trivial⟩ rfl (aP ?_);exact zAh rfl rfl rfl ⟨rfl,rfl,rfl,trivial⟩
set_option maxRecDepth 20000 in
set_option maxHeartbeats 16000000 in
theorem yPb (m m':MS) (k:Nat) (w:WA) (hk:m.ws[k]?=some w) (hs:w.st=5) (hc0:-1000000<=m.clk) (hc1:m.clk<=1000000)
  (H:zBa Tryz.prog 84 [.ptr 1000000 0 0,.ptr 1000001 k 0,.d (.int .i64 m.clk)] (mH (zGa m)) (mH m') (.tup [])):
  zBa Tryz.prog 34 [.ptr 1000000 0 0,.d (.int .i64 k)] (mH m) (mH m') (.bool true):=by
 have hi:=zCi m k
 have e:(decide (0<= (k:Int))&&decide ((k:Int)<m.ws.length))=true:=by
  have:=(List.getElem?_eq_some_iff.1 hk).1
  simp;omega
 rw [e] at hi;have hg:=zEh hk;have hlt:=zPr hk;refine zAr Tryz.func34 2 rfl (by kernel_rfl) (by rfl) (aP ?_);refine zAl hi nm3 rfl ⟨rfl,rfl,rfl,trivial⟩ rfl (aP ?_);refine zAd (by omega) (aP ?_);refine zAc hg (aP ?_);refine zAl H nm3 rfl ⟨by kernel_rfl,rfl,rfl,trivial⟩ rfl (aP ?_);exact zAh rfl rfl rfl ⟨rfl,rfl,rfl,trivial⟩
set_option maxRecDepth 20000 in
set_option maxHeartbeats 16000000 in
theorem yPc (m m':MS) (k:Nat) (w:WA) (hk:m.ws[k]?=some w) (hs:w.st=6) (hc0:-1000000<=m.clk) (hc1:m.clk<=1000000)
  (H:zBa Tryz.prog 85 [.ptr 1000000 0 0,.d (.int .i64 k),.ptr 1000001 k 0,.d (.int .i64 m.clk)] (mH (zGa m)) (mH m') (.tup [])):
  zBa Tryz.prog 34 [.ptr 1000000 0 0,.d (.int .i64 k)] (mH m) (mH m') (.bool true):=by
 have hi:=zCi m k
 have e:(decide (0<= (k:Int))&&decide ((k:Int)<m.ws.length))=true:=by
  have:=(List.getElem?_eq_some_iff.1 hk).1
  simp;omega
 rw [e] at hi;have hg:=zEh hk;have hlt:=zPr hk;refine zAr Tryz.func34 2 rfl (by kernel_rfl) (by rfl) (aP ?_);refine zAl hi nm3 rfl ⟨rfl,rfl,rfl,trivial⟩ rfl (aP ?_);refine zAd (by omega) (aP ?_);refine zAc hg (aP ?_);refine zAl H nm3 rfl ⟨by kernel_rfl,rfl,rfl,trivial⟩ rfl (aP ?_);exact zAh rfl rfl rfl ⟨rfl,rfl,rfl,trivial⟩
set_option maxRecDepth 20000 in
set_option maxHeartbeats 16000000 in
theorem yPa (m:MS) (k:Nat) (w:WA) (hk:m.ws[k]?=some w) (hs:w.st=4) (hc0:-1000000<=m.clk) (hc1:m.clk<=1000000):
  zBa Tryz.prog 34 [.ptr 1000000 0 0,.d (.int .i64 k)] (mH m) (mH (zGa m)) (.bool false):=by
 have hi:=zCi m k
 have e:(decide (0<= (k:Int))&&decide ((k:Int)<m.ws.length))=true:=by
  have:=(List.getElem?_eq_some_iff.1 hk).1
  simp;omega
 rw [e] at hi;have hg:=zEh hk;have hlt:=zPr hk;refine zAr Tryz.func34 2 rfl (by kernel_rfl) (by rfl) (aP ?_);refine zAl hi nm3 rfl ⟨rfl,rfl,rfl,trivial⟩ rfl (aP ?_);refine zAd (by omega) (aP ?_);refine zAc hg (aP ?_);exact zAh rfl rfl rfl ⟨by kernel_rfl,rfl,rfl,trivial⟩
set_option maxRecDepth 20000 in
set_option maxHeartbeats 16000000 in
theorem yOo (m:MS) (o:SU m.s) (hU:Us m.p.d):zBa Tryz.prog 36 [.ptr 1000000 0 0] (mH m) (mH (yKl m)) (.tup []):=by
 have hp:=yUx m.s m.p.d o hU;refine zAr Tryz.func36 1 rfl (by kernel_rfl) (by rfl) (aP ?_);refine zAa hp (aP ?_);exact zAh rfl rfl rfl ⟨by kernel_rfl,rfl,rfl,trivial⟩
set_option maxRecDepth 20000 in
set_option maxHeartbeats 16000000 in
theorem yRz (m:MS) (age t:Int) (g:Gd t m.p) (ht:t<=2147483647) (ht0:0<=t):zBa Tryz.prog 20 [.ptr 1000000 0 0,.d (.int .i64 age)] (mH m) (mH (ageM m age)) (.tup []):=by
 have h1:=yVy m.p 1 (by rw [g.now];exact ht0) (by rw [g.now];exact ht)
 have hF:FM (zKd m.p 1).f:=by
  rw [zKd];repeat' split
  all_goals exact g.fm
 have hn:(zKd m.p 1).now<=2147483647:=by
  have:=g.now
  rw [zKd];repeat' split
  all_goals (try dsimp only)
  all_goals omega
 have h2:=zPa (zKd m.p 1) (8,age,ByteArray.empty) hF hn;refine zAr Tryz.func20 2 rfl (by kernel_rfl) (by rfl) (aP ?_);refine zAa h1 (aP ?_);refine zAa h2 (aP ?_);exact zAh rfl rfl rfl ⟨by kernel_rfl,rfl,rfl,trivial⟩
theorem yCs (m:MS) (k:Int):zBa Tryz.prog 35 [.ptr 1000000 0 0,.d (.int .i64 k)] (mH m) (mH m) (.int .i64 (if 0<=k then (match m.ws[k.toNat]? with|some w=>(w.st:Int)|none=>0) else 0)):=by
 have hi:=zCi m k
 have hm:(m.ws.map zDn).length=m.ws.length:=List.length_map ..
 refine zAr Tryz.func35 2 rfl (by kernel_rfl) (by rfl) ?_
 by_cases h:0<=k/\k<m.ws.length
 ·rw [show (decide (0<=k)&&decide (k<m.ws.length))=true by simpa using h] at hi
  have hk:k.toNat<m.ws.length:=by omega
  rw [if_pos h.1,List.getElem?_eq_getElem hk]
  conv=>whnf
  refine aP ?_;refine zAl hi nm3 rfl ⟨rfl,rfl,rfl,trivial⟩ rfl (aP ?_);refine zBp h.1 (by omega) (aP ?_);refine zAc (zEh (List.getElem?_eq_getElem hk)) (aP ?_);exact zAh rfl rfl rfl ⟨rfl,rfl,rfl,trivial⟩
 ·rw [show (decide (0<=k)&&decide (k<m.ws.length))=false by rw [Bool.eq_false_iff];simpa using fun g=>by omega] at hi
  have e:(if 0<=k then (match m.ws[k.toNat]? with|some w=>(w.st:Int)|none=>0) else 0)=0:=by
   split
   ·rw [List.getElem?_eq_none (by omega)]
   ·rfl
  rw [e]
  conv=>whnf
  refine aP ?_;refine zAl hi nm3 rfl ⟨rfl,rfl,rfl,trivial⟩ rfl (aP ?_);exact zAh rfl rfl rfl ⟨rfl,rfl,rfl,trivial⟩
theorem zOb (m:MS):zBa Tryz.prog 43 [.ptr 1000000 0 0] (mH m) (mH m) (.int .i64 m.s.out.length):=by
 refine zAr Tryz.func43 1 rfl (by kernel_rfl) (by rfl) (aP ?_);exact zAh rfl (by rw [List.length_map];rfl) rfl ⟨rfl,rfl,rfl,trivial⟩
theorem yDw {l:List (List D)} (hok:okRows 11 l=true) (hl:l.length<=1000000):zBa Tryz.prog 75 [.own 1000000] [(1000000,.row l 11 false)] [(1000000,.row l 11 false)] (.lst l):=by
 refine zAr Tryz.func75 1 rfl (by kernel_rfl) (by rfl) (w0 ?_);refine zDi (w0 ?_);intro r hr
 conv=>whnf
 refine zAf (fun h=>?_) (fun h=>?_)<;>conv=>whnf
 ·have:=hr h;subst this;refine aP ?_;exact zAh rfl rfl rfl ⟨rfl,trivial⟩
 ·refine aP ?_;refine zAg hok (w0 ?_);refine zAj 1000100 1000 (by show 0+List.length _<=1000100;omega) (by decide) (by decide) (by decide) (aP ?_);exact zAh rfl rfl rfl ⟨rfl,trivial⟩
theorem zQn (m:MS) (hl:m.ev.length<=1000000):zBa Tryz.prog 31 [.ptr 1000000 0 0] (mH m) (mH m) (.lst (m.ev.map zAw)):=by
 have hc:=yDw (z3j m.ev) (by rw [List.length_map];exact hl);refine zAr Tryz.func31 1 rfl (by kernel_rfl) (by rfl) (aP ?_);refine zAt hc [(1000000,1000004)] rfl ⟨rfl,trivial⟩ rfl (aP ?_);exact zAh rfl rfl rfl ⟨rfl,rfl,rfl,trivial⟩
theorem yHv (m:MS) (i:Int) (b:Bool) (h:i<0\/ (m.s.out.length:Int) <=i):zBa Tryz.prog 37 [.ptr 1000000 0 0,.d (.int .i64 i),.d (.bool b)] (mH m) (mH m) (.bool false):=by
 have hf:=zOb m;refine zAr Tryz.func37 3 rfl (by kernel_rfl) (by rfl) (w0 ?_)
 refine bcase_p (fun h1=>?_) (fun h1=>?_)<;>conv=>whnf
 ·refine aP ?_;exact zAh rfl rfl rfl ⟨rfl,rfl,rfl,trivial⟩
 ·refine aP ?_;refine zAl hf nm3 rfl ⟨rfl,rfl,rfl,trivial⟩ rfl (aP ?_);exact zAh rfl rfl rfl ⟨rfl,rfl,rfl,trivial⟩
set_option maxRecDepth 20000 in
set_option maxHeartbeats 16000000 in
theorem z3p (m:MS) (i:Nat) (o:SOk m.s) (hU:Us m.p.d) (hi:i<m.s.out.length) (h3:(m.s.out[i]).tr<3) (hn:m.s.next<2147483647):
  zBa Tryz.prog 37 [.ptr 1000000 0 0,.d (.int .i64 i),.d (.bool true)] (mH m) (mH {m with s:=yFy m.s i m.s.out[i]}) (.bool true):=by
 have hd:=z3e m.s m.p.d o hU i hi h3 hn;have hf:=zOb m;refine zAr Tryz.func37 3 rfl (by kernel_rfl) (by rfl) (aP ?_);refine zAl hf nm3 rfl ⟨rfl,rfl,rfl,trivial⟩ rfl (aP ?_);refine zAa hd (aP ?_);exact zAh rfl rfl rfl ⟨by kernel_rfl,rfl,rfl,trivial⟩
set_option maxRecDepth 20000 in
set_option maxHeartbeats 16000000 in
theorem z7l (m:MS) (i:Nat) (b:Bool) (o:SOk m.s) (hU:Us m.p.d) (hi:i<m.s.out.length) (h3:¬(b=true/\ (m.s.out[i]).tr<3/\m.s.next<2147483647)) (w:WA) (hk:m.ws[(m.s.out[i]).who]?=some w) (hs:w.st=4) (hc0:0<=m.clk) (hc1:m.clk<=1000000):
  zBa Tryz.prog 37 [.ptr 1000000 0 0,.d (.int .i64 i),.d (.bool b)] (mH m) (mH {m with s:=z3f m.s i,ws:=m.ws.set (m.s.out[i]).who (yFo m w b)}) (.bool true):=by
 have hd:=z6x m.s m.p.d o hU i hi b h3;have hg:=zEh hk;have hlt:=zPr hk;have hiw:=zCi {m with s:=z3f m.s i} (m.s.out[i]).who
 rw [show (decide (0<= ((m.s.out[i]).who:Int))&&decide (((m.s.out[i]).who:Int)<({m with s:=z3f m.s i}:MS).ws.length))=true by
  have:=(List.getElem?_eq_some_iff.1 hk).1
  simp;omega] at hiw
 have hcx:({m with s:=z3f m.s i}:MS).clk=m.clk:=rfl
 cases b with
 |false=>
  have hf:=zOb m;refine zAr Tryz.func37 3 rfl (by kernel_rfl) (by rfl) (aP ?_);refine zAl hf nm3 rfl ⟨rfl,rfl,rfl,trivial⟩ rfl (aP ?_);refine zAa hd (aP ?_);refine zAl hiw nm3 rfl ⟨by kernel_rfl,rfl,rfl,trivial⟩ rfl (aP ?_);refine zAd (by omega) (aP ?_);refine zAc hg (aP ?_);refine zDr (by rfl) (aP ?_);refine zAc hg (aP ?_);exact zAh rfl rfl rfl ⟨by kernel_rfl,rowE (zSc (yFo m w false)),rfl,trivial⟩
 |true=>
  have hf:=zOb m;refine zAr Tryz.func37 3 rfl (by kernel_rfl) (by rfl) (aP ?_);refine zAl hf nm3 rfl ⟨rfl,rfl,rfl,trivial⟩ rfl (aP ?_);refine zAa hd (aP ?_);refine zAl hiw nm3 rfl ⟨by kernel_rfl,rfl,rfl,trivial⟩ rfl (aP ?_);refine zAd (by omega) (aP ?_);refine zAc hg (aP ?_);refine zEu (by rfl) (aP ?_);refine zAl (zLm m.ws (m.s.out[i]).who w hk (8,zP) (m.clk-1)) [(1000001,1000001)] rfl ⟨rfl,trivial⟩ rfl (aP ?_);exact zAh rfl rfl rfl ⟨by kernel_rfl,rfl,rfl,trivial⟩
theorem yBp:∀ (n:Nat) (l:List Nat),l.Nodup->(∀ x∈l,x<n)->l.length<=n
 |0,[],_,_=>Nat.le_refl _
 |0,x::_,_,h=>absurd (h x (.head _)) (Nat.not_lt_zero _)
 |n+1,l,hd,h=>by
  by_cases hm:n∈l
  ·have e:=List.length_erase_of_mem hm
   have:=yBp n (l.erase n) (hd.erase n) fun x hx=>by
    have h1:=(hd.mem_erase_iff).1 hx;have:=h x h1.2;have:=h1.1;omega
   have hp:=List.length_pos_of_mem hm;omega
  ·have:=yBp n l hd fun x hx=>by
    have:=h x hx
    have:x≠n:=fun e=>hm (e▸hx)
    omega
   omega
theorem yJn {l:List Nat} {k:Nat} (hd:l.Nodup) (h:∀ x∈l,x<4) (hk:k<4) (hn:k∉l):l.length<=3:=by
 have:=yBp 4 (k::l) (List.nodup_cons.2 ⟨hn,hd⟩) fun x hx=>by
  cases hx with
  |head=>exact hk
  |tail _ hx=>exact h x hx
 simpa using this
theorem LSh.lok {x:Nat->Bool} {n:Nat} {l:LA} (h:LSh x n l) (h4:n<=4):LOk l:=by
 have hl:=yBp 4 _ h.li.nd fun w hw=>by have:=h.lt w hw;omega
 exact ⟨by simpa using hl,fun w hw=>by have:=h.lt w hw;omega,h.li.up,h.li.nd,h.li.one,h.shut⟩
theorem yQj {t:Int} (o:MOp):∀ (ks:List Int) (p:PS) (r:MRes),Gd t p->Gd t (actG o ks p r).1/\ (actG o ks p r).1.f.fr.length=p.f.fr.length
 | [],p,r,h=>⟨h,rfl⟩
 |k::ks,p,r,h=>by
  rw [actG]
  split
  ·exact ⟨h.do _,yAl h _⟩
  ·have ih:=yQj o ks _ (r.1,(zBb p (k,o.2.1,o.2.2)).2.1) (h.do (k,o.2.1,o.2.2));exact ⟨ih.1,ih.2.trans (yAl h _)⟩
theorem yWk {t:Int} {p:PS} (h:Gd t p) (o:MOp):Gd t (workP p o).1/\ (workP p o).1.f.fr.length=p.f.fr.length:=by
 obtain ⟨h1,h2⟩:=yQj o (zFv o.1) p (0,zP) h;rw [workP,zWr]
 split
 ·exact ⟨h1.do _,(yAl h1 _).trans h2⟩
 ·exact ⟨h1,h2⟩
structure MG (work:List (List MOp)) (t:Int) (m:MS):Prop where
 ok:MOk m
 gd:Gd t m.p
 td:m.ws.map (·.todo)=work
 ev:(m.ev.length:Int) <=m.clk
theorem MG.c0 {work t m} (g:MG work t m):0<=m.clk:=by have:=g.ev;omega
theorem MG.lat {work t m} (g:MG work t m) {i:Nat} (hi:i<17):∃ l,m.lat[i]?=some l/\lg m.lat i=l/\LSh (xk m.ws) m.ws.length l:=by
 have hl:=g.ok.ll;refine ⟨m.lat[i]'(by omega),List.getElem?_eq_getElem (by omega),?_,g.ok.li i _ (List.getElem?_eq_getElem (by omega))⟩
 rw [lg,List.getElem?_eq_getElem (by omega)];rfl
theorem yRn {ws:List WA} {k:Nat} {w w':WA} (hk:ws[k]?=some w) (e:w'.todo=w.todo):(ws.set k w').map (·.todo)=ws.map (·.todo):=by
 obtain ⟨hlt,rfl⟩:=List.getElem?_eq_some_iff.1 hk;rw [List.map_set,e]
 have h2:k<(ws.map (·.todo)).length:=by rw [List.length_map];exact hlt
 have:ws[k].todo=(ws.map (·.todo))[k]:=by simp
 rw [this];exact List.set_getElem_self h2
theorem MG.step {work t m} (g:MG work t m) (k:Int):MG work t (zBt m k).1:=by
 rw [zBt]
 split
 ·exact g
 split
 ·exact g
 ·rename_i w hk;have hwk:=yWk g.gd w.op;have ok:=(g.ok.clk (m.clk+1)).stepW (m:={m with clk:=m.clk+1}) hk m.clk hwk.2;have hev:=g.ev;refine ⟨ok,?_,?_,?_⟩
  ·unfold stepW;repeat' split
   all_goals first|exact g.gd|exact hwk.1
  ·rw [<-g.td]
   unfold stepW;repeat' split
   all_goals first|rfl|exact yRn hk rfl
  ·unfold stepW;repeat' split
   all_goals first|(show (m.ev.length:Int) <=m.clk+1;omega)|(show (((m.ev++[_]).length:Nat):Int) <=m.clk+1;rw [List.length_append,List.length_singleton];omega)
end Go.Lk
