/-
  What is proved here: what functions of the program compute, and what follows; no condition beyond each theorem's own.
-/
import Derived.Test.YtaofmndhdmkgkaaGreatIBf
import Derived.Test.YtaofmndhdmkgkaaGreatIBh
set_option linter.unusedSimpArgs false
set_option linter.unusedVariables false
set_option linter.unnecessarySimpa false
set_option linter.unusedSectionVars false
namespace Go.Lk
open Go Go.Proofs Go.RowKit
theorem z7x (m:MS) (k:Int):latM m k=lg m.lat k.toNat:=rfl
set_option maxHeartbeats 4000000 in
theorem zPk {work t m} (g:MG work t m) (ht:t<=2147483647) (hw:∀ l∈work,l.length<=1000) (hc:m.clk<=100000) (k:Int):
  zBa Tryz.prog 34 [.ptr 1000000 0 0,.d (.int .i64 k)] (mH m) (mH (zBt m k).1) (.bool (zBt m k).2):=by
 have o:=g.ok;have hn4:=o.n4
 by_cases hk0:k<0
 ·rw [zBt,if_pos hk0];exact zYt m k (by omega)
 cases hk:m.ws[k.toNat]? with
 |none=>
  rw [zBt,if_neg hk0,hk];have:=List.getElem?_eq_none_iff.1 hk;exact zYt m k (by omega)
 |some w=>
  obtain ⟨i,rfl⟩:∃ i:Nat,k=(i:Int):=⟨k.toNat,by omega⟩;rw [Int.toNat_natCast] at hk;have v:=o.w i w hk;have hlt:=(List.getElem?_eq_some_iff.1 hk).1
  have hi4:i<4:=by omega
  have hc0:-1000000<=m.clk:=by have:=g.c0;omega
  have hc1:m.clk<=1000000:=by omega
  have hcl:m.h.cl.length<=1000:=by have:=o.hall.len;omega
  have e:zBt m i=stepW (zGa m) i w m.clk:=by rw [zBt,if_neg hk0,Int.toNat_natCast,hk];rfl
  have hwt:w.todo.length<=1000:=hw _ (by rw [<-g.td];exact List.mem_map_of_mem (List.mem_of_getElem? hk))
  have hev:m.ev.length<=100000:=by have:=g.ev;omega
  have hk':(zGa m).ws[i]?=some w:=hk;rw [e];have h6:=v.st6
  have hst:w.st=0\/w.st=1\/w.st=2\/w.st=3\/w.st=4\/w.st=5\/w.st=6:=by omega
  rcases hst with hs|hs|hs|hs|hs|hs|hs
  ·simp only [stepW,hs]
   split
   ·rename_i hd;exact yCt m _ i w false hk hs hc0 hc1 (z2j (zGa m) i w m.clk hk' hd)
   ·rename_i hd
    have hn:i∉m.h.all:=fun h=>(v.hal.1 h) hs
    have h3:=yJn o.hall.nd o.hall.lt hi4 hn;exact yCt m _ i w true hk hs hc0 hc1 (z6m (zGa m) i w m.clk hk' hd o.hall hi4 hn (by have h3:m.h.cl.length+m.h.q.length<=3:=(by simpa using h3);exact h3))
  ·have hb:=v.bu (by omega);simp only [stepW,hs]
   split
   ·rename_i hcc;exact z1q m _ i w false hk hs hc0 hc1 (yGj (zGa m) i w m.clk hcl hcc)
   rename_i hcc
   replace hcc:isCl m.h i=true:=by simpa [zGa] using hcc
   split
   ·rename_i hr;exact z1q m _ i w true hk hs hc0 hc1 (yDr (zGa m) i w m.clk hk' hb hcl hcc hr)
   ·rename_i hr
    replace hr:refB w.op=false:=by simpa using hr
    obtain ⟨r1,r2,r3,r4⟩:=zRe hr;obtain ⟨l,hl,el,sh⟩:=g.lat (i:=w.op.2.1.toNat) (by omega)
    have ol:LOk (latM m w.op.2.1):=by rw [z7x,el];exact sh.lok hn4
    have hna:i∉l.all:=fun h=>by
     have:=((v.lt w.op.2.1.toNat l hl).1 h).1
     rw [v.nask (by omega)] at this;cases this
    have hn:i∉(latM m w.op.2.1).hs++(latM m w.op.2.1).q.map (·.1):=by rw [z7x,el];exact hna
    have h3:=yJn ol.nd ol.lt hi4 hn;exact z1q m _ i w true hk hs hc0 hc1 (yGh (zGa m) i w m.clk hk' hb hcl hcc hr o.ll hi4 ol hn (by have h3:(latM m w.op.2.1).hs.length+(latM m w.op.2.1).q.length<=3:=(by simpa using h3);exact h3))
  ·have hb:=v.bu (by omega);obtain ⟨r1,r2,r3,r4⟩:=zRe (v.val (v.ask (by omega) (by omega)));obtain ⟨l,hl,el,sh⟩:=g.lat (i:=w.op.2.1.toNat) (by omega)
   have ol:LOk (lg m.lat w.op.2.1.toNat):=by rw [el];exact sh.lok hn4
   simp only [stepW,hs]
   split
   ·rename_i hh;exact yCu m _ i w false hk hs hc0 hc1 (z7i (zGa m) i w hk' hb (by omega) (by omega) ol hh)
   ·rename_i hh;exact yCu m _ i w true hk hs hc0 hc1 (z7h (zGa m) i w hk' hb (by omega) (by omega) ol (by simpa [z7x] using hh))
  ·have hb:=v.bu (by omega);have ha:=v.ask (by omega) (by omega);obtain ⟨r1,r2,r3,r4⟩:=zRe (v.val ha);have hcc:=v.cl (by omega)
   have hh:zFm m.h i=false:=by rw [v.held];exact v.npin (by omega)
   simp only [stepW,hs]
   split
   ·rename_i hf;exact z1r m _ i w false hk hs hc0 hc1 (yKh (zGa m) i w hk' hb o.hall hcc hh g.gd.fm (by rw [pinR,if_pos hf]))
   rename_i hf;replace hf:¬m.h.n<=zCl m.h.cl:=hf
   have hpr:pinR m.h i=(pinH m.h i,0):=by rw [pinR,if_neg hf]
   split
   ·rename_i h4
    have hkj:i<m.s.jobs.length:=by rw [o.sj];exact hlt
    have hjn:m.s.jobs[i]=none:=by
     cases q:m.s.jobs[i] with
     |none=>rfl
     |some p=>
      have:=(v.job p).1 (.inl (by rw [List.getElem?_eq_getElem hkj,q]));omega
    exact z1r m _ i w true hk hs hc0 hc1 (yUs (zGa m) i w hk' hb o.hall hcc hh g.gd.fm hpr h4.1 h4.2 o.su.toSOk g.gd.us hkj hjn r3 r4)
   ·rename_i h5;exact z1r m _ i w true hk hs hc0 hc1 (yUt (zGa m) i w hk' hb o.hall hcc hh g.gd.fm hpr h5)
  ·simp only [stepW,hs];exact yPa m i w hk hs hc0 hc1
  ·have hb:=v.bu (by omega);have ha:=v.ask (by omega) (by omega);simp only [stepW,hs];exact yPb m _ i w hk hs hc0 hc1 (yWl (zGa m) i w m.clk t hk' hb g.gd ht (v.val ha))
  ·have hb:=v.bu (by omega);have hcc:=v.cl (by omega);simp only [stepW,hs];refine yPc m (zIr (zGa m) i w m.clk) i w hk hs hc0 hc1 ?_
   cases ha:w.asked with
   |false=>
    cases hp:w.pinned with
    |false=>exact z8b (zGa m) i w m.clk hk' hb hwt hev o.hall hi4 hcc hp ha
    |true=>exact z8d (zGa m) i w m.clk hk' hb hwt hev o.hall hi4 hcc hp ha (v.held.trans hp)
   |true=>
    obtain ⟨r1,r2,r3,r4⟩:=zRe (v.val ha);obtain ⟨l,hl,el,sh⟩:=g.lat (i:=w.op.2.1.toNat) (by omega)
    have ol:LOk (lg m.lat w.op.2.1.toNat):=by rw [el];exact sh.lok hn4
    have hhs:i∈(lg m.lat w.op.2.1.toNat).hs:=by rw [el];exact v.hold ha (by omega) l hl
    cases hp:w.pinned with
    |false=>exact z8a (zGa m) i w m.clk hk' hb hwt hev o.hall hi4 hcc hp ha o.ll (by omega) (by omega) ol hhs
    |true=>exact z8c (zGa m) i w m.clk hk' hb hwt hev o.hall hi4 hcc hp ha (v.held.trans hp) o.ll (by omega) (by omega) ol hhs
theorem yHu {work t m} (g:MG work t m) (hc:m.clk<=100000) (i:Int) (b:Bool):
  zBa Tryz.prog 37 [.ptr 1000000 0 0,.d (.int .i64 i),.d (.bool b)] (mH m) (mH (finM m i b).1) (.bool (finM m i b).2):=by
 have o:=g.ok
 by_cases hn:i<0\/ (m.s.out.length:Int) <=i
 ·rw [finM,if_pos hn];exact yHv m i b hn
 obtain ⟨n,rfl⟩:∃ n:Nat,i=(n:Int):=⟨i.toNat,by omega⟩
 have hi:n<m.s.out.length:=by omega
 rw [finM,if_neg hn,Int.toNat_natCast,ySv,List.getElem?_eq_getElem hi];simp only [];have hlt:=o.su.lt m.s.out[n] (List.getElem_mem hi)
 by_cases h3:b=true/\ (m.s.out[n]).tr<3/\m.s.next<2147483647
 ·rw [if_pos h3];obtain ⟨rfl,h4,h5⟩:=h3;exact z3p m n o.su.toSOk g.gd.us hi h4 h5
 ·rw [if_neg h3];simp only []
  have hwl:(m.s.out[n]).who<m.ws.length:=by rw [<-o.sj];exact hlt.2.1
  have hk:m.ws[(m.s.out[n]).who]?=some m.ws[(m.s.out[n]).who]:=List.getElem?_eq_getElem hwl;have hs:(m.ws[(m.s.out[n]).who]).st=4:=((o.w _ _ hk).job (m.s.out[n]).pg).1 (.inr ⟨m.s.out[n],List.getElem_mem hi,rfl,rfl⟩) |>.1;rw [hk];simp only [];rw [if_neg (fun z=>z hs)];exact z7l m n b o.su.toSOk g.gd.us hi h3 _ hk hs g.c0 (by omega)
theorem MG.fin {work t m} (g:MG work t m) (i:Int) (b:Bool):MG work t (finM m i b).1:=by
 refine ⟨g.ok.fin i b,?_,?_,?_⟩
 ·rw [finM];repeat' split
  all_goals exact g.gd
 ·rw [<-g.td,finM];repeat' split
  all_goals first|rfl|(rename_i hk _;exact yRn hk (by rw [yFo];split<;>rfl))
 ·rw [finM];repeat' split
  all_goals exact g.ev
theorem MG.pump {work t m} (g:MG work t m):MG work t (yKl m):=⟨g.ok.pump,g.gd,g.td,g.ev⟩
def z9m (t:Int):Int:=if 2147483647-t<1 then 2147483647 else t+1
theorem yVx {t:Int} {p:PS} (h:Gd t p):Gd (z9m t) (zKd p 1) /\ (zKd p 1).f=p.f:=by
 rw [zKd,if_neg (by decide),h.now,z9m]
 split
 ·exact ⟨⟨h.fm,h.us,rfl⟩,rfl⟩
 ·exact ⟨⟨h.fm,h.us,rfl⟩,rfl⟩
theorem yDd {t:Int} (h0:0<=t) (h:t<=2147483647):0<=z9m t/\z9m t<=2147483647:=by
 rw [z9m];split<;>omega
theorem MG.age {work t m} (g:MG work t m) (n:Int):MG work (z9m t) (ageM m n):=by
 obtain ⟨h1,h2⟩:=yVx g.gd
 have hl:(zBb (zKd m.p 1) (8,n,ByteArray.empty)).1.f.fr.length=m.p.f.fr.length:=by rw [yAl h1,h2]
 have o:=g.ok;exact ⟨⟨o.n1,o.n4,o.hall,o.hw,o.ll,o.li,o.su,o.sj,o.fr.trans hl.symm,o.w⟩,h1.do _,g.td,g.ev⟩
structure MGE (work:List (List MOp)) (m:MS):Prop where
 ex:∃ t,0<=t/\t<=2147483647/\MG work t m
theorem MGE.do_ {work m} (h:MGE work m) (a:Int×Int):MGE work (doMS m a).1:=by
 obtain ⟨t,h0,h1,g⟩:=h.ex
 rw [doMS];repeat' split
 ·exact ⟨t,h0,h1,g.pump⟩
 ·exact ⟨t,h0,h1,g.fin _ _⟩
 ·exact ⟨z9m t,(yDd h0 h1).1,(yDd h0 h1).2,g.age _⟩
 ·exact ⟨t,h0,h1,g.step _⟩
 ·exact ⟨t,h0,h1,g.step _⟩
theorem yLl (m:MS) (k:Nat) (w:WA) (now:Int):(stepW m k w now).1.clk=m.clk:=by
 unfold stepW;repeat' split
 all_goals rfl
theorem zPj (m:MS) (k:Int):(zBt m k).1.clk<=m.clk+1/\m.clk<= (zBt m k).1.clk:=by
 rw [zBt];repeat' split
 ·exact ⟨by show m.clk<=_;omega,Int.le_refl _⟩
 ·exact ⟨by show m.clk<=_;omega,Int.le_refl _⟩
 ·rw [yLl];dsimp only;omega
theorem yNd (m:MS) (i:Int) (b:Bool):(finM m i b).1.clk=m.clk:=by
 rw [finM];repeat' split
 all_goals rfl
theorem yMy (m:MS) (a:Int×Int):(doMS m a).1.clk<=m.clk+1/\m.clk<= (doMS m a).1.clk:=by
 rw [doMS];repeat' split
 ·exact ⟨by show m.clk<=_;omega,Int.le_refl _⟩
 ·rw [yNd];omega
 ·exact ⟨by show m.clk<=_;omega,Int.le_refl _⟩
 ·exact zPj _ _
 ·exact zPj _ _
set_option maxRecDepth 20000 in
set_option maxHeartbeats 16000000 in
theorem doL_ok {work m} (g:MGE work m) (hw:∀ l∈work,l.length<=1000) (hc:m.clk<=100000) (a:Int×Int):
  zBa Tryz.prog 18 [.ptr 1000000 0 0,.agg [.d (.int .i64 a.1),.d (.int .i64 a.2)]] (mH m) (mH (doMS m a).1) (.int .i64 (if (doMS m a).2=true then 1 else 0)):=by
 obtain ⟨t,h0,h1,g⟩:=g.ex;refine zAr Tryz.func18 2 rfl (by kernel_rfl) (by rfl) ?_;rw [doMS]
 conv=>whnf
 refine aP ?_
 refine bcase_p (fun e6=>?_) (fun e6=>?_)<;>conv=>whnf
 ·rw [if_pos e6];refine aP ?_;refine zAl (yOo m g.ok.su g.gd.us) nm3 rfl ⟨rfl,rfl,rfl,trivial⟩ rfl (aP ?_);exact zAh rfl rfl rfl ⟨rfl,rfl,rfl,trivial⟩
 rw [if_neg e6];refine aP ?_
 refine bcase_p (fun e7=>?_) (fun e7=>?_)<;>conv=>whnf
 ·rw [if_pos (.inl e7)];have hf:=yHu g hc a.2 (decide (a.1=8));refine aP ?_;refine zAl hf nm3 rfl ⟨rfl,rfl,rfl,trivial⟩ rfl (aP ?_)
  refine zAf (fun r=>?_) (fun r=>?_)<;>conv=>whnf
  ·rw [if_pos r];refine aP ?_;exact zAh rfl rfl rfl ⟨rfl,rfl,rfl,trivial⟩
  ·rw [if_neg (by rw [r];decide)];refine aP ?_;exact zAh rfl rfl rfl ⟨rfl,rfl,rfl,trivial⟩
 refine aP ?_
 refine bcase_p (fun e8=>?_) (fun e8=>?_)<;>conv=>whnf
 ·rw [if_pos (.inr e8)];have hf:=yHu g hc a.2 (decide (a.1=8));refine aP ?_;refine zAl hf nm3 rfl ⟨rfl,rfl,rfl,trivial⟩ rfl (aP ?_)
  refine zAf (fun r=>?_) (fun r=>?_)<;>conv=>whnf
  ·rw [if_pos r];refine aP ?_;exact zAh rfl rfl rfl ⟨rfl,rfl,rfl,trivial⟩
  ·rw [if_neg (by rw [r];decide)];refine aP ?_;exact zAh rfl rfl rfl ⟨rfl,rfl,rfl,trivial⟩
 rw [if_neg (fun z=>z.elim e7 e8)];refine aP ?_
 refine bcase_p (fun e9=>?_) (fun e9=>?_)<;>conv=>whnf
 ·rw [if_pos e9];refine aP ?_;refine zAl (yRz m a.2 t g.gd h1 h0) nm3 rfl ⟨rfl,rfl,rfl,trivial⟩ rfl (aP ?_);exact zAh rfl rfl rfl ⟨rfl,rfl,rfl,trivial⟩
 rw [if_neg e9];have hs:=zPk g h1 hw hc ((if a.2<0 then 0 else a.2)%5)
 have em:max a.2 0%5=(if a.2<0 then 0 else a.2)%5:=by congr 1;split<;>omega
 obtain ⟨kk,hkk⟩:∃ kk,(if a.2<0 then 0 else a.2)%5=kk:=⟨_,rfl⟩;rw [hkk] at hs em⊢;refine aP ?_;refine zDe (by decide) (by omega) (w0 ?_);rw [em];refine aP ?_;refine zAl hs nm3 rfl ⟨rfl,rfl,rfl,trivial⟩ rfl (aP ?_)
 refine zAf (fun r=>?_) (fun r=>?_)<;>conv=>whnf
 ·rw [if_pos r];refine aP ?_;exact zAh rfl rfl rfl ⟨rfl,rfl,rfl,trivial⟩
 ·rw [if_neg (by rw [r];decide)];refine aP ?_;exact zAh rfl rfl rfl ⟨rfl,rfl,rfl,trivial⟩
def zEb (l:List MOp):List D:=[.lst (l.map zGl)]
theorem yAp:∀ (l:List MOp),okRows 3 (l.map zGl)=true
 | []=>rfl
 |_::r=>yAp r
def mSC (m:MS):List SC:=.row (m.ws.map zDn) 11::([.d (.lst (m.p.f.fr.map encF)),.d (.int .i64 m.p.f.hand),.d (zCe m.p.f.tb),.d (.lst (m.p.f.pg.map encP)),.d (zCe m.p.f.dt),.d (.lst (m.p.d.sec.map encB)),.d (.lst (m.p.d.ca.map encW)),.d (.int .i64 m.p.now)]++(m.h.cells.map SC.d++((lg m.lat 0).cells.map SC.d++((lg m.lat 1).cells.map SC.d++((lg m.lat 2).cells.map SC.d++((lg m.lat 3).cells.map SC.d++((lg m.lat 4).cells.map SC.d++((lg m.lat 5).cells.map SC.d++((lg m.lat 6).cells.map SC.d++((lg m.lat 7).cells.map SC.d++((lg m.lat 8).cells.map SC.d++((lg m.lat 9).cells.map SC.d++((lg m.lat 10).cells.map SC.d++((lg m.lat 11).cells.map SC.d++((lg m.lat 12).cells.map SC.d++((lg m.lat 13).cells.map SC.d++((lg m.lat 14).cells.map SC.d++((lg m.lat 15).cells.map SC.d++((lg m.lat 16).cells.map SC.d++((m.s.cells m.p.d).map SC.d++[.d (.int .i64 m.clk),.row (m.ev.map zAw) 11]))))))))))))))))))))
def z3:List AV:=[.nil,.d (.bool false),.nil]
def mb0 (n:Nat) (p:PS):List AV:=.own 64::(p.box++([.d (.int .i64 n),.d (.int .i64 1),.nil,.nil]++(z3++(z3++(z3++(z3++(z3++(z3++(z3++(z3++(z3++(z3++(z3++(z3++(z3++(z3++(z3++(z3++(z3++[.nil,.d (.int .i64 0),.d (.bool false),.nil,.nil,.nil,.d (.int .i64 0),.nil,.nil,.d (.int .i64 0),.nil])))))))))))))))))))
theorem yOr (k:Nat):List.replicate (k+1) [D.int .i64 1]=List.replicate k [D.int .i64 1]++[[D.int .i64 1]]:=List.replicate_succ'
set_option maxRecDepth 20000 in
set_option maxHeartbeats 16000000 in
theorem zYd (d:DS) (n:Nat) (todo:List (List MOp)) (p:PS) (hop:zQy d n=(p,0)) (hU:Us p.d) (h1:1<=todo.length) (h4:todo.length<=4) (h60:∀ l∈todo,l.length<=60):
  yDp Tryz.prog 27 [zCm d,.int .i64 n,.lst (todo.map zEb)] (mSC (zSi p n todo)) [.int .i64 0]:=by
 have hm:(todo.map zEb).length=todo.length:=List.length_map ..
 have ho:=yJz d n;rw [hop] at ho;refine yBy Tryz.func27 3 rfl (by kernel_rfl) (aP ?_);refine zAq (ι:=Nat) (fun k=>[(1,.d (.int .i64 n)),(2,.d (.lst (todo.map zEb))),(3,.ptr 3 0 0),(25,.d (.lst (todo.map zEb))),(26,.d (.int .i64 (todo.map zEb).length)),(27,.d (.int .i64 k))]) (fun _=>[(3,.box (d.cells.map AV.d) false)])
  (fun k=>k<=todo.length) (fun k=>todo.length-k) 0 (Nat.zero_le _) (le0 (zAb ⟨rfl,rfl,rfl,rfl,rfl,rfl,trivial⟩ ⟨rfl,trivial⟩ ⟨rfl,rfl,rfl,rfl⟩)) ?_
 intro k hk
 conv=>whnf
 refine bcase_p (fun h5=>?_) (fun h5=>?_)<;>conv=>whnf
 ·have hk2:k<todo.length:=by omega
  have hl:=h60 todo[k] (List.getElem_mem hk2)
  have hml:(todo[k].map zGl).length=todo[k].length:=List.length_map ..
  refine zAd (by omega) (w0 ?_);refine zAc (x:=zEb todo[k]) (by simp [hk2]) (aW ?_);refine aP ?_;exact ⟨k+1,by omega,by omega,(le0 (zAb ⟨rfl,rfl,rfl,rfl,rfl,rfl,trivial⟩ ⟨rfl,trivial⟩ ⟨rfl,rfl,rfl,rfl⟩))⟩
 refine aP ?_;refine zAa ho (aP ?_);refine zAq (ι:=Nat) (fun k=>[(10,.ptr 10 0 0),(12,.ptr 48 0 0),(13,.own 69),(49,.d (.lst (todo.map zEb))),(50,.d (.int .i64 (todo.map zEb).length)),(51,.d (.int .i64 k))]) (fun k=>[(10,.box p.box false),(48,.box (mb0 n p) false),(64,.row (((todo.take k).map zN).map zDn) 11 false),(69,.row (List.replicate k [D.int .i64 1]) 1 false)])
  (fun k=>k<=todo.length) (fun k=>todo.length-k) 0 (Nat.zero_le _) (len [.row 13 69 1,.cell 48 0 64 11] ⟨⟨rfl,rfl⟩,⟨⟨rfl,rfl⟩,rfl,rfl⟩,trivial⟩ (zAb ⟨rfl,rfl,rfl,rfl,rfl,rfl,trivial⟩ ⟨rfl,rfl,rfl,rfl,trivial⟩ ⟨rfl,rfl,rfl,rfl⟩)) ?_
 intro k hk
 conv=>whnf
 refine bcase_p (fun h6=>?_) (fun h6=>?_)<;>conv=>whnf
 ·have hk2:k<todo.length:=by omega
  have hl:=h60 todo[k] (List.getElem_mem hk2)
  have hml:(todo[k].map zGl).length=todo[k].length:=List.length_map ..
  have htk:(todo.take k).length=k:=by rw [List.length_take];omega
  have hmr:(((todo.take k).map zN).map zDn).length=k:=by rw [List.length_map,List.length_map,htk]
  refine zAd (by omega) (w0 ?_);refine zAc (x:=zEb todo[k]) (by simp [hk2]) (aW ?_);refine aP ?_;refine zAn (ySn (yAp todo[k]) (by omega)) (aP ?_);refine zAj 1000 1000 (by show (((todo.take k).map zN).map zDn).length+1<=1000;omega) (by decide) (by decide) (by decide) (aP ?_);refine zAj 1000 1000 (by show (List.replicate k [D.int .i64 1]).length+1<=1000;rw [List.length_replicate];omega) (by decide) (by decide) (by decide) (aP ?_);refine ⟨k+1,by omega,by omega,le0 (zAb ⟨rfl,rfl,rfl,rfl,rfl,rfl,trivial⟩ ⟨rfl,rfl,?_,?_,trivial⟩ ⟨rfl,rfl,rfl,rfl⟩)⟩
  ·rw [zAs hk2,List.map_append,List.map_append];kernel_rfl
  ·rw [yOr];kernel_rfl
 have hkl:k=todo.length:=by omega
 subst hkl;rw [List.take_length];refine aP ?_;refine zAa (z9b todo.length p.d h1 h4 hU) (aP ?_);refine ⟨6,.tmp 7,[],48,_,rfl,rfl,rfl,?_,rfl,rfl⟩;refine .inl ⟨64,rfl,rfl,rfl,?_⟩
 repeat refine ⟨rfl,?_⟩
 exact .inr ⟨rfl,rfl,trivial⟩
noncomputable def stAt (d:DS) (k:Nat):Option Pg:=if (getS d ((k:Int)+1)).2=0 then some (getS d ((k:Int)+1)).1 else none
noncomputable def lsN (d:DS) (k:Nat):List Pg:=(List.range k).filterMap (stAt d)
theorem zXq {α:Type} (f:Nat->Option α) (k:Nat):((List.range k).filterMap f).length<=k:=by
 have:=List.length_filterMap_le f (List.range k)
 rwa [List.length_range] at this
theorem zQh {α:Type} (f:Nat->Option α) (k:Nat):(List.range (k+1)).filterMap f=(List.range k).filterMap f++(f k).toList:=by
 rw [List.range_succ,List.filterMap_append]
 congr 1
set_option maxHeartbeats 4000000 in
theorem z5r (d:DS):zAi Tryz.prog 51 [zCm d] (.lst ((lsN d 16).map encP)):=by
 refine zAe Tryz.func51 1 rfl (by kernel_rfl) (aP ?_);refine zAq (ι:=Nat) (fun k=>[(1,.ptr 1 0 0),(3,.own 22),(4,.d (.int .i64 ((k:Int)+1)))]) (fun k=>[(1,.box (d.cells.map AV.d) false),(22,.row ((lsN d k).map encP) 3 false)])
  (fun k=>k<=16) (fun k=>16-k) 0 (Nat.zero_le _) (le1 (.row 3 22 3) ⟨rfl,rfl⟩ (zAb ⟨rfl,rfl,rfl,trivial⟩ ⟨rfl,rfl,trivial⟩ ⟨rfl,rfl,rfl,rfl⟩)) ?_
 intro k hk;have hln:=zXq (stAt d) k
 have hml:((lsN d k).map encP).length=(lsN d k).length:=List.length_map ..
 replace hln:(lsN d k).length<=k:=hln;have es:=zQh (stAt d) k;replace es:lsN d (k+1)=lsN d k++(stAt d k).toList:=es;obtain ⟨q,hq⟩:∃ q,getS d ((k:Int)+1)=q:=⟨_,rfl⟩;have hget:=zQk d ((k:Int)+1);rw [stAt,hq] at es;rw [hq] at hget
 conv=>whnf
 refine bcase_p (fun h5=>?_) (fun h5=>?_)<;>conv=>whnf
 ·refine aP ?_;refine zAa hget (aP ?_)
  refine bcase_p (fun h6=>?_) (fun h6=>?_)<;>conv=>whnf
  ·rw [if_pos h6] at es;refine aP ?_;refine zAj 1000 100 (by show ((lsN d k).map encP).length+1<=1000;omega) (by decide) (by decide) (by decide) (aP ?_);rw [show (k:Int)+1+1=((k+1:Nat):Int)+1 by omega];exact ⟨k+1,by omega,by omega,le0 (zAb ⟨rfl,rfl,rfl,trivial⟩ ⟨rfl,by rw [es,List.map_append];rfl,trivial⟩ ⟨rfl,rfl,rfl,rfl⟩)⟩
  ·rw [if_neg h6] at es;refine aP ?_;rw [show (k:Int)+1+1=((k+1:Nat):Int)+1 by omega];exact ⟨k+1,by omega,by omega,le0 (zAb ⟨rfl,rfl,rfl,trivial⟩ ⟨rfl,by rw [es,Option.toList,List.append_nil];rfl,trivial⟩ ⟨rfl,rfl,rfl,rfl⟩)⟩
 ·have:k=16:=by omega
  subst this;refine aP ?_;exact ret_of rfl rfl
noncomputable def getO (l:List Pg) (id:Int):Pg×Bool:=if Hy.mapB l=true/\Hy.plB l id=true then (l[Hy.plN l id]?.getD zP,true) else (zP,false)
theorem yK (l:List Pg) (id:Int) (hl:l.length<=1000):zAi Tryz.prog 25 [.agg [.lst (l.map encP)],.int .i64 id] (.tup [.agg (encP (getO l id).1),.bool (getO l id).2]):=by
 have h1:=Hy.opsRight_ok l (by omega);have h2:=Hy.place_ok l id (by omega)
 have hm:(l.map encP).length=l.length:=List.length_map ..
 cases e1:Hy.mapB l with
 |false=>
  rw [e1] at h1;rw [getO,if_neg (by rw [e1];simp)];refine zAe Tryz.func25 2 rfl (by kernel_rfl) (aP ?_);refine zAa h1 (aP ?_);exact ret_of rfl rfl
 |true=>
  rw [e1] at h1
  cases e2:Hy.plB l id with
  |false=>
   rw [e2] at h2;rw [getO,if_neg (by rw [e2];simp)];refine zAe Tryz.func25 2 rfl (by kernel_rfl) (aP ?_);refine zAa h1 (aP ?_);refine zAa h2 (aP ?_);exact ret_of rfl rfl
  |true=>
   rw [e2] at h2
   have hlt:Hy.plN l id<l.length:=by
    refine Classical.byContradiction fun g=>?_
    rw [Hy.plB,List.getElem?_eq_none (by omega)] at e2;cases e2
   rw [getO,if_pos ⟨e1,e2⟩,List.getElem?_eq_getElem hlt];refine zAe Tryz.func25 2 rfl (by kernel_rfl) (aP ?_);refine zAa h1 (aP ?_);refine zAa h2 (aP ?_);refine zAd (by omega) (w0 ?_);refine zAc (x:=encP l[Hy.plN l id]) (by simp [hlt]) (aP ?_);exact ret_of rfl rfl
noncomputable def pgAt (m:MS) (k:Nat):Option Pg:=if (zFh m.p.f ((k:Int)+1)).2=true then some (atP m.p.f.pg (zFh m.p.f ((k:Int)+1)).1.toNat) else if (getO (lsN m.p.d 16) ((k:Int)+1)).2=true then some (getO (lsN m.p.d 16) ((k:Int)+1)).1 else none
noncomputable def pgsN (m:MS) (k:Nat):List Pg:=(List.range k).filterMap (pgAt m)
noncomputable def yRi (m:MS):List Pg:=pgsN m 16
set_option maxRecDepth 20000 in
set_option maxHeartbeats 16000000 in
theorem zR (m:MS) (hF:FM m.p.f):zBa Tryz.prog 19 [.ptr 1000000 0 0] (mH m) (mH m) (.agg [.lst ((yRi m).map encP)]):=by
 refine zAr Tryz.func19 1 rfl (by kernel_rfl) (by rfl) ?_;have hlo:=z5r m.p.d;have hlo16:(lsN m.p.d 16).length<=16:=zXq _ _;obtain ⟨L,hL⟩:∃ L,lsN m.p.d 16=L:=⟨_,rfl⟩;rw [hL] at hlo hlo16
 conv=>whnf
 refine aP ?_;refine zAa hlo (aP ?_);refine zAq (ι:=Nat) (fun k=>[(0,.ptr 1000000 0 0),(2,.ptr 2 0 0),(3,.ptr 3 0 0),(4,.ptr 4 0 0),(5,.d (.int .i64 ((k:Int)+1)))]) (fun k=>[(1000000,.box (zIs m) false),(1000001,.row (m.ws.map zDn) 11 false),(1000004,.row (m.ev.map zAw) 11 false),(2,.box [.nil] false),(3,.box [.d (.lst (L.map encP))] false),(4,.box [.own 44] false),(44,.row ((pgsN m k).map encP) 3 false)])
  (fun k=>k<=16) (fun k=>16-k) 0 (Nat.zero_le _) (le1 (.cell 4 0 44 3) ⟨⟨rfl,rfl⟩,rfl,rfl⟩ (zAb ⟨rfl,rfl,rfl,rfl,rfl,trivial⟩ ⟨rfl,rfl,rfl,rfl,rfl,rfl,rfl,trivial⟩ ⟨rfl,rfl,rfl,rfl⟩)) ?_
 intro k hk;have hln:(pgsN m k).length<=k:=zXq (pgAt m) k
 have hml:((pgsN m k).map encP).length=(pgsN m k).length:=List.length_map ..
 have es:pgsN m (k+1)=pgsN m k++(pgAt m k).toList:=zQh (pgAt m) k;have hf:=zGu m.p.f ((k:Int)+1) hF.tl hF.dl;have hg:=yK L ((k:Int)+1) (by omega);rw [pgAt,hL] at es
 have hmp:(m.p.f.pg.map encP).length=m.p.f.pg.length:=List.length_map ..
 conv=>whnf
 refine bcase_p (fun h5=>?_) (fun h5=>?_)<;>conv=>whnf
 ·refine aP ?_
  rcases hF.find_cases (show ((k:Int)+1)≠0 by omega) with ⟨_,hno⟩|⟨i,_,hA⟩
  ·rw [zCp hF hno (by omega)] at hf es;rw [if_neg (by decide)] at es;refine zAa hf (aP ?_);refine zAa hg (aP ?_)
   refine zAf (fun h7=>?_) (fun h7=>?_)<;>conv=>whnf
   ·rw [if_pos h7] at es;refine aP ?_;refine zAj 1000 100 (by show ((pgsN m k).map encP).length+1<=1000;omega) (by decide) (by decide) (by decide) (aP ?_);rw [show (k:Int)+1+1=((k+1:Nat):Int)+1 by omega];exact ⟨k+1,by omega,by omega,le0 (zAb ⟨rfl,rfl,rfl,rfl,rfl,trivial⟩ ⟨rfl,rfl,rfl,rfl,rfl,rfl,by rw [es,List.map_append];rfl,trivial⟩ ⟨rfl,rfl,rfl,rfl⟩)⟩
   ·rw [if_neg (by rw [show (getO L ((k:Int)+1)).2=false from h7];decide)] at es;refine aP ?_;rw [show (k:Int)+1+1=((k+1:Nat):Int)+1 by omega];exact ⟨k+1,by omega,by omega,le0 (zAb ⟨rfl,rfl,rfl,rfl,rfl,trivial⟩ ⟨rfl,rfl,rfl,rfl,rfl,rfl,by rw [es,Option.toList,List.append_nil];rfl,trivial⟩ ⟨rfl,rfl,rfl,rfl⟩)⟩
  ·rw [findF_at hA] at hf es;have hip:=hA.hp;rw [if_pos rfl,Int.toNat_natCast,zDq hip] at es;refine zAa hf (aP ?_);refine zAd (by omega) (w0 ?_);refine zAc (x:=encP m.p.f.pg[i]) (by simp [hip]) (aW ?_);refine aP ?_;refine zAj 1000 100 (by show ((pgsN m k).map encP).length+1<=1000;omega) (by decide) (by decide) (by decide) (aP ?_);rw [show (k:Int)+1+1=((k+1:Nat):Int)+1 by omega];exact ⟨k+1,by omega,by omega,le0 (zAb ⟨rfl,rfl,rfl,rfl,rfl,trivial⟩ ⟨rfl,rfl,rfl,rfl,rfl,rfl,by rw [es,List.map_append];rfl,trivial⟩ ⟨rfl,rfl,rfl,rfl⟩)⟩
 ·have:k=16:=by omega
  subst this;refine aP ?_;exact zAh rfl rfl rfl ⟨rfl,rfl,rfl,trivial⟩
structure OpsOk (l:List MOp):Prop where
 len:l.length<=20
 body:∀ o∈l,o.2.2.size<=100
structure SmOk (work:List (List MOp)):Prop where
 n1:1<=work.length
 n4:work.length<=4
 one:∀ l∈work,OpsOk l
open Classical in
noncomputable def smN (work:List (List MOp)):Int:=if SmOk work then ((work.flatten.length:Nat):Int) else-1
theorem z5o {work:List (List MOp)} (h:¬SmOk work):smN work=-1:=by rw [smN,if_neg h]
theorem yVl {work:List (List MOp)} (h:SmOk work):smN work=((work.flatten.length:Nat):Int):=by rw [smN,if_pos h]
theorem yI {work:List (List MOp)} {k:Nat} (hk:k<work.length):(work.take (k+1)).flatten.length=(work.take k).flatten.length+work[k].length:=by
 rw [zAs hk,List.flatten_append,List.length_append,List.flatten_cons,List.flatten_nil,List.append_nil]
theorem yTc {work:List (List MOp)} (h:∀ l∈work,l.length<=20):work.flatten.length<=20*work.length:=by
 induction work with
 |nil=>exact Nat.le_refl _
 |cons x r ih=>
  have:=h x (.head _)
  have:=ih fun l hl=>h l (.tail _ hl)
  rw [List.flatten_cons,List.length_append,List.length_cons];omega
set_option maxHeartbeats 4000000 in
theorem yFi (work:List (List MOp)) (hl:work.length<=9223372036854775807) (hl2:∀ l∈work,l.length<=9223372036854775807):zAi Tryz.prog 15 [.lst (work.map zEb)] (.int .i64 (smN work)):=by
 have hm:(work.map zEb).length=work.length:=List.length_map ..
 refine zAe Tryz.func15 1 rfl (by kernel_rfl) (aP ?_)
 refine bcase_p (fun h1=>?_) (fun h1=>?_)<;>conv=>whnf
 ·refine aP ?_;rw [z5o fun h=>by have:=h.n1;omega];exact ret_of rfl rfl
 refine aP ?_
 refine bcase_p (fun h4=>?_) (fun h4=>?_)<;>conv=>whnf
 ·refine aP ?_;rw [z5o fun h=>by have:=h.n4;omega];exact ret_of rfl rfl
 refine aP ?_;refine zAq (ι:=Nat) (fun k=>[(3,.d (.int .i64 (work.take k).flatten.length)),(16,.d (.lst (work.map zEb))),(17,.d (.int .i64 (work.map zEb).length)),(18,.d (.int .i64 k))]) (fun _=>[])
  (fun k=>k<=work.length/\ ∀ l∈work.take k,OpsOk l) (fun k=>work.length-k) 0 ⟨Nat.zero_le _,fun l h=>by simp at h⟩ (le0 (zAb ⟨rfl,rfl,rfl,rfl,trivial⟩ trivial ⟨rfl,rfl,rfl,rfl⟩)) ?_
 rintro k ⟨hk,hR⟩
 have hfb:=yTc fun l h=>(hR l h).len
 rw [List.length_take] at hfb
 conv=>whnf
 refine bcase_p (fun h5=>?_) (fun h5=>?_)<;>conv=>whnf
 ·have hk2:k<work.length:=by omega
  have hml:(work[k].map zGl).length=work[k].length:=List.length_map ..
  have hmem:=List.getElem_mem hk2;refine zAd (by omega) (w0 ?_);refine zAc (x:=zEb work[k]) (by simp [hk2]) (aW ?_)
  refine bcase_p (fun h6=>?_) (fun h6=>?_)<;>conv=>whnf
  ·refine aP ?_;rw [z5o fun h=>by have:=(h.one _ hmem).len;omega];exact ret_of rfl rfl
  refine aP ?_;refine zAq (ι:=Nat) (fun q=>[(3,.d (.int .i64 (work.take k).flatten.length)),(5,.d (.lst (work[k].map zGl))),(16,.d (.lst (work.map zEb))),(17,.d (.int .i64 (work.map zEb).length)),(18,.d (.int .i64 k)),(25,.d (.lst (work[k].map zGl))),(26,.d (.int .i64 (work[k].map zGl).length)),(27,.d (.int .i64 q))]) (fun _=>[])
   (fun q=>q<=work[k].length/\ ∀ o∈work[k].take q,o.2.2.size<=100) (fun q=>work[k].length-q) 0 ⟨Nat.zero_le _,fun o h=>by simp at h⟩ (le0 (zAb ⟨rfl,rfl,rfl,rfl,rfl,rfl,rfl,rfl,trivial⟩ trivial ⟨rfl,rfl,rfl,rfl⟩)) ?_
  rintro q ⟨hq,hR2⟩
  conv=>whnf
  refine bcase_p (fun h7=>?_) (fun h7=>?_)<;>conv=>whnf
  ·have hq2:q<work[k].length:=by omega
   refine zAd (by omega) (w0 ?_);refine zAc (x:=zGl work[k][q]) (by simp [hq2]) (aW ?_)
   refine bcase_p (fun h8=>?_) (fun h8=>?_)<;>conv=>whnf
   ·refine aP ?_;rw [z5o fun h=>by have:=(h.one _ hmem).body _ (List.getElem_mem hq2);omega];exact ret_of rfl rfl
   refine aP ?_;refine ⟨q+1,⟨by omega,fun o h=>?_⟩,by omega,(le0 (zAb ⟨rfl,rfl,rfl,rfl,rfl,rfl,rfl,rfl,trivial⟩ trivial ⟨rfl,rfl,rfl,rfl⟩))⟩;rw [zAs hq2] at h
   rcases List.mem_append.1 h with h|h
   ·exact hR2 o h
   ·simp at h;subst h;omega
  ·have hql:q=work[k].length:=by omega
   subst hql;rw [List.take_length] at hR2;have es:=yI hk2;refine aP ?_;rw [show (((work.take k).flatten.length:Nat):Int)+(((work[k].map zGl).length:Nat):Int)=(((work.take (k+1)).flatten.length:Nat):Int) by omega];refine ⟨k+1,⟨by omega,fun l h=>?_⟩,by omega,(le0 (zAb ⟨rfl,rfl,rfl,rfl,trivial⟩ trivial ⟨rfl,rfl,rfl,rfl⟩))⟩;rw [zAs hk2] at h
   rcases List.mem_append.1 h with h|h
   ·exact hR l h
   ·simp at h;subst h;exact ⟨by omega,hR2⟩
 ·have hkl:k=work.length:=by omega
  subst hkl;rw [List.take_length] at hR⊢;rw [yVl ⟨by omega,by omega,hR⟩];refine aP ?_;exact ret_of rfl rfl
open Classical in
noncomputable def zFs (st:Nst) (x:Pg):Nst:=if pgR x=true then (putD st.1 x,ud st.2 x.1.toNat x) else st
noncomputable def new9 (l:List Pg):Nst:=(l.take 16).foldl zFs new0
structure NI9 (st:Nst):Prop where
 rest:Rest st.1
 len:st.1.length=35
 z:st.1[0]?.getD ByteArray.empty=zDg
 on:OnD st.1 [] st.2 2147483647
theorem NI9.new:NI9 new0:=⟨zOt,List.length_replicate ..,yQg,OnD.new (by decide)⟩
theorem NI9.put {st:Nst} (h:NI9 st) {x:Pg} (hx:pgR x=true):NI9 (putD st.1 x,ud st.2 x.1.toNat x):=by
 have hv:x.2.1<=2147483647:=(pgR_out.1 hx).2.2.2.1;obtain ⟨_,_,r1,r2⟩:=zLg h.rest hx;obtain ⟨p,hp,p1,p16⟩:=zVk hx;refine ⟨r1,r2.trans h.len,z5m h.rest,⟨fun q q1 q16 _=>?_,fun q q1 q16=>?_,fun q=>?_⟩⟩
 ·rw [z7r h.rest hx q1 q16]
  by_cases e:x.1=(q:Int)
  ·rw [if_pos e,show x.1.toNat=q by omega];simp only [zDk];rw [if_neg (by omega)]
  ·rw [if_neg e];simp only [];rw [zDo _ _ (by omega)];exact h.on.dsk q q1 q16 (fun _ h=>by cases h)
 ·by_cases e:x.1=(q:Int)
  ·right
   rw [show x.1.toNat=q by omega];simp only [zDk];exact ⟨hx,e⟩
  ·simp only [];rw [zDo _ _ (by omega)];exact h.on.okp q q1 q16
 ·by_cases e:q=x.1.toNat
  ·subst e
   simp only [zDk];exact hv
  ·simp only []
   rw [zDo _ _ e];exact h.on.vb q
theorem NI9.step {st:Nst} (h:NI9 st) (x:Pg):NI9 (zFs st x):=by
 rw [zFs]
 split
 ·rename_i g;exact h.put g
 ·exact h
theorem NI9.fold:∀ (l:List Pg) {st:Nst},NI9 st->NI9 (l.foldl zFs st)
 | [],_,h=>h
 |x::r,_,h=>NI9.fold r (h.step x)
theorem NI9.ofG (l:List Pg):NI9 (new9 l):=NI9.fold _ NI9.new
theorem NI9.us {st:Nst} (h:NI9 st):Us ⟨st.1,[]⟩:=h.rest.us
theorem zWe {st:Nst} (h:NI9 st) {x:Pg} (hx:pgR x=true):zJx ⟨st.1,[]⟩ x=zGe x.1.toNat (putB x) /\runM ⟨st.1,[]⟩ (zGe x.1.toNat (putB x)) 99=⟨putD st.1 x,[]⟩:=by
 obtain ⟨p,hp,p1,p16⟩:=zVk hx;have hr:=pgR_out.1 hx;refine ⟨?_,?_⟩
 ·rw [zJx,if_neg (fun g=>g ⟨h.us,by omega,by omega⟩),if_neg (fun g=>by omega),if_pos hx]
 ·rw [runM];show ((zGe x.1.toNat (putB x)).take 99).foldl zEc _=_;rw [List.take_of_length_le (show 10<=99 by decide),zLb h.rest (by omega) (by omega) (zDv (pgR_out.1 hx).2.2.2.2)];rfl
theorem yFm {st:Nst} (h:NI9 st) {x:Pg} (hx:pgR x=false) (hv:x.2.1≠0):zJx ⟨st.1,[]⟩ x=[]:=by
 rw [zJx]
 split
 ·rfl
 ·rw [if_neg (fun g=>hv g.1),if_neg (by rw [hx];decide)]
theorem pL_p {P:Nat->Pg} {j q:Nat} (e:j=q*3) (h:q<17):((pL P).drop j).take 3=encP (P q):=by
 subst e
 match q,h with
 |0,_=>rfl
 |1,_=>rfl
 |2,_=>rfl
 |3,_=>rfl
 |4,_=>rfl
 |5,_=>rfl
 |6,_=>rfl
 |7,_=>rfl
 |8,_=>rfl
 |9,_=>rfl
 |10,_=>rfl
 |11,_=>rfl
 |12,_=>rfl
 |13,_=>rfl
 |14,_=>rfl
 |15,_=>rfl
 |16,_=>rfl
 |q+17,h=>exact absurd h (by omega)
theorem pL_i {P:Nat->Pg} {j q:Nat} (e:j=q*3) (h:q<17):(pL P)[j]?=some (.int .i64 (P q).1):=by
 have:=congrArg (·[0]?) (pL_p (P:=P) e h);rw [List.getElem?_take,if_pos (by decide),List.getElem?_drop] at this;exact this
theorem yUr {P:Nat->Pg} {j q:Nat} (e:j=q*3) (h:q<17) (x:Pg):zAx (pL P) j (encP x)=pL (ud P q x):=by
 subst e
 match q,h with
 |0,_=>rfl
 |1,_=>rfl
 |2,_=>rfl
 |3,_=>rfl
 |4,_=>rfl
 |5,_=>rfl
 |6,_=>rfl
 |7,_=>rfl
 |8,_=>rfl
 |9,_=>rfl
 |10,_=>rfl
 |11,_=>rfl
 |12,_=>rfl
 |13,_=>rfl
 |14,_=>rfl
 |15,_=>rfl
 |16,_=>rfl
 |q+17,h=>exact absurd h (by omega)
def bgAt (P:Nat->Pg) (k:Nat):Option Pg:=if (P (k+1)).1≠0 then some (P (k+1)) else none
def bgN (P:Nat->Pg) (k:Nat):List Pg:=(List.range k).filterMap (bgAt P)
noncomputable def bg19 (pages:List Pg):List Pg:=bgN (new9 pages).2 16
noncomputable def begM (n:Nat) (pages:List Pg) (work:List (List MOp)):MS:=zSi ⟨zK n,⟨(new9 pages).1,[]⟩,0⟩ n work
set_option maxRecDepth 20000 in
set_option maxHeartbeats 16000000 in
theorem yDt (many:Int) (m0:0<=many) (m1:many<=255) (pages:List Pg) (hpl:pages.length<=9223372036854775807) (work:List (List MOp)) (h1:1<=work.length) (h4:work.length<=4) (h60:∀ l∈work,l.length<=60) (n:Nat) (hn:1+many%8=(n:Int)):
  yDp Tryz.prog 17 [.int .u8 many,.lst (pages.map encP),.lst (work.map zEb)] (mSC (begM n pages work)) [.lst ((bg19 pages).map encP),.bool true]:=by
 have hm:(pages.map encP).length=pages.length:=List.length_map ..
 have hN:=NI9.ofG pages
 have hop:zQy ⟨(new9 pages).1,[]⟩ n=(⟨zK n,⟨(new9 pages).1,[]⟩,0⟩,0):=by
  have:=z4w hN.rest hN.z (n:=n) (by omega) (by omega)
  rw [Int.toNat_natCast] at this;exact this
 have hNew:=zYd ⟨(new9 pages).1,[]⟩ n work _ hop hN.us h1 h4 h60;refine yBy Tryz.func17 3 rfl (by kernel_rfl) (aP ?_);refine zAa yHk (aW ?_);refine aP ?_;refine zAq (ι:=Nat×Nst) (fun k=>[(0,.d (.int .u8 many)),(1,.d (.lst (pages.map encP))),(2,.d (.lst (work.map zEb))),(9,.ptr 9 0 0),(11,.ptr 11 0 0),(12,.d (.int .i64 k.1))])
  (fun k=>[(9,.box [.d (.lst (k.2.1.map encB)),.d (.lst [])] false),(11,.box ((pL k.2.2).map AV.d) false)])
  (fun k=>k.1<=pages.length/\k.1<=16/\k.2=(pages.take k.1).foldl zFs new0/\NI9 k.2) (fun k=>16-k.1) (0,new0) ⟨by omega,by decide,rfl,NI9.new⟩ (le0 (zAb ⟨rfl,rfl,rfl,rfl,rfl,rfl,trivial⟩ ⟨rfl,rfl,trivial⟩ ⟨rfl,rfl,rfl,rfl⟩)) ?_
 rintro ⟨k,st⟩ ⟨hk,hk16,hst,hI⟩;simp only at hk hk16 hst hI⊢
 have hfin:(¬k<pages.length) \/ (¬k<16)->st=new9 pages:=fun h=>by
  rw [hst,new9]
  by_cases e:k=16
  ·subst e;rfl
  ·have:k=pages.length:=by omega
   rw [List.take_of_length_le (by omega),List.take_of_length_le (by omega)]
 conv=>whnf
 refine bcase_p (fun h5=>?_) (fun h5=>?_)<;>conv=>whnf
 rotate_left
 ·refine aP ?_;have e:=hfin (by omega);subst e;refine zAq (ι:=Nat) (fun k=>[(0,.d (.int .u8 many)),(2,.d (.lst (work.map zEb))),(9,.ptr 9 0 0),(11,.ptr 11 0 0),(14,.own 76),(15,.d (.int .i64 ((k:Int)+1)))])
   (fun k=>[(9,.box [.d (.lst ((new9 pages).1.map encB)),.d (.lst [])] false),(11,.box ((pL (new9 pages).2).map AV.d) false),(76,.row ((bgN (new9 pages).2 k).map encP) 3 false)])
   (fun k=>k<=16) (fun k=>16-k) 0 (Nat.zero_le _) (le1 (.row 14 76 3) ⟨rfl,rfl⟩ (zAb ⟨rfl,rfl,rfl,rfl,rfl,rfl,trivial⟩ ⟨rfl,rfl,rfl,trivial⟩ ⟨rfl,rfl,rfl,rfl⟩)) ?_
  intro k hk;have hln:(bgN (new9 pages).2 k).length<=k:=zXq (bgAt (new9 pages).2) k
  have hml:((bgN (new9 pages).2 k).map encP).length=(bgN (new9 pages).2 k).length:=List.length_map ..
  have es:bgN (new9 pages).2 (k+1)=bgN (new9 pages).2 k++(bgAt (new9 pages).2 k).toList:=zQh (bgAt (new9 pages).2) k;have hlen:(pL (new9 pages).2).length=51:=rfl;rw [bgAt] at es
  conv=>whnf
  refine bcase_p (fun h5=>?_) (fun h5=>?_)<;>conv=>whnf
  ·refine aP ?_;refine zBp (by omega) (by omega) (w0 ?_);rw [show ((k:Int)+1).toNat=k+1 by omega]
   try (refine zAg rfl ?_)
   refine (z0s (l:=pL (new9 pages).2) (.int .i64 ((new9 pages).2 (k+1)).1) (by first|rfl|simp only [zHx]) (pL_i (by simp only [szs];omega) (by omega)) ?_)
   conv=>whnf
   refine aA ?_
   refine bcase_n (fun h7=>?_) (fun h7=>?_)<;>conv=>whnf
   ·rw [if_pos h7] at es;refine aP ?_;refine zBp (by omega) (by omega) (w0 ?_);rw [show ((k:Int)+1).toNat=k+1 by omega]
    try (refine zAg rfl ?_)
    refine (z0r (l:=pL (new9 pages).2) (l2:=encP ((new9 pages).2 (k+1))) (by first|rfl|simp only [zHx]) (by first|omega|(simp only [szs];omega)) (pL_p (by simp only [szs];omega) (by omega)) ?_)
    conv=>whnf
    refine aA ?_;refine aP ?_;refine zAj 1000 100 (by show ((bgN (new9 pages).2 k).map encP).length+1<=1000;omega) (by decide) (by decide) (by decide) (aP ?_);rw [show (k:Int)+1+1=((k+1:Nat):Int)+1 by omega];exact ⟨k+1,by omega,by omega,le0 (zAb ⟨rfl,rfl,rfl,rfl,rfl,rfl,trivial⟩ ⟨rfl,rfl,by rw [es,List.map_append];rfl,trivial⟩ ⟨rfl,rfl,rfl,rfl⟩)⟩
   ·rw [if_neg (by simpa using h7)] at es;refine aP ?_;rw [show (k:Int)+1+1=((k+1:Nat):Int)+1 by omega];exact ⟨k+1,by omega,by omega,le0 (zAb ⟨rfl,rfl,rfl,rfl,rfl,rfl,trivial⟩ ⟨rfl,rfl,by rw [es,Option.toList,List.append_nil];rfl,trivial⟩ ⟨rfl,rfl,rfl,rfl⟩)⟩
  ·have:k=16:=by omega
   subst this;refine aP ?_;refine zDe (by decide) m0 (aP ?_);rw [hn];refine zNp hNew (Nat.le_of_ble_eq_true rfl) (aP ?_);refine ⟨6,.tmp 7,[.tmp 8],2000672,_,rfl,rfl,rfl,?_,rfl,rfl⟩;refine .inl ⟨2000673,rfl,rfl,rfl,?_⟩
   repeat refine ⟨rfl,?_⟩
   exact .inl ⟨2000674,rfl,rfl,rfl,trivial⟩
 refine bcase_p (fun h6=>?_) (fun h6=>?_)<;>conv=>whnf
 rotate_left
 ·refine aP ?_;have e:=hfin (by omega);subst e;refine zAq (ι:=Nat) (fun k=>[(0,.d (.int .u8 many)),(2,.d (.lst (work.map zEb))),(9,.ptr 9 0 0),(11,.ptr 11 0 0),(14,.own 76),(15,.d (.int .i64 ((k:Int)+1)))])
   (fun k=>[(9,.box [.d (.lst ((new9 pages).1.map encB)),.d (.lst [])] false),(11,.box ((pL (new9 pages).2).map AV.d) false),(76,.row ((bgN (new9 pages).2 k).map encP) 3 false)])
   (fun k=>k<=16) (fun k=>16-k) 0 (Nat.zero_le _) (le1 (.row 14 76 3) ⟨rfl,rfl⟩ (zAb ⟨rfl,rfl,rfl,rfl,rfl,rfl,trivial⟩ ⟨rfl,rfl,rfl,trivial⟩ ⟨rfl,rfl,rfl,rfl⟩)) ?_
  intro k hk;have hln:(bgN (new9 pages).2 k).length<=k:=zXq (bgAt (new9 pages).2) k
  have hml:((bgN (new9 pages).2 k).map encP).length=(bgN (new9 pages).2 k).length:=List.length_map ..
  have es:bgN (new9 pages).2 (k+1)=bgN (new9 pages).2 k++(bgAt (new9 pages).2 k).toList:=zQh (bgAt (new9 pages).2) k;have hlen:(pL (new9 pages).2).length=51:=rfl;rw [bgAt] at es
  conv=>whnf
  refine bcase_p (fun h5=>?_) (fun h5=>?_)<;>conv=>whnf
  ·refine aP ?_;refine zBp (by omega) (by omega) (w0 ?_);rw [show ((k:Int)+1).toNat=k+1 by omega]
   try (refine zAg rfl ?_)
   refine (z0s (l:=pL (new9 pages).2) (.int .i64 ((new9 pages).2 (k+1)).1) (by first|rfl|simp only [zHx]) (pL_i (by simp only [szs];omega) (by omega)) ?_)
   conv=>whnf
   refine aA ?_
   refine bcase_n (fun h7=>?_) (fun h7=>?_)<;>conv=>whnf
   ·rw [if_pos h7] at es;refine aP ?_;refine zBp (by omega) (by omega) (w0 ?_);rw [show ((k:Int)+1).toNat=k+1 by omega]
    try (refine zAg rfl ?_)
    refine (z0r (l:=pL (new9 pages).2) (l2:=encP ((new9 pages).2 (k+1))) (by first|rfl|simp only [zHx]) (by first|omega|(simp only [szs];omega)) (pL_p (by simp only [szs];omega) (by omega)) ?_)
    conv=>whnf
    refine aA ?_;refine aP ?_;refine zAj 1000 100 (by show ((bgN (new9 pages).2 k).map encP).length+1<=1000;omega) (by decide) (by decide) (by decide) (aP ?_);rw [show (k:Int)+1+1=((k+1:Nat):Int)+1 by omega];exact ⟨k+1,by omega,by omega,le0 (zAb ⟨rfl,rfl,rfl,rfl,rfl,rfl,trivial⟩ ⟨rfl,rfl,by rw [es,List.map_append];rfl,trivial⟩ ⟨rfl,rfl,rfl,rfl⟩)⟩
   ·rw [if_neg (by simpa using h7)] at es;refine aP ?_;rw [show (k:Int)+1+1=((k+1:Nat):Int)+1 by omega];exact ⟨k+1,by omega,by omega,le0 (zAb ⟨rfl,rfl,rfl,rfl,rfl,rfl,trivial⟩ ⟨rfl,rfl,by rw [es,Option.toList,List.append_nil];rfl,trivial⟩ ⟨rfl,rfl,rfl,rfl⟩)⟩
  ·have:k=16:=by omega
   subst this;refine aP ?_;refine zDe (by decide) m0 (aP ?_);rw [hn];refine zNp hNew (Nat.le_of_ble_eq_true rfl) (aP ?_);refine ⟨6,.tmp 7,[.tmp 8],2000672,_,rfl,rfl,rfl,?_,rfl,rfl⟩;refine .inl ⟨2000673,rfl,rfl,rfl,?_⟩
   repeat refine ⟨rfl,?_⟩
   exact .inl ⟨2000674,rfl,rfl,rfl,trivial⟩
 have hk2:k<pages.length:=by omega
 have en:(pages.take (k+1)).foldl zFs new0=zFs st pages[k]:=by rw [zAs hk2,List.foldl_append,<-hst];rfl
 refine aP ?_;refine zAd (by omega) (w0 ?_);refine zAc (x:=encP pages[k]) (by simp [hk2]) (aW ?_);refine zAa (yKt ⟨st.1,[]⟩ pages[k]) (aW ?_);obtain ⟨x,hx⟩:∃ x,pages[k]=x:=⟨_,rfl⟩
 have hxs:(pages.map encP)[k]?=some (encP x):=by simp [hk2,hx]
 rw [hx] at en⊢
 have skip:¬(pgR x=true)->(pages.take (k+1)).foldl zFs new0=st:=fun g=>by rw [en,zFs,if_neg g]
 have hj:((zJx ⟨st.1,[]⟩ x).map encJ).length=(zJx ⟨st.1,[]⟩ x).length:=List.length_map ..
 refine aP ?_
 refine bcase_p (fun h7=>?_) (fun h7=>?_)<;>conv=>whnf
 ·refine aP ?_
  exact ⟨(k+1,st),⟨by simp only [];omega,by simp only [];omega,(skip fun g=>by
   rw [hj,(zWe hI g).1] at h7
   exact absurd h7 (show ¬((10:Nat):Int)=0 by decide)).symm,hI⟩,by simp only [];omega,(le0 (zAb ⟨rfl,rfl,rfl,rfl,rfl,rfl,trivial⟩ ⟨rfl,rfl,trivial⟩ ⟨rfl,rfl,rfl,rfl⟩))⟩
 refine zAd (by omega) (w0 ?_);refine zAc hxs (aP ?_)
 refine bcase_p (fun h8=>?_) (fun h8=>?_)<;>conv=>whnf
 ·refine aP ?_;exact ⟨(k+1,st),⟨by simp only [];omega,by simp only [];omega,(skip fun g=>by have:=(pgR_out.1 g).2.2.1;omega).symm,hI⟩,by simp only [];omega,(le0 (zAb ⟨rfl,rfl,rfl,rfl,rfl,rfl,trivial⟩ ⟨rfl,rfl,trivial⟩ ⟨rfl,rfl,rfl,rfl⟩))⟩
 have hR:pgR x=true:=by
  cases e:pgR x with
  |true=>rfl
  |false=>
   rw [hj,yFm hI e h8] at h7;exact absurd rfl h7
 obtain ⟨r1,r2⟩:=zWe hI hR;rw [r1];refine aP ?_;refine zAa (yVd ⟨st.1,[]⟩ (zGe x.1.toNat (putB x)) 99 (show (10:Nat) <=1000000 by decide)) (aW ?_);rw [r2];refine aP ?_;obtain ⟨q,hq,q1,q16⟩:=zVk hR;have hI2:=hI.put hR;have en2:=en;rw [zFs,if_pos hR] at en2;have hlen:(pL st.2).length=51:=rfl;refine zAd (by omega) (w0 ?_);refine zAc hxs (aP ?_);refine zAd (by omega) (w0 ?_);refine zAc hxs (aP ?_);refine zBp (by omega) (by omega) (w0 ?_)
 try (refine zAg rfl ?_)
 refine (yPh (l:=pL st.2) (l2:=encP x) (l3:=pL (ud st.2 x.1.toNat x)) (by first|rfl|simp only [zHx]) rfl (by first|omega|(simp only [szs];omega)) (by first|omega|(simp only [szs];omega)) rfl (yUr (by simp only [szs];omega) (by omega) _) ?_)
 conv=>whnf
 refine aA ?_;exact ⟨(k+1,(putD st.1 x,ud st.2 x.1.toNat x)),⟨by simp only [];omega,by simp only [];omega,en2.symm,hI2⟩,by simp only [];omega,(le0 (zAb ⟨rfl,rfl,rfl,rfl,rfl,rfl,trivial⟩ ⟨rfl,rfl,trivial⟩ ⟨rfl,rfl,rfl,rfl⟩))⟩
theorem Inv.wr9 {p P W u} (h:Inv p P W 2147483647 u) {q i:Nat} (hA:AtF p.f (q:Int) i) {b:ByteArray} (hb:b.size<=16) (hv:(P q).2.1<2147483647) {l:List (Int×Int)} (hr:Dt.rightB l=true) (hl:∀ y∈l,(y∈p.f.dt\/y.1=(q:Int)) /\y.2<=p.now) (hl2:∀ y∈p.f.dt,y∈l) (hd:∃ y∈l,y.1=(q:Int)):
  Inv ⟨⟨p.f.fr,p.f.hand,p.f.tb,p.f.pg.set i (wrPg (p.f.pg[i]'hA.hp) b),l⟩,p.d,p.now⟩ (ud P q (wrPg (P q) b)) W 2147483647 u:=by
 have hi:=hA.hi;have hip:=hA.hp;have hg:=pgR_out.1 hA.pgr;have ePg:=h.at_ q i hA;rw [<-ePg] at hv;have hx:pgR (wrPg (p.f.pg[i]'hA.hp) b)=true:=pgR_out.2 ⟨hg.1,hg.2.1,by show 1<= (p.f.pg[i]'hA.hp).2.1+1;omega,by show (p.f.pg[i]'hA.hp).2.1+1<=_;omega,hb⟩
 have hm:=FM.wrote hA hx hA.pg hr fun y hy=>(hl y hy).1
 refine ⟨⟨hm,h.pj.rest,h.pj.ca,h.pj.z0,h.pj.n0,h.pj.n1,fun x hx=>(hl x hx).2⟩,h.pins,fun k j hB=>?_,⟨fun k k1 k16 hk=>?_,fun k k1 k16=>?_,fun k=>?_⟩,h.ub⟩
 ·have hC:=zEd h.pj.fm (by have:=hB.p1;omega) hB.hi hB.fr;have hj2:j<(p.f.pg.set i (wrPg (p.f.pg[i]'hA.hp) b)).length:=hB.hp;show (p.f.pg.set i (wrPg (p.f.pg[i]'hA.hp) b))[j]'hj2=_
  by_cases e:k=q
  ·subst e;have:j=i:=hA.uni hC.hi hC.fr;subst this;rw [List.getElem_set_self,zDk,ePg]
  ·have hne:i≠j:=fun e2=>by
    subst e2;have:=hA.fr.symm.trans hC.fr;omega
   rw [List.getElem_set_ne hne,zDo _ _ e];exact h.at_ k j hC
 ·have hne:k≠q:=fun e=>by subst e;obtain ⟨y,hy,ey⟩:=hd;exact hk y hy ey
  rw [zDo _ _ hne]
  exact h.on.dsk k k1 k16 fun x hx=>hk x (hl2 x hx)
 ·by_cases e:k=q
  ·subst e;rw [zDk,<-ePg];exact .inr ⟨hx,hA.pg⟩
  ·rw [zDo _ _ e];exact h.on.okp k k1 k16
 ·by_cases e:k=q
  ·subst e;rw [zDk,<-ePg];show (p.f.pg[i]'hA.hp).2.1+1<=2147483647;omega
  ·rw [zDo _ _ e];exact h.on.vb k
theorem yTz {p P W u} (h:Inv p P W 2147483647 u) {q i:Nat} (hA:AtF p.f (q:Int) i):zCc p.f q=((i:Int),0):=by
 rw [zCc,if_pos (zGg.2 hA.right),(zCa hA.right.tb).2 ⟨hA.p1,hA.mem⟩];rfl
theorem write9 {p P W u} (h:Inv p P W 2147483647 u) {q i:Nat} (hv:(P q).2.1<2147483647) (hA:AtF p.f (q:Int) i) (hp:(p.f.fr[i]'hA.hi).2.1≠0) {b:ByteArray} (hb:b.size<=16):
  ∃ f',zBr p.f q b p.now=(f',0) /\Inv ⟨f',p.d,p.now⟩ (ud P q (wrPg (P q) b)) W 2147483647 u/\atP f'.pg i=wrPg (P q) b/\f'.fr=p.f.fr:=by
 have hip:=hA.hp;have hi:=hA.hi;have e:=yTz h hA;have ePg:=h.at_ q i hA;have hvq:=hv;rw [<-ePg] at hvq;have hm:=yBk h.pj.fm hA.p1 hA.p16 h.pj.n0 h.pj.n1 h.pj.dt;obtain ⟨c1,c2,c3,c4⟩:=zLu (l:=p.f.dt) (p:=(q:Int)) (t:=p.now) (by rw [hm]);rw [hm] at c1 c2 c3 c4;refine ⟨⟨p.f.fr,p.f.hand,p.f.tb,p.f.pg.set i (wrPg (p.f.pg[i]'hA.hp) b),(if 0<=Dt.placeG p.f.dt q 0 then p.f.dt else p.f.dt++[((q:Int),p.now)])⟩,?_,?_,?_,rfl⟩
 ·rw [zBr,e,if_neg (fun q=>q rfl),Int.toNat_natCast,zCg hi,if_neg hp,if_neg (by omega),zDq hip,if_neg (by omega),hm,if_neg (fun q=>q rfl)]
 ·refine h.wr9 hA hb hv c1 (fun y hy=>⟨c2 y hy,?_⟩) c3 c4
  split at hy
  ·exact h.pj.dt y hy
  ·rcases List.mem_append.1 hy with g|g
   ·exact h.pj.dt y g
   ·rw [List.mem_singleton] at g;subst g;exact Int.le_refl _
 ·show atP (p.f.pg.set i _) i=_;rw [zDq (by rw [List.length_set];exact hip),List.getElem_set_self,ePg]
theorem write7 {p P W u} (h:Inv p P W 2147483647 u) {q i:Nat} (hv:(P q).2.1=2147483647) (hA:AtF p.f (q:Int) i) (hp:(p.f.fr[i]'hA.hi).2.1≠0) {b:ByteArray} (hb:b.size<=16):(zBr p.f q b p.now).2=7:=by
 have e:=yTz h hA;have hip:=hA.hp;have ePg:=h.at_ q i hA;rw [zBr,e,if_neg (fun q=>q rfl),Int.toNat_natCast,zCg hA.hi,if_neg hp,if_neg (by omega),zDq hip,if_pos (by rw [ePg];omega)]
theorem yQs {p P W u} (h:Inv p P W 2147483647 u) (hu0:0<=u) (hu:u<2147483647) {q:Nat} (h1:1<=q) (h16:q<=16) {n:Nat} (hl:p.f.fr.length=n):Did p 2147483647 (u+1) (zHr P W n 1 q) (zDh p q):=by
 rw [zHr,if_neg (show ¬((1:Int)=2/\ (P q).1≠0) from fun g=>absurd g.1 (by decide)),if_neg (show ¬((1:Int)=2) by decide)];rw [zDh]
 rcases h.where h1 with hn|⟨i,hA⟩
 ·rw [zCp h.pj.fm hn (by omega),if_neg (show ¬false=true by decide),h.pj.get h1 h16,h.on.dsk q h1 h16 (h.out h1 hn)]
  by_cases hz:(P q).1=0
  ·rw [if_pos hz,if_pos ⟨rfl,hz⟩,if_pos (show (3:Int)≠0 by decide)];exact Did.same (h.mono (Int.le_refl _) (by omega)) zP 3
  ·rw [if_neg hz,if_neg (fun g=>hz g.2),if_neg (show ¬((0:Int)≠0) from fun g=>g rfl)];obtain ⟨x1,x2⟩:=h.on.nz h1 h16 hz;exact zSy (h.mono (Int.le_refl _) (show u<=u+1 by omega)) (by omega) h1 h16 hn x1 x2 false (fun _=>rfl) (h.on.vb q) hl
 ·have hi:=hA.hi;have hip:=hA.hp;have hk:=zBq.1 (h.pj.fm.ck.all i hi);have hub:=h.ub q;have hw:=h.wat hA;rw [hw] at hub;have hpin:=yC hA (by omega)
  have hbz:¬(W q=0/\bn W 16=n):=fun g=>by
   rw [<-hl] at g;exact h.busy.1 g.2 i hi (by rw [<-hw];exact g.1)
  rw [if_neg (fun g=>h.nz hA g.2),if_neg hbz,findF_at hA,if_pos rfl,hpin,if_neg (fun g=>g rfl),Int.toNat_natCast]
  have e1:atP (zRm p.f i (z1z p.f.fr[i])).pg i=P q:=by
   rw [<-h.at_ q i hA];exact zDq hip
  have hin:=h.pin hA (y:=z1z p.f.fr[i]) (zBq.2 ⟨hk.1,hk.2.1,by show 0<= (p.f.fr[i]).2.1+1;omega,by show (p.f.fr[i]).2.1+1<=_;omega⟩) hA.fr (u':=u+1) (by show (p.f.fr[i]).2.1+1<=_;omega) (by omega);rw [z1w,e1];refine ⟨rfl,rfl,?_,rfl,by show (p.f.fr.set i _).length=_;rw [List.length_set],rfl,by simp,fun g=>absurd rfl g⟩
  rw [hw];exact hin
theorem yHf {p P W u} (h:Inv p P W 2147483647 u) (hu0:0<=u) (hu:u<2147483647) {q:Nat} (h1:1<=q) (h16:q<=16) {n:Nat} (hl:p.f.fr.length=n):Did p 2147483647 (u+1) (zHr P W n 2 q) (zBs p q):=by
 rw [zHr,if_neg (show ¬((2:Int)=1/\ (P q).1=0) from fun g=>absurd g.1 (by decide)),if_pos (show ((2:Int)=2) from rfl)];rw [zBs]
 rcases h.where h1 with hn|⟨i,hA⟩
 ·rw [zCp h.pj.fm hn (by omega),if_neg (show ¬false=true by decide),h.pj.get h1 h16,h.on.dsk q h1 h16 (h.out h1 hn)]
  by_cases hz:(P q).1=0
  ·rw [if_pos hz,if_neg (fun g=>g.2 hz),if_pos rfl];exact zSy (h.mono (Int.le_refl _) (show u<=u+1 by omega)) (by omega) h1 h16 hn (x:=newP q) (yBz (by omega) (by omega)) rfl true (fun g=>by cases g) (by show (1:Int) <=2147483647;decide) hl
  ·rw [if_neg hz,if_pos ⟨rfl,hz⟩,if_neg (show ¬(0:Int)=3 by decide),if_pos rfl];exact Did.same (h.mono (Int.le_refl _) (by omega)) zP 4
 ·rw [if_pos ⟨rfl,h.nz hA⟩,findF_at hA,if_pos rfl];exact Did.same (h.mono (Int.le_refl _) (by omega)) zP 4
theorem yAy {p P W u} (h:Inv p P W 2147483647 u) {q:Nat} (h1:1<=q) (h16:q<=16):zEx p q=decide (0<W q):=by
 rw [zEx]
 rcases h.where h1 with hn|⟨i,hA⟩
 ·rw [zCp h.pj.fm hn (by omega),h.wout h1 h16 hn];rfl
 ·rw [findF_at hA,h.wat hA,Int.toNat_natCast,zCg hA.hi];rfl
theorem z8r {p P W u} (h:Inv p P W 2147483647 u) {q i:Nat} (hA:AtF p.f (q:Int) i) (hz:(p.f.fr[i]'hA.hi).2.1≠0) (b:ByteArray) (h1:1<=q) (h16:q<=16):
  zBb p (3,(q:Int),b)=(p,P q,[],0) /\
  (∃ p' r,zBb p (4,(q:Int),b)=(p',r.2,[],r.1) /\p'.now=p.now/\p'.f.fr.length=p.f.fr.length/\
   if 16<b.size then r=(5,zP) /\p'=p else if (P q).2.1=2147483647 then r=(7,zP) /\p'=p else r=(0,wrPg (P q) b) /\Inv p' (ud P q (wrPg (P q) b)) W 2147483647 u) /\
  ∃ p',zBb p (5,(q:Int),b)=(p',zP,[],0) /\Inv p' P (ud W q (W q-1)) 2147483647 u/\p'.now=p.now/\p'.f.fr.length=p.f.fr.length:=by
 have hi:=hA.hi;have hip:=hA.hp;have hw:=h.wat hA;have hko:=zBq.1 (h.pj.fm.ck.all i hi);refine ⟨?_,?_,?_⟩
 ·rw [zIi (show 1<= (q:Int) by omega) (show (q:Int) <=16 by omega) (.inl rfl),zLa (a:=(3,(q:Int),b)) hA hz,if_neg (show ¬(3:Int)=4 by decide),if_neg (show ¬(3:Int)=5 by decide),h.at_ q i hA]
 ·rw [zIi (show 1<= (q:Int) by omega) (show (q:Int) <=16 by omega) (.inr (.inl rfl)),zLa (a:=(4,(q:Int),b)) hA hz,if_pos rfl]
  by_cases hb:16<b.size
  ·have e:zBr p.f q b p.now=(p.f,5):=by
    rw [zBr,yTz h hA,if_neg (fun q=>q rfl),Int.toNat_natCast,zCg hi,if_neg hz,if_pos hb]
   refine ⟨p,(5,zP),?_,rfl,rfl,?_⟩
   ·simp only [e];rfl
   ·rw [if_pos hb];exact ⟨rfl,rfl⟩
  ·by_cases hv:(P q).2.1=2147483647
   ·have e:=write7 h hv hA hz (b:=b) (by omega);refine ⟨p,(7,zP),?_,rfl,rfl,?_⟩
    ·simp only [e];rfl
    ·rw [if_neg hb,if_pos hv];exact ⟨rfl,rfl⟩
   ·have hvb:=h.on.vb q;obtain ⟨f',e1,e2,e3,e4⟩:=write9 h (by omega) hA hz (b:=b) (by omega);refine ⟨⟨f',p.d,p.now⟩,(0,wrPg (P q) b),?_,rfl,by show f'.fr.length=_;rw [e4],?_⟩
    ·simp only [e1];rw [if_neg (fun g=>g rfl),e3]
    ·rw [if_neg hb,if_neg hv];exact ⟨rfl,e2⟩
 ·rw [zIi (show 1<= (q:Int) by omega) (show (q:Int) <=16 by omega) (.inr (.inr rfl)),zLa (a:=(5,(q:Int),b)) hA hz,if_neg (show ¬(5:Int)=4 by decide),if_pos rfl,zRl hA hz,if_neg (fun g=>g rfl)];have hub:=h.ub q;rw [hw] at hub;have hin:=h.pin hA (y:=zGd p.f.fr[i]) (zBq.2 ⟨hko.1,hko.2.1,by show 0<= (p.f.fr[i]).2.1-1;omega,by show (p.f.fr[i]).2.1-1<=_;omega⟩) hA.fr (u':=u) (by show (p.f.fr[i]).2.1-1<=_;omega) (Int.le_refl _);refine ⟨_,rfl,?_,rfl,by show (p.f.fr.set i _).length=_;rw [List.length_set]⟩
  rw [hw];exact hin
def mdoc (P:Nat->Pg) (o:MOp):(Nat->Pg)×MRes:=
 if o.1=1 then (if (P o.2.1.toNat).1≠0 then (P,(4,zP)) else (ud P o.2.1.toNat (newP o.2.1.toNat),(0,newP o.2.1.toNat)))
 else if (P o.2.1.toNat).1=0 then (P,(3,zP))
 else if o.1=2 then (P,(0,P o.2.1.toNat))
 else if o.1=3 then (if 16<o.2.2.size then (P,(5,zP)) else if (P o.2.1.toNat).2.1=2147483647 then (P,(7,zP)) else (ud P o.2.1.toNat (wrPg (P o.2.1.toNat) o.2.2),(0,wrPg (P o.2.1.toNat) o.2.2)))
 else (ud P o.2.1.toNat zP,(0,zP))
structure DocI (p:PS) (P:Nat->Pg) (n:Nat):Prop where
 inv:Inv p P (fun _=>0) 2147483647 0
 len:p.f.fr.length=n
theorem Inv.u0 {p P u} (h:Inv p P (fun _=>0) 2147483647 u):Inv p P (fun _=>0) 2147483647 0:=⟨h.pj,h.pins,h.at_,h.on,fun _=>Int.le_refl _⟩
theorem yW (q:Nat):ud (ud (fun _=>(0:Int)) q 1) q ((ud (fun _=>(0:Int)) q 1) q-1)=fun _=>0:=by
 funext k
 by_cases e:k=q
 ·subst e;rw [zDk,zDk];rfl
 ·rw [zDo _ _ e,zDo _ _ e]
theorem yMk {p P u} (h:Inv p P (fun _=>0) 2147483647 u) (o:MOp) {q:Nat} (ho:o.2.1=(q:Int)) (h1:1<=q) (h16:q<=16) (r:MRes):zWr o (p,r)=(p,r):=by
 rw [zWr,if_neg];show ¬zEx p o.2.1=true
 rw [ho,yAy h h1 h16];decide
theorem yKg {p P u} {q:Nat} (h:Inv p P (ud (fun _=>0) q 1) 2147483647 u) (h1:1<=q) (h16:q<=16):∃ i,∃ hA:AtF p.f (q:Int) i,(p.f.fr[i]'hA.hi).2.1≠0:=by
 rcases h.where h1 with hn|⟨i,hA⟩
 ·have:=h.wout h1 h16 hn
  rw [zDk] at this;cases this
 ·refine ⟨i,hA,?_⟩
  rw [<-h.wat hA,zDk];decide
theorem ySe {p P u} {q:Nat} (h:Inv p P (ud (fun _=>0) q 1) 2147483647 u) (o:MOp) (ho:o.2.1=(q:Int)) (h1:1<=q) (h16:q<=16) (r:MRes):
  ∃ p',zWr o (p,r)=(p',r) /\Inv p' P (fun _=>0) 2147483647 0/\p'.now=p.now/\p'.f.fr.length=p.f.fr.length:=by
 obtain ⟨i,hA,hz⟩:=yKg h h1 h16;obtain ⟨_,_,p',e,i',n',l'⟩:=z8r h hA hz ByteArray.empty h1 h16;rw [yW] at i';refine ⟨p',?_,i'.u0,n',l'⟩
 have hp:zEx p o.2.1=true:=by rw [ho,yAy h h1 h16,zDk];rfl
 rw [zWr,if_pos hp];simp only [];rw [ho,e];simp only [];rw [if_neg (fun g=>g.2 rfl)]
theorem do1 (p:PS) {q:Nat} (h1:1<=q) (h16:q<=16) (b:ByteArray):zBb p (1,(q:Int),b)=zDh p q:=by
 rw [zBb,if_neg (show ¬((1:Int)<1\/ (8:Int)<1) by decide),if_neg (show ¬((1:Int)≠8/\ ((q:Int)<1\/16<(q:Int))) by omega),if_pos rfl]
theorem do2 (p:PS) {q:Nat} (h1:1<=q) (h16:q<=16) (b:ByteArray):zBb p (2,(q:Int),b)=zBs p q:=by
 rw [zBb,if_neg (show ¬((2:Int)<1\/ (8:Int)<2) by decide),if_neg (show ¬((2:Int)≠8/\ ((q:Int)<1\/16<(q:Int))) by omega),if_neg (show ¬(2:Int)=1 by decide),if_pos rfl]
theorem do6 (p:PS) {q:Nat} (h1:1<=q) (h16:q<=16) (b:ByteArray):zBb p (6,(q:Int),b)=zDx p q:=by
 rw [zBb,if_neg (show ¬((6:Int)<1\/ (8:Int)<6) by decide),if_neg (show ¬((6:Int)≠8/\ ((q:Int)<1\/16<(q:Int))) by omega),if_neg (show ¬(6:Int)=1 by decide),if_neg (show ¬(6:Int)=2 by decide),if_pos rfl]
theorem zYy {p p':PS} {x:Pg} {l:List Jo} {e k:Int} {ks:List Int} {o:MOp} {r:MRes} (h:zBb p (k,o.2.1,o.2.2)=(p',x,l,e)) (he:e≠0):actG o (k::ks) p r=(p',(e,zP)):=by
 rw [actG];simp only [h];rw [if_pos he]
theorem zWz {p p':PS} {x:Pg} {l:List Jo} {k:Int} {ks:List Int} {o:MOp} {r:MRes} (h:zBb p (k,o.2.1,o.2.2)=(p',x,l,0)):actG o (k::ks) p r=actG o ks p' (r.1,x):=by
 rw [actG];simp only [h];rw [if_neg (fun g=>g rfl)]
theorem yRe {n:Nat} (hn:1<=n) (q:Nat):¬((fun _=>(0:Int)) q=0/\bn (fun _=>(0:Int)) 16=n):=fun g=>by
 have:bn (fun _=>(0:Int)) 16=0:=rfl;omega
theorem work9 {p P n} (h:DocI p P n) (hn:1<=n) (o:MOp) (hr:refB o=false):
  (workP p o).2=(mdoc P o).2/\DocI (workP p o).1 (mdoc P o).1 n:=by
 obtain ⟨h,hl⟩:=h;obtain ⟨⟨k1,k4⟩,q1,q16⟩:=zSa hr;obtain ⟨k,id,b⟩:=o;simp only [] at k1 k4 q1 q16;obtain ⟨q,rfl⟩:∃ q:Nat,id=q:=⟨id.toNat,by omega⟩
 have h1:1<=q:=by omega
 have h16:q<=16:=by omega
 have key:∀ {p':PS} {P':Nat->Pg} {r:MRes},workP p (k,(q:Int),b)=(p',r)->Inv p' P' (fun _=>0) 2147483647 0->p'.f.fr.length=p.f.fr.length->mdoc P (k,(q:Int),b)=(P',r)->
   (workP p (k,(q:Int),b)).2=(mdoc P (k,(q:Int),b)).2/\DocI (workP p (k,(q:Int),b)).1 (mdoc P (k,(q:Int),b)).1 n:=by
  intro p' P' r e i m d;rw [e,d];exact ⟨rfl,i,m.trans hl⟩
 have hk:k=1\/k=2\/k=3\/k=4:=by omega
 by_cases hz:(P q).1=0
 ·rcases hk with rfl|hk
  ·have d:=yHf h (Int.le_refl _) (by decide) h1 h16 hl;rw [zHr,if_neg (fun g=>absurd g.1 (by decide)),if_neg (fun g=>g.2 hz),if_neg (yRe hn q),if_pos rfl] at d;obtain ⟨p1,l,e,i1,n1,m1,_⟩:=d.eq;rw [<-do2 p h1 h16 b] at e;obtain ⟨p2,e2,i2,n2,m2⟩:=ySe i1 (1,(q:Int),b) rfl h1 h16 (0,newP q);refine key (p':=p2) (P':=ud P q (newP q)) (r:=(0,newP q)) ?_ i2 (m2.trans m1) ?_
   ·rw [workP,show zFv 1=[2] from rfl,zWz (o:=(1,(q:Int),b)) e];exact e2
   ·rw [mdoc,if_pos rfl,if_neg (fun g=>g (by simpa using hz))];simp
  ·have hmd:mdoc P (k,(q:Int),b)=(P,(3,zP)):=by
    rw [mdoc,if_neg (by show ¬k=1;omega),if_pos (by simpa using hz)]
   by_cases h4:k=4
   ·subst h4;have d:=zQb h (by decide) h1 h16;rw [if_neg (show ¬(0:Int)<0 by decide),if_pos hz] at d;obtain ⟨p1,l,e,i1,n1,m1,_⟩:=d.eq;rw [<-do6 p h1 h16 b] at e;refine key (p':=p1) (P':=P) (r:=(3,zP)) ?_ i1.u0 m1 hmd;rw [workP,show zFv 4=[6] from rfl,zYy (o:=(4,(q:Int),b)) e (by decide)];exact yMk i1 _ rfl h1 h16 _
   ·have d:=yQs h (Int.le_refl _) (by decide) h1 h16 hl;rw [zHr,if_pos ⟨rfl,hz⟩] at d;obtain ⟨p1,l,e,i1,n1,m1,_⟩:=d.eq;rw [<-do1 p h1 h16 b] at e;refine key (p':=p1) (P':=P) (r:=(3,zP)) ?_ i1.u0 m1 hmd
    obtain ⟨ks,hks⟩:∃ ks,zFv k=1::ks:=by
     rcases hk with rfl|rfl|rfl
     ·exact ⟨_,rfl⟩
     ·exact ⟨_,rfl⟩
     ·exact absurd rfl h4
    rw [workP,show zFv (k,(q:Int),b).1=1::ks from hks,zYy (o:=(k,(q:Int),b)) e (by decide)];exact yMk i1 _ rfl h1 h16 _
 ·have fet:∃ p1 l,zBb p (1,(q:Int),b)=(p1,P q,l,0) /\Inv p1 P (ud (fun _=>0) q 1) 2147483647 1/\p1.f.fr.length=p.f.fr.length:=by
   have d:=yQs h (Int.le_refl _) (by decide) h1 h16 hl;rw [zHr,if_neg (fun g=>hz g.2),if_neg (fun g=>absurd g.1 (by decide)),if_neg (yRe hn q),if_neg (by decide),z1w] at d;obtain ⟨p1,l,e,i1,n1,m1,_⟩:=d.eq;rw [<-do1 p h1 h16 b] at e;exact ⟨p1,l,e,i1,m1⟩
  rcases hk with rfl|rfl|rfl|rfl
  ·have d:=yHf h (Int.le_refl _) (by decide) h1 h16 hl;rw [zHr,if_neg (fun g=>absurd g.1 (by decide)),if_pos ⟨rfl,hz⟩] at d;obtain ⟨p1,l,e,i1,n1,m1,_⟩:=d.eq;rw [<-do2 p h1 h16 b] at e;refine key (p':=p1) (P':=P) (r:=(4,zP)) ?_ i1.u0 m1 ?_
   ·rw [workP,show zFv 1=[2] from rfl,zYy (o:=(1,(q:Int),b)) e (by decide)];exact yMk i1 _ rfl h1 h16 _
   ·rw [mdoc,if_pos rfl,if_pos (by simpa using hz)]
  ·obtain ⟨p1,l,e,i1,m1⟩:=fet;obtain ⟨i,hA,hp⟩:=yKg i1 h1 h16;have e2:=(z8r i1 hA hp b h1 h16).1;obtain ⟨p2,e3,i2,n2,m2⟩:=ySe i1 (2,(q:Int),b) rfl h1 h16 (0,P q);refine key (p':=p2) (P':=P) (r:=(0,P q)) ?_ i2 (m2.trans m1) ?_
   ·rw [workP,show zFv 2=[1,3] from rfl,zWz (o:=(2,(q:Int),b)) e,zWz (o:=(2,(q:Int),b)) e2];exact e3
   ·rw [mdoc,if_neg (show ¬(2:Int)=1 by decide),if_neg (by simpa using hz),if_pos rfl];simp
  ·obtain ⟨p1,l,e,i1,m1⟩:=fet;obtain ⟨i,hA,hp⟩:=yKg i1 h1 h16;obtain ⟨p2,r,e2,n2,m2,c⟩:=(z8r i1 hA hp b h1 h16).2.1
   have fin:∀ {P':Nat->Pg},Inv p2 P' (ud (fun _=>0) q 1) 2147483647 1->(r.1≠0->r.2=zP)->mdoc P (3,(q:Int),b)=(P',r)->
     (workP p (3,(q:Int),b)).2=(mdoc P (3,(q:Int),b)).2/\DocI (workP p (3,(q:Int),b)).1 (mdoc P (3,(q:Int),b)).1 n:=by
    intro P' i2 hr0 d;obtain ⟨p3,e3,i3,n3,m3⟩:=ySe i2 (3,(q:Int),b) rfl h1 h16 r;refine key (p':=p3) (P':=P') (r:=r) ?_ i3 (m3.trans (m2.trans m1)) d;rw [workP,show zFv 3=[1,4] from rfl,zWz (o:=(3,(q:Int),b)) e]
    by_cases hr0':r.1=0
    ·rw [hr0'] at e2;rw [zWz (o:=(3,(q:Int),b)) e2];rw [show ((0,r.2):MRes)=r by rw [<-hr0']];exact e3
    ·rw [zYy (o:=(3,(q:Int),b)) e2 hr0',show ((r.1,zP):MRes)=r by rw [<-hr0 hr0']];exact e3
   have hmd:mdoc P (3,(q:Int),b)=(if 16<b.size then (P,(5,zP)) else if (P q).2.1=2147483647 then (P,(7,zP)) else (ud P q (wrPg (P q) b),(0,wrPg (P q) b))):=by
    rw [mdoc,if_neg (show ¬(3:Int)=1 by decide),if_neg (by simpa using hz),if_neg (show ¬(3:Int)=2 by decide),if_pos rfl];simp
   by_cases hb:16<b.size
   ·rw [if_pos hb] at c hmd;obtain ⟨rfl,rfl⟩:=c;exact fin i1 (fun _=>rfl) hmd
   ·rw [if_neg hb] at c hmd
    by_cases hv:(P q).2.1=2147483647
    ·rw [if_pos hv] at c hmd;obtain ⟨rfl,rfl⟩:=c;exact fin i1 (fun _=>rfl) hmd
    ·rw [if_neg hv] at c hmd;obtain ⟨rfl,i2⟩:=c;exact fin i2 (fun g=>absurd rfl g) hmd
  ·have d:=zQb h (by decide) h1 h16;rw [if_neg (show ¬(0:Int)<0 by decide),if_neg hz] at d;obtain ⟨p1,l,e,i1,n1,m1,_⟩:=d.eq;rw [<-do6 p h1 h16 b] at e;refine key (p':=p1) (P':=ud P q zP) (r:=(0,zP)) ?_ i1.u0 m1 ?_
   ·rw [workP,show zFv 4=[6] from rfl,zWz (o:=(4,(q:Int),b)) e];exact yMk i1 _ rfl h1 h16 _
   ·rw [mdoc,if_neg (show ¬(4:Int)=1 by decide),if_neg (by simpa using hz),if_neg (show ¬(4:Int)=2 by decide),if_neg (show ¬(4:Int)=3 by decide)];simp
end Go.Lk
