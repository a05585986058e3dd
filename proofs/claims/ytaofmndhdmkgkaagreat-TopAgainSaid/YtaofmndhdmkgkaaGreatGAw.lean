/-
  What functions compute; no condition beyond each theorem's own.
-/
import Derived.Test.YtaofmndhdmkgkaaGreatGAk
import Derived.Test.YtaofmndhdmkgkaaGreatGAo
import Derived.Test.YtaofmndhdmkgkaaGreatGAu
import Derived.Test.YtaofmndhdmkgkaaGreatGAv
namespace Go.Lk
open Go Go.Proofs Go.RowKit
set_option maxRecDepth 20000 in
set_option maxHeartbeats 16000000 in
theorem yEn (m:MS) (o:SU m.s) (hU:Us m.p.d):zAx Tryz.prog 36 [.ptr 1000000 0 0] (mH m) (mH (zHa m)) (.tup []):=by
 have hp:=yYa m.s m.p.d o hU;refine zAr Tryz.func36 1 rfl (by kernel_rfl) (by rfl) (aP ?_);refine zAa hp (aP ?_);exact zAi rfl rfl rfl ⟨by kernel_rfl,rfl,rfl,trivial⟩
set_option maxRecDepth 20000 in
set_option maxHeartbeats 16000000 in
theorem z0i (m:MS) (age t:Int) (g:Gd t m.p) (ht:t<=2147483647) (ht0:0<=t):zAx Tryz.prog 20 [.ptr 1000000 0 0,.d (.int .i64 age)] (mH m) (mH (ageM m age)) (.tup []):=by
 have h1:=yZc m.p 1 (by rw [g.now];exact ht0) (by rw [g.now];exact ht)
 have hF:FM (zHv m.p 1).f:=by
  rw [zHv];repeat' split
  all_goals exact g.fm
 have hn:(zHv m.p 1).now<=2147483647:=by
  have:=g.now
  rw [zHv];repeat' split
  all_goals (try dsimp only)
  all_goals omega
 have h2:=zQa (zHv m.p 1) (8,age,ByteArray.empty) hF hn;refine zAr Tryz.func20 2 rfl (by kernel_rfl) (by rfl) (aP ?_);refine zAa h1 (aP ?_);refine zAa h2 (aP ?_);exact zAi rfl rfl rfl ⟨by kernel_rfl,rfl,rfl,trivial⟩
theorem zLn (m:MS):zAx Tryz.prog 43 [.ptr 1000000 0 0] (mH m) (mH m) (.int .i64 m.s.out.length):=by
 refine zAr Tryz.func43 1 rfl (by kernel_rfl) (by rfl) (aP ?_);exact zAi rfl (by rw [List.length_map];rfl) rfl ⟨rfl,rfl,rfl,trivial⟩
theorem yGk {l:List (List D)} (hok:okRows 11 l=true) (hl:l.length<=1000000):zAx Tryz.prog 75 [.own 1000000] [(1000000,.row l 11 false)] [(1000000,.row l 11 false)] (.lst l):=by
 refine zAr Tryz.func75 1 rfl (by kernel_rfl) (by rfl) (w0 ?_);refine zDn (w0 ?_);intro r hr
 conv=>whnf
 refine zAf (fun h=>?_) (fun h=>?_)<;>conv=>whnf
 ·have:=hr h;subst this;refine aP ?_;exact zAi rfl rfl rfl ⟨rfl,trivial⟩
 ·refine aP ?_;refine zAh hok (w0 ?_);refine zAk 1000100 1000 (by show 0+List.length _<=1000100;omega) (by decide) (by decide) (by decide) (aP ?_);exact zAi rfl rfl rfl ⟨rfl,trivial⟩
theorem zJj (m:MS) (hl:m.ev.length<=1000000):zAx Tryz.prog 31 [.ptr 1000000 0 0] (mH m) (mH m) (.lst (m.ev.map zAt)):=by
 have hc:=yGk (z5b m.ev) (by rw [List.length_map];exact hl);refine zAr Tryz.func31 1 rfl (by kernel_rfl) (by rfl) (aP ?_);refine zAu hc [(1000000,1000004)] rfl ⟨rfl,trivial⟩ rfl (aP ?_);exact zAi rfl rfl rfl ⟨rfl,rfl,rfl,trivial⟩
theorem zLv (m:MS) (k:Int) (hb:∀ w∈m.ws,w.ended<=1000000/\w.todo.length<=1000000):zAx Tryz.prog 38 [.ptr 1000000 0 0,.d (.int .i64 k)] (mH m) (mH m) (.int .i64 (if 0<=k then (match m.ws[k.toNat]? with|some w=>((w.todo.length:Int)-w.ended)|none=>0) else 0)):=by
 have hi:=zCl m k
 have hm:(m.ws.map zDb).length=m.ws.length:=List.length_map ..
 refine zAr Tryz.func38 2 rfl (by kernel_rfl) (by rfl) ?_
 by_cases h:0<=k/\k<m.ws.length
 ·rw [show (decide (0<=k)&&decide (k<m.ws.length))=true by simpa using h] at hi
  have hk:k.toNat<m.ws.length:=by omega
  rw [if_pos h.1,List.getElem?_eq_getElem hk];have hb1:=hb _ (List.getElem_mem hk)
  have hmt:(m.ws[k.toNat].todo.map zGg).length=m.ws[k.toNat].todo.length:=List.length_map ..
  have hg:=zEm (List.getElem?_eq_getElem hk)
  conv=>whnf
  refine aP ?_;refine zAg hi nm3 rfl ⟨rfl,rfl,rfl,trivial⟩ rfl (aP ?_);refine zBq h.1 (by omega) (aP ?_);refine zAc hg (aP ?_);refine zBq h.1 (by omega) (aP ?_);refine zAc hg (aP ?_);exact zAi rfl (by rw [hmt];rfl) rfl ⟨rfl,rfl,rfl,trivial⟩
 ·rw [show (decide (0<=k)&&decide (k<m.ws.length))=false by rw [Bool.eq_false_iff];simpa using fun g=>by omega] at hi
  have e:(if 0<=k then (match m.ws[k.toNat]? with|some w=>((w.todo.length:Int)-w.ended)|none=>0) else 0)=0:=by
   split
   ·rw [List.getElem?_eq_none (by omega)]
   ·rfl
  rw [e]
  conv=>whnf
  refine aP ?_;refine zAg hi nm3 rfl ⟨rfl,rfl,rfl,trivial⟩ rfl (aP ?_);exact zAi rfl rfl rfl ⟨rfl,rfl,rfl,trivial⟩
theorem yKo (m:MS) (i:Int) (b:Bool) (h:i<0\/ (m.s.out.length:Int) <=i):zAx Tryz.prog 37 [.ptr 1000000 0 0,.d (.int .i64 i),.d (.bool b)] (mH m) (mH m) (.bool false):=by
 have hf:=zLn m;refine zAr Tryz.func37 3 rfl (by kernel_rfl) (by rfl) (w0 ?_)
 refine bcase_p (fun h1=>?_) (fun h1=>?_)<;>conv=>whnf
 ·refine aP ?_;exact zAi rfl rfl rfl ⟨rfl,rfl,rfl,trivial⟩
 ·refine aP ?_;refine zAg hf nm3 rfl ⟨rfl,rfl,rfl,trivial⟩ rfl (aP ?_);exact zAi rfl rfl rfl ⟨rfl,rfl,rfl,trivial⟩
set_option maxRecDepth 20000 in
set_option maxHeartbeats 16000000 in
theorem z5h (m:MS) (i:Nat) (o:SOk m.s) (hU:Us m.p.d) (hi:i<m.s.out.length) (h3:(m.s.out[i]).tr<3) (hn:m.s.next<2147483647):
  zAx Tryz.prog 37 [.ptr 1000000 0 0,.d (.int .i64 i),.d (.bool true)] (mH m) (mH {m with s:=yIn m.s i m.s.out[i]}) (.bool true):=by
 have hd:=z4w m.s m.p.d o hU i hi h3 hn;have hf:=zLn m;refine zAr Tryz.func37 3 rfl (by kernel_rfl) (by rfl) (aP ?_);refine zAg hf nm3 rfl ⟨rfl,rfl,rfl,trivial⟩ rfl (aP ?_);refine zAa hd (aP ?_);exact zAi rfl rfl rfl ⟨by kernel_rfl,rfl,rfl,trivial⟩
set_option maxRecDepth 20000 in
set_option maxHeartbeats 16000000 in
theorem z9c (m:MS) (i:Nat) (b:Bool) (o:SOk m.s) (hU:Us m.p.d) (hi:i<m.s.out.length) (h3:¬(b=true/\ (m.s.out[i]).tr<3/\m.s.next<2147483647)) (w:WA) (hk:m.ws[(m.s.out[i]).who]?=some w) (hs:w.st=4) (hc0:0<=m.clk) (hc1:m.clk<=1000000):
  zAx Tryz.prog 37 [.ptr 1000000 0 0,.d (.int .i64 i),.d (.bool b)] (mH m) (mH {m with s:=z4x m.s i,ws:=m.ws.set (m.s.out[i]).who (zMl m w b)}) (.bool true):=by
 have hd:=z8o m.s m.p.d o hU i hi b h3;have hg:=zEm hk;have hlt:=zQr hk;have hiw:=zCl {m with s:=z4x m.s i} (m.s.out[i]).who
 rw [show (decide (0<= ((m.s.out[i]).who:Int))&&decide (((m.s.out[i]).who:Int)<({m with s:=z4x m.s i}:MS).ws.length))=true by
  have:=(List.getElem?_eq_some_iff.1 hk).1
  simp;omega] at hiw
 have hcx:({m with s:=z4x m.s i}:MS).clk=m.clk:=rfl
 cases b with
 |false=>
  have hf:=zLn m;refine zAr Tryz.func37 3 rfl (by kernel_rfl) (by rfl) (aP ?_);refine zAg hf nm3 rfl ⟨rfl,rfl,rfl,trivial⟩ rfl (aP ?_);refine zAa hd (aP ?_);refine zAg hiw nm3 rfl ⟨by kernel_rfl,rfl,rfl,trivial⟩ rfl (aP ?_);refine zAd (by omega) (aP ?_);refine zAc hg (aP ?_);refine zBw (by rfl) (aP ?_);refine zAc hg (aP ?_);exact zAi rfl rfl rfl ⟨by kernel_rfl,rowE (zTd (zMl m w false)),rfl,trivial⟩
 |true=>
  have hf:=zLn m;refine zAr Tryz.func37 3 rfl (by kernel_rfl) (by rfl) (aP ?_);refine zAg hf nm3 rfl ⟨rfl,rfl,rfl,trivial⟩ rfl (aP ?_);refine zAa hd (aP ?_);refine zAg hiw nm3 rfl ⟨by kernel_rfl,rfl,rfl,trivial⟩ rfl (aP ?_);refine zAd (by omega) (aP ?_);refine zAc hg (aP ?_);refine zDa (by rfl) (aP ?_);refine zAg (zMk m.ws (m.s.out[i]).who w hk (8,zP) (m.clk-1)) [(1000001,1000001)] rfl ⟨rfl,trivial⟩ rfl (aP ?_);exact zAi rfl rfl rfl ⟨by kernel_rfl,rfl,rfl,trivial⟩
theorem yDu:∀ (n:Nat) (l:List Nat),l.Nodup->(∀ x∈l,x<n)->l.length<=n
 |0,[],_,_=>Nat.le_refl _
 |0,x::_,_,h=>absurd (h x (.head _)) (Nat.not_lt_zero _)
 |n+1,l,hd,h=>by
  by_cases hm:n∈l
  ·have e:=List.length_erase_of_mem hm
   have:=yDu n (l.erase n) (hd.erase n) fun x hx=>by
    have h1:=(hd.mem_erase_iff).1 hx;have:=h x h1.2;have:=h1.1;omega
   have hp:=List.length_pos_of_mem hm;omega
  ·have:=yDu n l hd fun x hx=>by
    have:=h x hx
    have:x≠n:=fun e=>hm (e▸hx)
    omega
   omega
theorem yMj {l:List Nat} {k:Nat} (hd:l.Nodup) (h:∀ x∈l,x<4) (hk:k<4) (hn:k∉l):l.length<=3:=by
 have:=yDu 4 (k::l) (List.nodup_cons.2 ⟨hn,hd⟩) fun x hx=>by
  cases hx with
  |head=>exact hk
  |tail _ hx=>exact h x hx
 simpa using this
theorem LSh.lok {x:Nat->Bool} {n:Nat} {l:LA} (h:LSh x n l) (h4:n<=4):LOk l:=by
 have hl:=yDu 4 _ h.li.nd fun w hw=>by have:=h.lt w hw;omega
 exact ⟨by simpa using hl,fun w hw=>by have:=h.lt w hw;omega,h.li.up,h.li.nd,h.li.one,h.shut⟩
theorem yTh {t:Int} (o:MOp):∀ (ks:List Int) (p:PS) (r:MRes),Gd t p->Gd t (actG o ks p r).1/\ (actG o ks p r).1.f.fr.length=p.f.fr.length
 | [],p,r,h=>⟨h,rfl⟩
 |k::ks,p,r,h=>by
  rw [actG]
  split
  ·exact ⟨h.do _,yCi h _⟩
  ·have ih:=yTh o ks _ (r.1,(zBc p (k,o.2.1,o.2.2)).2.1) (h.do (k,o.2.1,o.2.2));exact ⟨ih.1,ih.2.trans (yCi h _)⟩
theorem yZs {t:Int} {p:PS} (h:Gd t p) (o:MOp):Gd t (workP p o).1/\ (workP p o).1.f.fr.length=p.f.fr.length:=by
 obtain ⟨h1,h2⟩:=yTh o (zGe o.1) p (0,zP) h;rw [workP,zXz]
 split
 ·exact ⟨h1.do _,(yCi h1 _).trans h2⟩
 ·exact ⟨h1,h2⟩
structure MG (work:List (List MOp)) (t:Int) (m:MS):Prop where
 ok:MOk m
 gd:Gd t m.p
 td:m.ws.map (·.todo)=work
 ev:(m.ev.length:Int) <=m.clk
theorem MG.c0 {work t m} (g:MG work t m):0<=m.clk:=by have:=g.ev;omega
theorem MG.lat {work t m} (g:MG work t m) {i:Nat} (hi:i<17):∃ l,m.lat[i]?=some l/\lg m.lat i=l/\LSh (xk m.ws) m.ws.length l:=by
 have hl:=g.ok.ll;refine ⟨m.lat[i]'(by omega),List.getElem?_eq_getElem (by omega),?_,g.ok.li i _ (List.getElem?_eq_getElem (by omega))⟩
 rw [lg,List.getElem?_eq_getElem (by omega)];rfl
theorem yUq {ws:List WA} {k:Nat} {w w':WA} (hk:ws[k]?=some w) (e:w'.todo=w.todo):(ws.set k w').map (·.todo)=ws.map (·.todo):=by
 obtain ⟨hlt,rfl⟩:=List.getElem?_eq_some_iff.1 hk;rw [List.map_set,e]
 have h2:k<(ws.map (·.todo)).length:=by rw [List.length_map];exact hlt
 have:ws[k].todo=(ws.map (·.todo))[k]:=by simp
 rw [this];exact List.set_getElem_self h2
theorem MG.step {work t m} (g:MG work t m) (k:Int):MG work t (zB m k).1:=by
 rw [zB]
 split
 ·exact g
 split
 ·exact g
 ·rename_i w hk;have hwk:=yZs g.gd w.op;have ok:=(g.ok.clk (m.clk+1)).stepW (m:={m with clk:=m.clk+1}) hk m.clk hwk.2;have hev:=g.ev;refine ⟨ok,?_,?_,?_⟩
  ·unfold stepW;repeat' split
   all_goals first|exact g.gd|exact hwk.1
  ·rw [<-g.td]
   unfold stepW;repeat' split
   all_goals first|rfl|exact yUq hk rfl
  ·unfold stepW;repeat' split
   all_goals first|(show (m.ev.length:Int) <=m.clk+1;omega)|(show (((m.ev++[_]).length:Nat):Int) <=m.clk+1;rw [List.length_append,List.length_singleton];omega)
theorem z9o (m:MS) (k:Int):latM m k=lg m.lat k.toNat:=rfl
set_option maxHeartbeats 4000000 in
theorem zNd {work t m} (g:MG work t m) (ht:t<=2147483647) (hw:∀ l∈work,l.length<=1000) (hc:m.clk<=100000) (k:Int):
  zAx Tryz.prog 34 [.ptr 1000000 0 0,.d (.int .i64 k)] (mH m) (mH (zB m k).1) (.bool (zB m k).2):=by
 have o:=g.ok;have hn4:=o.n4
 by_cases hk0:k<0
 ·rw [zB,if_pos hk0];exact z0a m k (by omega)
 cases hk:m.ws[k.toNat]? with
 |none=>
  rw [zB,if_neg hk0,hk];have:=List.getElem?_eq_none_iff.1 hk;exact z0a m k (by omega)
 |some w=>
  obtain ⟨i,rfl⟩:∃ i:Nat,k=(i:Int):=⟨k.toNat,by omega⟩;rw [Int.toNat_natCast] at hk;have v:=o.w i w hk;have hlt:=(List.getElem?_eq_some_iff.1 hk).1
  have hi4:i<4:=by omega
  have hc0:-1000000<=m.clk:=by have:=g.c0;omega
  have hc1:m.clk<=1000000:=by omega
  have hcl:m.h.cl.length<=1000:=by have:=o.hall.len;omega
  have e:zB m i=stepW (zGn m) i w m.clk:=by rw [zB,if_neg hk0,Int.toNat_natCast,hk];rfl
  have hwt:w.todo.length<=1000:=hw _ (by rw [<-g.td];exact List.mem_map_of_mem (List.mem_of_getElem? hk))
  have hev:m.ev.length<=100000:=by have:=g.ev;omega
  have hk':(zGn m).ws[i]?=some w:=hk;rw [e];have h6:=v.st6
  have hst:w.st=0\/w.st=1\/w.st=2\/w.st=3\/w.st=4\/w.st=5\/w.st=6:=by omega
  rcases hst with hs|hs|hs|hs|hs|hs|hs
  ·simp only [stepW,hs]
   split
   ·rename_i hd;exact yFd m _ i w false hk hs hc0 hc1 (z4a (zGn m) i w m.clk hk' hd)
   ·rename_i hd
    have hn:i∉m.h.all:=fun h=>(v.hal.1 h) hs
    have h3:=yMj o.hall.nd o.hall.lt hi4 hn;exact yFd m _ i w true hk hs hc0 hc1 (z8c (zGn m) i w m.clk hk' hd o.hall hi4 hn (by have h3:m.h.cl.length+m.h.q.length<=3:=(by simpa using h3);exact h3))
  ·have hb:=v.bu (by omega);simp only [stepW,hs]
   split
   ·rename_i hcc;exact z3h m _ i w false hk hs hc0 hc1 (yIy (zGn m) i w m.clk hcl hcc)
   rename_i hcc
   replace hcc:isCl m.h i=true:=by simpa [zGn] using hcc
   split
   ·rename_i hr;exact z3h m _ i w true hk hs hc0 hc1 (yGf (zGn m) i w m.clk hk' hb hcl hcc hr)
   ·rename_i hr
    replace hr:refB w.op=false:=by simpa using hr
    obtain ⟨r1,r2,r3,r4⟩:=zSe hr;obtain ⟨l,hl,el,sh⟩:=g.lat (i:=w.op.2.1.toNat) (by omega)
    have ol:LOk (latM m w.op.2.1):=by rw [z9o,el];exact sh.lok hn4
    have hna:i∉l.all:=fun h=>by
     have:=((v.lt w.op.2.1.toNat l hl).1 h).1
     rw [v.nask (by omega)] at this;cases this
    have hn:i∉(latM m w.op.2.1).hs++(latM m w.op.2.1).q.map (·.1):=by rw [z9o,el];exact hna
    have h3:=yMj ol.nd ol.lt hi4 hn;exact z3h m _ i w true hk hs hc0 hc1 (yIw (zGn m) i w m.clk hk' hb hcl hcc hr o.ll hi4 ol hn (by have h3:(latM m w.op.2.1).hs.length+(latM m w.op.2.1).q.length<=3:=(by simpa using h3);exact h3))
  ·have hb:=v.bu (by omega);obtain ⟨r1,r2,r3,r4⟩:=zSe (v.val (v.ask (by omega) (by omega)));obtain ⟨l,hl,el,sh⟩:=g.lat (i:=w.op.2.1.toNat) (by omega)
   have ol:LOk (lg m.lat w.op.2.1.toNat):=by rw [el];exact sh.lok hn4
   simp only [stepW,hs]
   split
   ·rename_i hh;exact yFe m _ i w false hk hs hc0 hc1 (z8y (zGn m) i w hk' hb (by omega) (by omega) ol hh)
   ·rename_i hh;exact yFe m _ i w true hk hs hc0 hc1 (z8x (zGn m) i w hk' hb (by omega) (by omega) ol (by simpa [z9o] using hh))
  ·have hb:=v.bu (by omega);have ha:=v.ask (by omega) (by omega);obtain ⟨r1,r2,r3,r4⟩:=zSe (v.val ha);have hcc:=v.cl (by omega)
   have hh:zFv m.h i=false:=by rw [v.held];exact v.npin (by omega)
   simp only [stepW,hs]
   split
   ·rename_i hf;exact z3i m _ i w false hk hs hc0 hc1 (yNe (zGn m) i w hk' hb o.hall hcc hh g.gd.fm (by rw [pinR,if_pos hf]))
   rename_i hf;replace hf:¬m.h.n<=zCo m.h.cl:=hf
   have hpr:pinR m.h i=(pinH m.h i,0):=by rw [pinR,if_neg hf]
   split
   ·rename_i h4
    have hkj:i<m.s.jobs.length:=by rw [o.sj];exact hlt
    have hjn:m.s.jobs[i]=none:=by
     cases q:m.s.jobs[i] with
     |none=>rfl
     |some p=>
      have:=(v.job p).1 (.inl (by rw [List.getElem?_eq_getElem hkj,q]));omega
    exact z3i m _ i w true hk hs hc0 hc1 (yXw (zGn m) i w hk' hb o.hall hcc hh g.gd.fm hpr h4.1 h4.2 o.su.toSOk g.gd.us hkj hjn r3 r4)
   ·rename_i h5;exact z3i m _ i w true hk hs hc0 hc1 (yXx (zGn m) i w hk' hb o.hall hcc hh g.gd.fm hpr h5)
  ·simp only [stepW,hs];exact yRz m i w hk hs hc0 hc1
  ·have hb:=v.bu (by omega);have ha:=v.ask (by omega) (by omega);simp only [stepW,hs];exact yS m _ i w hk hs hc0 hc1 (yZt (zGn m) i w m.clk t hk' hb g.gd ht (v.val ha))
  ·have hb:=v.bu (by omega);have hcc:=v.cl (by omega);simp only [stepW,hs];refine ySa m (zJk (zGn m) i w m.clk) i w hk hs hc0 hc1 ?_
   cases ha:w.asked with
   |false=>
    cases hp:w.pinned with
    |false=>exact z9s (zGn m) i w m.clk hk' hb hwt hev o.hall hi4 hcc hp ha
    |true=>exact z9u (zGn m) i w m.clk hk' hb hwt hev o.hall hi4 hcc hp ha (v.held.trans hp)
   |true=>
    obtain ⟨r1,r2,r3,r4⟩:=zSe (v.val ha);obtain ⟨l,hl,el,sh⟩:=g.lat (i:=w.op.2.1.toNat) (by omega)
    have ol:LOk (lg m.lat w.op.2.1.toNat):=by rw [el];exact sh.lok hn4
    have hhs:i∈(lg m.lat w.op.2.1.toNat).hs:=by rw [el];exact v.hold ha (by omega) l hl
    cases hp:w.pinned with
    |false=>exact z9r (zGn m) i w m.clk hk' hb hwt hev o.hall hi4 hcc hp ha o.ll (by omega) (by omega) ol hhs
    |true=>exact z9t (zGn m) i w m.clk hk' hb hwt hev o.hall hi4 hcc hp ha (v.held.trans hp) o.ll (by omega) (by omega) ol hhs
theorem z9b {work t m} (g:MG work t m) (hc:m.clk<=100000) (i:Int) (b:Bool):
  zAx Tryz.prog 37 [.ptr 1000000 0 0,.d (.int .i64 i),.d (.bool b)] (mH m) (mH (finM m i b).1) (.bool (finM m i b).2):=by
 have o:=g.ok
 by_cases hn:i<0\/ (m.s.out.length:Int) <=i
 ·rw [finM,if_pos hn];exact yKo m i b hn
 obtain ⟨n,rfl⟩:∃ n:Nat,i=(n:Int):=⟨i.toNat,by omega⟩
 have hi:n<m.s.out.length:=by omega
 rw [finM,if_neg hn,Int.toNat_natCast,z8n,List.getElem?_eq_getElem hi];simp only [];have hlt:=o.su.lt m.s.out[n] (List.getElem_mem hi)
 by_cases h3:b=true/\ (m.s.out[n]).tr<3/\m.s.next<2147483647
 ·rw [if_pos h3];obtain ⟨rfl,h4,h5⟩:=h3;exact z5h m n o.su.toSOk g.gd.us hi h4 h5
 ·rw [if_neg h3];simp only []
  have hwl:(m.s.out[n]).who<m.ws.length:=by rw [<-o.sj];exact hlt.2.1
  have hk:m.ws[(m.s.out[n]).who]?=some m.ws[(m.s.out[n]).who]:=List.getElem?_eq_getElem hwl;have hs:(m.ws[(m.s.out[n]).who]).st=4:=((o.w _ _ hk).job (m.s.out[n]).pg).1 (.inr ⟨m.s.out[n],List.getElem_mem hi,rfl,rfl⟩) |>.1;rw [hk];simp only [];rw [if_neg (fun z=>z hs)];exact z9c m n b o.su.toSOk g.gd.us hi h3 _ hk hs g.c0 (by omega)
theorem MG.fin {work t m} (g:MG work t m) (i:Int) (b:Bool):MG work t (finM m i b).1:=by
 refine ⟨g.ok.fin i b,?_,?_,?_⟩
 ·rw [finM];repeat' split
  all_goals exact g.gd
 ·rw [<-g.td,finM];repeat' split
  all_goals first|rfl|(rename_i hk _;exact yUq hk (by rw [zMl];split<;>rfl))
 ·rw [finM];repeat' split
  all_goals exact g.ev
theorem MG.pump {work t m} (g:MG work t m):MG work t (zHa m):=⟨g.ok.pump,g.gd,g.td,g.ev⟩
def yBg (t:Int):Int:=if 2147483647-t<1 then 2147483647 else t+1
theorem yZb {t:Int} {p:PS} (h:Gd t p):Gd (yBg t) (zHv p 1) /\ (zHv p 1).f=p.f:=by
 rw [zHv,if_neg (by decide),h.now,yBg]
 split
 ·exact ⟨⟨h.fm,h.us,rfl⟩,rfl⟩
 ·exact ⟨⟨h.fm,h.us,rfl⟩,rfl⟩
theorem yFp {t:Int} (h0:0<=t) (h:t<=2147483647):0<=yBg t/\yBg t<=2147483647:=by
 rw [yBg];split<;>omega
theorem MG.age {work t m} (g:MG work t m) (n:Int):MG work (yBg t) (ageM m n):=by
 obtain ⟨h1,h2⟩:=yZb g.gd
 have hl:(zBc (zHv m.p 1) (8,n,ByteArray.empty)).1.f.fr.length=m.p.f.fr.length:=by rw [yCi h1,h2]
 have o:=g.ok;exact ⟨⟨o.n1,o.n4,o.hall,o.hw,o.ll,o.li,o.su,o.sj,o.fr.trans hl.symm,o.w⟩,h1.do _,g.td,g.ev⟩
structure MGE (work:List (List MOp)) (m:MS):Prop where
 ex:∃ t,0<=t/\t<=2147483647/\MG work t m
theorem MGE.do_ {work m} (h:MGE work m) (a:Int×Int):MGE work (doMS m a).1:=by
 obtain ⟨t,h0,h1,g⟩:=h.ex
 rw [doMS];repeat' split
 ·exact ⟨t,h0,h1,g.pump⟩
 ·exact ⟨t,h0,h1,g.fin _ _⟩
 ·exact ⟨yBg t,(yFp h0 h1).1,(yFp h0 h1).2,g.age _⟩
 ·exact ⟨t,h0,h1,g.step _⟩
 ·exact ⟨t,h0,h1,g.step _⟩
theorem yOl (m:MS) (k:Nat) (w:WA) (now:Int):(stepW m k w now).1.clk=m.clk:=by
 unfold stepW;repeat' split
 all_goals rfl
theorem zMf (m:MS) (k:Int):(zB m k).1.clk<=m.clk+1/\m.clk<= (zB m k).1.clk:=by
 rw [zB];repeat' split
 ·exact ⟨by show m.clk<=_;omega,Int.le_refl _⟩
 ·exact ⟨by show m.clk<=_;omega,Int.le_refl _⟩
 ·rw [yOl];dsimp only;omega
theorem z1a (m:MS) (i:Int) (b:Bool):(finM m i b).1.clk=m.clk:=by
 rw [finM];repeat' split
 all_goals rfl
def zCb (l:List MOp):List D:=[.lst (l.map zGg)]
theorem yCn:∀ (l:List MOp),okRows 3 (l.map zGg)=true
 | []=>rfl
 |_::r=>yCn r
def mSC (m:MS):List SC:=.row (m.ws.map zDb) 11::([.d (.lst (m.p.f.fr.map encF)),.d (.int .i64 m.p.f.hand),.d (zCh m.p.f.tb),.d (.lst (m.p.f.pg.map encP)),.d (zCh m.p.f.dt),.d (.lst (m.p.d.sec.map encB)),.d (.lst (m.p.d.ca.map encW)),.d (.int .i64 m.p.now)]++(m.h.cells.map SC.d++((lg m.lat 0).cells.map SC.d++((lg m.lat 1).cells.map SC.d++((lg m.lat 2).cells.map SC.d++((lg m.lat 3).cells.map SC.d++((lg m.lat 4).cells.map SC.d++((lg m.lat 5).cells.map SC.d++((lg m.lat 6).cells.map SC.d++((lg m.lat 7).cells.map SC.d++((lg m.lat 8).cells.map SC.d++((lg m.lat 9).cells.map SC.d++((lg m.lat 10).cells.map SC.d++((lg m.lat 11).cells.map SC.d++((lg m.lat 12).cells.map SC.d++((lg m.lat 13).cells.map SC.d++((lg m.lat 14).cells.map SC.d++((lg m.lat 15).cells.map SC.d++((lg m.lat 16).cells.map SC.d++((m.s.cells m.p.d).map SC.d++[.d (.int .i64 m.clk),.row (m.ev.map zAt) 11]))))))))))))))))))))
def z3:List AV:=[.nil,.d (.bool false),.nil]
def mb0 (n:Nat) (p:PS):List AV:=.own 64::(p.box++([.d (.int .i64 n),.d (.int .i64 1),.nil,.nil]++(z3++(z3++(z3++(z3++(z3++(z3++(z3++(z3++(z3++(z3++(z3++(z3++(z3++(z3++(z3++(z3++(z3++[.nil,.d (.int .i64 0),.d (.bool false),.nil,.nil,.nil,.d (.int .i64 0),.nil,.nil,.d (.int .i64 0),.nil])))))))))))))))))))
theorem yRo (k:Nat):List.replicate (k+1) [D.int .i64 1]=List.replicate k [D.int .i64 1]++[[D.int .i64 1]]:=List.replicate_succ'
set_option maxRecDepth 20000 in
set_option maxHeartbeats 16000000 in
theorem zJn (d:DS) (n:Nat) (todo:List (List MOp)) (p:PS) (hop:zNg d n=(p,0)) (hU:Us p.d) (h1:1<=todo.length) (h4:todo.length<=4) (h60:∀ l∈todo,l.length<=60):
  yGb Tryz.prog 27 [zCp d,.int .i64 n,.lst (todo.map zCb)] (mSC (zEg p n todo)) [.int .i64 0]:=by
 have hm:(todo.map zCb).length=todo.length:=List.length_map ..
 have ho:=yMv d n;rw [hop] at ho;refine yEe Tryz.func27 3 rfl (by kernel_rfl) (aP ?_);refine zAq (ι:=Nat) (fun k=>[(1,.d (.int .i64 n)),(2,.d (.lst (todo.map zCb))),(3,.ptr 3 0 0),(25,.d (.lst (todo.map zCb))),(26,.d (.int .i64 (todo.map zCb).length)),(27,.d (.int .i64 k))]) (fun _=>[(3,.box (d.cells.map AV.d) false)])
  (fun k=>k<=todo.length) (fun k=>todo.length-k) 0 (Nat.zero_le _) (le0 (zAb ⟨rfl,rfl,rfl,rfl,rfl,rfl,trivial⟩ ⟨rfl,trivial⟩ ⟨rfl,rfl,rfl,rfl⟩)) ?_
 intro k hk
 conv=>whnf
 refine bcase_p (fun h5=>?_) (fun h5=>?_)<;>conv=>whnf
 ·have hk2:k<todo.length:=by omega
  have hl:=h60 todo[k] (List.getElem_mem hk2)
  have hml:(todo[k].map zGg).length=todo[k].length:=List.length_map ..
  refine zAd (by omega) (w0 ?_);refine zAc (x:=zCb todo[k]) (by simp [hk2]) (aW ?_);refine aP ?_;exact ⟨k+1,by omega,by omega,(le0 (zAb ⟨rfl,rfl,rfl,rfl,rfl,rfl,trivial⟩ ⟨rfl,trivial⟩ ⟨rfl,rfl,rfl,rfl⟩))⟩
 refine aP ?_;refine zAa ho (aP ?_);refine zAq (ι:=Nat) (fun k=>[(10,.ptr 10 0 0),(12,.ptr 48 0 0),(13,.own 69),(49,.d (.lst (todo.map zCb))),(50,.d (.int .i64 (todo.map zCb).length)),(51,.d (.int .i64 k))]) (fun k=>[(10,.box p.box false),(48,.box (mb0 n p) false),(64,.row (((todo.take k).map zFx).map zDb) 11 false),(69,.row (List.replicate k [D.int .i64 1]) 1 false)])
  (fun k=>k<=todo.length) (fun k=>todo.length-k) 0 (Nat.zero_le _) (len [.row 13 69 1,.cell 48 0 64 11] ⟨⟨rfl,rfl⟩,⟨⟨rfl,rfl⟩,rfl,rfl⟩,trivial⟩ (zAb ⟨rfl,rfl,rfl,rfl,rfl,rfl,trivial⟩ ⟨rfl,rfl,rfl,rfl,trivial⟩ ⟨rfl,rfl,rfl,rfl⟩)) ?_
 intro k hk
 conv=>whnf
 refine bcase_p (fun h6=>?_) (fun h6=>?_)<;>conv=>whnf
 ·have hk2:k<todo.length:=by omega
  have hl:=h60 todo[k] (List.getElem_mem hk2)
  have hml:(todo[k].map zGg).length=todo[k].length:=List.length_map ..
  have htk:(todo.take k).length=k:=by rw [List.length_take];omega
  have hmr:(((todo.take k).map zFx).map zDb).length=k:=by rw [List.length_map,List.length_map,htk]
  refine zAd (by omega) (w0 ?_);refine zAc (x:=zCb todo[k]) (by simp [hk2]) (aW ?_);refine aP ?_;refine zAn (yVt (yCn todo[k]) (by omega)) (aP ?_);refine zAk 1000 1000 (by show (((todo.take k).map zFx).map zDb).length+1<=1000;omega) (by decide) (by decide) (by decide) (aP ?_);refine zAk 1000 1000 (by show (List.replicate k [D.int .i64 1]).length+1<=1000;rw [List.length_replicate];omega) (by decide) (by decide) (by decide) (aP ?_);refine ⟨k+1,by omega,by omega,le0 (zAb ⟨rfl,rfl,rfl,rfl,rfl,rfl,trivial⟩ ⟨rfl,rfl,?_,?_,trivial⟩ ⟨rfl,rfl,rfl,rfl⟩)⟩
  ·rw [zAs hk2,List.map_append,List.map_append];kernel_rfl
  ·rw [yRo];kernel_rfl
 have hkl:k=todo.length:=by omega
 subst hkl;rw [List.take_length];refine aP ?_;refine zAa (yAv todo.length p.d h1 h4 hU) (aP ?_);refine ⟨6,.tmp 7,[],48,_,rfl,rfl,rfl,?_,rfl,rfl⟩;refine .inl ⟨64,rfl,rfl,rfl,?_⟩
 repeat refine ⟨rfl,?_⟩
 exact .inr ⟨rfl,rfl,trivial⟩
noncomputable def stAt (d:DS) (k:Nat):Option Pg:=if (getS d ((k:Int)+1)).2=0 then some (getS d ((k:Int)+1)).1 else none
noncomputable def lsN (d:DS) (k:Nat):List Pg:=(List.range k).filterMap (stAt d)
theorem zYy {α:Type} (f:Nat->Option α) (k:Nat):((List.range k).filterMap f).length<=k:=by
 have:=List.length_filterMap_le f (List.range k)
 rwa [List.length_range] at this
theorem zRj {α:Type} (f:Nat->Option α) (k:Nat):(List.range (k+1)).filterMap f=(List.range k).filterMap f++(f k).toList:=by
 rw [List.range_succ,List.filterMap_append]
 congr 1
set_option maxHeartbeats 4000000 in
theorem z7f (d:DS):zAj Tryz.prog 51 [zCp d] (.lst ((lsN d 16).map encP)):=by
 refine zAe Tryz.func51 1 rfl (by kernel_rfl) (aP ?_);refine zAq (ι:=Nat) (fun k=>[(1,.ptr 1 0 0),(3,.own 22),(4,.d (.int .i64 ((k:Int)+1)))]) (fun k=>[(1,.box (d.cells.map AV.d) false),(22,.row ((lsN d k).map encP) 3 false)])
  (fun k=>k<=16) (fun k=>16-k) 0 (Nat.zero_le _) (le1 (.row 3 22 3) ⟨rfl,rfl⟩ (zAb ⟨rfl,rfl,rfl,trivial⟩ ⟨rfl,rfl,trivial⟩ ⟨rfl,rfl,rfl,rfl⟩)) ?_
 intro k hk;have hln:=zYy (stAt d) k
 have hml:((lsN d k).map encP).length=(lsN d k).length:=List.length_map ..
 replace hln:(lsN d k).length<=k:=hln;have es:=zRj (stAt d) k;replace es:lsN d (k+1)=lsN d k++(stAt d k).toList:=es;obtain ⟨q,hq⟩:∃ q,getS d ((k:Int)+1)=q:=⟨_,rfl⟩;have hget:=zRm d ((k:Int)+1);rw [stAt,hq] at es;rw [hq] at hget
 conv=>whnf
 refine bcase_p (fun h5=>?_) (fun h5=>?_)<;>conv=>whnf
 ·refine aP ?_;refine zAa hget (aP ?_)
  refine bcase_p (fun h6=>?_) (fun h6=>?_)<;>conv=>whnf
  ·rw [if_pos h6] at es;refine aP ?_;refine zAk 1000 100 (by show ((lsN d k).map encP).length+1<=1000;omega) (by decide) (by decide) (by decide) (aP ?_);rw [show (k:Int)+1+1=((k+1:Nat):Int)+1 by omega];exact ⟨k+1,by omega,by omega,le0 (zAb ⟨rfl,rfl,rfl,trivial⟩ ⟨rfl,by rw [es,List.map_append];rfl,trivial⟩ ⟨rfl,rfl,rfl,rfl⟩)⟩
  ·rw [if_neg h6] at es;refine aP ?_;rw [show (k:Int)+1+1=((k+1:Nat):Int)+1 by omega];exact ⟨k+1,by omega,by omega,le0 (zAb ⟨rfl,rfl,rfl,trivial⟩ ⟨rfl,by rw [es,Option.toList,List.append_nil];rfl,trivial⟩ ⟨rfl,rfl,rfl,rfl⟩)⟩
 ·have:k=16:=by omega
  subst this;refine aP ?_;exact ret_of rfl rfl
noncomputable def getO (l:List Pg) (id:Int):Pg×Bool:=if Hy.mapB l=true/\Hy.plB l id=true then (l[Hy.plN l id]?.getD zP,true) else (zP,false)
theorem zPw (l:List Pg) (id:Int) (hl:l.length<=1000):zAj Tryz.prog 25 [.agg [.lst (l.map encP)],.int .i64 id] (.tup [.agg (encP (getO l id).1),.bool (getO l id).2]):=by
 have h1:=Hy.opsRight_ok l (by omega);have h2:=Hy.place_ok l id (by omega)
 have hm:(l.map encP).length=l.length:=List.length_map ..
 cases e1:Hy.mapB l with
 |false=>
  rw [e1] at h1;rw [getO,if_neg (by rw [e1];simp)];refine zAe Tryz.func25 2 rfl (by kernel_rfl) (aP ?_);refine zAa h1 (aP ?_);exact ret_of rfl rfl
 |true=>
  rw [e1] at h1
  cases e2:Hy.plB l id with
  |false=>
   rw [e2] at h2;rw [getO,if_neg (by rw [e2];simp)];refine zAe Tryz.func25 2 rfl (by kernel_rfl) (aP ?_);refine zAa h1 (aP ?_);refine zAa h2 (aP ?_);exact ret_of rfl rfl
  |true=>
   rw [e2] at h2
   have hlt:Hy.plN l id<l.length:=by
    refine Classical.byContradiction fun g=>?_
    rw [Hy.plB,List.getElem?_eq_none (by omega)] at e2;cases e2
   rw [getO,if_pos ⟨e1,e2⟩,List.getElem?_eq_getElem hlt];refine zAe Tryz.func25 2 rfl (by kernel_rfl) (aP ?_);refine zAa h1 (aP ?_);refine zAa h2 (aP ?_);refine zAd (by omega) (w0 ?_);refine zAc (x:=encP l[Hy.plN l id]) (by simp [hlt]) (aP ?_);exact ret_of rfl rfl
noncomputable def pgAt (m:MS) (k:Nat):Option Pg:=if (zFp m.p.f ((k:Int)+1)).2=true then some (atP m.p.f.pg (zFp m.p.f ((k:Int)+1)).1.toNat) else if (getO (lsN m.p.d 16) ((k:Int)+1)).2=true then some (getO (lsN m.p.d 16) ((k:Int)+1)).1 else none
noncomputable def pgsN (m:MS) (k:Nat):List Pg:=(List.range k).filterMap (pgAt m)
noncomputable def yUk (m:MS):List Pg:=pgsN m 16
set_option maxRecDepth 20000 in
set_option maxHeartbeats 16000000 in
theorem zEz (m:MS) (hF:FM m.p.f):zAx Tryz.prog 19 [.ptr 1000000 0 0] (mH m) (mH m) (.agg [.lst ((yUk m).map encP)]):=by
 refine zAr Tryz.func19 1 rfl (by kernel_rfl) (by rfl) ?_;have hlo:=z7f m.p.d;have hlo16:(lsN m.p.d 16).length<=16:=zYy _ _;obtain ⟨L,hL⟩:∃ L,lsN m.p.d 16=L:=⟨_,rfl⟩;rw [hL] at hlo hlo16
 conv=>whnf
 refine aP ?_;refine zAa hlo (aP ?_);refine zAq (ι:=Nat) (fun k=>[(0,.ptr 1000000 0 0),(2,.ptr 2 0 0),(3,.ptr 3 0 0),(4,.ptr 4 0 0),(5,.d (.int .i64 ((k:Int)+1)))]) (fun k=>[(1000000,.box (zJm m) false),(1000001,.row (m.ws.map zDb) 11 false),(1000004,.row (m.ev.map zAt) 11 false),(2,.box [.nil] false),(3,.box [.d (.lst (L.map encP))] false),(4,.box [.own 44] false),(44,.row ((pgsN m k).map encP) 3 false)])
  (fun k=>k<=16) (fun k=>16-k) 0 (Nat.zero_le _) (le1 (.cell 4 0 44 3) ⟨⟨rfl,rfl⟩,rfl,rfl⟩ (zAb ⟨rfl,rfl,rfl,rfl,rfl,trivial⟩ ⟨rfl,rfl,rfl,rfl,rfl,rfl,rfl,trivial⟩ ⟨rfl,rfl,rfl,rfl⟩)) ?_
 intro k hk;have hln:(pgsN m k).length<=k:=zYy (pgAt m) k
 have hml:((pgsN m k).map encP).length=(pgsN m k).length:=List.length_map ..
 have es:pgsN m (k+1)=pgsN m k++(pgAt m k).toList:=zRj (pgAt m) k;have hf:=zHg m.p.f ((k:Int)+1) hF.tl hF.dl;have hg:=zPw L ((k:Int)+1) (by omega);rw [pgAt,hL] at es
 have hmp:(m.p.f.pg.map encP).length=m.p.f.pg.length:=List.length_map ..
 conv=>whnf
 refine bcase_p (fun h5=>?_) (fun h5=>?_)<;>conv=>whnf
 ·refine aP ?_
  rcases hF.find_cases (show ((k:Int)+1)≠0 by omega) with ⟨_,hno⟩|⟨i,_,hA⟩
  ·rw [zCt hF hno (by omega)] at hf es;rw [if_neg (by decide)] at es;refine zAa hf (aP ?_);refine zAa hg (aP ?_)
   refine zAf (fun h7=>?_) (fun h7=>?_)<;>conv=>whnf
   ·rw [if_pos h7] at es;refine aP ?_;refine zAk 1000 100 (by show ((pgsN m k).map encP).length+1<=1000;omega) (by decide) (by decide) (by decide) (aP ?_);rw [show (k:Int)+1+1=((k+1:Nat):Int)+1 by omega];exact ⟨k+1,by omega,by omega,le0 (zAb ⟨rfl,rfl,rfl,rfl,rfl,trivial⟩ ⟨rfl,rfl,rfl,rfl,rfl,rfl,by rw [es,List.map_append];rfl,trivial⟩ ⟨rfl,rfl,rfl,rfl⟩)⟩
   ·rw [if_neg (by rw [show (getO L ((k:Int)+1)).2=false from h7];decide)] at es;refine aP ?_;rw [show (k:Int)+1+1=((k+1:Nat):Int)+1 by omega];exact ⟨k+1,by omega,by omega,le0 (zAb ⟨rfl,rfl,rfl,rfl,rfl,trivial⟩ ⟨rfl,rfl,rfl,rfl,rfl,rfl,by rw [es,Option.toList,List.append_nil];rfl,trivial⟩ ⟨rfl,rfl,rfl,rfl⟩)⟩
  ·rw [findF_at hA] at hf es;have hip:=hA.hp;rw [if_pos rfl,Int.toNat_natCast,zDu hip] at es;refine zAa hf (aP ?_);refine zAd (by omega) (w0 ?_);refine zAc (x:=encP m.p.f.pg[i]) (by simp [hip]) (aW ?_);refine aP ?_;refine zAk 1000 100 (by show ((pgsN m k).map encP).length+1<=1000;omega) (by decide) (by decide) (by decide) (aP ?_);rw [show (k:Int)+1+1=((k+1:Nat):Int)+1 by omega];exact ⟨k+1,by omega,by omega,le0 (zAb ⟨rfl,rfl,rfl,rfl,rfl,trivial⟩ ⟨rfl,rfl,rfl,rfl,rfl,rfl,by rw [es,List.map_append];rfl,trivial⟩ ⟨rfl,rfl,rfl,rfl⟩)⟩
 ·have:k=16:=by omega
  subst this;refine aP ?_;exact zAi rfl rfl rfl ⟨rfl,rfl,rfl,trivial⟩
structure OpsOk (l:List MOp):Prop where
 len:l.length<=20
 body:∀ o∈l,o.2.2.size<=100
structure SmOk (work:List (List MOp)):Prop where
 n1:1<=work.length
 n4:work.length<=4
 one:∀ l∈work,OpsOk l
open Classical in
noncomputable def smN (work:List (List MOp)):Int:=if SmOk work then ((work.flatten.length:Nat):Int) else-1
theorem zTc {work:List (List MOp)} (h:¬SmOk work):smN work=-1:=by rw [smN,if_neg h]
theorem yYq {work:List (List MOp)} (h:SmOk work):smN work=((work.flatten.length:Nat):Int):=by rw [smN,if_pos h]
theorem yKt {work:List (List MOp)} {k:Nat} (hk:k<work.length):(work.take (k+1)).flatten.length=(work.take k).flatten.length+work[k].length:=by
 rw [zAs hk,List.flatten_append,List.length_append,List.flatten_cons,List.flatten_nil,List.append_nil]
theorem yWg {work:List (List MOp)} (h:∀ l∈work,l.length<=20):work.flatten.length<=20*work.length:=by
 induction work with
 |nil=>exact Nat.le_refl _
 |cons x r ih=>
  have:=h x (.head _)
  have:=ih fun l hl=>h l (.tail _ hl)
  rw [List.flatten_cons,List.length_append,List.length_cons];omega
set_option maxHeartbeats 4000000 in
theorem zNb (work:List (List MOp)) (hl:work.length<=9223372036854775807) (_:∀ l∈work,l.length<=9223372036854775807):zAj Tryz.prog 15 [.lst (work.map zCb)] (.int .i64 (smN work)):=by
 have hm:(work.map zCb).length=work.length:=List.length_map ..
 refine zAe Tryz.func15 1 rfl (by kernel_rfl) (aP ?_)
 refine bcase_p (fun h1=>?_) (fun h1=>?_)<;>conv=>whnf
 ·refine aP ?_;rw [zTc fun h=>by have:=h.n1;omega];exact ret_of rfl rfl
 refine aP ?_
 refine bcase_p (fun h4=>?_) (fun h4=>?_)<;>conv=>whnf
 ·refine aP ?_;rw [zTc fun h=>by have:=h.n4;omega];exact ret_of rfl rfl
 refine aP ?_;refine zAq (ι:=Nat) (fun k=>[(3,.d (.int .i64 (work.take k).flatten.length)),(16,.d (.lst (work.map zCb))),(17,.d (.int .i64 (work.map zCb).length)),(18,.d (.int .i64 k))]) (fun _=>[])
  (fun k=>k<=work.length/\ ∀ l∈work.take k,OpsOk l) (fun k=>work.length-k) 0 ⟨Nat.zero_le _,fun l h=>by simp at h⟩ (le0 (zAb ⟨rfl,rfl,rfl,rfl,trivial⟩ trivial ⟨rfl,rfl,rfl,rfl⟩)) ?_
 rintro k ⟨hk,hR⟩
 have hfb:=yWg fun l h=>(hR l h).len
 rw [List.length_take] at hfb
 conv=>whnf
 refine bcase_p (fun h5=>?_) (fun h5=>?_)<;>conv=>whnf
 ·have hk2:k<work.length:=by omega
  have hml:(work[k].map zGg).length=work[k].length:=List.length_map ..
  have hmem:=List.getElem_mem hk2;refine zAd (by omega) (w0 ?_);refine zAc (x:=zCb work[k]) (by simp [hk2]) (aW ?_)
  refine bcase_p (fun h6=>?_) (fun h6=>?_)<;>conv=>whnf
  ·refine aP ?_;rw [zTc fun h=>by have:=(h.one _ hmem).len;omega];exact ret_of rfl rfl
  refine aP ?_;refine zAq (ι:=Nat) (fun q=>[(3,.d (.int .i64 (work.take k).flatten.length)),(5,.d (.lst (work[k].map zGg))),(16,.d (.lst (work.map zCb))),(17,.d (.int .i64 (work.map zCb).length)),(18,.d (.int .i64 k)),(25,.d (.lst (work[k].map zGg))),(26,.d (.int .i64 (work[k].map zGg).length)),(27,.d (.int .i64 q))]) (fun _=>[])
   (fun q=>q<=work[k].length/\ ∀ o∈work[k].take q,o.2.2.size<=100) (fun q=>work[k].length-q) 0 ⟨Nat.zero_le _,fun o h=>by simp at h⟩ (le0 (zAb ⟨rfl,rfl,rfl,rfl,rfl,rfl,rfl,rfl,trivial⟩ trivial ⟨rfl,rfl,rfl,rfl⟩)) ?_
  rintro q ⟨hq,hR2⟩
  conv=>whnf
  refine bcase_p (fun h7=>?_) (fun h7=>?_)<;>conv=>whnf
  ·have hq2:q<work[k].length:=by omega
   refine zAd (by omega) (w0 ?_);refine zAc (x:=zGg work[k][q]) (by simp [hq2]) (aW ?_)
   refine bcase_p (fun h8=>?_) (fun h8=>?_)<;>conv=>whnf
   ·refine aP ?_;rw [zTc fun h=>by have:=(h.one _ hmem).body _ (List.getElem_mem hq2);omega];exact ret_of rfl rfl
   refine aP ?_;refine ⟨q+1,⟨by omega,fun o h=>?_⟩,by omega,(le0 (zAb ⟨rfl,rfl,rfl,rfl,rfl,rfl,rfl,rfl,trivial⟩ trivial ⟨rfl,rfl,rfl,rfl⟩))⟩;rw [zAs hq2] at h
   rcases List.mem_append.1 h with h|h
   ·exact hR2 o h
   ·simp at h;subst h;omega
  ·have hql:q=work[k].length:=by omega
   subst hql;rw [List.take_length] at hR2;have es:=yKt hk2;refine aP ?_;rw [show (((work.take k).flatten.length:Nat):Int)+(((work[k].map zGg).length:Nat):Int)=(((work.take (k+1)).flatten.length:Nat):Int) by omega];refine ⟨k+1,⟨by omega,fun l h=>?_⟩,by omega,(le0 (zAb ⟨rfl,rfl,rfl,rfl,trivial⟩ trivial ⟨rfl,rfl,rfl,rfl⟩))⟩;rw [zAs hk2] at h
   rcases List.mem_append.1 h with h|h
   ·exact hR l h
   ·simp at h;subst h;exact ⟨by omega,hR2⟩
 ·have hkl:k=work.length:=by omega
  subst hkl;rw [List.take_length] at hR⊢;rw [yYq ⟨by omega,by omega,hR⟩];refine aP ?_;exact ret_of rfl rfl
def bgAt (P:Nat->Pg) (k:Nat):Option Pg:=if (P (k+1)).1≠0 then some (P (k+1)) else none
def bgN (P:Nat->Pg) (k:Nat):List Pg:=(List.range k).filterMap (bgAt P)
theorem Inv.wr9 {p P W u} (h:Inv p P W 2147483647 u) {q i:Nat} (hA:AtF p.f (q:Int) i) {b:ByteArray} (hb:b.size<=16) (hv:(P q).2.1<2147483647) {l:List (Int×Int)} (hr:Dt.rightB l=true) (hl:∀ y∈l,(y∈p.f.dt\/y.1=(q:Int)) /\y.2<=p.now) (hl2:∀ y∈p.f.dt,y∈l) (hd:∃ y∈l,y.1=(q:Int)):
  Inv ⟨⟨p.f.fr,p.f.hand,p.f.tb,p.f.pg.set i (wrPg (p.f.pg[i]'hA.hp) b),l⟩,p.d,p.now⟩ (ud P q (wrPg (P q) b)) W 2147483647 u:=by
 have hi:=hA.hi;have hip:=hA.hp;have hg:=pgR_out.1 hA.pgr;have ePg:=h.at_ q i hA;rw [<-ePg] at hv;have hx:pgR (wrPg (p.f.pg[i]'hA.hp) b)=true:=pgR_out.2 ⟨hg.1,hg.2.1,by show 1<= (p.f.pg[i]'hA.hp).2.1+1;omega,by show (p.f.pg[i]'hA.hp).2.1+1<=_;omega,hb⟩
 have hm:=FM.wrote hA hx hA.pg hr fun y hy=>(hl y hy).1
 refine ⟨⟨hm,h.pj.rest,h.pj.ca,h.pj.z0,h.pj.n0,h.pj.n1,fun x hx=>(hl x hx).2⟩,h.pins,fun k j hB=>?_,⟨fun k k1 k16 hk=>?_,fun k k1 k16=>?_,fun k=>?_⟩,h.ub⟩
 ·have hC:=zEi h.pj.fm (by have:=hB.p1;omega) hB.hi hB.fr;have hj2:j<(p.f.pg.set i (wrPg (p.f.pg[i]'hA.hp) b)).length:=hB.hp;show (p.f.pg.set i (wrPg (p.f.pg[i]'hA.hp) b))[j]'hj2=_
  by_cases e:k=q
  ·subst e;have:j=i:=hA.uni hC.hi hC.fr;subst this;rw [List.getElem_set_self,zDp,ePg]
  ·have hne:i≠j:=fun e2=>by
    subst e2;have:=hA.fr.symm.trans hC.fr;omega
   rw [List.getElem_set_ne hne,zDs _ _ e];exact h.at_ k j hC
 ·have hne:k≠q:=fun e=>by subst e;obtain ⟨y,hy,ey⟩:=hd;exact hk y hy ey
  rw [zDs _ _ hne]
  exact h.on.dsk k k1 k16 fun x hx=>hk x (hl2 x hx)
 ·by_cases e:k=q
  ·subst e;rw [zDp,<-ePg];exact .inr ⟨hx,hA.pg⟩
  ·rw [zDs _ _ e];exact h.on.okp k k1 k16
 ·by_cases e:k=q
  ·subst e;rw [zDp,<-ePg];show (p.f.pg[i]'hA.hp).2.1+1<=2147483647;omega
  ·rw [zDs _ _ e];exact h.on.vb k
theorem yXd {p P W u} (_:Inv p P W 2147483647 u) {q i:Nat} (hA:AtF p.f (q:Int) i):zCf p.f q=((i:Int),0):=by
 rw [zCf,if_pos (zGt.2 hA.right),(zCd hA.right.tb).2 ⟨hA.p1,hA.mem⟩];rfl
theorem write9 {p P W u} (h:Inv p P W 2147483647 u) {q i:Nat} (hv:(P q).2.1<2147483647) (hA:AtF p.f (q:Int) i) (hp:(p.f.fr[i]'hA.hi).2.1≠0) {b:ByteArray} (hb:b.size<=16):
  ∃ f',zBs p.f q b p.now=(f',0) /\Inv ⟨f',p.d,p.now⟩ (ud P q (wrPg (P q) b)) W 2147483647 u/\atP f'.pg i=wrPg (P q) b/\f'.fr=p.f.fr:=by
 have hip:=hA.hp;have hi:=hA.hi;have e:=yXd h hA;have ePg:=h.at_ q i hA;have hvq:=hv;rw [<-ePg] at hvq;have hm:=yDp h.pj.fm hA.p1 hA.p16 h.pj.n0 h.pj.n1 h.pj.dt;obtain ⟨c1,c2,c3,c4⟩:=zMu (l:=p.f.dt) (p:=(q:Int)) (t:=p.now) (by rw [hm]);rw [hm] at c1 c2 c3 c4;refine ⟨⟨p.f.fr,p.f.hand,p.f.tb,p.f.pg.set i (wrPg (p.f.pg[i]'hA.hp) b),(if 0<=Dt.placeG p.f.dt q 0 then p.f.dt else p.f.dt++[((q:Int),p.now)])⟩,?_,?_,?_,rfl⟩
 ·rw [zBs,e,if_neg (fun q=>q rfl),Int.toNat_natCast,zCj hi,if_neg hp,if_neg (by omega),zDu hip,if_neg (by omega),hm,if_neg (fun q=>q rfl)]
 ·refine h.wr9 hA hb hv c1 (fun y hy=>⟨c2 y hy,?_⟩) c3 c4
  split at hy
  ·exact h.pj.dt y hy
  ·rcases List.mem_append.1 hy with g|g
   ·exact h.pj.dt y g
   ·rw [List.mem_singleton] at g;subst g;exact Int.le_refl _
 ·show atP (p.f.pg.set i _) i=_;rw [zDu (by rw [List.length_set];exact hip),List.getElem_set_self,ePg]
theorem write7 {p P W u} (h:Inv p P W 2147483647 u) {q i:Nat} (hv:(P q).2.1=2147483647) (hA:AtF p.f (q:Int) i) (hp:(p.f.fr[i]'hA.hi).2.1≠0) {b:ByteArray} (hb:b.size<=16):(zBs p.f q b p.now).2=7:=by
 have e:=yXd h hA;have hip:=hA.hp;have ePg:=h.at_ q i hA;rw [zBs,e,if_neg (fun q=>q rfl),Int.toNat_natCast,zCj hA.hi,if_neg hp,if_neg (by omega),zDu hip,if_pos (by rw [ePg];omega)]
theorem yTp {p P W u} (h:Inv p P W 2147483647 u) (hu0:0<=u) (hu:u<2147483647) {q:Nat} (h1:1<=q) (h16:q<=16) {n:Nat} (hl:p.f.fr.length=n):Did p 2147483647 (u+1) (zIf P W n 1 q) (zDm p q):=by
 rw [zIf,if_neg (show ¬((1:Int)=2/\ (P q).1≠0) from fun g=>absurd g.1 (by decide)),if_neg (show ¬((1:Int)=2) by decide)];rw [zDm]
 rcases h.where h1 with hn|⟨i,hA⟩
 ·rw [zCt h.pj.fm hn (by omega),if_neg (show ¬false=true by decide),h.pj.get h1 h16,h.on.dsk q h1 h16 (h.out h1 hn)]
  by_cases hz:(P q).1=0
  ·rw [if_pos hz,if_pos ⟨rfl,hz⟩,if_pos (show (3:Int)≠0 by decide)];exact Did.same (h.mono (Int.le_refl _) (by omega)) zP 3
  ·rw [if_neg hz,if_neg (fun g=>hz g.2),if_neg (show ¬((0:Int)≠0) from fun g=>g rfl)];obtain ⟨x1,x2⟩:=h.on.nz h1 h16 hz;exact zTy (h.mono (Int.le_refl _) (show u<=u+1 by omega)) (by omega) h1 h16 hn x1 x2 false (fun _=>rfl) (h.on.vb q) hl
 ·have hi:=hA.hi;have hip:=hA.hp;have hk:=zBr.1 (h.pj.fm.ck.all i hi);have hub:=h.ub q;have hw:=h.wat hA;rw [hw] at hub;have hpin:=yEg hA (by omega)
  have hbz:¬(W q=0/\bn W 16=n):=fun g=>by
   rw [<-hl] at g;exact h.busy.1 g.2 i hi (by rw [<-hw];exact g.1)
  rw [if_neg (fun g=>h.nz hA g.2),if_neg hbz,findF_at hA,if_pos rfl,hpin,if_neg (fun g=>g rfl),Int.toNat_natCast]
  have e1:atP (zSm p.f i (z3q p.f.fr[i])).pg i=P q:=by
   rw [<-h.at_ q i hA];exact zDu hip
  have hin:=h.pin hA (y:=z3q p.f.fr[i]) (zBr.2 ⟨hk.1,hk.2.1,by show 0<= (p.f.fr[i]).2.1+1;omega,by show (p.f.fr[i]).2.1+1<=_;omega⟩) hA.fr (u':=u+1) (by show (p.f.fr[i]).2.1+1<=_;omega) (by omega);rw [z3n,e1];refine ⟨rfl,rfl,?_,rfl,by show (p.f.fr.set i _).length=_;rw [List.length_set],rfl,by simp,fun g=>absurd rfl g⟩
  rw [hw];exact hin
theorem yJx {p P W u} (h:Inv p P W 2147483647 u) (hu0:0<=u) (hu:u<2147483647) {q:Nat} (h1:1<=q) (h16:q<=16) {n:Nat} (hl:p.f.fr.length=n):Did p 2147483647 (u+1) (zIf P W n 2 q) (zBt p q):=by
 rw [zIf,if_neg (show ¬((2:Int)=1/\ (P q).1=0) from fun g=>absurd g.1 (by decide)),if_pos (show ((2:Int)=2) from rfl)];rw [zBt]
 rcases h.where h1 with hn|⟨i,hA⟩
 ·rw [zCt h.pj.fm hn (by omega),if_neg (show ¬false=true by decide),h.pj.get h1 h16,h.on.dsk q h1 h16 (h.out h1 hn)]
  by_cases hz:(P q).1=0
  ·rw [if_pos hz,if_neg (fun g=>g.2 hz),if_pos rfl];exact zTy (h.mono (Int.le_refl _) (show u<=u+1 by omega)) (by omega) h1 h16 hn (x:=newP q) (yEf (by omega) (by omega)) rfl true (fun g=>by cases g) (by show (1:Int) <=2147483647;decide) hl
  ·rw [if_neg hz,if_pos ⟨rfl,hz⟩,if_neg (show ¬(0:Int)=3 by decide),if_pos rfl];exact Did.same (h.mono (Int.le_refl _) (by omega)) zP 4
 ·rw [if_pos ⟨rfl,h.nz hA⟩,findF_at hA,if_pos rfl];exact Did.same (h.mono (Int.le_refl _) (by omega)) zP 4
theorem yCy {p P W u} (h:Inv p P W 2147483647 u) {q:Nat} (h1:1<=q) (h16:q<=16):zFd p q=decide (0<W q):=by
 rw [zFd]
 rcases h.where h1 with hn|⟨i,hA⟩
 ·rw [zCt h.pj.fm hn (by omega),h.wout h1 h16 hn];rfl
 ·rw [findF_at hA,h.wat hA,Int.toNat_natCast,zCj hA.hi];rfl
theorem yAl {p P W u} (h:Inv p P W 2147483647 u) {q i:Nat} (hA:AtF p.f (q:Int) i) (hz:(p.f.fr[i]'hA.hi).2.1≠0) (b:ByteArray) (h1:1<=q) (h16:q<=16):
  zBc p (3,(q:Int),b)=(p,P q,[],0) /\
  (∃ p' r,zBc p (4,(q:Int),b)=(p',r.2,[],r.1) /\p'.now=p.now/\p'.f.fr.length=p.f.fr.length/\
   if 16<b.size then r=(5,zP) /\p'=p else if (P q).2.1=2147483647 then r=(7,zP) /\p'=p else r=(0,wrPg (P q) b) /\Inv p' (ud P q (wrPg (P q) b)) W 2147483647 u) /\
  ∃ p',zBc p (5,(q:Int),b)=(p',zP,[],0) /\Inv p' P (ud W q (W q-1)) 2147483647 u/\p'.now=p.now/\p'.f.fr.length=p.f.fr.length:=by
 have hi:=hA.hi;have hip:=hA.hp;have hw:=h.wat hA;have hko:=zBr.1 (h.pj.fm.ck.all i hi);refine ⟨?_,?_,?_⟩
 ·rw [zJ (show 1<= (q:Int) by omega) (show (q:Int) <=16 by omega) (.inl rfl),zLz (a:=(3,(q:Int),b)) hA hz,if_neg (show ¬(3:Int)=4 by decide),if_neg (show ¬(3:Int)=5 by decide),h.at_ q i hA]
 ·rw [zJ (show 1<= (q:Int) by omega) (show (q:Int) <=16 by omega) (.inr (.inl rfl)),zLz (a:=(4,(q:Int),b)) hA hz,if_pos rfl]
  by_cases hb:16<b.size
  ·have e:zBs p.f q b p.now=(p.f,5):=by
    rw [zBs,yXd h hA,if_neg (fun q=>q rfl),Int.toNat_natCast,zCj hi,if_neg hz,if_pos hb]
   refine ⟨p,(5,zP),?_,rfl,rfl,?_⟩
   ·simp only [e];rfl
   ·rw [if_pos hb];exact ⟨rfl,rfl⟩
  ·by_cases hv:(P q).2.1=2147483647
   ·have e:=write7 h hv hA hz (b:=b) (by omega);refine ⟨p,(7,zP),?_,rfl,rfl,?_⟩
    ·simp only [e];rfl
    ·rw [if_neg hb,if_pos hv];exact ⟨rfl,rfl⟩
   ·have hvb:=h.on.vb q;obtain ⟨f',e1,e2,e3,e4⟩:=write9 h (by omega) hA hz (b:=b) (by omega);refine ⟨⟨f',p.d,p.now⟩,(0,wrPg (P q) b),?_,rfl,by show f'.fr.length=_;rw [e4],?_⟩
    ·simp only [e1];rw [if_neg (fun g=>g rfl),e3]
    ·rw [if_neg hb,if_neg hv];exact ⟨rfl,e2⟩
 ·rw [zJ (show 1<= (q:Int) by omega) (show (q:Int) <=16 by omega) (.inr (.inr rfl)),zLz (a:=(5,(q:Int),b)) hA hz,if_neg (show ¬(5:Int)=4 by decide),if_pos rfl,zSl hA hz,if_neg (fun g=>g rfl)];have hub:=h.ub q;rw [hw] at hub;have hin:=h.pin hA (y:=zGq p.f.fr[i]) (zBr.2 ⟨hko.1,hko.2.1,by show 0<= (p.f.fr[i]).2.1-1;omega,by show (p.f.fr[i]).2.1-1<=_;omega⟩) hA.fr (u':=u) (by show (p.f.fr[i]).2.1-1<=_;omega) (Int.le_refl _);refine ⟨_,rfl,?_,rfl,by show (p.f.fr.set i _).length=_;rw [List.length_set]⟩
  rw [hw];exact hin
def mdoc (P:Nat->Pg) (o:MOp):(Nat->Pg)×MRes:=
 if o.1=1 then (if (P o.2.1.toNat).1≠0 then (P,(4,zP)) else (ud P o.2.1.toNat (newP o.2.1.toNat),(0,newP o.2.1.toNat)))
 else if (P o.2.1.toNat).1=0 then (P,(3,zP))
 else if o.1=2 then (P,(0,P o.2.1.toNat))
 else if o.1=3 then (if 16<o.2.2.size then (P,(5,zP)) else if (P o.2.1.toNat).2.1=2147483647 then (P,(7,zP)) else (ud P o.2.1.toNat (wrPg (P o.2.1.toNat) o.2.2),(0,wrPg (P o.2.1.toNat) o.2.2)))
 else (ud P o.2.1.toNat zP,(0,zP))
structure DocI (p:PS) (P:Nat->Pg) (n:Nat):Prop where
 inv:Inv p P (fun _=>0) 2147483647 0
 len:p.f.fr.length=n
theorem Inv.u0 {p P u} (h:Inv p P (fun _=>0) 2147483647 u):Inv p P (fun _=>0) 2147483647 0:=⟨h.pj,h.pins,h.at_,h.on,fun _=>Int.le_refl _⟩
theorem yZg (q:Nat):ud (ud (fun _=>(0:Int)) q 1) q ((ud (fun _=>(0:Int)) q 1) q-1)=fun _=>0:=by
 funext k
 by_cases e:k=q
 ·subst e;rw [zDp,zDp];rfl
 ·rw [zDs _ _ e,zDs _ _ e]
theorem yPl {p P u} (h:Inv p P (fun _=>0) 2147483647 u) (o:MOp) {q:Nat} (ho:o.2.1=(q:Int)) (h1:1<=q) (h16:q<=16) (r:MRes):zXz o (p,r)=(p,r):=by
 rw [zXz,if_neg];show ¬zFd p o.2.1=true
 rw [ho,yCy h h1 h16];decide
theorem yNd {p P u} {q:Nat} (h:Inv p P (ud (fun _=>0) q 1) 2147483647 u) (h1:1<=q) (h16:q<=16):∃ i,∃ hA:AtF p.f (q:Int) i,(p.f.fr[i]'hA.hi).2.1≠0:=by
 rcases h.where h1 with hn|⟨i,hA⟩
 ·have:=h.wout h1 h16 hn
  rw [zDp] at this;cases this
 ·refine ⟨i,hA,?_⟩
  rw [<-h.wat hA,zDp];decide
theorem yVk {p P u} {q:Nat} (h:Inv p P (ud (fun _=>0) q 1) 2147483647 u) (o:MOp) (ho:o.2.1=(q:Int)) (h1:1<=q) (h16:q<=16) (r:MRes):
  ∃ p',zXz o (p,r)=(p',r) /\Inv p' P (fun _=>0) 2147483647 0/\p'.now=p.now/\p'.f.fr.length=p.f.fr.length:=by
 obtain ⟨i,hA,hz⟩:=yNd h h1 h16;obtain ⟨_,_,p',e,i',n',l'⟩:=yAl h hA hz ByteArray.empty h1 h16;rw [yZg] at i';refine ⟨p',?_,i'.u0,n',l'⟩
 have hp:zFd p o.2.1=true:=by rw [ho,yCy h h1 h16,zDp];rfl
 rw [zXz,if_pos hp];simp only [];rw [ho,e];simp only [];rw [if_neg (fun g=>g.2 rfl)]
theorem do1 (p:PS) {q:Nat} (h1:1<=q) (h16:q<=16) (b:ByteArray):zBc p (1,(q:Int),b)=zDm p q:=by
 rw [zBc,if_neg (show ¬((1:Int)<1\/ (8:Int)<1) by decide),if_neg (show ¬((1:Int)≠8/\ ((q:Int)<1\/16<(q:Int))) by omega),if_pos rfl]
theorem do2 (p:PS) {q:Nat} (h1:1<=q) (h16:q<=16) (b:ByteArray):zBc p (2,(q:Int),b)=zBt p q:=by
 rw [zBc,if_neg (show ¬((2:Int)<1\/ (8:Int)<2) by decide),if_neg (show ¬((2:Int)≠8/\ ((q:Int)<1\/16<(q:Int))) by omega),if_neg (show ¬(2:Int)=1 by decide),if_pos rfl]
theorem do6 (p:PS) {q:Nat} (h1:1<=q) (h16:q<=16) (b:ByteArray):zBc p (6,(q:Int),b)=zEb p q:=by
 rw [zBc,if_neg (show ¬((6:Int)<1\/ (8:Int)<6) by decide),if_neg (show ¬((6:Int)≠8/\ ((q:Int)<1\/16<(q:Int))) by omega),if_neg (show ¬(6:Int)=1 by decide),if_neg (show ¬(6:Int)=2 by decide),if_pos rfl]
theorem z0g {p p':PS} {x:Pg} {l:List Jo} {e k:Int} {ks:List Int} {o:MOp} {r:MRes} (h:zBc p (k,o.2.1,o.2.2)=(p',x,l,e)) (he:e≠0):actG o (k::ks) p r=(p',(e,zP)):=by
 rw [actG];simp only [h];rw [if_pos he]
theorem zYg {p p':PS} {x:Pg} {l:List Jo} {k:Int} {ks:List Int} {o:MOp} {r:MRes} (h:zBc p (k,o.2.1,o.2.2)=(p',x,l,0)):actG o (k::ks) p r=actG o ks p' (r.1,x):=by
 rw [actG];simp only [h];rw [if_neg (fun g=>g rfl)]
theorem yUe {n:Nat} (hn:1<=n) (q:Nat):¬((fun _=>(0:Int)) q=0/\bn (fun _=>(0:Int)) 16=n):=fun g=>by
 have:bn (fun _=>(0:Int)) 16=0:=rfl;omega
theorem yTa {p P n} (h:DocI p P n) (hn:1<=n) (o:MOp) (hr:refB o=false):
  (workP p o).2=(mdoc P o).2/\DocI (workP p o).1 (mdoc P o).1 n:=by
 obtain ⟨h,hl⟩:=h;obtain ⟨⟨k1,k4⟩,q1,q16⟩:=zTa hr;obtain ⟨k,id,b⟩:=o;simp only [] at k1 k4 q1 q16;obtain ⟨q,rfl⟩:∃ q:Nat,id=q:=⟨id.toNat,by omega⟩
 have h1:1<=q:=by omega
 have h16:q<=16:=by omega
 have key:∀ {p':PS} {P':Nat->Pg} {r:MRes},workP p (k,(q:Int),b)=(p',r)->Inv p' P' (fun _=>0) 2147483647 0->p'.f.fr.length=p.f.fr.length->mdoc P (k,(q:Int),b)=(P',r)->
   (workP p (k,(q:Int),b)).2=(mdoc P (k,(q:Int),b)).2/\DocI (workP p (k,(q:Int),b)).1 (mdoc P (k,(q:Int),b)).1 n:=by
  intro p' P' r e i m d;rw [e,d];exact ⟨rfl,i,m.trans hl⟩
 have hk:k=1\/k=2\/k=3\/k=4:=by omega
 by_cases hz:(P q).1=0
 ·rcases hk with rfl|hk
  ·have d:=yJx h (Int.le_refl _) (by decide) h1 h16 hl;rw [zIf,if_neg (fun g=>absurd g.1 (by decide)),if_neg (fun g=>g.2 hz),if_neg (yUe hn q),if_pos rfl] at d;obtain ⟨p1,l,e,i1,n1,m1,_⟩:=d.eq;rw [<-do2 p h1 h16 b] at e;obtain ⟨p2,e2,i2,n2,m2⟩:=yVk i1 (1,(q:Int),b) rfl h1 h16 (0,newP q);refine key (p':=p2) (P':=ud P q (newP q)) (r:=(0,newP q)) ?_ i2 (m2.trans m1) ?_
   ·rw [workP,show zGe 1=[2] from rfl,zYg (o:=(1,(q:Int),b)) e];exact e2
   ·rw [mdoc,if_pos rfl,if_neg (fun g=>g (by simpa using hz))];simp
  ·have hmd:mdoc P (k,(q:Int),b)=(P,(3,zP)):=by
    rw [mdoc,if_neg (by show ¬k=1;omega),if_pos (by simpa using hz)]
   by_cases h4:k=4
   ·subst h4;have d:=zRd h (by decide) h1 h16;rw [if_neg (show ¬(0:Int)<0 by decide),if_pos hz] at d;obtain ⟨p1,l,e,i1,n1,m1,_⟩:=d.eq;rw [<-do6 p h1 h16 b] at e;refine key (p':=p1) (P':=P) (r:=(3,zP)) ?_ i1.u0 m1 hmd;rw [workP,show zGe 4=[6] from rfl,z0g (o:=(4,(q:Int),b)) e (by decide)];exact yPl i1 _ rfl h1 h16 _
   ·have d:=yTp h (Int.le_refl _) (by decide) h1 h16 hl;rw [zIf,if_pos ⟨rfl,hz⟩] at d;obtain ⟨p1,l,e,i1,n1,m1,_⟩:=d.eq;rw [<-do1 p h1 h16 b] at e;refine key (p':=p1) (P':=P) (r:=(3,zP)) ?_ i1.u0 m1 hmd
    obtain ⟨ks,hks⟩:∃ ks,zGe k=1::ks:=by
     rcases hk with rfl|rfl|rfl
     ·exact ⟨_,rfl⟩
     ·exact ⟨_,rfl⟩
     ·exact absurd rfl h4
    rw [workP,show zGe (k,(q:Int),b).1=1::ks from hks,z0g (o:=(k,(q:Int),b)) e (by decide)];exact yPl i1 _ rfl h1 h16 _
 ·have fet:∃ p1 l,zBc p (1,(q:Int),b)=(p1,P q,l,0) /\Inv p1 P (ud (fun _=>0) q 1) 2147483647 1/\p1.f.fr.length=p.f.fr.length:=by
   have d:=yTp h (Int.le_refl _) (by decide) h1 h16 hl;rw [zIf,if_neg (fun g=>hz g.2),if_neg (fun g=>absurd g.1 (by decide)),if_neg (yUe hn q),if_neg (by decide),z3n] at d;obtain ⟨p1,l,e,i1,n1,m1,_⟩:=d.eq;rw [<-do1 p h1 h16 b] at e;exact ⟨p1,l,e,i1,m1⟩
  rcases hk with rfl|rfl|rfl|rfl
  ·have d:=yJx h (Int.le_refl _) (by decide) h1 h16 hl;rw [zIf,if_neg (fun g=>absurd g.1 (by decide)),if_pos ⟨rfl,hz⟩] at d;obtain ⟨p1,l,e,i1,n1,m1,_⟩:=d.eq;rw [<-do2 p h1 h16 b] at e;refine key (p':=p1) (P':=P) (r:=(4,zP)) ?_ i1.u0 m1 ?_
   ·rw [workP,show zGe 1=[2] from rfl,z0g (o:=(1,(q:Int),b)) e (by decide)];exact yPl i1 _ rfl h1 h16 _
   ·rw [mdoc,if_pos rfl,if_pos (by simpa using hz)]
  ·obtain ⟨p1,l,e,i1,m1⟩:=fet;obtain ⟨i,hA,hp⟩:=yNd i1 h1 h16;have e2:=(yAl i1 hA hp b h1 h16).1;obtain ⟨p2,e3,i2,n2,m2⟩:=yVk i1 (2,(q:Int),b) rfl h1 h16 (0,P q);refine key (p':=p2) (P':=P) (r:=(0,P q)) ?_ i2 (m2.trans m1) ?_
   ·rw [workP,show zGe 2=[1,3] from rfl,zYg (o:=(2,(q:Int),b)) e,zYg (o:=(2,(q:Int),b)) e2];exact e3
   ·rw [mdoc,if_neg (show ¬(2:Int)=1 by decide),if_neg (by simpa using hz),if_pos rfl];simp
  ·obtain ⟨p1,l,e,i1,m1⟩:=fet;obtain ⟨i,hA,hp⟩:=yNd i1 h1 h16;obtain ⟨p2,r,e2,n2,m2,c⟩:=(yAl i1 hA hp b h1 h16).2.1
   have fin:∀ {P':Nat->Pg},Inv p2 P' (ud (fun _=>0) q 1) 2147483647 1->(r.1≠0->r.2=zP)->mdoc P (3,(q:Int),b)=(P',r)->
     (workP p (3,(q:Int),b)).2=(mdoc P (3,(q:Int),b)).2/\DocI (workP p (3,(q:Int),b)).1 (mdoc P (3,(q:Int),b)).1 n:=by
    intro P' i2 hr0 d;obtain ⟨p3,e3,i3,n3,m3⟩:=yVk i2 (3,(q:Int),b) rfl h1 h16 r;refine key (p':=p3) (P':=P') (r:=r) ?_ i3 (m3.trans (m2.trans m1)) d;rw [workP,show zGe 3=[1,4] from rfl,zYg (o:=(3,(q:Int),b)) e]
    by_cases hr0':r.1=0
    ·rw [hr0'] at e2;rw [zYg (o:=(3,(q:Int),b)) e2];rw [show ((0,r.2):MRes)=r by rw [<-hr0']];exact e3
    ·rw [z0g (o:=(3,(q:Int),b)) e2 hr0',show ((r.1,zP):MRes)=r by rw [<-hr0 hr0']];exact e3
   have hmd:mdoc P (3,(q:Int),b)=(if 16<b.size then (P,(5,zP)) else if (P q).2.1=2147483647 then (P,(7,zP)) else (ud P q (wrPg (P q) b),(0,wrPg (P q) b))):=by
    rw [mdoc,if_neg (show ¬(3:Int)=1 by decide),if_neg (by simpa using hz),if_neg (show ¬(3:Int)=2 by decide),if_pos rfl];simp
   by_cases hb:16<b.size
   ·rw [if_pos hb] at c hmd;obtain ⟨rfl,rfl⟩:=c;exact fin i1 (fun _=>rfl) hmd
   ·rw [if_neg hb] at c hmd
    by_cases hv:(P q).2.1=2147483647
    ·rw [if_pos hv] at c hmd;obtain ⟨rfl,rfl⟩:=c;exact fin i1 (fun _=>rfl) hmd
    ·rw [if_neg hv] at c hmd;obtain ⟨rfl,i2⟩:=c;exact fin i2 (fun g=>absurd rfl g) hmd
  ·have d:=zRd h (by decide) h1 h16;rw [if_neg (show ¬(0:Int)<0 by decide),if_neg hz] at d;obtain ⟨p1,l,e,i1,n1,m1,_⟩:=d.eq;rw [<-do6 p h1 h16 b] at e;refine key (p':=p1) (P':=ud P q zP) (r:=(0,zP)) ?_ i1.u0 m1 ?_
   ·rw [workP,show zGe 4=[6] from rfl,zYg (o:=(4,(q:Int),b)) e];exact yPl i1 _ rfl h1 h16 _
   ·rw [mdoc,if_neg (show ¬(4:Int)=1 by decide),if_neg (by simpa using hz),if_neg (show ¬(4:Int)=2 by decide),if_neg (show ¬(4:Int)=3 by decide)];simp
theorem yEd {n:Nat} (h1:1<=n) (h8:n<=8):DocI (p0 n) (fun _=>zP) n:=⟨(yUj h1 h8).mono (by decide) (by decide),List.length_replicate ..⟩
theorem yZ {s:ByteArray} (h:(zFl s).2=0):pgR (zFl s).1=true:=by
 rw [zFl] at h⊢
 split at h
 ·cases h
 rw [if_neg (by assumption)]
 split at h
 ·cases h
 rw [if_neg (by assumption)]
 split at h
 ·cases h
 rw [if_neg (by assumption)]
 split at h
 ·rename_i g;rw [if_pos g];exact g.1
 ·cases h
theorem getR_r {s:List ByteArray} {q:Nat} (h:(getR s q).2=0):pgR (getR s q).1=true/\ (getR s q).1.1=(q:Int):=by
 rw [getR] at h⊢
 split at h
 ·rename_i g;exact absurd h g
 rename_i g;rw [if_neg g]
 split at h
 ·cases h
 rename_i g2;rw [if_neg g2];exact ⟨yZ (by simpa using g),by simpa using g2⟩
theorem zNm {f:Nat->Option Pg} (hf:∀ k x,f k=some x->x.1=(k:Int)+1) (n:Nat):((List.range n).filterMap f).Pairwise fun a b=>a.1<b.1:=by
 rw [List.pairwise_filterMap]
 refine List.pairwise_lt_range.imp fun {a b} hab x hx y hy=>?_
 have:=hf a x hx;have:=hf b y hy;omega
theorem mr_of {l:List Pg} (h1:∀ x∈l,pgR x=true) (h2:l.Pairwise fun a b=>a.1<b.1):Hy.MRight l:=
 ⟨h1,fun i hi=>(List.pairwise_iff_getElem.1 h2) i (i+1) (by omega) hi (by omega)⟩
theorem yCw {l:List Pg} (h1:∀ x∈l,pgR x=true) (h2:l.Pairwise fun a b=>a.1<b.1) {x:Pg} (hx:x∈l):getO l x.1=(x,true):=by
 obtain ⟨i,hi,rfl⟩:=List.mem_iff_getElem.1 hx
 have e:Hy.plN l l[i].1=i:=Hy.plN_at hi (Int.le_refl _) fun j hj hjl=>(List.pairwise_iff_getElem.1 h2) j i hjl hi hj
 rw [getO,if_pos ⟨Hy.mapB_t.2 (mr_of h1 h2),by rw [Hy.plB,e,List.getElem?_eq_getElem hi];simp⟩,e,List.getElem?_eq_getElem hi];rfl
theorem yKz {l:List Pg} {id:Int} (h:∀ x∈l,x.1≠id):getO l id=(zP,false):=by
 rw [getO,if_neg];rintro ⟨_,g⟩;rw [Hy.plB] at g
 split at g
 ·rename_i p hp;exact h p (List.mem_of_getElem? hp) (by simpa using g)
 ·cases g
theorem yBa {d:DS} {k:Nat} {x:Pg} (hd:∀ q:Nat,1<=q->q<=16->getS d q=getR d.sec q) (hk:k<16) (h:stAt d k=some x):pgR x=true/\x.1=(k:Int)+1:=by
 have e:=hd (k+1) (by omega) (by omega);rw [show (((k+1:Nat):Int))=(k:Int)+1 by omega] at e;rw [stAt,e] at h
 split at h
 ·rename_i g
  cases h
  have:=getR_r g;exact ⟨this.1,by omega⟩
 ·cases h
theorem lsN_mem {d:DS} {x:Pg}:x∈lsN d 16↔∃ k,k<16/\stAt d k=some x:=by
 rw [lsN,List.mem_filterMap];simp [List.mem_range]
theorem fm_congr {f g:Nat->Option Pg} {n:Nat} (h:∀ k,k<n->f k=g k):(List.range n).filterMap f=(List.range n).filterMap g:=by
 induction n with
 |zero=>rfl
 |succ n ih=>rw [zRj,zRj,ih fun k hk=>h k (by omega),h n (by omega)]
theorem zGk {m:MS} {P:Nat->Pg} {n:Nat} (h:DocI m.p P n):yUk m=bgN P 16:=by
 have hi:=h.inv
 have hd:∀ q:Nat,1<=q->q<=16->getS m.p.d q=getR m.p.d.sec q:=fun q h1 h16=>hi.pj.get h1 h16
 have r1:∀ x∈lsN m.p.d 16,pgR x=true:=fun x hx=>by
  obtain ⟨k,hk,e⟩:=lsN_mem.1 hx;exact (yBa hd hk e).1
 have r2:(lsN m.p.d 16).Pairwise fun a b=>a.1<b.1:=by
  have e:lsN m.p.d 16=(List.range 16).filterMap fun k=>if k<16 then stAt m.p.d k else none:=fm_congr fun k hk=>by rw [if_pos hk]
  rw [e];refine zNm (fun k x hx=>?_) 16
  split at hx
  ·rename_i hk;exact (yBa hd hk hx).2
  ·cases hx
 refine fm_congr fun k hk=>?_
 rw [pgAt,bgAt,show ((k:Int)+1)=((k+1:Nat):Int) by omega]
 rcases hi.where (q:=k+1) (by omega) with hn|⟨i,hA⟩
 ·rw [zCt hi.pj.fm hn (by omega),if_neg (by decide)];have e:=hi.on.dsk (k+1) (by omega) (by omega) (hi.out (by omega) hn)
  by_cases hz:(P (k+1)).1=0
  ·rw [if_pos hz] at e;rw [yKz,if_neg (by decide),if_neg (show ¬(P (k+1)).1≠0 from fun g=>g hz)];intro x hx ex;obtain ⟨j,hj,ej⟩:=lsN_mem.1 hx;have h2:=(yBa hd hj ej).2
   have:j=k:=by omega
   subst this;rw [stAt,show ((j:Int)+1)=((j+1:Nat):Int) by omega,hd (j+1) (by omega) (by omega),e,if_neg (by decide)] at ej
   cases ej
  ·rw [if_neg hz] at e;rw [if_pos hz]
   have hm:P (k+1)∈lsN m.p.d 16:=lsN_mem.2 ⟨k,hk,by
    rw [stAt,show ((k:Int)+1)=((k+1:Nat):Int) by omega,hd (k+1) (by omega) (by omega),e,if_pos rfl]⟩
   have:=yCw r1 r2 hm;rw [(hi.on.nz (q:=k+1) (by omega) (by omega) hz).2] at this;rw [this,if_pos rfl]
 ·rw [findF_at hA,if_pos rfl,if_pos (hi.nz hA)];simp only [Int.toNat_natCast];rw [zDu hA.hp,hi.at_ (k+1) i hA]
theorem MG.new {p:PS} {n:Nat} {work:List (List MOp)} (n1:1<=n) (n8:n<=8) (hp:p.f.fr.length=n) (hg:Gd 0 p) (t1:1<=work.length) (t4:work.length<=4):MG work 0 (zEg p n work):=
 ⟨yXn n1 n8 hp t1 t4,hg,by
  show (work.map zFx).map (·.todo)=work;rw [List.map_map]
  exact List.map_id'' (fun _=>rfl) _,Int.le_refl _⟩
theorem DocI.gd {p P n} (h:DocI p P n):Gd p.now p:=⟨h.inv.pj.fm,by
 have:=h.inv.pj.rest.us
 rw [<-h.inv.pj.d] at this;exact this,rfl⟩
def mCk (k:Nat) (m:MS):List AV:=.own (k+1)::(m.p.box++(m.h.cells.map AV.d++(latC m.lat++((m.s.cells m.p.d).map AV.d++[.d (.int .i64 m.clk),.own (k+2)]))))
def stV (m:MS) (k:Nat):Int:=match m.ws[k]? with|some w=>(w.st:Int)|none=>0
inductive Tr (m:MS):MS->Prop
 |same (h':HA) (lat':List LA) (s':SA) (c':Int) (hc:c'=m.clk\/c'=m.clk+1):Tr m ⟨m.ws,m.p,h',lat',s',c',m.ev⟩
 |age (a:Int):Tr m (ageM m a)
 |beg (k:Nat) (w:WA) (h':HA) (hk:m.ws[k]?=some w) (hs:w.st=0) (he:w.ended<w.todo.length):Tr m ⟨m.ws.set k {w with began:=m.clk,st:=1},m.p,h',m.lat,m.s,m.clk+1,m.ev⟩
 |mid (k:Nat) (w:WA) (a p:Bool) (s:Nat) (h':HA) (lat':List LA) (s':SA) (hk:m.ws[k]?=some w) (h1:1<=w.st) (h5:w.st<6) (h2:2<=s) (h6:s<=5):Tr m ⟨m.ws.set k {w with asked:=a,pinned:=p,st:=s},m.p,h',lat',s',m.clk+1,m.ev⟩
 |wake (k:Nat) (w:WA) (s':SA) (hk:m.ws[k]?=some w) (hs:w.st=4):Tr m ⟨m.ws.set k {w with st:=5},m.p,m.h,m.lat,s',m.clk,m.ev⟩
 |fail (k:Nat) (w:WA) (s':SA) (hk:m.ws[k]?=some w) (hs:w.st=4):Tr m ⟨m.ws.set k (zJu w (8,zP) (m.clk-1)),m.p,m.h,m.lat,s',m.clk,m.ev⟩
 |refuse (k:Nat) (w:WA) (hk:m.ws[k]?=some w) (hs:w.st=1) (hr:refB w.op=true):Tr m ⟨m.ws.set k (zJu w (1,zP) m.clk),m.p,m.h,m.lat,m.s,m.clk+1,m.ev⟩
 |work (k:Nat) (w:WA) (hk:m.ws[k]?=some w) (hs:w.st=5) (hr:refB w.op=false):Tr m ⟨m.ws.set k (zJu w (workP m.p w.op).2 m.clk),(workP m.p w.op).1,m.h,m.lat,m.s,m.clk+1,m.ev⟩
 |leave (k:Nat) (w:WA) (h':HA) (lat':List LA) (hk:m.ws[k]?=some w) (hs:w.st=6):Tr m ⟨m.ws.set k (z5w w),m.p,h',lat',m.s,m.clk+1,m.ev++[⟨k,w.op,w.res,w.began,w.done,m.clk⟩]⟩
theorem yBi {m:MS} (o:MOk m) (k:Int):Tr m (zB m k).1:=by
 rw [zB]
 split
 ·exact .same m.h m.lat m.s m.clk (.inl rfl)
 split
 ·exact .same m.h m.lat m.s m.clk (.inl rfl)
 ·rename_i w hk;have v:=o.w _ w hk;have no:Tr m {m with clk:=m.clk+1}:=.same m.h m.lat m.s (m.clk+1) (.inr rfl);unfold stepW
  split
  ·rename_i hs
   split
   ·exact no
   ·exact .beg _ w _ hk hs (by omega)
  ·rename_i hs
   split
   ·exact no
   split
   ·rename_i hr;exact .refuse _ w hk hs hr
   ·exact .mid _ w true w.pinned 2 _ _ _ hk (by omega) (by omega) (by omega) (by omega)
  ·rename_i hs
   split
   ·exact no
   ·exact .mid _ w w.asked w.pinned 3 _ _ _ hk (by omega) (by omega) (by omega) (by omega)
  ·rename_i hs
   split
   ·exact no
   split
   ·exact .mid _ w w.asked true 4 _ _ _ hk (by omega) (by omega) (by omega) (by omega)
   ·exact .mid _ w w.asked true 5 _ _ _ hk (by omega) (by omega) (by omega) (by omega)
  ·rename_i hs;exact .work _ w hk hs (v.val (v.ask (by omega) (by omega)))
  ·rename_i hs;exact .leave _ w _ _ hk hs
  ·exact no
theorem yUv {m:MS} (_:MOk m) (i:Int) (b:Bool):Tr m (finM m i b).1:=by
 rw [finM]
 split
 ·exact .same m.h m.lat m.s m.clk (.inl rfl)
 split
 ·exact .same m.h m.lat _ m.clk (.inl rfl)
 ·split
  ·exact .same m.h m.lat _ m.clk (.inl rfl)
  ·rename_i w hk
   split
   ·exact .same m.h m.lat _ m.clk (.inl rfl)
   ·rename_i hs;unfold zMl
    split
    ·exact .fail _ w _ hk (by omega)
    ·exact .wake _ w _ hk (by omega)
structure OkP (P:Nat->Pg):Prop where
 ok:∀ q:Nat,1<=q->q<=16->P q=zP\/ (pgR (P q)=true/\ (P q).1=(q:Int))
theorem DocI.okp {p P n} (h:DocI p P n):OkP P:=⟨h.inv.on.okp⟩
theorem OkP.zz {P} (h:OkP P) {q:Nat} (h1:1<=q) (h16:q<=16) (hz:(P q).1=0):P q=zP:=by
 rcases h.ok q h1 h16 with e|⟨_,e⟩
 ·exact e
 ·omega
theorem OkP.nz {P} (h:OkP P) {q:Nat} (h1:1<=q) (h16:q<=16) (hz:(P q).1≠0):pgR (P q)=true/\ (P q).1=(q:Int):=by
 rcases h.ok q h1 h16 with e|e
 ·rw [e] at hz;exact absurd rfl hz
 ·exact e
theorem OkP.ud {P} (h:OkP P) {q:Nat} {x:Pg} (hx:x=zP\/ (pgR x=true/\x.1=(q:Int))):OkP (ud P q x):=⟨fun k k1 k16=>by
 by_cases e:k=q
 ·subst e;rw [zDp];exact hx
 ·rw [zDs _ _ e];exact h.ok k k1 k16⟩
def zFr (P:Nat->Pg) (o:MOp):(Nat->Pg)×MRes:=if refB o=true then (P,(1,zP)) else mdoc P o
theorem yDr {P} (h:OkP P) (o:MOp):OkP (zFr P o).1:=by
 rw [zFr]
 split
 ·exact h
 rename_i hr;obtain ⟨⟨k1,k4⟩,q1,q16⟩:=zTa (by simpa using hr)
 rw [mdoc];repeat' split
 all_goals first|exact h|skip
 ·exact h.ud (.inr ⟨yEf (by omega) (by omega),rfl⟩)
 ·rename_i g1 g2 g3 g4 g5 g6;obtain ⟨r1,r2⟩:=h.nz (q:=o.2.1.toNat) (by omega) (by omega) g2;have:=pgR_out.1 r1;exact h.ud (.inr ⟨pgR_out.2 ⟨this.1,this.2.1,by show 1<= (P o.2.1.toNat).2.1+1;omega,by show (P o.2.1.toNat).2.1+1<=_;omega,by show o.2.2.size<=16;omega⟩,r2⟩)
 ·exact h.ud (.inl rfl)
theorem yMd (P:Nat->Pg) (o:MOp):(zFr P o).2.1≠8:=by
 rw [zFr]
 split
 ·exact (by decide:(1:Int)≠8)
 rw [mdoc];repeat' split
 all_goals first|exact (by decide:(4:Int)≠8)|exact (by decide:(0:Int)≠8)|exact (by decide:(3:Int)≠8)|exact (by decide:(5:Int)≠8)|exact (by decide:(7:Int)≠8)
theorem zYk {P:Nat->Pg} {x:Pg}:x∈bgN P 16↔∃ q:Nat,1<=q/\q<=16/\ (P q).1≠0/\x=P q:=by
 rw [bgN,List.mem_filterMap];simp only [List.mem_range,bgAt]
 constructor
 ·rintro ⟨k,hk,e⟩
  split at e
  ·rename_i g;cases e;exact ⟨k+1,by omega,by omega,g,rfl⟩
  ·cases e
 ·rintro ⟨q,h1,h16,hz,rfl⟩;exact ⟨q-1,by omega,by rw [show q-1+1=q by omega,if_pos hz]⟩
theorem yJb {P} (h:OkP P):(bgN P 16).Pairwise fun a b=>a.1<b.1:=by
 have e:bgN P 16=(List.range 16).filterMap fun k=>if k<16 then bgAt P k else none:=fm_congr fun k hk=>by rw [if_pos hk]
 rw [e];refine zNm (fun k x hx=>?_) 16
 split at hx
 ·rw [bgAt] at hx
  split at hx
  ·rename_i hk g
   cases hx
   have:=(h.nz (q:=k+1) (by omega) (by omega) g).2;omega
  ·cases hx
 ·cases hx
theorem bg_mr {P} (h:OkP P):Hy.MRight (bgN P 16):=mr_of (fun x hx=>by
 obtain ⟨q,h1,h16,hz,rfl⟩:=zYk.1 hx
 exact (h.nz h1 h16 hz).1) (yJb h)
theorem zLc (P:Nat->Pg):(bgN P 16).length<=16:=zYy _ _
theorem yJa {P} (h:OkP P) {q:Nat} (h1:1<=q) (h16:q<=16):(Hy.findP (bgN P 16) q).getD Hy.zP=P q:=by
 by_cases hz:(P q).1=0
 ·rw [h.zz h1 h16 hz]
  cases e:Hy.findP (bgN P 16) q with
  |none=>rfl
  |some x=>
   obtain ⟨hm,hx⟩:=(Hy.findP_iff (yJb h)).1 e;obtain ⟨k,k1,k16,kz,rfl⟩:=zYk.1 hm;have:=(h.nz k1 k16 kz).2
   have:k=q:=by omega
   subst this;exact absurd hz kz
 ·rw [(Hy.findP_iff (yJb h)).2 ⟨zYk.2 ⟨q,h1,h16,hz,rfl⟩,(h.nz h1 h16 hz).2⟩];rfl
theorem yVm {P} (h:OkP P):(Hy.findP (bgN P 16) 0).getD Hy.zP=zP:=by
 cases e:Hy.findP (bgN P 16) 0 with
 |none=>rfl
 |some x=>
  obtain ⟨hm,hx⟩:=(Hy.findP_iff (yJb h)).1 e;obtain ⟨k,k1,k16,kz,rfl⟩:=zYk.1 hm;have:=(h.nz k1 k16 kz).2;omega
theorem bg_tab {P} (h:OkP P):Hy.tabOf (bgN P 16)=(List.range 17).map fun j=>if j=0 then zP else P j:=by
 rw [Hy.tabOf]
 refine List.map_congr_left fun j hj=>?_
 have hj:=List.mem_range.1 hj
 by_cases e:j=0
 ·subst e;rw [if_pos rfl];exact yVm h
 ·rw [if_neg e];exact yJa h (by omega) (by omega)
theorem bg_set {P:Nat->Pg} {n:Nat} (h1:1<=n) (x:Pg):((List.range 17).map fun j=>if j=0 then zP else P j).set n x=(List.range 17).map fun j=>if j=0 then zP else ud P n x j:=by
 refine List.ext_getElem (by simp) fun i hi hi2=>?_
 rw [List.getElem_set];simp only [List.getElem_map,List.getElem_range]
 by_cases e:n=i
 ·subst e;rw [if_pos rfl,if_neg (by omega),zDp]
 ·rw [if_neg e]
  by_cases e0:i=0
  ·rw [if_pos e0,if_pos e0]
  ·rw [if_neg e0,if_neg e0,zDs _ _ (fun g=>e g.symm)]
theorem z4c (P:Nat->Pg):∀ l:List Nat,l.filterMap (bgAt P)=(l.map fun k=>P (k+1)).filter fun p=>!decide (p.1=0)
 | []=>rfl
 |k::l=>by
  rw [List.filterMap_cons,List.map_cons,List.filter_cons,bgAt,z4c P l]
  by_cases e:(P (k+1)).1=0
  ·rw [if_neg (fun g=>g e),decide_eq_true e];rfl
  ·rw [if_pos e,decide_eq_false e];rfl
theorem bg_col (P:Nat->Pg):Hy.colN ((List.range 17).map fun j=>if j=0 then zP else P j) 17=bgN P 16:=by
 rw [bgN,z4c];rfl
theorem yTo {P} (h : OkP P) (o : MOp) : Hy.doM (bgN P 16) o = (bgN (zFr P o).1 16, (zFr P o).2) := by
  have hm : Hy.mapB (bgN P 16) = true := Hy.mapB_t.2 (bg_mr h)
  rw [← Hy.rdM_eq, Hy.rdM, zFr]
  by_cases hr : refB o = true
  · rw [if_pos hr, if_pos]
    · rfl
    · right
      simp only [refB, Bool.or_eq_true, decide_eq_true_eq] at hr
      omega
  rw [if_neg hr]
  obtain ⟨⟨k1, k4⟩, q1, q16⟩ := zTa (by simpa using hr)
  rw [if_neg (by rw [hm]; rintro (g | g)
                 · cases g
                 · omega)]
  have q1' : 1 ≤ o.2.1.toNat := by omega
  have q16' : o.2.1.toNat ≤ 16 := by omega
  simp only [yJa h q1' q16', bg_tab h, bg_set q1', bg_col]
  rw [mdoc]
  have hzz : Hy.zP = zP := rfl
  by_cases a1 : o.1 = 1
  · by_cases hz : (P o.2.1.toNat).1 = 0
    · have e : newP o.2.1.toNat = (o.2.1, 1, ByteArray.empty) := by rw [newP]; congr 1; omega
      simp [a1, hz, e]
    · simp [a1, hz, hzz]
  · have k2 : 1 < o.1 := by omega
    by_cases hz : (P o.2.1.toNat).1 = 0
    · simp [a1, hz, hzz, k2]
    · by_cases a3 : o.1 = 3
      · by_cases hb : 16 < o.2.2.size
        · simp [a3, hz, hzz, hb]
        · by_cases hv : (P o.2.1.toNat).2.1 = 2147483647
          · simp [a3, hz, hzz, hb, hv]
          · simp [a3, hz, hb, hv, wrPg]
      · by_cases a2 : o.1 = 2
        · simp [a2, hz, z3n]
        · have a4 : o.1 = 4 := by omega
          simp [a4, hz, hzz]
theorem zFi {ws:List WA} {k j:Nat} {w v:WA} (h:(ws.set k w)[j]?=some v):(j=k/\v=w) \/ (j≠k/\ws[j]?=some v):=by
 rw [List.getElem?_set] at h
 split at h
 ·rename_i e;subst e
  split at h
  ·cases h;exact .inl ⟨rfl,rfl⟩
  ·cases h
 ·rename_i e;exact .inr ⟨fun g=>e g.symm,h⟩
def opsK (l:List EvA) (k:Nat):List MOp:=(l.filter fun e=>e.who==k).map (·.op)
theorem z6m (l:List EvA) (e:EvA) (k:Nat):opsK (l++[e]) k=opsK l k++(if e.who=k then [e.op] else []):=by
 rw [opsK,List.filter_append,List.map_append,<-opsK]
 by_cases h:e.who=k
 ·rw [if_pos h];simp [h]
 ·rw [if_neg h];simp [h]
structure PG (m:MS):Prop where
 who:∀ e∈m.ev,e.who<m.ws.length
 ops:∀ (k:Nat) (w:WA),m.ws[k]?=some w->opsK m.ev k=w.todo.take w.ended
 bu:∀ (k:Nat) (w:WA),m.ws[k]?=some w->w.st≠0->w.ended<w.todo.length
theorem PG.upd {m:MS} (g:PG m) {k:Nat} {w w':WA} {p':PS} {h':HA} {lat':List LA} {s':SA} {c':Int} (hk:m.ws[k]?=some w) (e1:w'.todo=w.todo) (e2:w'.ended=w.ended) (hb:w.ended<w.todo.length):PG ⟨m.ws.set k w',p',h',lat',s',c',m.ev⟩:=by
 refine ⟨fun e he=>by show e.who<(m.ws.set k w').length;rw [List.length_set];exact g.who e he,fun j v hj=>?_,fun j v hj hs=>?_⟩
 ·rcases zFi hj with ⟨rfl,rfl⟩|⟨_,h⟩
  ·rw [e1,e2];exact g.ops _ w hk
  ·exact g.ops j v h
 ·rcases zFi hj with ⟨rfl,rfl⟩|⟨_,h⟩
  ·rw [e1,e2];exact hb
  ·exact g.bu j v h hs
theorem PG.tr {m m':MS} (g:PG m) (t:Tr m m'):PG m':=by
 cases t with
 |same h' lat' s' c' hc=>exact ⟨g.who,g.ops,g.bu⟩
 |age a=>exact ⟨g.who,g.ops,g.bu⟩
 |beg k w h' hk hs he=>exact g.upd hk rfl rfl he
 |mid k w a p s h' lat' s' hk h1 h5 h2 h6=>exact g.upd hk rfl rfl (g.bu k w hk (by omega))
 |wake k w s' hk hs=>exact g.upd hk rfl rfl (g.bu k w hk (by omega))
 |fail k w s' hk hs=>exact g.upd hk rfl rfl (g.bu k w hk (by omega))
 |refuse k w hk hs hr=>exact g.upd hk rfl rfl (g.bu k w hk (by omega))
 |work k w hk hs hr=>exact g.upd hk rfl rfl (g.bu k w hk (by omega))
 |leave k w h' lat' hk hs=>
  have hlt:=(List.getElem?_eq_some_iff.1 hk).1;have hb:=g.bu k w hk (by omega);refine ⟨fun e he=>?_,fun j v hj=>?_,fun j v hj hs'=>?_⟩
  ·show e.who<(m.ws.set k (z5w w)).length;rw [List.length_set]
   rcases List.mem_append.1 he with he|he
   ·exact g.who e he
   ·rw [List.mem_singleton.1 he];exact hlt
  ·show opsK (m.ev++[_]) j=_;rw [z6m]
   rcases zFi hj with ⟨rfl,rfl⟩|⟨hne,h⟩
   ·rw [if_pos rfl,g.ops _ w hk];show _++[w.op]=w.todo.take (w.ended+1)
    rw [zAs hb,WA.op,List.getElem?_eq_getElem hb];rfl
   ·rw [if_neg (fun e=>hne e.symm),List.append_nil];exact g.ops j v h
  ·rcases zFi hj with ⟨rfl,rfl⟩|⟨_,h⟩
   ·exact absurd rfl hs'
   ·exact g.bu j v h hs'
structure TG (m:MS):Prop where
 c0:0<=m.clk
 n4:m.ws.length<=4
 ev:∀ e∈m.ev,e.who<4/\0<=e.began/\e.began<e.done/\e.done<e.ended/\e.ended<m.clk
 up:m.ev.Pairwise fun a b=>a.ended<b.ended
 seq:m.ev.Pairwise fun a b=>a.who=b.who->a.ended<b.began
 w1:∀ (k:Nat) (w:WA),m.ws[k]?=some w->w.st≠0->0<=w.began/\w.began<m.clk/\ ∀ e∈m.ev,e.who=k->e.ended<w.began
 w2:∀ (k:Nat) (w:WA),m.ws[k]?=some w->2<=w.st->w.began+1<m.clk
 w6:∀ (k:Nat) (w:WA),m.ws[k]?=some w->w.st=6->w.began<w.done/\w.done<m.clk
theorem TG.upd {m:MS} (g:TG m) {k:Nat} {w':WA} {p':PS} {h':HA} {lat':List LA} {s':SA} {c':Int} (hc:m.clk<=c')
  (h1:w'.st≠0->0<=w'.began/\w'.began<c'/\ ∀ e∈m.ev,e.who=k->e.ended<w'.began) (h2:2<=w'.st->w'.began+1<c') (h6:w'.st=6->w'.began<w'.done/\w'.done<c'):TG ⟨m.ws.set k w',p',h',lat',s',c',m.ev⟩:=by
 refine ⟨by have:=g.c0;show 0<=c';omega,by show (m.ws.set k w').length<=4;rw [List.length_set];exact g.n4,fun e he=>?_,g.up,g.seq,fun j v hj hs=>?_,fun j v hj hs=>?_,fun j v hj hs=>?_⟩
 ·have:=g.ev e he;show _/\_/\_/\_/\e.ended<c';omega
 ·rcases zFi hj with ⟨rfl,rfl⟩|⟨_,h⟩
  ·exact h1 hs
  ·have:=g.w1 j v h hs;exact ⟨this.1,by show _<c';omega,this.2.2⟩
 ·rcases zFi hj with ⟨rfl,rfl⟩|⟨_,h⟩
  ·exact h2 hs
  ·have:=g.w2 j v h hs
   show _<c';omega
 ·rcases zFi hj with ⟨rfl,rfl⟩|⟨_,h⟩
  ·exact h6 hs
  ·have:=g.w6 j v h hs;exact ⟨this.1,by show _<c';omega⟩
theorem TG.tr {m m':MS} (g:TG m) (t:Tr m m'):TG m':=by
 have c0:=g.c0
 cases t with
 |same h' lat' s' c' hc=>
  refine ⟨by show 0<=c';omega,g.n4,fun e he=>?_,g.up,g.seq,fun j v hj hs=>?_,fun j v hj hs=>?_,fun j v hj hs=>?_⟩
  ·have:=g.ev e he;show _/\_/\_/\_/\e.ended<c';omega
  ·have:=g.w1 j v hj hs;exact ⟨this.1,by show _<c';omega,this.2.2⟩
  ·have:=g.w2 j v hj hs
   show _<c';omega
  ·have:=g.w6 j v hj hs;exact ⟨this.1,by show _<c';omega⟩
 |age a=>exact ⟨g.c0,g.n4,g.ev,g.up,g.seq,g.w1,g.w2,g.w6⟩
 |beg k w h' hk hs he=>
  refine g.upd (by omega) (fun _=>⟨c0,by show m.clk<m.clk+1;omega,fun e he _=>(g.ev e he).2.2.2.2⟩) (fun q=>absurd (show 2<=1 from q) (by decide)) (fun q=>absurd (show 1=6 from q) (by decide))
 |mid k w a p s h' lat' s' hk h1 h5 h2 h6=>
  have a1:=g.w1 k w hk (by omega);refine g.upd (by omega) (fun _=>⟨a1.1,by show w.began<m.clk+1;omega,a1.2.2⟩) (fun _=>by show w.began+1<m.clk+1;omega) (fun q=>absurd (show s=6 from q) (by omega))
 |wake k w s' hk hs=>
  have a1:=g.w1 k w hk (by omega);have a2:=g.w2 k w hk (by omega);exact g.upd (by omega) (fun _=>a1) (fun _=>a2) (fun q=>absurd (show 5=6 from q) (by decide))
 |fail k w s' hk hs=>
  have a1:=g.w1 k w hk (by omega);have a2:=g.w2 k w hk (by omega);exact g.upd (by omega) (fun _=>a1) (fun _=>a2) (fun _=>⟨by show w.began<m.clk-1;omega,by show m.clk-1<m.clk;omega⟩)
 |refuse k w hk hs hr=>
  have a1:=g.w1 k w hk (by omega);exact g.upd (by omega) (fun _=>⟨a1.1,by show w.began<m.clk+1;omega,a1.2.2⟩) (fun _=>by show w.began+1<m.clk+1;omega) (fun _=>⟨a1.2.1,by show m.clk<m.clk+1;omega⟩)
 |work k w hk hs hr=>
  have a1:=g.w1 k w hk (by omega);exact g.upd (by omega) (fun _=>⟨a1.1,by show w.began<m.clk+1;omega,a1.2.2⟩) (fun _=>by show w.began+1<m.clk+1;omega) (fun _=>⟨a1.2.1,by show m.clk<m.clk+1;omega⟩)
 |leave k w h' lat' hk hs=>
  have hlt:=(List.getElem?_eq_some_iff.1 hk).1;have n4:=g.n4;have a1:=g.w1 k w hk (by omega);have a6:=g.w6 k w hk hs;refine ⟨by show 0<=m.clk+1;omega,by show (m.ws.set k _).length<=4;rw [List.length_set];exact g.n4,fun e he=>?_,?_,?_,fun j v hj hs'=>?_,fun j v hj hs'=>?_,fun j v hj hs'=>?_⟩
  ·rcases List.mem_append.1 he with he|he
   ·have:=g.ev e he;show _/\_/\_/\_/\e.ended<m.clk+1;omega
   ·rw [List.mem_singleton.1 he];exact ⟨by show k<4;omega,a1.1,a6.1,a6.2,by show m.clk<m.clk+1;omega⟩
  ·refine List.pairwise_append.2 ⟨g.up,by simp,fun a ha b hb=>?_⟩;rw [List.mem_singleton.1 hb];exact (g.ev a ha).2.2.2.2
  ·refine List.pairwise_append.2 ⟨g.seq,by simp,fun a ha b hb hw=>?_⟩;rw [List.mem_singleton.1 hb] at hw⊢;exact a1.2.2 a ha hw
  ·rcases zFi hj with ⟨rfl,rfl⟩|⟨hne,h⟩
   ·exact absurd rfl hs'
   ·have:=g.w1 j v h hs';refine ⟨this.1,by show _<m.clk+1;omega,fun e he hw=>?_⟩
    rcases List.mem_append.1 he with he|he
    ·exact this.2.2 e he hw
    ·rw [List.mem_singleton.1 he] at hw;exact absurd hw.symm hne
  ·rcases zFi hj with ⟨rfl,rfl⟩|⟨hne,h⟩
   ·exact absurd (show 2<=0 from hs') (by decide)
   ·have:=g.w2 j v h hs'
    show _<m.clk+1;omega
  ·rcases zFi hj with ⟨rfl,rfl⟩|⟨hne,h⟩
   ·exact absurd (show 0=6 from hs') (by decide)
   ·have:=g.w6 j v h hs';exact ⟨this.1,by show _<m.clk+1;omega⟩
structure Rc where
 op:MOp
 res:MRes
 done:Int
def evR (e:EvA):Rc:=⟨e.op,e.res,e.done⟩
def wR (w:WA):Option Rc:=if w.st=6 then some ⟨w.op,w.res,w.done⟩ else none
def zDy (ws:List WA):List Rc:=ws.filterMap wR
def allR (m:MS):List Rc:=m.ev.map evR++zDy m.ws
def zJh (r:Rc):Bool:=decide (r.res.1≠8)
def zLa:(Nat->Pg)->List Rc->(Nat->Pg)->Prop
 |P,[],P'=>P'=P
 |P,r::G,P'=>(zFr P r.op).2=r.res/\zLa (zFr P r.op).1 G P'
theorem zLa.snoc {o:MOp} {r:MRes} {d:Int}:∀ {G:List Rc} {P P':Nat->Pg},zLa P G P'->(zFr P' o).2=r->zLa P (G++[⟨o,r,d⟩]) (zFr P' o).1
 | [],P,P',h,hr=>by
  cases (show P'=P from h)
  exact ⟨hr,rfl⟩
 |x::G,P,P',h,hr=>⟨h.1,zLa.snoc (G:=G) h.2 hr⟩
theorem yVz {ws:List WA} {k:Nat} {w:WA} (h:ws[k]?=some w):∃ A B,ws=A++w::B/\ ∀ w',ws.set k w'=A++w'::B:=by
 have hi:=(List.getElem?_eq_some_iff.1 h).1;have hj:=(List.getElem?_eq_some_iff.1 h).2;refine ⟨ws.take k,ws.drop (k+1),?_,fun w'=>?_⟩
 ·rw [<-hj,<-List.drop_eq_getElem_cons hi,List.take_append_drop]
 ·rw [List.set_eq_take_append_cons_drop,if_pos hi]
theorem yAj {ws:List WA} {k:Nat} {w:WA} (h:ws[k]?=some w):∃ A B:List Rc,zDy ws=A++((wR w).toList++B) /\ ∀ w',zDy (ws.set k w')=A++((wR w').toList++B):=by
 obtain ⟨A,B,e1,e2⟩:=yVz h
 have key:∀ v:WA,zDy (A++v::B)=zDy A++((wR v).toList++zDy B):=fun v=>by
  rw [zDy,List.filterMap_append,List.filterMap_cons]
  cases e:wR v<;>simp [zDy]
 exact ⟨zDy A,zDy B,(congrArg zDy e1).trans (key w),
  fun w'=>by rw [e2];exact key w'⟩
theorem yAk {ws:List WA} {k:Nat} {w w':WA} (h:ws[k]?=some w) (h1:w.st≠6) (h2:w'.st≠6):zDy (ws.set k w')=zDy ws:=by
 obtain ⟨A,B,e1,e2⟩:=yAj h;rw [e1,e2,wR,wR,if_neg h1,if_neg h2]
theorem z2f {ws:List WA} {k:Nat} {w w':WA} (h:ws[k]?=some w) (h1:w.st≠6) (h2:w'.st=6):(zDy (ws.set k w')).Perm (zDy ws++[⟨w'.op,w'.res,w'.done⟩]):=by
 obtain ⟨A,B,e1,e2⟩:=yAj h;rw [e1,e2,wR,wR,if_neg h1,if_pos h2];show (A++(_::B)).Perm ((A++B)++[_]);exact List.perm_middle.trans (List.perm_append_singleton _ _).symm
theorem yRl {ws:List WA} {k:Nat} {w w':WA} (h:ws[k]?=some w) (h1:w.st=6) (h2:w'.st≠6):(zDy ws).Perm (⟨w.op,w.res,w.done⟩::zDy (ws.set k w')):=by
 obtain ⟨A,B,e1,e2⟩:=yAj h;rw [e1,e2,wR,wR,if_pos h1,if_neg h2];show (A++(_::B)).Perm (_::(A++B));exact List.perm_middle
structure OG (P0:Nat->Pg) (n:Nat) (m:MS):Prop where
 n1:1<=n
 ex:∃ (G:List Rc) (P:Nat->Pg),zLa P0 G P/\DocI m.p P n/\G.Pairwise (fun a b=>a.done<b.done) /\ (∀ r∈G,r.done<m.clk) /\ ((allR m).filter zJh).Perm G
 bad:∀ r∈allR m,r.res.1=8->r.res=(8,zP)
theorem OG.keep {P0 n} {m m':MS} (g:OG P0 n m) (hp:m'.p=m.p) (hc:m.clk<=m'.clk) (ha:(allR m').Perm (allR m)):OG P0 n m':=by
 obtain ⟨G,P,g1,g2,g3,g4,g5⟩:=g.ex;refine ⟨g.n1,⟨G,P,g1,by rw [hp];exact g2,g3,fun r hr=>by have:=g4 r hr;omega,(ha.filter _).trans g5⟩,fun r hr=>g.bad r (ha.mem_iff.1 hr)⟩
theorem OG.same {P0 n} {m m':MS} (g:OG P0 n m) (hp:m'.p=m.p) (hc:m.clk<=m'.clk) (ha:allR m'=allR m):OG P0 n m':=g.keep hp hc (by rw [ha])
theorem OG.add {P0 n} {m m':MS} (g:OG P0 n m) {o:MOp} {r:MRes} (hw:∀ P,DocI m.p P n->r=(zFr P o).2/\DocI m'.p (zFr P o).1 n) (hc:m.clk<m'.clk) (ha:(allR m').Perm (allR m++[⟨o,r,m.clk⟩])):OG P0 n m':=by
 obtain ⟨G,P,g1,g2,g3,g4,g5⟩:=g.ex;obtain ⟨h1,h2⟩:=hw P g2
 have hne:r.1≠8:=by rw [h1];exact yMd P o
 refine ⟨g.n1,⟨G++[⟨o,r,m.clk⟩],(zFr P o).1,g1.snoc h1.symm,h2,?_,fun x hx=>?_,?_⟩,fun x hx h8=>?_⟩
 ·refine List.pairwise_append.2 ⟨g3,by simp,fun a ha b hb=>?_⟩
  rw [List.mem_singleton.1 hb];exact g4 a ha
 ·rcases List.mem_append.1 hx with hx|hx
  ·have:=g4 x hx;omega
  ·rw [List.mem_singleton.1 hx];exact hc
 ·refine (ha.filter _).trans ?_;rw [List.filter_append];refine g5.append ?_
  have:zJh ⟨o,r,m.clk⟩=true:=by simp [zJh,hne]
  rw [List.filter_cons,if_pos this,List.filter_nil]
 ·rcases List.mem_append.1 (ha.mem_iff.1 hx) with hx|hx
  ·exact g.bad x hx h8
  ·rw [List.mem_singleton.1 hx] at h8;exact absurd h8 hne
theorem DocI.age {p P n} (h:DocI p P n) (a:Int) (b:ByteArray):DocI (zBc (zHv p 1) (8,a,b)).1 P n:=by
 have ht:DocI (zHv p 1) P n:=by
  refine ⟨?_,?_⟩
  ·have hi:=h.inv;have n0:=hi.pj.n0;have n1:=hi.pj.n1
   have mk:∀ t:Int,p.now<=t->t<=2147483647->Inv ⟨p.f,p.d,t⟩ P (fun _=>0) 2147483647 0:=fun t t0 t1=>
    ⟨⟨hi.pj.fm,hi.pj.rest,hi.pj.ca,hi.pj.z0,by show 0<=t;omega,t1,fun x hx=>by have:=hi.pj.dt x hx;show x.2<=t;omega⟩,hi.pins,hi.at_,hi.on,hi.ub⟩
   rw [zHv];repeat' split
   ·exact hi
   ·exact mk _ (by omega) (Int.le_refl _)
   ·exact mk _ (by omega) (by omega)
  ·rw [zHv];repeat' split
   all_goals exact h.len
 have d:=(z7u ht.inv a).1;obtain ⟨q,l,e,i1,n1,m1,_⟩:=d.eq
 have e2:zBc (zHv p 1) (8,a,b)=zIo (zHv p 1) a:=by
  rw [zBc,if_neg (show ¬((8:Int)<1\/ (8:Int)<8) by decide),if_neg (show ¬((8:Int)≠8/\_) from fun g=>g.1 rfl)];rfl
 rw [e2,e];exact ⟨i1,m1.trans ht.len⟩
theorem OG.tr {P0 n} {m m':MS} (g:OG P0 n m) (t:Tr m m'):OG P0 n m':=by
 cases t with
 |same h' lat' s' c' hc=>exact g.same rfl (by show m.clk<=c';omega) rfl
 |age a=>
  obtain ⟨G,P,g1,g2,g3,g4,g5⟩:=g.ex;exact ⟨g.n1,⟨G,P,g1,g2.age a _,g3,g4,g5⟩,g.bad⟩
 |beg k w h' hk hs he=>exact g.same rfl (by show m.clk<=m.clk+1;omega) (congrArg (m.ev.map evR++·) (yAk hk (by omega) (show 1≠6 by decide)))
 |mid k w a p s h' lat' s' hk h1 h5 h2 h6=>exact g.same rfl (by show m.clk<=m.clk+1;omega) (congrArg (m.ev.map evR++·) (yAk hk (by omega) (show s≠6 by omega)))
 |wake k w s' hk hs=>exact g.same rfl (Int.le_refl _) (congrArg (m.ev.map evR++·) (yAk hk (by omega) (show 5≠6 by decide)))
 |fail k w s' hk hs=>
  obtain ⟨G,P,g1,g2,g3,g4,g5⟩:=g.ex;have ha:=List.Perm.append_left (m.ev.map evR) (z2f (w':=zJu w (8,zP) (m.clk-1)) hk (by omega) rfl);rw [<-List.append_assoc] at ha;refine ⟨g.n1,⟨G,P,g1,g2,g3,g4,(ha.filter _).trans ?_⟩,fun r hr h8=>?_⟩
  ·rw [List.filter_append];have:List.filter zJh [(⟨w.op,(8,zP),m.clk-1⟩:Rc)]=[]:=rfl;rw [show ([⟨(zJu w (8,zP) (m.clk-1)).op,(zJu w (8,zP) (m.clk-1)).res,(zJu w (8,zP) (m.clk-1)).done⟩]:List Rc)=[⟨w.op,(8,zP),m.clk-1⟩] from rfl,this,List.append_nil];exact g5
  ·rcases List.mem_append.1 (ha.mem_iff.1 hr) with hr|hr
   ·exact g.bad r hr h8
   ·rw [List.mem_singleton.1 hr];rfl
 |refuse k w hk hs hr=>
  have ha:=List.Perm.append_left (m.ev.map evR) (z2f (w':=zJu w (1,zP) m.clk) hk (by omega) rfl);rw [<-List.append_assoc] at ha;refine g.add (o:=w.op) (r:=(1,zP)) (fun P hP=>?_) (by show m.clk<m.clk+1;omega) ha;rw [zFr,if_pos hr];exact ⟨rfl,hP⟩
 |work k w hk hs hr=>
  have ha:=List.Perm.append_left (m.ev.map evR) (z2f (w':=zJu w (workP m.p w.op).2 m.clk) hk (by omega) rfl);rw [<-List.append_assoc] at ha;refine g.add (o:=w.op) (r:=(workP m.p w.op).2) (fun P hP=>?_) (by show m.clk<m.clk+1;omega) ha;rw [zFr,if_neg (by rw [hr];decide)];exact yTa hP g.n1 w.op hr
 |leave k w h' lat' hk hs=>
  refine g.keep rfl (by show m.clk<=m.clk+1;omega) ?_;have hp:=yRl (w':=z5w w) hk hs (show 0≠6 by decide);show ((m.ev++[_]).map evR++zDy (m.ws.set k (z5w w))).Perm (m.ev.map evR++zDy m.ws);rw [List.map_append,List.append_assoc];exact List.Perm.append_left _ hp.symm
structure HI (P0:Nat->Pg) (n:Nat) (work:List (List MOp)) (m:MS):Prop where
 g:MGE work m
 pg:PG m
 tg:TG m
 og:OG P0 n m
theorem MGE.ok {work m} (h:MGE work m):MOk m:=by obtain ⟨t,_,_,g⟩:=h.ex;exact g.ok
theorem MGE.step {work m} (h:MGE work m) (k:Int):MGE work (zB m k).1:=by
 obtain ⟨t,h0,h1,g⟩:=h.ex;exact ⟨t,h0,h1,g.step k⟩
theorem HI.step {P0 n work m} (h:HI P0 n work m) (k:Int):HI P0 n work (zB m k).1:=
 have t:=yBi h.g.ok k
 ⟨h.g.step k,h.pg.tr t,h.tg.tr t,h.og.tr t⟩
theorem HI.evl {P0 n work m} (h:HI P0 n work m):(m.ev.length:Int) <=m.clk:=by
 obtain ⟨t,_,_,g⟩:=h.g.ex;exact g.ev
theorem HI.td {P0 n work m} (h:HI P0 n work m):m.ws.map (·.todo)=work:=by
 obtain ⟨t,_,_,g⟩:=h.g.ex;exact g.td
theorem HI.wl {P0 n work m} (h:HI P0 n work m):m.ws.length=work.length:=by
 rw [<-h.td,List.length_map]
theorem yEc (a b:List EvA) (k:Nat):opsK (a++b) k=opsK a k++opsK b k:=by
 rw [opsK,List.filter_append,List.map_append];rfl
theorem HI.todo {P0 n work m} (h:HI P0 n work m) {k:Nat} {w:WA} (hk:m.ws[k]?=some w) (hk2:k<work.length:=by omega):w.todo=work[k]:=by
 have e:(m.ws.map (·.todo))[k]?=some w.todo:=by rw [List.getElem?_map,hk];rfl
 rw [h.td,List.getElem?_eq_getElem hk2] at e;exact (Option.some.inj e).symm
theorem zVy {jobs:List (Option Int)} (h:∀ j∈jobs,j=none):∀ (n k:Nat),zCe jobs n k=none
 |0,_=>rfl
 |n+1,k=>by
  rw [zCe,if_neg,zVy h n]
  cases e:jobs[k%jobs.length]? with
  |none=>simp
  |some j=>rw [h j (List.mem_of_getElem? e)];simp
theorem yBc (m:MS) (c:Int) (k:Nat) (w:WA) (now now':Int):(stepW {m with clk:=c} k w now').2=(stepW m k w now).2:=by
 unfold stepW;repeat' split
 all_goals first|rfl|(exfalso;simp only [latM] at*;simp_all;done)
theorem yOk (m:MS) (c:Int) (k:Int):(zB {m with clk:=c} k).2=(zB m k).2:=by
 rw [zB,zB]
 split
 ·rfl
 ·show (match m.ws[k.toNat]? with|none=>({m with clk:=c},false)|some w=>stepW {m with clk:=c+1} k.toNat w c).2=_
  cases h:m.ws[k.toNat]? with
  |none=>rfl
  |some w=>exact (yBc m (c+1) _ w 0 c).trans (yBc m (m.clk+1) _ w 0 m.clk).symm
theorem ySd (m:MS) (k:Nat) (w:WA) (now:Int):(stepW m k w now).2=false->(stepW m k w now).1=m:=by
 unfold stepW;repeat' split
 all_goals first|exact fun _=>rfl|exact fun h=>by cases h
theorem stepM_no {m:MS} {k:Int} (h:(zB m k).2=false):∃ c,(zB m k).1={m with clk:=c} /\m.clk<=c/\c<=m.clk+1:=by
 rw [zB] at h⊢
 split
 ·exact ⟨m.clk,rfl,by omega,by omega⟩
 ·rename_i hk;rw [if_neg hk] at h
  cases e:m.ws[k.toNat]? with
  |none=>exact ⟨m.clk,rfl,by omega,by omega⟩
  |some w=>
   rw [e] at h;exact ⟨m.clk+1,ySd _ _ _ _ h,by omega,by omega⟩
def goB (m:MS) (k:Nat):Prop:=(zB m k).2=true\/stV m k=4
def lfV (m:MS) (k:Nat):Int:=match m.ws[k]? with|some w=>(w.todo.length:Int)-w.ended|none=>0
theorem zSi {m:MS} {k:Nat} {w:WA} (hk:m.ws[k]?=some w):(zB m k).2=(stepW m k w 0).2:=by
 rw [zB,if_neg (by omega),Int.toNat_natCast,hk];exact yBc m _ _ w 0 _
theorem zXl {m:MS} {k:Nat} {w:WA} (hk:m.ws[k]?=some w):stV m k=w.st:=by rw [stV,hk]
theorem goes3 {m:MS} (o:MOk m) (hz:∀ k,¬goB m k) {k:Nat} {w:WA} (hk:m.ws[k]?=some w):w.st<3:=by
 have v:=o.w k w hk;have h6:=v.st6;have hg:=hz k;rw [goB,zSi hk,zXl hk] at hg
 refine Classical.byContradiction fun hn=>hg ?_
 have hst:w.st=3\/w.st=4\/w.st=5\/w.st=6:=by omega
 rcases hst with hs|hs|hs|hs
 ·left
  simp only [stepW,hs]
  split
  ·rename_i hf
   have hf1:0<zCo m.h.cl:=by have:=o.hall.n1;omega
   obtain ⟨c,hc,hb⟩:=List.countP_pos_iff.1 hf1;have hm:c.1∈m.h.all:=List.mem_append.2 (.inl (List.mem_map_of_mem (f:=(·.1)) hc));have hlt:=o.hw _ hm;obtain ⟨w2,hw2⟩:∃ w2,m.ws[c.1]?=some w2:=⟨_,List.getElem?_eq_getElem hlt⟩;have v2:=o.w _ w2 hw2
   have hp:w2.pinned=true:=by
    rw [<-v2.held];exact zVp.2 (by rw [<-hb];exact hc)
   have h4:¬w2.st<4:=fun g=>by rw [v2.npin g] at hp;cases hp
   have h62:=v2.st6;have hg2:=hz c.1;rw [goB,zSi hw2,zXl hw2] at hg2;refine absurd ?_ hg2
   have hst:w2.st=4\/w2.st=5\/w2.st=6:=by omega
   rcases hst with hs2|hs2|hs2
   ·right;omega
   ·left;simp only [stepW,hs2]
   ·left;simp only [stepW,hs2]
  ·split<;>rfl
 ·right;omega
 ·left;simp only [stepW,hs]
 ·left;simp only [stepW,hs]
theorem goes2 {m:MS} (o:MOk m) (hz:∀ k,¬goB m k) {k:Nat} {w:WA} (hk:m.ws[k]?=some w):w.st<2:=by
 have h3:=goes3 o hz hk
 refine Classical.byContradiction fun hn=>?_
 have hs:w.st=2:=by omega
 have v:=o.w k w hk;have ha:=v.ask (by omega) (by omega);obtain ⟨_,r1,r2⟩:=zTa (v.val ha)
 have hi:w.op.2.1.toNat<m.lat.length:=by rw [o.ll];omega
 obtain ⟨l,hl⟩:∃ l,m.lat[w.op.2.1.toNat]?=some l:=⟨_,List.getElem?_eq_getElem hi⟩;have hm:=(v.lt _ l hl).2 ⟨ha,by omega⟩;have L:=o.li _ l hl
 have key:∀ j,j∈l.hs->False:=fun j hj=>by
  have hlt:=L.lt j (List.mem_append.2 (.inl hj));obtain ⟨w2,hw2⟩:∃ w2,m.ws[j]?=some w2:=⟨_,List.getElem?_eq_getElem hlt⟩;have v2:=o.w _ w2 hw2;obtain ⟨q1,q2⟩:=(v2.lt _ l hl).1 (List.mem_append.2 (.inl hj));have q3:=goes3 o hz hw2
  have q4:¬w2.st<2:=fun g=>by rw [v2.nask g] at q1;cases q1
  have q5:w2.st=2:=by omega
  have hg2:=hz j;rw [goB,zSi hw2] at hg2;refine hg2 (.inl ?_)
  have e:latM m w2.op.2.1=l:=by rw [latM,q2,Int.toNat_natCast,hl];rfl
  simp only [stepW,q5];rw [e,zNl,List.contains_iff_mem.2 hj];rfl
 rcases List.mem_append.1 hm with h|h
 ·exact key k h
 ·rcases L.shut with e|⟨e,_⟩
  ·rw [e] at h;cases h
  ·obtain ⟨j,hj⟩:=List.exists_mem_of_ne_nil _ e;exact key j hj
theorem goes1 {m:MS} (o:MOk m) (hz:∀ k,¬goB m k) {k:Nat} {w:WA} (hk:m.ws[k]?=some w):w.st=0:=by
 have h2:=goes2 o hz hk
 refine Classical.byContradiction fun hn=>?_
 have hs:w.st=1:=by omega
 have v:=o.w k w hk;have hm:=v.hal.2 hn
 have key:∀ j,isCl m.h j=true->False:=fun j hj=>by
  have hmj:j∈m.h.all:=List.mem_append.2 (.inl (zVt.1 hj));have hlt:=o.hw j hmj;obtain ⟨w2,hw2⟩:∃ w2,m.ws[j]?=some w2:=⟨_,List.getElem?_eq_getElem hlt⟩;have v2:=o.w _ w2 hw2;have q0:=v2.hal.1 hmj;have q3:=goes2 o hz hw2
  have q5:w2.st=1:=by omega
  have hg2:=hz j;rw [goB,zSi hw2] at hg2;refine hg2 (.inl ?_);simp only [stepW,q5];rw [hj,if_neg (by decide)]
  split<;>rfl
 rcases List.mem_append.1 hm with h|h
 ·exact key k (zVt.2 h)
 ·rcases o.hall.shut with e|e
  ·rw [e] at h;cases h
  ·have n1:=o.hall.n1
   have:0<m.h.cl.length:=by omega
   obtain ⟨c,hc⟩:=List.exists_mem_of_length_pos this;exact key c.1 (zVt.2 (List.mem_map_of_mem (f:=(·.1)) hc))
theorem goes0 {m:MS} (o:MOk m) (hz:∀ k,¬goB m k) {k:Nat} {w:WA} (hk:m.ws[k]?=some w):w.ended=w.todo.length:=by
 have h1:=goes1 o hz hk;have v:=o.w k w hk
 refine Classical.byContradiction fun hn=>?_
 have hg:=hz k;rw [goB,zSi hk] at hg;refine hg (.inl ?_);simp only [stepW,h1];rw [if_neg (by have:=v.en;omega)]
theorem yWl {m:MS} (o:MOk m) {k:Nat} {w:WA} (hk:m.ws[k]?=some w) (h:goB m k):w.ended<w.todo.length:=by
 have v:=o.w k w hk;rw [goB,zSi hk,zXl hk] at h
 by_cases hs:w.st=0
 ·rcases h with h|h
  ·simp only [stepW,hs] at h
   split at h
   ·cases h
   ·omega
  ·omega
 ·exact v.bu hs
theorem goes {m:MS} (o:MOk m):(∃ k,k<m.ws.length/\goB m k)↔∃ k,k<m.ws.length/\0<lfV m k:=by
 constructor
 ·rintro ⟨k,hk,h⟩;refine ⟨k,hk,?_⟩;have:=yWl o (List.getElem?_eq_getElem hk) h;rw [lfV,List.getElem?_eq_getElem hk]
  show 0<(m.ws[k].todo.length:Int)-m.ws[k].ended;omega
 ·rintro ⟨k,hk,h⟩
  refine Classical.byContradiction fun hn=>?_
  have hz:∀ k,¬goB m k:=fun j hj=>by
   by_cases e:j<m.ws.length
   ·exact hn ⟨j,e,hj⟩
   ·rw [goB,zB,if_neg (by omega),Int.toNat_natCast,List.getElem?_eq_none (by omega),stV,List.getElem?_eq_none (by omega)] at hj
    rcases hj with hj|hj
    ·cases hj
    ·exact absurd hj (by decide)
  have:=goes0 o hz (List.getElem?_eq_getElem hk);rw [lfV,List.getElem?_eq_getElem hk] at h;replace h:0<(m.ws[k].todo.length:Int)-m.ws[k].ended:=h;omega
theorem yCm:∀ (l:List (Int×Int)),okRows 2 (l.map encI)=true
 | []=>rfl
 |_::r=>yCm r
set_option maxRecDepth 20000 in
set_option maxHeartbeats 8000000 in
theorem zWu (m:MS) (h1:m.p.f.fr.length<=1000000) (h2:m.p.f.tb.length<=1000000) (h3:m.p.f.pg.length<=1000000) (h4:m.p.f.dt.length<=1000000) (h5:m.p.d.sec.length<=1000000) (h6:m.p.d.ca.length<=1000000):
  zAx Tryz.prog 23 [.ptr 1000000 0 0] (mH m) (mH m) (zKv m.p):=by
 have e1:=zUs m.p.f.fr h1;have e2:=Tb.clone_ok m.p.f.tb h2;have e3:=cloneP_ok m.p.f.pg h3;have e4:=yVs (yCm m.p.f.dt) (by rw [List.length_map];exact h4);have e5:=z4k m.p.d.sec h5;have e6:=z4n m.p.d.ca h6;refine zAr Tryz.func23 1 rfl (by kernel_rfl) (by rfl) (aP ?_);refine zAn e1 (aP ?_);refine zAn e2 (aP ?_);refine zAn e3 (aP ?_);refine zAn e4 (aP ?_);refine zAn e5 (aP ?_);refine zAn e6 (aP ?_);exact zAi rfl rfl rfl ⟨rfl,rfl,rfl,trivial⟩
theorem yTx {m:MS} {k:Nat} {w:WA} (hk:m.ws[k]?=some w):lfV m k=(w.todo.length:Int)-w.ended:=by rw [lfV,hk]
theorem HI.us {P0 n work m} (h:HI P0 n work m):m.p.d.sec.length<=100/\m.p.d.ca.length<=200:=by
 obtain ⟨t,_,_,g⟩:=h.g.ex;have h1:=g.gd.us.dr.s2;have h2:=g.gd.us.dr.c1;omega
def zFb (b:Bool):List D:=[.bool b]
theorem kids:Kids Tryz.prog (·<Tryz.prog.types.size):=kids_rows (by kernel_rfl) (by kernel_rfl)
theorem sizes:∀ t e,t<Tryz.prog.types.size->Tryz.prog.underlying t=some (.slice e)->0<Tryz.prog.cellsOf e:=z3e (by kernel_rfl)
theorem own:ownKnob Tryz.prog.godebug=none:=by kernel_rfl
theorem fit_mo {m:Nat} {ds:List D} (h:Fit T m 75 ds):∃ x:MOp,ds=zGg x/\True:=by
 obtain ⟨k,a,r,rfl,ha,b,r2,rfl,hb,c,r3,rfl,hc,rfl⟩:=zMr (fs:=[(0,3),(1,3),(2,9)]) rfl h;obtain ⟨x,rfl,_⟩:=zHj (k:=.i64) rfl ha;obtain ⟨y,rfl,_⟩:=zHj (k:=.i64) rfl hb;obtain ⟨z,rfl,_⟩:=yKr rfl hc;exact ⟨(x,y,z),rfl,trivial⟩
theorem yTr {m:Nat} {ds:List D} (h:Fit T m 83 ds):∃ x:List MOp,ds=zCb x/\x.length<=9223372036854775807:=by
 obtain ⟨l,rfl,b,_⟩:=yCs (f:=zGg) (Q:=fun _=>True) (e:=75) rfl h fun m x h=>fit_mo h
 exact ⟨l,rfl,b⟩
theorem u8_arg {n:Nat} {d:D} (h:FitV T n 5 d):∃ a:Int,d=.int .u8 a/\0<=a/\a<=255:=by
 obtain ⟨a,rfl,w⟩:=yCq (k:=.u8) rfl h;exact ⟨a,rfl,(ySz w).1,(ySz w).2⟩
def zRg (l:List (List MOp)):List D:=[.lst (l.map zCb)]
theorem fit_wk {m:Nat} {ds:List D} (h:Fit T m 23 ds):∃ x:List (List MOp),ds=zRg x/\ (x.length<=9223372036854775807/\ ∀ y∈x,y.length<=9223372036854775807):=by
 obtain ⟨l,rfl,b,q⟩:=yCs (f:=zCb) (Q:=fun x=>x.length<=9223372036854775807) (e:=83) rfl h fun m x h=>yTr h
 exact ⟨l,rfl,b,q⟩
theorem yOx {n:Nat} {d:D} (h:FitV T n 63 d):∃ l:List (List (List MOp)),d=.lst (l.map zRg) /\l.length<=9223372036854775807/\ ∀ x∈l,x.length<=9223372036854775807/\ ∀ y∈x,y.length<=9223372036854775807:=by
 obtain ⟨l,rfl,b,q⟩:=zHi (f:=zRg) (Q:=fun x=>x.length<=9223372036854775807/\ ∀ y∈x,y.length<=9223372036854775807) (e:=23) rfl h fun m x h=>fit_wk h
 exact ⟨l,rfl,b,q⟩
theorem yGp {n:Nat} {d:D} (h:FitV T n 64 d):∃ l:List Bool,d=.lst (l.map zFb) /\l.length<=9223372036854775807:=by
 obtain ⟨l,rfl,b,_⟩:=zHi (f:=zFb) (Q:=fun _=>True) (e:=4) rfl h fun m x h=>by
  obtain ⟨x,rfl⟩:=yCr rfl h;exact ⟨x,rfl,trivial⟩
 exact ⟨l,rfl,b⟩
structure TiOk (l:List EvA) (c:Int):Prop where
 ev:∀ e∈l,e.who<4/\0<=e.began/\e.began<e.done/\e.done<e.ended/\e.ended<c
 up:l.Pairwise fun a b=>a.ended<b.ended
 seq:l.Pairwise fun a b=>a.who=b.who->a.ended<b.began
def toE (e:EvA):Hy.Ev:=⟨e.who,e.op.1,e.op.2.1,e.op.2.2,e.res.1,e.res.2.1,e.res.2.2.1,e.res.2.2.2,e.began,e.done,e.ended⟩
theorem zTr (l:List EvA):(l.map toE).map Hy.encE=l.map zAt:=by rw [List.map_map];rfl
theorem TG.ti {m:MS} (g:TG m):TiOk m.ev m.clk:=⟨g.ev,g.up,g.seq⟩
end Go.Lk
namespace Go.Lk
open Go Go.Proofs Go.RowKit Go.Lk.St
def evH (v:Hy.Ev):Rc:=⟨Hy.opE v,Hy.resE v,v.done⟩
theorem yBz {P:Nat->Pg}:∀ {S:List Hy.Ev} {i:Nat} {P':Nat->Pg},OkP P'->zLa P' (S.map evH) P->(∀ v∈S,(Hy.resE v).1≠8)->Hy.chkGo (bgN P' 16) i S=(bgN P 16,i+S.length,0)
 | [],i,P',_,h,_=>by
  cases (show P=P' from h)
  rfl
 |v::S,i,P',hk,h,h8=>by
  have hne:Hy.resE v≠Hy.failR:=fun e=>h8 v (.head _) (by rw [e];rfl)
  have hd:=yTo hk (Hy.opE v);obtain ⟨h1,h2⟩:=h
  have e:(Hy.doM (bgN P' 16) (Hy.opE v)).2=Hy.resE v:=by rw [hd];exact h1
  have e2:(Hy.doM (bgN P' 16) (Hy.opE v)).1=bgN (zFr P' (Hy.opE v)).1 16:=by rw [hd]
  have ih:=yBz (S:=S) (i:=i+1) (P':=(zFr P' (Hy.opE v)).1) (yDr hk _) h2 fun v hv=>h8 v (.tail _ hv)
  rw [Hy.chkGo,if_neg hne,if_pos e,e2,ih];rw [List.length_cons]
  congr 2;omega
def okE (e:EvA):Bool:=decide (e.res.1≠8)
def okEs (l:List EvA):List EvA:=l.filter okE
theorem yDy (l:List EvA):((okEs l).map toE).map evH=(l.map evR).filter zJh:=by
 rw [List.map_map,List.filter_map];rfl
theorem ap_of {l:List EvA} {c:Int} (h:TiOk l c) {G:List Rc} (g:G.Pairwise fun a b=>a.done<b.done) (hp:((l.map evR).filter zJh).Perm G):Hy.AP ((okEs l).map toE):=by
 have hm:∀ e∈okEs l,e∈l:=fun e he=>(List.mem_filter.1 he).1
 refine ⟨fun x hx=>?_,?_,?_⟩
 ·obtain ⟨e,he,rfl⟩:=List.mem_map.1 hx;have:=h.ev e (hm e he);exact ⟨this.2.2.1,this.2.2.2.1⟩
 ·rw [<-yDy] at hp
  have h1:(((okEs l).map toE).map evH).Pairwise fun a b=>a.done≠b.done:=(hp.pairwise_iff fun {a b} e e2=>e e2.symm).2 (g.imp fun e=>by omega)
  rw [List.pairwise_map] at h1;exact h1
 ·have h1:(okEs l).Pairwise fun a b=>a.who=b.who->a.ended<b.began:=h.seq.sublist List.filter_sublist
  rw [List.pairwise_map]
  exact h1.imp fun {a b} e hw=>.inl (e (by have hw:(a.who:Int)=(b.who:Int):=hw;omega))
theorem tpH:TP Hy.leD:=⟨fun x y=>by simp only [Hy.leD,decide_eq_true_eq];omega,fun x y z=>by simp only [Hy.leD,decide_eq_true_eq];omega⟩
theorem yJl {l:List EvA} {c:Int} (h:TiOk l c) {P0 P:Nat->Pg} (hk:OkP P0) {G:List Rc} (hG:zLa P0 G P) (g:G.Pairwise fun a b=>a.done<b.done) (hp:((l.map evR).filter zJh).Perm G) (hl:l.length<=400):
  Hy.chkM (bgN P0 16) ((okEs l).map toE)=(bgN P 16,(okEs l).length,0):=by
 have hlen:((okEs l).map toE).length<=400:=by
  have:=List.length_filter_le okE l;rw [List.length_map]
  show (l.filter okE).length<=400;omega
 have hap:=ap_of h g hp;rw [Hy.chkM,if_neg (by omega),if_neg (by rw [Hy.mapB_t.2 (bg_mr hk)];decide),if_neg (by rw [Hy.apB_t.2 hap];decide)];have hsp:=Hy.srt_perm (le:=Hy.leD) ((okEs l).map toE)
 have hS:(srt Hy.leD ((okEs l).map toE)).map evH=G:=by
  refine List.Perm.eq_of_pairwise (le:=fun a b=>a.done<b.done) (fun a b _ _ h1 h2=>by omega) ?_ g (((hsp.map evH).trans (by rw [yDy])).trans hp);rw [List.pairwise_map];have h1:=(Hy.pw_srt (R:=Hy.RD) (fun {x y} e=>Hy.rd_sym e) Hy.leD ((okEs l).map toE)).2 hap.rd;have h2:=zBx tpH ((okEs l).map toE)
  refine (List.Pairwise.and h1 h2).imp fun {a b} q=>?_
  have q1:a.done≠b.done:=q.1
  have q2:a.done<=b.done:=by simpa [Hy.leD] using q.2
  show a.done<b.done;omega
 have hcp:=yBz (S:=srt Hy.leD ((okEs l).map toE)) (i:=0) hk (by rw [hS];exact hG) fun v hv=>?_
 ·rw [hcp,hsp.length_eq,List.length_map,Nat.zero_add]
 ·obtain ⟨e,he,rfl⟩:=List.mem_map.1 (hsp.mem_iff.1 hv);have:=(List.mem_filter.1 he).2
  have this:e.res.1≠8:=by simpa [okE] using this
  exact this
theorem HI.rpG {P0 n work m} (h:HI P0 n work m) (hq:∀ k,k<4->stV m k≠6):∃ P G,DocI m.p P n/\zLa P0 G P/\G.Pairwise (fun a b=>a.done<b.done) /\ ((m.ev.map evR).filter zJh).Perm G:=by
 obtain ⟨G,P,g1,g2,g3,g4,g5⟩:=h.og.ex
 have hp:zDy m.ws=[]:=by
  rw [zDy,List.filterMap_eq_nil_iff];intro w hw;obtain ⟨k,hk,rfl⟩:=List.mem_iff_getElem.1 hw;have:=hq k (by have:=h.tg.n4;omega);rw [zXl (List.getElem?_eq_getElem hk)] at this;rw [wR,if_neg (fun e=>this (by rw [e];rfl))]
 rw [allR,hp,List.append_nil] at g5;exact ⟨P,G,g2,g1,g3,g5⟩
theorem zWl {l:List EvA} {i:Nat} (hi:i<l.length):okEs (l.take (i+1))=okEs (l.take i)++(if l[i].res.1≠8 then [l[i]] else []):=by
 rw [okEs,zAs hi,List.filter_append,<-okEs]
 by_cases e:l[i].res.1≠8
 ·rw [if_pos e,List.filter_cons,if_pos (by simpa [okE] using e),List.filter_nil]
 ·rw [if_neg e,List.filter_cons,if_neg (by simpa [okE] using e),List.filter_nil]
end Go.Lk
