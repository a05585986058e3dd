/-
  What is proved here: what functions of the program compute, and what follows; no condition beyond each theorem's own.
-/
import Derived.Test.YtaofmndhdmkgkaaGreatDAi
import Derived.Test.YtaofmndhdmkgkaaGreatDAk
import Derived.Test.YtaofmndhdmkgkaaGreatDAm
import Derived.Test.YtaofmndhdmkgkaaGreatDAn
import Derived.Test.YtaofmndhdmkgkaaGreatDAt
import Derived.Test.YtaofmndhdmkgkaaGreatDAv
set_option linter.unusedSimpArgs false
set_option linter.unusedVariables false
set_option linter.unnecessarySimpa false
set_option linter.unusedSectionVars false
namespace Go.Lk
open Go Go.Proofs Go.RowKit
structure Rc where
 op:MOp
 res:MRes
 done:Int
def evR (e:EvA):Rc:=⟨e.op,e.res,e.done⟩
def wR (w:WA):Option Rc:=if w.st=6 then some ⟨w.op,w.res,w.done⟩ else none
def pendR (ws:List WA):List Rc:=ws.filterMap wR
def allR (m:MS):List Rc:=m.ev.map evR++pendR m.ws
def goodR (r:Rc):Bool:=decide (r.res.1≠8)
def PlayOk:(Nat->Pg)->List Rc->(Nat->Pg)->Prop
 |P,[],P'=>P'=P
 |P,r::G,P'=>(mdocX P r.op).2=r.res/\PlayOk (mdocX P r.op).1 G P'
theorem PlayOk.snoc {o:MOp} {r:MRes} {d:Int}:∀ {G:List Rc} {P P':Nat->Pg},PlayOk P G P'->(mdocX P' o).2=r->PlayOk P (G++[⟨o,r,d⟩]) (mdocX P' o).1
 | [],P,P',h,hr=>by
  cases (show P'=P from h)
  exact ⟨hr,rfl⟩
 |x::G,P,P',h,hr=>⟨h.1,PlayOk.snoc (G:=G) h.2 hr⟩
theorem cut_set {ws:List WA} {k:Nat} {w:WA} (h:ws[k]?=some w):∃ A B,ws=A++w::B/\ ∀ w',ws.set k w'=A++w'::B:=by
 have hi:=(List.getElem?_eq_some_iff.1 h).1;have hj:=(List.getElem?_eq_some_iff.1 h).2;refine ⟨ws.take k,ws.drop (k+1),?_,fun w'=>?_⟩
 ·rw [<-hj,<-List.drop_eq_getElem_cons hi,List.take_append_drop]
 ·rw [List.set_eq_take_append_cons_drop,if_pos hi]
theorem pend_at {ws:List WA} {k:Nat} {w:WA} (h:ws[k]?=some w):∃ A B:List Rc,pendR ws=A++((wR w).toList++B) /\ ∀ w',pendR (ws.set k w')=A++((wR w').toList++B):=by
 obtain ⟨A,B,e1,e2⟩:=cut_set h
 have key:∀ v:WA,pendR (A++v::B)=pendR A++((wR v).toList++pendR B):=fun v=>by
  rw [pendR,List.filterMap_append,List.filterMap_cons]
  cases e:wR v<;>simp [pendR]
 exact ⟨pendR A,pendR B,(congrArg pendR e1).trans (key w),
  fun w'=>by rw [e2];exact key w'⟩
theorem pend_no {ws:List WA} {k:Nat} {w w':WA} (h:ws[k]?=some w) (h1:w.st≠6) (h2:w'.st≠6):pendR (ws.set k w')=pendR ws:=by
 obtain ⟨A,B,e1,e2⟩:=pend_at h;rw [e1,e2,wR,wR,if_neg h1,if_neg h2]
theorem pend_new {ws:List WA} {k:Nat} {w w':WA} (h:ws[k]?=some w) (h1:w.st≠6) (h2:w'.st=6):(pendR (ws.set k w')).Perm (pendR ws++[⟨w'.op,w'.res,w'.done⟩]):=by
 obtain ⟨A,B,e1,e2⟩:=pend_at h;rw [e1,e2,wR,wR,if_neg h1,if_pos h2];show (A++(_::B)).Perm ((A++B)++[_]);exact List.perm_middle.trans (List.perm_append_singleton _ _).symm
theorem pend_old {ws:List WA} {k:Nat} {w w':WA} (h:ws[k]?=some w) (h1:w.st=6) (h2:w'.st≠6):(pendR ws).Perm (⟨w.op,w.res,w.done⟩::pendR (ws.set k w')):=by
 obtain ⟨A,B,e1,e2⟩:=pend_at h;rw [e1,e2,wR,wR,if_pos h1,if_neg h2];show (A++(_::B)).Perm (_::(A++B));exact List.perm_middle
structure OG (P0:Nat->Pg) (n:Nat) (m:MS):Prop where
 n1:1<=n
 ex:∃ (G:List Rc) (P:Nat->Pg),PlayOk P0 G P/\DocI m.p P n/\G.Pairwise (fun a b=>a.done<b.done) /\ (∀ r∈G,r.done<m.clk) /\ ((allR m).filter goodR).Perm G
 bad:∀ r∈allR m,r.res.1=8->r.res=(8,zP)
theorem OG.keep {P0 n} {m m':MS} (g:OG P0 n m) (hp:m'.p=m.p) (hc:m.clk<=m'.clk) (ha:(allR m').Perm (allR m)):OG P0 n m':=by
 obtain ⟨G,P,g1,g2,g3,g4,g5⟩:=g.ex;refine ⟨g.n1,⟨G,P,g1,by rw [hp];exact g2,g3,fun r hr=>by have:=g4 r hr;omega,(ha.filter _).trans g5⟩,fun r hr=>g.bad r (ha.mem_iff.1 hr)⟩
theorem OG.same {P0 n} {m m':MS} (g:OG P0 n m) (hp:m'.p=m.p) (hc:m.clk<=m'.clk) (ha:allR m'=allR m):OG P0 n m':=g.keep hp hc (by rw [ha])
theorem OG.add {P0 n} {m m':MS} (g:OG P0 n m) {o:MOp} {r:MRes} (hw:∀ P,DocI m.p P n->r=(mdocX P o).2/\DocI m'.p (mdocX P o).1 n) (hc:m.clk<m'.clk) (ha:(allR m').Perm (allR m++[⟨o,r,m.clk⟩])):OG P0 n m':=by
 obtain ⟨G,P,g1,g2,g3,g4,g5⟩:=g.ex;obtain ⟨h1,h2⟩:=hw P g2
 have hne:r.1≠8:=by rw [h1];exact mdocX_8 P o
 refine ⟨g.n1,⟨G++[⟨o,r,m.clk⟩],(mdocX P o).1,g1.snoc h1.symm,h2,?_,fun x hx=>?_,?_⟩,fun x hx h8=>?_⟩
 ·refine List.pairwise_append.2 ⟨g3,by simp,fun a ha b hb=>?_⟩
  rw [List.mem_singleton.1 hb];exact g4 a ha
 ·rcases List.mem_append.1 hx with hx|hx
  ·have:=g4 x hx;omega
  ·rw [List.mem_singleton.1 hx];exact hc
 ·refine (ha.filter _).trans ?_;rw [List.filter_append];refine g5.append ?_
  have:goodR ⟨o,r,m.clk⟩=true:=by simp [goodR,hne]
  rw [List.filter_cons,if_pos this,List.filter_nil]
 ·rcases List.mem_append.1 (ha.mem_iff.1 hx) with hx|hx
  ·exact g.bad x hx h8
  ·rw [List.mem_singleton.1 hx] at h8;exact absurd h8 hne
theorem DocI.age {p P n} (h:DocI p P n) (a:Int) (b:ByteArray):DocI (poolDo (tickP p 1) (8,a,b)).1 P n:=by
 have ht:DocI (tickP p 1) P n:=by
  refine ⟨?_,?_⟩
  ·have hi:=h.inv;have n0:=hi.pj.n0;have n1:=hi.pj.n1
   have mk:∀ t:Int,p.now<=t->t<=2147483647->Inv ⟨p.f,p.d,t⟩ P (fun _=>0) 2147483647 0:=fun t t0 t1=>
    ⟨⟨hi.pj.fm,hi.pj.rest,hi.pj.ca,hi.pj.z0,by show 0<=t;omega,t1,fun x hx=>by have:=hi.pj.dt x hx;show x.2<=t;omega⟩,hi.pins,hi.at_,hi.on,hi.ub⟩
   rw [tickP];repeat' split
   ·exact hi
   ·exact mk _ (by omega) (Int.le_refl _)
   ·exact mk _ (by omega) (by omega)
  ·rw [tickP];repeat' split
   all_goals exact h.len
 have d:=(age_did ht.inv a).1;obtain ⟨q,l,e,i1,n1,m1,_⟩:=d.eq
 have e2:poolDo (tickP p 1) (8,a,b)=poolAge (tickP p 1) a:=by
  rw [poolDo,if_neg (show ¬((8:Int)<1\/ (8:Int)<8) by decide),if_neg (show ¬((8:Int)≠8/\_) from fun g=>g.1 rfl)];rfl
 rw [e2,e];exact ⟨i1,m1.trans ht.len⟩
theorem OG.tr {P0 n} {m m':MS} (g:OG P0 n m) (t:Tr m m'):OG P0 n m':=by
 cases t with
 |same h' lat' s' c' hc=>exact g.same rfl (by show m.clk<=c';omega) rfl
 |age a=>
  obtain ⟨G,P,g1,g2,g3,g4,g5⟩:=g.ex;exact ⟨g.n1,⟨G,P,g1,g2.age a _,g3,g4,g5⟩,g.bad⟩
 |beg k w h' hk hs he=>exact g.same rfl (by show m.clk<=m.clk+1;omega) (congrArg (m.ev.map evR++·) (pend_no hk (by omega) (show 1≠6 by decide)))
 |mid k w a p s h' lat' s' hk h1 h5 h2 h6=>exact g.same rfl (by show m.clk<=m.clk+1;omega) (congrArg (m.ev.map evR++·) (pend_no hk (by omega) (show s≠6 by omega)))
 |wake k w s' hk hs=>exact g.same rfl (Int.le_refl _) (congrArg (m.ev.map evR++·) (pend_no hk (by omega) (show 5≠6 by decide)))
 |fail k w s' hk hs=>
  obtain ⟨G,P,g1,g2,g3,g4,g5⟩:=g.ex;have ha:=List.Perm.append_left (m.ev.map evR) (pend_new (w':=tellW w (8,zP) (m.clk-1)) hk (by omega) rfl);rw [<-List.append_assoc] at ha;refine ⟨g.n1,⟨G,P,g1,g2,g3,g4,(ha.filter _).trans ?_⟩,fun r hr h8=>?_⟩
  ·rw [List.filter_append];have:List.filter goodR [(⟨w.op,(8,zP),m.clk-1⟩:Rc)]=[]:=rfl;rw [show ([⟨(tellW w (8,zP) (m.clk-1)).op,(tellW w (8,zP) (m.clk-1)).res,(tellW w (8,zP) (m.clk-1)).done⟩]:List Rc)=[⟨w.op,(8,zP),m.clk-1⟩] from rfl,this,List.append_nil];exact g5
  ·rcases List.mem_append.1 (ha.mem_iff.1 hr) with hr|hr
   ·exact g.bad r hr h8
   ·rw [List.mem_singleton.1 hr];rfl
 |refuse k w hk hs hr=>
  have ha:=List.Perm.append_left (m.ev.map evR) (pend_new (w':=tellW w (1,zP) m.clk) hk (by omega) rfl);rw [<-List.append_assoc] at ha;refine g.add (o:=w.op) (r:=(1,zP)) (fun P hP=>?_) (by show m.clk<m.clk+1;omega) ha;rw [mdocX,if_pos hr];exact ⟨rfl,hP⟩
 |work k w hk hs hr=>
  have ha:=List.Perm.append_left (m.ev.map evR) (pend_new (w':=tellW w (workP m.p w.op).2 m.clk) hk (by omega) rfl);rw [<-List.append_assoc] at ha;refine g.add (o:=w.op) (r:=(workP m.p w.op).2) (fun P hP=>?_) (by show m.clk<m.clk+1;omega) ha;rw [mdocX,if_neg (by rw [hr];decide)];exact work9 hP g.n1 w.op hr
 |leave k w h' lat' hk hs=>
  refine g.keep rfl (by show m.clk<=m.clk+1;omega) ?_;have hp:=pend_old (w':=leftW w) hk hs (show 0≠6 by decide);show ((m.ev++[_]).map evR++pendR (m.ws.set k (leftW w))).Perm (m.ev.map evR++pendR m.ws);rw [List.map_append,List.append_assoc];exact List.Perm.append_left _ hp.symm
structure HI (P0:Nat->Pg) (n:Nat) (work:List (List MOp)) (m:MS):Prop where
 g:MGE work m
 pg:PG m
 tg:TG m
 og:OG P0 n m
theorem MGE.ok {work m} (h:MGE work m):MOk m:=by obtain ⟨t,_,_,g⟩:=h.ex;exact g.ok
theorem HI.do_ {P0 n work m} (h:HI P0 n work m) (a:Int×Int):HI P0 n work (doMS m a).1:=
 have t:=tr_do h.g.ok a
 ⟨h.g.do_ a,h.pg.tr t,h.tg.tr t,h.og.tr t⟩
theorem MGE.step {work m} (h:MGE work m) (k:Int):MGE work (stepM m k).1:=by
 obtain ⟨t,h0,h1,g⟩:=h.ex;exact ⟨t,h0,h1,g.step k⟩
theorem HI.step {P0 n work m} (h:HI P0 n work m) (k:Int):HI P0 n work (stepM m k).1:=
 have t:=tr_step h.g.ok k
 ⟨h.g.step k,h.pg.tr t,h.tg.tr t,h.og.tr t⟩
theorem HI.run {P0 n work m} (h:HI P0 n work m) (l:List (Int×Int)):HI P0 n work (runMS m l):=run_ind (fun m a h=>h.do_ a) l h
theorem HI.new {n:Nat} (n1:1<=n) (n8:n<=8) (pages:List Pg) {work:List (List MOp)} (h1:1<=work.length) (h4:work.length<=4):HI (new9 pages).2 n work (begM n pages work):=by
 have hws:∀ (k:Nat) (w:WA),(work.map newWA)[k]?=some w->w.st=0/\w.ended=0:=fun k w h=>by
  rw [List.getElem?_map] at h;obtain ⟨l,_,rfl⟩:=Option.map_eq_some_iff.1 h;exact ⟨rfl,rfl⟩
 refine ⟨begM_mge n n1 n8 pages work h1 h4,⟨fun e he=>(by cases he),fun k w hk=>?_,fun k w hk hs=>absurd (hws k w hk).1 hs⟩,⟨Int.le_refl 0,by show (work.map newWA).length<=4;rw [List.length_map];exact h4,fun e he=>(by cases he),.nil,.nil,fun k w hk hs=>absurd (hws k w hk).1 hs,fun k w hk hs=>?_,fun k w hk hs=>?_⟩,⟨n1,⟨[],_,rfl,begM_doc n n1 n8 pages work,.nil,fun r hr=>(by cases hr),?_⟩,fun r hr=>?_⟩⟩
 ·rw [(hws k w hk).2];rfl
 ·have:=(hws k w hk).1;omega
 ·have:=(hws k w hk).1;omega
 ·have:pendR (work.map newWA)=[]:=by
   rw [pendR,List.filterMap_eq_nil_iff];intro w hw;obtain ⟨l,_,rfl⟩:=List.mem_map.1 hw;rfl
  show ((([]:List EvA).map evR++pendR (work.map newWA)).filter goodR).Perm []
  rw [this];exact .nil
 ·have:pendR (work.map newWA)=[]:=by
   rw [pendR,List.filterMap_eq_nil_iff];intro w hw;obtain ⟨l,_,rfl⟩:=List.mem_map.1 hw;rfl
  rw [allR] at hr;rw [show pendR (begM n pages work).ws=[] from this] at hr
  cases hr
theorem HI.evl {P0 n work m} (h:HI P0 n work m):(m.ev.length:Int) <=m.clk:=by
 obtain ⟨t,_,_,g⟩:=h.g.ex;exact g.ev
theorem HI.td {P0 n work m} (h:HI P0 n work m):m.ws.map (·.todo)=work:=by
 obtain ⟨t,_,_,g⟩:=h.g.ex;exact g.td
theorem HI.wl {P0 n work m} (h:HI P0 n work m):m.ws.length=work.length:=by
 rw [<-h.td,List.length_map]
theorem HI.left {P0 n work m} (h:HI P0 n work m) (hw:∀ l∈work,l.length<=1000000:=by assumption):∀ w∈m.ws,w.ended<=1000000/\w.todo.length<=1000000:=fun w hw'=>by
 obtain ⟨k,hk,rfl⟩:=List.mem_iff_getElem.1 hw';have h1:=(h.g.ok.w k _ (List.getElem?_eq_getElem hk)).en
 have h2:m.ws[k].todo∈work:=by rw [<-h.td];exact List.mem_map_of_mem (List.getElem_mem hk)
 have:=hw _ h2;omega
theorem HI.todo {P0 n work m} (h:HI P0 n work m) {k:Nat} {w:WA} (hk:m.ws[k]?=some w) (hk2:k<work.length:=by omega):w.todo=work[k]:=by
 have e:(m.ws.map (·.todo))[k]?=some w.todo:=by rw [List.getElem?_map,hk];rfl
 rw [h.td,List.getElem?_eq_getElem hk2] at e;exact (Option.some.inj e).symm
theorem HI.leftV {P0 n work m} (h:HI P0 n work m) (hw:∀ l∈work,l.length<=1000) {k:Nat} {w:WA} (hk:m.ws[k]?=some w):HCall Tryz.prog 38 [.ptr 1000000 0 0,.d (.int .i64 k)] (mH m) (mH m) (.int .i64 ((w.todo.length:Int)-w.ended)):=by
 have hlf:=left_m_ok m k (h.left fun l hl=>by have:=hw l hl;omega);rw [if_pos (by omega),Int.toNat_natCast,hk] at hlf;exact hlf
theorem HI.doc {P0 n work m} (h:HI P0 n work m):∃ P,DocI m.p P n:=by
 obtain ⟨G,P,g1,g2,g3,g4,g5⟩:=h.og.ex;exact ⟨P,g2⟩
def wkR:List (List MOp):=[[],[]]
theorem lane_none {jobs:List (Option Int)} (h:∀ j∈jobs,j=none):∀ (n k:Nat),laneFrom jobs n k=none
 |0,_=>rfl
 |n+1,k=>by
  rw [laneFrom,if_neg,lane_none h n]
  cases e:jobs[k%jobs.length]? with
  |none=>simp
  |some j=>rw [h j (List.mem_of_getElem? e)];simp
def nm11:List (Nat×Nat):=[(1000000,2000144),(1000001,2000145),(1000004,2000146)]
theorem stepW_2 (m:MS) (c:Int) (k:Nat) (w:WA) (now now':Int):(stepW {m with clk:=c} k w now').2=(stepW m k w now).2:=by
 unfold stepW;repeat' split
 all_goals first|rfl|(exfalso;simp only [latM] at*;simp_all;done)
theorem stepM_2 (m:MS) (c:Int) (k:Int):(stepM {m with clk:=c} k).2=(stepM m k).2:=by
 rw [stepM,stepM]
 split
 ·rfl
 ·show (match m.ws[k.toNat]? with|none=>({m with clk:=c},false)|some w=>stepW {m with clk:=c+1} k.toNat w c).2=_
  cases h:m.ws[k.toNat]? with
  |none=>rfl
  |some w=>exact (stepW_2 m (c+1) _ w 0 c).trans (stepW_2 m (m.clk+1) _ w 0 m.clk).symm
theorem stepW_no (m:MS) (k:Nat) (w:WA) (now:Int):(stepW m k w now).2=false->(stepW m k w now).1=m:=by
 unfold stepW;repeat' split
 all_goals first|exact fun _=>rfl|exact fun h=>by cases h
theorem stepM_no {m:MS} {k:Int} (h:(stepM m k).2=false):∃ c,(stepM m k).1={m with clk:=c} /\m.clk<=c/\c<=m.clk+1:=by
 rw [stepM] at h⊢
 split
 ·exact ⟨m.clk,rfl,by omega,by omega⟩
 ·rename_i hk;rw [if_neg hk] at h
  cases e:m.ws[k.toNat]? with
  |none=>exact ⟨m.clk,rfl,by omega,by omega⟩
  |some w=>
   rw [e] at h;exact ⟨m.clk+1,stepW_no _ _ _ _ h,by omega,by omega⟩
def goB (m:MS) (k:Nat):Prop:=(stepM m k).2=true\/stV m k=4
def lfV (m:MS) (k:Nat):Int:=match m.ws[k]? with|some w=>(w.todo.length:Int)-w.ended|none=>0
theorem step_at {m:MS} {k:Nat} {w:WA} (hk:m.ws[k]?=some w):(stepM m k).2=(stepW m k w 0).2:=by
 rw [stepM,if_neg (by omega),Int.toNat_natCast,hk];exact stepW_2 m _ _ w 0 _
theorem stV_at {m:MS} {k:Nat} {w:WA} (hk:m.ws[k]?=some w):stV m k=w.st:=by rw [stV,hk]
theorem goes3 {m:MS} (o:MOk m) (hz:∀ k,¬goB m k) {k:Nat} {w:WA} (hk:m.ws[k]?=some w):w.st<3:=by
 have v:=o.w k w hk;have h6:=v.st6;have hg:=hz k;rw [goB,step_at hk,stV_at hk] at hg
 refine Classical.byContradiction fun hn=>hg ?_
 have hst:w.st=3\/w.st=4\/w.st=5\/w.st=6:=by omega
 rcases hst with hs|hs|hs|hs
 ·left
  simp only [stepW,hs]
  split
  ·rename_i hf
   have hf1:0<heldN m.h.cl:=by have:=o.hall.n1;omega
   obtain ⟨c,hc,hb⟩:=List.countP_pos_iff.1 hf1;have hm:c.1∈m.h.all:=List.mem_append.2 (.inl (List.mem_map_of_mem (f:=(·.1)) hc));have hlt:=o.hw _ hm;obtain ⟨w2,hw2⟩:∃ w2,m.ws[c.1]?=some w2:=⟨_,List.getElem?_eq_getElem hlt⟩;have v2:=o.w _ w2 hw2
   have hp:w2.pinned=true:=by
    rw [<-v2.held];exact heldW_t.2 (by rw [<-hb];exact hc)
   have h4:¬w2.st<4:=fun g=>by rw [v2.npin g] at hp;cases hp
   have h62:=v2.st6;have hg2:=hz c.1;rw [goB,step_at hw2,stV_at hw2] at hg2;refine absurd ?_ hg2
   have hst:w2.st=4\/w2.st=5\/w2.st=6:=by omega
   rcases hst with hs2|hs2|hs2
   ·right;omega
   ·left;simp only [stepW,hs2]
   ·left;simp only [stepW,hs2]
  ·split<;>rfl
 ·right;omega
 ·left;simp only [stepW,hs]
 ·left;simp only [stepW,hs]
theorem goes2 {m:MS} (o:MOk m) (hz:∀ k,¬goB m k) {k:Nat} {w:WA} (hk:m.ws[k]?=some w):w.st<2:=by
 have h3:=goes3 o hz hk
 refine Classical.byContradiction fun hn=>?_
 have hs:w.st=2:=by omega
 have v:=o.w k w hk;have ha:=v.ask (by omega) (by omega);obtain ⟨_,r1,r2⟩:=refB_f (v.val ha)
 have hi:w.op.2.1.toNat<m.lat.length:=by rw [o.ll];omega
 obtain ⟨l,hl⟩:∃ l,m.lat[w.op.2.1.toNat]?=some l:=⟨_,List.getElem?_eq_getElem hi⟩;have hm:=(v.lt _ l hl).2 ⟨ha,by omega⟩;have L:=o.li _ l hl
 have key:∀ j,j∈l.hs->False:=fun j hj=>by
  have hlt:=L.lt j (List.mem_append.2 (.inl hj));obtain ⟨w2,hw2⟩:∃ w2,m.ws[j]?=some w2:=⟨_,List.getElem?_eq_getElem hlt⟩;have v2:=o.w _ w2 hw2;obtain ⟨q1,q2⟩:=(v2.lt _ l hl).1 (List.mem_append.2 (.inl hj));have q3:=goes3 o hz hw2
  have q4:¬w2.st<2:=fun g=>by rw [v2.nask g] at q1;cases q1
  have q5:w2.st=2:=by omega
  have hg2:=hz j;rw [goB,step_at hw2] at hg2;refine hg2 (.inl ?_)
  have e:latM m w2.op.2.1=l:=by rw [latM,q2,Int.toNat_natCast,hl];rfl
  simp only [stepW,q5];rw [e,holdsL,List.contains_iff_mem.2 hj];rfl
 rcases List.mem_append.1 hm with h|h
 ·exact key k h
 ·rcases L.shut with e|⟨e,_⟩
  ·rw [e] at h;cases h
  ·obtain ⟨j,hj⟩:=List.exists_mem_of_ne_nil _ e;exact key j hj
theorem goes1 {m:MS} (o:MOk m) (hz:∀ k,¬goB m k) {k:Nat} {w:WA} (hk:m.ws[k]?=some w):w.st=0:=by
 have h2:=goes2 o hz hk
 refine Classical.byContradiction fun hn=>?_
 have hs:w.st=1:=by omega
 have v:=o.w k w hk;have hm:=v.hal.2 hn
 have key:∀ j,isCl m.h j=true->False:=fun j hj=>by
  have hmj:j∈m.h.all:=List.mem_append.2 (.inl (isCl_t.1 hj));have hlt:=o.hw j hmj;obtain ⟨w2,hw2⟩:∃ w2,m.ws[j]?=some w2:=⟨_,List.getElem?_eq_getElem hlt⟩;have v2:=o.w _ w2 hw2;have q0:=v2.hal.1 hmj;have q3:=goes2 o hz hw2
  have q5:w2.st=1:=by omega
  have hg2:=hz j;rw [goB,step_at hw2] at hg2;refine hg2 (.inl ?_);simp only [stepW,q5];rw [hj,if_neg (by decide)]
  split<;>rfl
 rcases List.mem_append.1 hm with h|h
 ·exact key k (isCl_t.2 h)
 ·rcases o.hall.shut with e|e
  ·rw [e] at h;cases h
  ·have n1:=o.hall.n1
   have:0<m.h.cl.length:=by omega
   obtain ⟨c,hc⟩:=List.exists_mem_of_length_pos this;exact key c.1 (isCl_t.2 (List.mem_map_of_mem (f:=(·.1)) hc))
theorem goes0 {m:MS} (o:MOk m) (hz:∀ k,¬goB m k) {k:Nat} {w:WA} (hk:m.ws[k]?=some w):w.ended=w.todo.length:=by
 have h1:=goes1 o hz hk;have v:=o.w k w hk
 refine Classical.byContradiction fun hn=>?_
 have hg:=hz k;rw [goB,step_at hk] at hg;refine hg (.inl ?_);simp only [stepW,h1];rw [if_neg (by have:=v.en;omega)]
theorem go_left {m:MS} (o:MOk m) {k:Nat} {w:WA} (hk:m.ws[k]?=some w) (h:goB m k):w.ended<w.todo.length:=by
 have v:=o.w k w hk;rw [goB,step_at hk,stV_at hk] at h
 by_cases hs:w.st=0
 ·rcases h with h|h
  ·simp only [stepW,hs] at h
   split at h
   ·cases h
   ·omega
  ·omega
 ·exact v.bu hs
theorem goes {m:MS} (o:MOk m):(∃ k,k<m.ws.length/\goB m k)↔∃ k,k<m.ws.length/\0<lfV m k:=by
 constructor
 ·rintro ⟨k,hk,h⟩;refine ⟨k,hk,?_⟩;have:=go_left o (List.getElem?_eq_getElem hk) h;rw [lfV,List.getElem?_eq_getElem hk]
  show 0<(m.ws[k].todo.length:Int)-m.ws[k].ended;omega
 ·rintro ⟨k,hk,h⟩
  refine Classical.byContradiction fun hn=>?_
  have hz:∀ k,¬goB m k:=fun j hj=>by
   by_cases e:j<m.ws.length
   ·exact hn ⟨j,e,hj⟩
   ·rw [goB,stepM,if_neg (by omega),Int.toNat_natCast,List.getElem?_eq_none (by omega),stV,List.getElem?_eq_none (by omega)] at hj
    rcases hj with hj|hj
    ·cases hj
    ·exact absurd hj (by decide)
  have:=goes0 o hz (List.getElem?_eq_getElem hk);rw [lfV,List.getElem?_eq_getElem hk] at h;replace h:0<(m.ws[k].todo.length:Int)-m.ws[k].ended:=h;omega
theorem encI_ok2:∀ (l:List (Int×Int)),okRows 2 (l.map encI)=true
 | []=>rfl
 |_::r=>encI_ok2 r
set_option maxRecDepth 20000 in
set_option maxHeartbeats 8000000 in
theorem pool_m_ok (m:MS) (h1:m.p.f.fr.length<=1000000) (h2:m.p.f.tb.length<=1000000) (h3:m.p.f.pg.length<=1000000) (h4:m.p.f.dt.length<=1000000) (h5:m.p.d.sec.length<=1000000) (h6:m.p.d.ca.length<=1000000):
  HCall Tryz.prog 23 [.ptr 1000000 0 0] (mH m) (mH m) (encPS m.p):=by
 have e1:=cloneF_ok m.p.f.fr h1;have e2:=Tb.clone_ok m.p.f.tb h2;have e3:=cloneP_ok m.p.f.pg h3;have e4:=cloneDt (encI_ok2 m.p.f.dt) (by rw [List.length_map];exact h4);have e5:=cloneB_ok m.p.d.sec h5;have e6:=cloneW_ok m.p.d.ca h6;refine hcall_of Tryz.func23 1 rfl (by kernel_rfl) (by rfl) (aP ?_);refine callX_own e1 (aP ?_);refine callX_own e2 (aP ?_);refine callX_own e3 (aP ?_);refine callX_own e4 (aP ?_);refine callX_own e5 (aP ?_);refine callX_own e6 (aP ?_);exact hret_of rfl rfl rfl ⟨rfl,rfl,rfl,trivial⟩
theorem lfV_at {m:MS} {k:Nat} {w:WA} (hk:m.ws[k]?=some w):lfV m k=(w.todo.length:Int)-w.ended:=by rw [lfV,hk]
theorem HI.leftF {P0 n work m} (h:HI P0 n work m) (hw:∀ l∈work,l.length<=1000) {k:Nat} (hk:k<m.ws.length):HCall Tryz.prog 38 [.ptr 1000000 0 0,.d (.int .i64 k)] (mH m) (mH m) (.int .i64 (lfV m k)):=by
 rw [lfV_at (List.getElem?_eq_getElem hk)];exact h.leftV hw (List.getElem?_eq_getElem hk)
theorem HI.us {P0 n work m} (h:HI P0 n work m):m.p.d.sec.length<=100/\m.p.d.ca.length<=200:=by
 obtain ⟨t,_,_,g⟩:=h.g.ex;have h1:=g.gd.us.dr.s2;have h2:=g.gd.us.dr.c1;omega
def encBl (b:Bool):List D:=[.bool b]
theorem kids:Kids Tryz.prog (·<Tryz.prog.types.size):=kids_rows (by kernel_rfl) (by kernel_rfl)
theorem sizes:∀ t e,t<Tryz.prog.types.size->Tryz.prog.underlying t=some (.slice e)->0<Tryz.prog.cellsOf e:=sliceSize_out (by kernel_rfl)
theorem own:ownKnob Tryz.prog.godebug=none:=by kernel_rfl
theorem fit_pg {m:Nat} {ds:List D} (h:Fit T m 57 ds):∃ x:Pg,ds=encP x/\True:=by
 obtain ⟨k,a,r,rfl,ha,b,r2,rfl,hb,c,r3,rfl,hc,rfl⟩:=fit_struct (fs:=[(0,3),(1,3),(2,9)]) rfl h;obtain ⟨x,rfl,_⟩:=fit_int (k:=.i64) rfl ha;obtain ⟨y,rfl,_⟩:=fit_int (k:=.i64) rfl hb;obtain ⟨z,rfl,_⟩:=fit_str rfl hc;exact ⟨(x,y,z),rfl,trivial⟩
theorem fit_mo {m:Nat} {ds:List D} (h:Fit T m 75 ds):∃ x:MOp,ds=encMO x/\True:=by
 obtain ⟨k,a,r,rfl,ha,b,r2,rfl,hb,c,r3,rfl,hc,rfl⟩:=fit_struct (fs:=[(0,3),(1,3),(2,9)]) rfl h;obtain ⟨x,rfl,_⟩:=fit_int (k:=.i64) rfl ha;obtain ⟨y,rfl,_⟩:=fit_int (k:=.i64) rfl hb;obtain ⟨z,rfl,_⟩:=fit_str rfl hc;exact ⟨(x,y,z),rfl,trivial⟩
theorem fit_ac {m:Nat} {ds:List D} (h:Fit T m 33 ds):∃ x:Int×Int,ds=encI x/\True:=by
 obtain ⟨k,a,r,rfl,ha,b,r2,rfl,hb,rfl⟩:=fit_struct (fs:=[(0,3),(1,3)]) rfl h;obtain ⟨x,rfl,_⟩:=fit_int (k:=.i64) rfl ha;obtain ⟨y,rfl,_⟩:=fit_int (k:=.i64) rfl hb;exact ⟨(x,y),rfl,trivial⟩
theorem fit_td {m:Nat} {ds:List D} (h:Fit T m 83 ds):∃ x:List MOp,ds=encTd x/\x.length<=9223372036854775807:=by
 obtain ⟨l,rfl,b,_⟩:=fit_rows (f:=encMO) (Q:=fun _=>True) (e:=75) rfl h fun m x h=>fit_mo h
 exact ⟨l,rfl,b⟩
theorem pages_arg {n:Nat} {d:D} (h:FitV T n 22 d):∃ l:List Pg,d=.lst (l.map encP) /\l.length<=9223372036854775807:=by
 obtain ⟨l,rfl,b,_⟩:=fitV_rows (f:=encP) (Q:=fun _=>True) (e:=57) rfl h fun m x h=>fit_pg h
 exact ⟨l,rfl,b⟩
theorem page_arg {n:Nat} {d:D} (h:FitV T n 57 d):∃ x:Pg,d=.agg (encP x):=by
 obtain ⟨ds,e0,h'⟩:=fitV_agg (T:=T) (t:=57) rfl h;obtain ⟨x,rfl,_⟩:=fit_pg h';exact ⟨x,e0⟩
theorem work_arg {n:Nat} {d:D} (h:FitV T n 23 d):∃ l:List (List MOp),d=.lst (l.map encTd) /\l.length<=9223372036854775807/\ ∀ x∈l,x.length<=9223372036854775807:=by
 obtain ⟨l,rfl,b,q⟩:=fitV_rows (f:=encTd) (Q:=fun x=>x.length<=9223372036854775807) (e:=83) rfl h fun m x h=>fit_td h
 exact ⟨l,rfl,b,q⟩
theorem acts_arg {n:Nat} {d:D} (h:FitV T n 24 d):∃ l:List (Int×Int),d=.lst (l.map encI) /\l.length<=9223372036854775807:=by
 obtain ⟨l,rfl,b,_⟩:=fitV_rows (f:=encI) (Q:=fun _=>True) (e:=33) rfl h fun m x h=>fit_ac h
 exact ⟨l,rfl,b⟩
theorem keep_arg {n:Nat} {d:D} (h:FitV T n 25 d):∃ l:List Int,d=.lst (l.map encKp) /\l.length<=9223372036854775807:=by
 obtain ⟨l,rfl,b,_⟩:=fitV_rows (f:=encKp) (Q:=fun _=>True) (e:=3) rfl h fun m x h=>by
  obtain ⟨x,rfl,_⟩:=fit_int (k:=.i64) rfl h;exact ⟨x,rfl,trivial⟩
 exact ⟨l,rfl,b⟩
theorem bytes_arg {n:Nat} {d:D} (h:FitV T n 87 d):∃ l:List Int,d=.lst (l.map encU) /\ (∀ x∈l,0<=x/\x<=255) /\l.length<=9223372036854775807:=by
 obtain ⟨l,rfl,b,q⟩:=fitV_rows (f:=encU) (Q:=fun x=>0<=x/\x<=255) (e:=5) rfl h fun m x h=>by
  obtain ⟨x,rfl,w⟩:=fit_int (k:=.u8) rfl h;exact ⟨x,rfl,(wf_u8 w).1,(wf_u8 w).2⟩
 exact ⟨l,rfl,q,b⟩
theorem u8_arg {n:Nat} {d:D} (h:FitV T n 5 d):∃ a:Int,d=.int .u8 a/\0<=a/\a<=255:=by
 obtain ⟨a,rfl,w⟩:=fitV_int (k:=.u8) rfl h;exact ⟨a,rfl,(wf_u8 w).1,(wf_u8 w).2⟩
theorem bool_arg {n:Nat} {d:D} (h:FitV T n 4 d):∃ a:Bool,d=.bool a:=fitV_bool rfl h
theorem ecall_wk {P:Program} {f:FuncId} {xs xs':List AV} {hp:Nat->Option Blk} {e:Eff} (H:ECall P f xs hp e) (hl:xs'.length=xs.length) (h:∀ (i:Nat) (x y:AV),xs'[i]?=some x->xs[i]?=some y->WkA x y):ECall P f xs' hp e:=
 ⟨H.1,fun own M ι w vs ho ha hh hd=>H.2 own M ι w vs ho ha hh ⟨hd.1.trans hl,fun i d v h1 h2=>by
  have hi:i<xs.length:=(List.getElem?_eq_some_iff.1 h1).1;have h3:xs'[i]?=some (xs'[i]'(by omega)):=List.getElem?_eq_getElem (by omega)
  exact (h i _ d h3 h1).out M ι v (hd.2 i _ v h3 h2)⟩⟩
theorem hcall_b3 {P:Program} {f:FuncId} {a b x y:AV} {pre post:List (Nat×Blk)} {d:D} (H:HCall P f [a,b,y] pre post d) (hx:∀ s,rnV s x=x) (hy:∀ s,rnV s y=y) (hw:WkA x y):HCall P f [a,b,x] pre post d:=
 ⟨H.1,fun s hp h1 h2=>ecall_wk (H.2 s hp h1 h2) rfl fun i u v e1 e2=>by
  match i with
  |0=>cases e1;cases e2;exact wk_refl _
  |1=>cases e1;cases e2;exact wk_refl _
  |2=>cases e1;cases e2;rw [hx,hy];exact hw
  |i+3=>cases e1⟩
theorem hcall_ff {P:Program} {f:FuncId} {a b:AV} {pre post:List (Nat×Blk)} {d:D} (H:HCall P f [a,b,.d (.bool false)] pre post d):HCall P f [a,b,.ff] pre post d:=hcall_b3 H (fun _=>rfl) (fun _=>rfl) wk_ff
theorem hcall_tt {P:Program} {f:FuncId} {a b:AV} {pre post:List (Nat×Blk)} {d:D} (H:HCall P f [a,b,.d (.bool true)] pre post d):HCall P f [a,b,.tt] pre post d:=hcall_b3 H (fun _=>rfl) (fun _=>rfl) wk_tt
theorem hcall_nil {P:Program} {f:FuncId} {a b c:AV} {pre post:List (Nat×Blk)} {d:D} (H:HCall P f [a,b,.d (.lst []),c] pre post d):HCall P f [a,b,.nil,c] pre post d:=
 ⟨H.1,fun s hp h1 h2=>ecall_wk (H.2 s hp h1 h2) rfl fun i u v e1 e2=>by
  match i with
  |0=>cases e1;cases e2;exact wk_refl _
  |1=>cases e1;cases e2;exact wk_refl _
  |2=>cases e1;cases e2;exact wk_nil
  |3=>cases e1;cases e2;exact wk_refl _
  |i+4=>cases e1⟩
noncomputable def stN (m:MS):Nat->MS×Bool
 |0=>(m,false)
 |k+1=>((stepM (stN m k).1 k).1,(stN m k).2||(stepM (stN m k).1 k).2)
noncomputable def roundM (m:MS) (n:Nat) (fault:Bool):MS×Bool:=
 ((finM (pumpM (stN m (min n 4)).1) 0 fault).1,(stN m (min n 4)).2||(finM (pumpM (stN m (min n 4)).1) 0 fault).2)
def fbN (faults:List Bool) (i:Nat):Bool:=if 0<faults.length then faults[i%faults.length]?.getD false else false
noncomputable def rnds (m:MS) (n:Nat) (faults:List Bool):Nat->MS
 |0=>m
 |i+1=>(roundM (rnds m n faults i) n (fbN faults i)).1
open Classical in
noncomputable def leftB (m:MS) (n:Nat):Bool:=decide (∃ k,k<min n 4/\0<lfV m k)
theorem leftB_t {m:MS} {n:Nat}:leftB m n=true↔∃ k,k<min n 4/\0<lfV m k:=by simp [leftB]
theorem leftB_f {m:MS} {n:Nat}:leftB m n=false↔∀ k,k<min n 4->¬0<lfV m k:=by
 rw [leftB,decide_eq_false_iff_not];exact ⟨fun h k hk hp=>h ⟨k,hk,hp⟩,fun h ⟨k,hk,hp⟩=>h k hk hp⟩
theorem MGE.pump {work m} (h:MGE work m):MGE work (pumpM m):=by
 obtain ⟨t,h0,h1,g⟩:=h.ex;exact ⟨t,h0,h1,g.pump⟩
theorem MGE.fin {work m} (h:MGE work m) (i:Int) (b:Bool):MGE work (finM m i b).1:=by
 obtain ⟨t,h0,h1,g⟩:=h.ex;exact ⟨t,h0,h1,g.fin i b⟩
theorem MGE.stN {work m} (h:MGE work m):∀ k,MGE work (stN m k).1
 |0=>h
 |k+1=>(MGE.stN h k).step k
theorem stN_clk (m:MS):∀ k,(stN m k).1.clk<=m.clk+k/\m.clk<= (stN m k).1.clk
 |0=>⟨by show m.clk<=m.clk+0;omega,Int.le_refl _⟩
 |k+1=>by
  have ih:=stN_clk m k;have h:=stepM_clk (stN m k).1 k;show (stepM (stN m k).1 k).1.clk<=m.clk+(k+1:Nat) /\m.clk<= (stepM (stN m k).1 k).1.clk;omega
theorem MGE.round {work m} (h:MGE work m) (n:Nat) (b:Bool):MGE work (roundM m n b).1:=((h.stN _).pump).fin _ _
theorem round_clk (m:MS) (n:Nat) (b:Bool):(roundM m n b).1.clk<=m.clk+4/\m.clk<= (roundM m n b).1.clk:=by
 have h:=stN_clk m (min n 4);have e:(roundM m n b).1.clk=(stN m (min n 4)).1.clk:=finM_clk _ _ _
 rw [e];omega
theorem MGE.rnds {work m} (h:MGE work m) (n:Nat) (fs:List Bool):∀ i,MGE work (rnds m n fs i)
 |0=>h
 |i+1=>(MGE.rnds h n fs i).round n _
theorem rnds_clk (m:MS) (n:Nat) (fs:List Bool):∀ i,(rnds m n fs i).clk<=m.clk+4*i/\m.clk<= (rnds m n fs i).clk
 |0=>⟨by show m.clk<=m.clk+4*0;omega,Int.le_refl _⟩
 |i+1=>by
  have ih:=rnds_clk m n fs i;have h:=round_clk (rnds m n fs i) n (fbN fs i);show (roundM (rnds m n fs i) n (fbN fs i)).1.clk<=m.clk+4*(i+1:Nat) /\m.clk<= (roundM (rnds m n fs i) n (fbN fs i)).1.clk;omega
theorem lfV_no {m:MS} {k:Nat} (h:m.ws.length<=k):lfV m k=0:=by rw [lfV,List.getElem?_eq_none h]
theorem left_any {work m} (h:MGE work m) (hw:∀ l∈work,l.length<=1000) (k:Nat):HCall Tryz.prog 38 [.ptr 1000000 0 0,.d (.int .i64 k)] (mH m) (mH m) (.int .i64 (lfV m k)):=by
 have hl:∀ w∈m.ws,w.ended<=1000000/\w.todo.length<=1000000:=fun w hw'=>by
  obtain ⟨t,_,_,g⟩:=h.ex;obtain ⟨k,hk,rfl⟩:=List.mem_iff_getElem.1 hw';have h1:=(g.ok.w k _ (List.getElem?_eq_getElem hk)).en
  have h2:m.ws[k].todo∈work:=by rw [<-g.td];exact List.mem_map_of_mem (List.getElem_mem hk)
  have:=hw _ h2;omega
 have hlf:=left_m_ok m k hl;rw [if_pos (by omega),Int.toNat_natCast] at hlf;exact hlf
set_option maxRecDepth 20000 in
set_option maxHeartbeats 16000000 in
theorem left104_ok {work m} (h:MGE work m) (hw:∀ l∈work,l.length<=1000) (n:Nat) (hn:n<=1000000):HCall Tryz.prog 74 [.ptr 1000000 0 0,.d (.int .i64 n)] (mH m) (mH m) (.bool (leftB m n)):=by
 refine hcall_of Tryz.func74 2 rfl (by kernel_rfl) (by rfl) (aP ?_);refine aloop (ι:=Nat) (fun k=>[(0,.ptr 1000000 0 0),(7,.d (.int .i64 (min (n:Int) 4))),(8,.d (.int .i64 k))]) (fun k=>mH m)
  (fun k=>k<=min n 4/\ ∀ j,j<k->¬0<lfV m j) (fun k=>min n 4-k) 0 ⟨Nat.zero_le _,fun j h=>absurd h (by omega)⟩ (le0 (le_of_cov ⟨rfl,rfl,rfl,trivial⟩ ⟨rfl,rfl,rfl,trivial⟩ ⟨rfl,rfl,rfl,rfl⟩)) ?_
 rintro k ⟨hk,hR⟩
 conv=>whnf
 refine bcase_p (fun h5=>?_) (fun h5=>?_)<;>conv=>whnf
 ·refine aP ?_;refine callH_blk (left_any h hw k) nm3 rfl ⟨rfl,rfl,rfl,trivial⟩ rfl (w0 ?_)
  refine bcase_p (fun h6=>?_) (fun h6=>?_)<;>conv=>whnf
  ·rw [leftB_t.2 ⟨k,by omega,h6⟩];refine aP ?_;exact hret_of rfl rfl rfl ⟨rfl,rfl,rfl,trivial⟩
  ·refine aP ?_
   exact ⟨k+1,⟨by omega,fun j hj=>by
    by_cases e:j=k
    ·subst e;exact h6
    ·exact hR j (by omega)⟩,by omega,(le0 (le_of_cov ⟨rfl,rfl,rfl,trivial⟩ ⟨rfl,rfl,rfl,trivial⟩ ⟨rfl,rfl,rfl,rfl⟩))⟩
 ·rw [leftB_f.2 fun j hj=>hR j (by omega)];refine aP ?_;exact hret_of rfl rfl rfl ⟨rfl,rfl,rfl,trivial⟩
set_option maxRecDepth 20000 in
set_option maxHeartbeats 16000000 in
theorem round105_ok {work m} (h:MGE work m) (hw:∀ l∈work,l.length<=1000) (hc:m.clk<=90000) (n:Nat) (hn:n<=1000000) (b:Bool):HCall Tryz.prog 41 [.ptr 1000000 0 0,.d (.int .i64 n),.d (.bool b)] (mH m) (mH (roundM m n b).1) (.bool (roundM m n b).2):=by
 refine hcall_of Tryz.func41 3 rfl (by kernel_rfl) (by rfl) (aP ?_);refine aloop (ι:=Nat) (fun k=>[(0,.ptr 1000000 0 0),(2,.d (.bool b)),(7,.d (.bool (stN m k).2)),(10,.d (.int .i64 (min (n:Int) 4))),(11,.d (.int .i64 k))]) (fun k=>mH (stN m k).1)
  (fun k=>k<=min n 4) (fun k=>min n 4-k) 0 (Nat.zero_le _) (len [.wk 7 (.d (.bool false))] ⟨wk_ff,trivial⟩ (le_of_cov ⟨rfl,rfl,rfl,rfl,rfl,trivial⟩ ⟨rfl,rfl,rfl,trivial⟩ ⟨rfl,rfl,rfl,rfl⟩)) ?_
 intro k hk;have hM:=h.stN k;have hcl:=(stN_clk m k).1;have e1:(stN m (k+1)).1=(stepM (stN m k).1 k).1:=rfl;have e2:(stN m (k+1)).2=((stN m k).2||(stepM (stN m k).1 k).2):=rfl
 conv=>whnf
 refine bcase_p (fun h5=>?_) (fun h5=>?_)<;>conv=>whnf
 ·obtain ⟨t,t0,t1,g⟩:=hM.ex;have hst:=stepM_ok g t1 hw (by omega) k;rw [<-e1] at hst;obtain ⟨r,hr⟩:∃ r,(stepM (stN m k).1 k).2=r:=⟨_,rfl⟩;obtain ⟨r0,hr0⟩:∃ r0,(stN m k).2=r0:=⟨_,rfl⟩;rw [hr] at hst e2;rw [hr0] at e2⊢;refine aP ?_;refine callH_blk hst nm3 rfl ⟨rfl,rfl,rfl,trivial⟩ rfl (w0 ?_)
  refine bcase_intro (fun h6=>?_) (fun h6=>?_)<;>conv=>whnf
  ·rw [h6,Bool.or_true] at e2;refine aP ?_;refine ⟨k+1,by omega,by omega,len [.wk 7 (.d (.bool true))] ⟨wk_tt,trivial⟩ (le_of_cov ⟨rfl,rfl,by rw [e2];rfl,rfl,rfl,trivial⟩ ⟨rfl,rfl,rfl,trivial⟩ ⟨rfl,rfl,rfl,rfl⟩)⟩
  ·rw [h6,Bool.or_false] at e2;refine aP ?_;refine ⟨k+1,by omega,by omega,le0 (le_of_cov ⟨rfl,rfl,by rw [e2];rfl,rfl,rfl,trivial⟩ ⟨rfl,rfl,rfl,trivial⟩ ⟨rfl,rfl,rfl,rfl⟩)⟩
 have hkl:k=min n 4:=by omega
 subst hkl;obtain ⟨t,t0,t1,g⟩:=hM.ex;have hpu:=pumpM_ok (stN m (min n 4)).1 hM.ok.su g.gd.us;have hfi:=finM_ok g.pump (by show (stN m (min n 4)).1.clk<=100000;omega) 0 b;have e3:(roundM m n b).1=(finM (pumpM (stN m (min n 4)).1) 0 b).1:=rfl;have e4:(roundM m n b).2=((stN m (min n 4)).2||(finM (pumpM (stN m (min n 4)).1) 0 b).2):=rfl;rw [<-e3] at hfi;obtain ⟨r,hr⟩:∃ r,(finM (pumpM (stN m (min n 4)).1) 0 b).2=r:=⟨_,rfl⟩;rw [hr] at hfi e4;refine aP ?_;refine callH_blk hpu nm3 rfl ⟨rfl,rfl,rfl,trivial⟩ rfl (aP ?_);refine callH_blk hfi nm3 rfl ⟨rfl,rfl,rfl,trivial⟩ rfl (w0 ?_)
 refine bcase_intro (fun h6=>?_) (fun h6=>?_)<;>conv=>whnf
 ·rw [h6,Bool.or_true] at e4;rw [e4];refine aP ?_;exact hret_of rfl rfl rfl ⟨rfl,rfl,rfl,trivial⟩
 ·rw [h6,Bool.or_false] at e4;rw [e4];refine aP ?_;exact hret_of rfl rfl rfl ⟨rfl,rfl,rfl,trivial⟩
structure RunN (m:MS) (n:Nat) (fs:List Bool) (most N:Nat):Prop where
 le:N<=most
 all:∀ i,i<N->leftB (rnds m n fs i) n=true
 stop:N=most\/leftB (rnds m n fs N) n=false
set_option maxRecDepth 20000 in
set_option maxHeartbeats 16000000 in
theorem run47_ok {work m} (h:MGE work m) (hw:∀ l∈work,l.length<=1000) (n:Nat) (hn:n<=1000000) (fs:List Bool) (hfs:fs.length<=1000000) (most:Nat) (hmo:m.clk+4*most<=90000) (N:Nat) (hN:RunN m n fs most N):
  HCall Tryz.prog 29 [.ptr 1000000 0 0,.d (.int .i64 n),.d (.lst (fs.map encBl)),.d (.int .i64 most)] (mH m) (mH (rnds m n fs N)) (.int .i64 N):=by
 have hmf:(fs.map encBl).length=fs.length:=List.length_map ..
 have hNm:=hN.le
 have hc0:0<=m.clk:=by obtain ⟨t,_,_,g⟩:=h.ex;have:=g.ev;omega
 refine hcall_of Tryz.func29 4 rfl (by kernel_rfl) (by rfl) (aP ?_);refine aloop (ι:=Nat) (fun i=>[(0,.ptr 1000000 0 0),(1,.d (.int .i64 n)),(2,.d (.lst (fs.map encBl))),(3,.d (.int .i64 most)),(9,.d (.int .i64 i))]) (fun i=>mH (rnds m n fs i))
  (fun i=>i<=N) (fun i=>N-i) 0 (Nat.zero_le _) (le0 (le_of_cov ⟨rfl,rfl,rfl,rfl,rfl,trivial⟩ ⟨rfl,rfl,rfl,trivial⟩ ⟨rfl,rfl,rfl,rfl⟩)) ?_
 intro i hi;have hM:=h.rnds n fs i;have hcl:=(rnds_clk m n fs i).1;have hall:=hN.all i;have hstop:=hN.stop
 by_cases hiN:i<N
 ·have hL:=left104_ok hM hw n hn;rw [hall hiN] at hL;obtain ⟨M,hM2⟩:∃ M,rnds m n fs i=M:=⟨_,rfl⟩;rw [hM2] at hL hM hcl⊢;have hrd:=round105_ok hM hw (by omega) n hn (fbN fs i)
  conv=>whnf
  refine aP ?_;refine callH_blk hL nm3 rfl ⟨rfl,rfl,rfl,trivial⟩ rfl (aP ?_)
  refine bcase_p (fun h6=>?_) (fun h6=>?_)<;>conv=>whnf
  ·have hpos:0<fs.length:=by omega
   have hlt:i%fs.length<fs.length:=Nat.mod_lt _ hpos
   have hb:fbN fs i=fs[i%fs.length]:=by rw [fbN,if_pos hpos,List.getElem?_eq_getElem hlt,Option.getD_some]
   rw [hb] at hrd
   have hz:(fs.map encBl)[i%fs.length]?=some [.bool fs[i%fs.length]]:=by rw [List.getElem?_map,List.getElem?_eq_getElem hlt];rfl
   have hem:((i:Int)%((fs.map encBl).length:Int))=((i%fs.length:Nat):Int):=by rw [hmf];rfl
   refine aP ?_;refine divK_rem (by omega) (by omega) (aP ?_);rw [hem];refine idxK_nat (by omega) (w0 ?_);refine getRow_of hz (aP ?_);refine callH_blk hrd nm3 rfl ⟨rfl,rfl,rfl,trivial⟩ rfl (aP ?_);refine ⟨i+1,by omega,by omega,?_⟩;rw [show rnds m n fs (i+1)=(roundM M n (fs[i%fs.length])).1 by rw [<-hb,<-hM2];rfl];exact (le0 (le_of_cov ⟨rfl,rfl,rfl,rfl,rfl,trivial⟩ ⟨rfl,rfl,rfl,trivial⟩ ⟨rfl,rfl,rfl,rfl⟩))
  ·have hb:fbN fs i=false:=by rw [fbN,if_neg (by omega)]
   rw [hb] at hrd;replace hrd:=hcall_ff hrd;refine aP ?_;refine callH_blk hrd nm3 rfl ⟨rfl,rfl,rfl,trivial⟩ rfl (aP ?_);refine ⟨i+1,by omega,by omega,?_⟩;rw [show rnds m n fs (i+1)=(roundM M n (false)).1 by rw [<-hb,<-hM2];rfl];exact (le0 (le_of_cov ⟨rfl,rfl,rfl,rfl,rfl,trivial⟩ ⟨rfl,rfl,rfl,trivial⟩ ⟨rfl,rfl,rfl,rfl⟩))
 ·have hiN2:i=N:=by omega
  subst hiN2
  by_cases him:i=most
  ·conv=>whnf
   refine aP ?_;exact hret_of rfl rfl rfl ⟨rfl,rfl,rfl,trivial⟩
  ·have hL:=left104_ok hM hw n hn;rw [hstop.resolve_left him] at hL
   conv=>whnf
   refine aP ?_;refine callH_blk hL nm3 rfl ⟨rfl,rfl,rfl,trivial⟩ rfl (aP ?_);exact hret_of rfl rfl rfl ⟨rfl,rfl,rfl,trivial⟩
theorem pump_idle {s:SA} (h:∀ j∈s.jobs,j=none):pumpS s=s:=by
 have e:nextL s=none:=lane_none h _ _;rw [pumpS,pumpG]
 split
 ·rw [e]
 ·rfl
theorem fin_idle {m:MS} (h:m.s.out=[]) (i:Int) (b:Bool):finM m i b=(m,false):=by
 rw [finM,if_pos]
 rw [h];simp;omega
def oB:MOp:=(1,3,ByteArray.empty)
def wkB:List (List MOp):=[[oB]]
def mB (p:PS) (w:WA) (h:HA) (l:LA) (c:Int) (ev:List EvA):MS:=⟨[w],p,h,(List.replicate 17 noLA).set 3 l,⟨0,false,[none],0,[]⟩,c,ev⟩
theorem bw0 (p:PS):newMS p 2 wkB=mB p (newWA [oB]) ⟨2,[],[]⟩ noLA 0 []:=rfl
theorem bw1 (p:PS):(stepM (mB p (newWA [oB]) ⟨2,[],[]⟩ noLA 0 []) 0).1=mB p ⟨[oB],0,1,false,false,0,0,(0,zP)⟩ ⟨2,[(0,false)],[]⟩ noLA 1 []:=rfl
theorem bw2 (p:PS):(stepM (mB p ⟨[oB],0,1,false,false,0,0,(0,zP)⟩ ⟨2,[(0,false)],[]⟩ noLA 1 []) 0).1=mB p ⟨[oB],0,2,true,false,0,0,(0,zP)⟩ ⟨2,[(0,false)],[]⟩ ⟨[0],true,[]⟩ 2 []:=rfl
theorem bw3 (p:PS):(stepM (mB p ⟨[oB],0,2,true,false,0,0,(0,zP)⟩ ⟨2,[(0,false)],[]⟩ ⟨[0],true,[]⟩ 2 []) 0).1=mB p ⟨[oB],0,3,true,false,0,0,(0,zP)⟩ ⟨2,[(0,false)],[]⟩ ⟨[0],true,[]⟩ 3 []:=rfl
theorem bw4 (p:PS):(stepM (mB p ⟨[oB],0,3,true,false,0,0,(0,zP)⟩ ⟨2,[(0,false)],[]⟩ ⟨[0],true,[]⟩ 3 []) 0).1=mB p ⟨[oB],0,5,true,true,0,0,(0,zP)⟩ ⟨2,[(0,true)],[]⟩ ⟨[0],true,[]⟩ 4 []:=by
 show (if hasF p 3=false/\ ((1:Int)=2\/ (1:Int)=3) then (_:MS×Bool) else _).1=_;rw [if_neg (fun g=>absurd g.2 (by decide))];rfl
theorem bw5 (p:PS):(stepM (mB p ⟨[oB],0,5,true,true,0,0,(0,zP)⟩ ⟨2,[(0,true)],[]⟩ ⟨[0],true,[]⟩ 4 []) 0).1=mB (workP p oB).1 ⟨[oB],0,6,true,true,0,4,(workP p oB).2⟩ ⟨2,[(0,true)],[]⟩ ⟨[0],true,[]⟩ 5 []:=rfl
theorem bw6 (p:PS) (r:MRes):(stepM (mB p ⟨[oB],0,6,true,true,0,4,r⟩ ⟨2,[(0,true)],[]⟩ ⟨[0],true,[]⟩ 5 []) 0).1=mB p ⟨[oB],1,0,false,false,0,0,(0,zP)⟩ ⟨2,[],[]⟩ noLA 6 [⟨0,oB,r,0,4,5⟩]:=rfl
theorem rnd_mB {m m':MS} {p w h l c ev} (hs:(stepM m 0).1=m') (e:m'=mB p w h l c ev):(roundM m 1 false).1=m':=by
 have e1:(stN m (min 1 4)).1=m':=hs
 have e2:pumpM m'=m':=by
  have e3:pumpS m'.s=m'.s:=pump_idle (by rw [e];intro j hj;simpa [mB] using hj);rw [pumpM,e3]
 rw [roundM,e1,e2,fin_idle (by rw [e];rfl)]
noncomputable def liv:Nat->MS:=rnds (newMS (p0 2) 2 wkB) 1 []
theorem liv_s {i:Nat} {m':MS} {p w h l c ev} (hs:(stepM (liv i) 0).1=m') (e:m'=mB p w h l c ev):liv (i+1)=m':=rnd_mB hs e
theorem liv0:liv 0=mB (p0 2) (newWA [oB]) ⟨2,[],[]⟩ noLA 0 []:=bw0 _
theorem liv1:liv 1=mB (p0 2) ⟨[oB],0,1,false,false,0,0,(0,zP)⟩ ⟨2,[(0,false)],[]⟩ noLA 1 []:=liv_s (by rw [liv0,bw1]) rfl
theorem liv2:liv 2=mB (p0 2) ⟨[oB],0,2,true,false,0,0,(0,zP)⟩ ⟨2,[(0,false)],[]⟩ ⟨[0],true,[]⟩ 2 []:=liv_s (by rw [liv1,bw2]) rfl
theorem liv3:liv 3=mB (p0 2) ⟨[oB],0,3,true,false,0,0,(0,zP)⟩ ⟨2,[(0,false)],[]⟩ ⟨[0],true,[]⟩ 3 []:=liv_s (by rw [liv2,bw3]) rfl
theorem liv4:liv 4=mB (p0 2) ⟨[oB],0,5,true,true,0,0,(0,zP)⟩ ⟨2,[(0,true)],[]⟩ ⟨[0],true,[]⟩ 4 []:=liv_s (by rw [liv3,bw4]) rfl
theorem liv5:liv 5=mB (workP (p0 2) oB).1 ⟨[oB],0,6,true,true,0,4,(workP (p0 2) oB).2⟩ ⟨2,[(0,true)],[]⟩ ⟨[0],true,[]⟩ 5 []:=liv_s (by rw [liv4,bw5]) rfl
theorem liv6:liv 6=mB (workP (p0 2) oB).1 ⟨[oB],1,0,false,false,0,0,(0,zP)⟩ ⟨2,[],[]⟩ noLA 6 [⟨0,oB,(workP (p0 2) oB).2,0,4,5⟩]:=liv_s (by rw [liv5,bw6]) rfl
theorem lf1 {m:MS} {p h l c ev} {w:WA} (e:m=mB p w h l c ev) (hw:0<(w.todo.length:Int)-w.ended):leftB m 1=true:=leftB_t.2 ⟨0,by decide,by rw [e];exact hw⟩
theorem liv_run:RunN (newMS (p0 2) 2 wkB) 1 [] 20 6:=by
 refine ⟨by decide,fun i hi=>?_,.inr ?_⟩
 ·show leftB (liv i) 1=true
  match i,hi with
  |0,_=>exact lf1 liv0 (by decide)
  |1,_=>exact lf1 liv1 (by decide)
  |2,_=>exact lf1 liv2 (by decide)
  |3,_=>exact lf1 liv3 (by decide)
  |4,_=>exact lf1 liv4 (by decide)
  |5,_=>exact lf1 liv5 (by decide)
  |i+6,h=>exact absurd h (by omega)
 ·show leftB (liv 6) 1=false
  refine leftB_f.2 fun k hk=>?_
  have:k=0:=by omega
  subst this;rw [liv6];exact (by decide:¬0<(0:Int))
theorem liv_work:DocI (workP (p0 2) oB).1 (ud (fun _=>zP) 3 (newP 3)) 2:=by
 have h:=work9 (p0_doc (n:=2) (by decide) (by decide)) (by decide) oB rfl;have e:mdoc (fun _=>zP) oB=(ud (fun _=>zP) 3 (newP 3),(0,newP 3)):=rfl;rw [e] at h;exact h.2
def nm16:List (Nat×Nat):=[(1000000,2000128),(1000001,2000129),(1000004,2000130)]
set_option maxRecDepth 20000 in
set_option maxHeartbeats 16000000 in
theorem lives_ok:ACall Tryz.prog 16 [] (.bool true):=by
 have hop:openM newDS 2=(p0 2,0):=open_rest new_rest z_new (by decide) (by decide);have hNew:=machNew_ok newDS 2 wkB (p0 2) hop new_rest.us (Nat.le_refl 1) (by decide) (fun l h=>by rw [wkB,List.mem_singleton] at h;subst h;decide);have hg:MGE wkB (newMS (p0 2) 2 wkB):=⟨0,Int.le_refl 0,by decide,MG.new (n:=2) (by decide) (by decide) (List.length_replicate ..) (p0_doc (n:=2) (by decide) (by decide)).gd (Nat.le_refl 1) (by decide)⟩;have hrun:=run47_ok hg (fun l h=>by rw [wkB,List.mem_singleton] at h;subst h;decide) 1 (by decide) [] (by decide) 20 (by decide) 6 liv_run;rw [show rnds (newMS (p0 2) 2 wkB) 1 [] 6=liv 6 from rfl] at hrun
 have hp:(liv 6).p=(workP (p0 2) oB).1:=by rw [liv6];rfl
 have hpg:=pages_m_ok (liv 6) (by rw [hp];exact liv_work.inv.pj.fm);rw [pages_doc (m:=liv 6) (n:=2) (by rw [hp];exact liv_work),show bgN (ud (fun _=>zP) 3 (newP 3)) 16=[newP 3] from rfl] at hpg;refine acall_of Tryz.func16 0 rfl (by kernel_rfl) (aP ?_);refine callX_pure dnew_ok (aW ?_);refine aP ?_;refine callX_ptr hNew (Nat.le_of_ble_eq_true rfl) (aP ?_);refine callH_blk (hcall_nil hrun) nm16 rfl ⟨rfl,rfl,rfl,trivial⟩ rfl (aP ?_);refine callH_blk hpg nm16 rfl ⟨rfl,rfl,rfl,trivial⟩ rfl (w0 ?_);have hlen:(([newP 3]:List Pg).map encP).length=1:=rfl;refine aP ?_;refine idxK_nat (i:=0) (by decide) (w0 ?_);refine getRow_of (x:=encP (newP 3)) rfl (aP ?_)
 first|exact ret_of rfl rfl|exact rfl
theorem age0 {p P n} (h:DocI p P n) (b:ByteArray):(poolDo (tickP p 1) (8,0,b)).1.f.dt=[]:=by
 have hi:=h.inv;have n0:=hi.pj.n0;have n1:=hi.pj.n1
 have ht:Inv (tickP p 1) P (fun _=>0) 2147483647 0:=by
  have mk:∀ t:Int,p.now<=t->t<=2147483647->Inv ⟨p.f,p.d,t⟩ P (fun _=>0) 2147483647 0:=fun t t0 t1=>
   ⟨⟨hi.pj.fm,hi.pj.rest,hi.pj.ca,hi.pj.z0,by show 0<=t;omega,t1,fun x hx=>by have:=hi.pj.dt x hx;show x.2<=t;omega⟩,hi.pins,hi.at_,hi.on,hi.ub⟩
  rw [tickP];repeat' split
  ·exact hi
  ·exact mk _ (by omega) (Int.le_refl _)
  ·exact mk _ (by omega) (by omega)
 have d:=(age_did ht 0).2 (Int.le_refl 0)
 have e2:poolDo (tickP p 1) (8,0,b)=poolAge (tickP p 1) 0:=by
  rw [poolDo,if_neg (show ¬((8:Int)<1\/ (8:Int)<8) by decide),if_neg (show ¬((8:Int)≠8/\_) from fun g=>g.1 rfl)];rfl
 rw [e2]
 refine List.eq_nil_iff_forall_not_mem.2 fun x hx=>?_
 obtain ⟨h1,h2⟩:=(d x).1 hx;have:=ht.pj.dt x h1;omega
theorem lasts {p P n} (h:DocI p P n) (hd:p.f.dt=[]) (keep:List Int) {q:Nat} (h1:1<=q) (h16:q<=16):getS (recM (crashD p.d keep)) q=if (P q).1=0 then (zP,3) else (P q,0):=by
 have hj:=h.inv.pj
 have e1:crashD p.d keep=p.d:=by rw [hj.d,crashD,if_pos hj.rest.us.dr];rfl
 have e2:recM p.d=p.d:=by
  have:=rec_rest hj.rest hj.z0
  rw [<-hj.d] at this;exact this
 rw [e1,e2,hj.get h1 h16]
 exact h.inv.on.dsk q h1 h16 fun x hx=>by rw [hd] at hx;cases hx
theorem getO_bg {P} (h:OkP P) {q:Nat} (h1:1<=q) (h16:q<=16):getO (bgN P 16) q=if (P q).1=0 then (zP,false) else (P q,true):=by
 by_cases hz:(P q).1=0
 ·rw [if_pos hz,getO_no];intro x hx e;obtain ⟨k,k1,k16,kz,rfl⟩:=bg_mem.1 hx;have:=(h.nz k1 k16 kz).2
  have:k=q:=by omega
  subst this;exact kz hz
 ·rw [if_neg hz];have:=getO_yes (x:=P q) (bg_mr h).one (bg_pw h) (bg_mem.2 ⟨q,h1,h16,hz,rfl⟩);rw [(h.nz h1 h16 hz).2] at this;exact this
def nm3L:List (Nat×Nat):=[(1000000,2000280),(1000001,2000281),(1000004,2000282)]
set_option maxRecDepth 20000 in
set_option maxHeartbeats 16000000 in
theorem lasts_ok (many:Int) (m0:0<=many) (m1:many<=255) (pages:List Pg) (hp:pages.length<=9223372036854775807) (work:List (List MOp)) (hl:work.length<=9223372036854775807) (hl2:∀ l∈work,l.length<=9223372036854775807) (acts:List (Int×Int)) (ha:acts.length<=9223372036854775807) (keep:List Int) (hke:keep.length<=9223372036854775807):
  ACall Tryz.prog 3 [.int .u8 many,.lst (pages.map encP),.lst (work.map encTd),.lst (acts.map encI),.lst (keep.map encKp)] (.bool true):=by
 have hma:(acts.map encI).length=acts.length:=List.length_map ..
 have hmw:(work.map encTd).length=work.length:=List.length_map ..
 have hmk:(keep.map encKp).length=keep.length:=List.length_map ..
 refine acall_of Tryz.func3 5 rfl (by kernel_rfl) (aP ?_);refine callX_pure (small19_ok work hl hl2) (aW ?_)
 refine bcase_p (fun q0=>?_) (fun q0=>?_)<;>conv=>whnf
 ·refine aP ?_;refine callX_pure lives_ok (aP ?_);exact ret_of rfl rfl
 refine aP ?_
 refine bcase_p (fun q00=>?_) (fun q00=>?_)<;>conv=>whnf
 ·refine aP ?_;refine callX_pure lives_ok (aP ?_);exact ret_of rfl rfl
 have hS:SmOk work:=by
  rcases Classical.em (SmOk work) with h|h
  ·exact h
  ·rw [smN_no h] at q0;exact absurd (by decide) q0
 obtain ⟨n,hn⟩:∃ n:Nat,1+many%8=n:=⟨(1+many%8).toNat,by omega⟩
 have n1:1<=n:=by omega
 have n8:n<=8:=by omega
 have h60:∀ l∈work,l.length<=60:=fun l h=>by have:=(hS.one l h).len;omega
 have hw:∀ l∈work,l.length<=1000:=fun l h=>by have:=(hS.one l h).len;omega
 have hB:=begin19_ok many m0 m1 pages hp work hS.n1 hS.n4 h60 n hn;have hI0:=HI.new n1 n8 pages hS.n1 hS.n4;have hc0:(begM n pages work).clk=0:=rfl;have hd0:=begM_doc n n1 n8 pages work;obtain ⟨M0,hM⟩:∃ M0,begM n pages work=M0:=⟨_,rfl⟩;rw [hM] at hB hI0 hc0 hd0;refine aP ?_;refine callX_ptr hB (Nat.le_of_ble_eq_true rfl) (aP ?_);have hokp:=hd0.okp;refine aloop (ι:=Nat) (fun k=>[(3,.d (.lst (acts.map encI))),(4,.d (.lst (keep.map encKp))),(11,.ptr 2000280 0 0),(14,.d (.int .i64 k))])
  (fun k=>[(2000280,.box (mCk 2000280 (runMS M0 (acts.take k))) false),(2000281,.row ((runMS M0 (acts.take k)).ws.map encWA) 11 false),(2000282,.row ((runMS M0 (acts.take k)).ev.map encEvA) 11 false)])
  (fun k=>k<=acts.length/\k<=200) (fun k=>200-k) 0 ⟨by omega,by decide⟩ (le0 (le_of_cov ⟨rfl,rfl,rfl,rfl,trivial⟩ ⟨rfl,rfl,rfl,trivial⟩ ⟨rfl,rfl,rfl,rfl⟩)) ?_
 rintro k ⟨hk,hk3⟩;have hI:=hI0.run (acts.take k)
 have hck:(runMS M0 (acts.take k)).clk<=k:=by
  have:=(run_clk (acts.take k) M0).1
  have:(acts.take k).length<=k:=by rw [List.length_take];omega
  omega
 have es:∀ hk2:k<acts.length,runMS M0 (acts.take (k+1))=(doMS (runMS M0 (acts.take k)) acts[k]).1:=fun hk2=>run_snoc hk2 M0
 obtain ⟨M,hM2⟩:∃ M,runMS M0 (acts.take k)=M:=⟨_,rfl⟩;rw [hM2] at hI hck;rw [hM2]
 conv=>whnf
 refine bcase_p (fun h5=>?_) (fun h5=>?_)<;>conv=>whnf
 rotate_left
 ·obtain ⟨P,hP⟩:=hI.doc;have hpg:=pages_m_ok M hP.inv.pj.fm;rw [pages_doc hP] at hpg;obtain ⟨t,t0,t1,gM⟩:=hI.g.ex;have hag:=ageM_ok M 0 t gM.gd t1 t0;have hP2:DocI (ageM M 0).p P n:=hP.age 0 _;have hd2:(ageM M 0).p.f.dt=[]:=age0 hP _;have hI2:HI (new9 pages).2 n work (ageM M 0):=⟨hI.g.do_ (9,0),hI.pg.tr (.age 0),hI.tg.tr (.age 0),hI.og.tr (.age 0)⟩;have hF:=hP2.inv.pj.fm;have hfl:=hF.fl;have hus:=hI2.us;have hdc:=dcrash_ok (ageM M 0).p.d keep (by omega);have hdr:=recover_ok (crashD (ageM M 0).p.d keep);have hpo:=pool_m_ok (ageM M 0) (by omega) (by have:=hF.tl;omega) (by rw [hF.len];omega) (by have:=hF.dl;omega) (by omega) (by omega);obtain ⟨d,hd⟩:∃ d,recM (crashD (ageM M 0).p.d keep)=d:=⟨_,rfl⟩
  have hla:∀ q:Nat,1<=q->q<=16->getS d q=if (P q).1=0 then (zP,3) else (P q,0):=fun q q1 q16=>by rw [<-hd];exact lasts hP2 hd2 keep q1 q16
  rw [hd] at hdr;refine aP ?_;refine callH_blk hpg nm3L rfl ⟨rfl,rfl,rfl,trivial⟩ rfl (aP ?_);refine callH_blk hag nm3L rfl ⟨rfl,rfl,rfl,trivial⟩ rfl (aP ?_);refine callH_blk hpo nm3L rfl ⟨rfl,rfl,rfl,trivial⟩ rfl (aP ?_);refine callX_pure hdc (aP ?_);refine callX_pure hdr (aP ?_);refine aloop (ι:=Nat) (fun q=>[(15,.ptr 15 0 0),(16,.ptr 16 0 0),(17,.d (.int .i64 q))])
   (fun q=>[(15,.box [.d (.lst ((bgN P 16).map encP))] false),(16,.box (d.cells.map AV.d) false)])
   (fun q=>1<=q/\q<=17) (fun q=>17-q) 1 ⟨Nat.le_refl _,by decide⟩ (le0 (le_of_cov ⟨rfl,rfl,rfl,trivial⟩ ⟨rfl,rfl,trivial⟩ ⟨rfl,rfl,rfl,rfl⟩)) ?_
  rintro q ⟨hq1,hq⟩
  conv=>whnf
  refine bcase_p (fun g1=>?_) (fun g1=>?_)<;>conv=>whnf
  rotate_left
  ·refine aP ?_;refine callX_pure lives_ok (aP ?_);exact ret_of rfl rfl
  have hgs:=rgetS_ok d q;have hgo:=opsGet_ok (bgN P 16) q (by have:=bg_len P;omega);rw [hla q hq1 (by omega)] at hgs;rw [getO_bg hP.okp hq1 (by omega)] at hgo
  by_cases hz:(P q).1=0
  ·rw [if_pos hz] at hgs hgo;refine aP ?_;refine callX_pure hgs (aP ?_);refine callX_pure hgo (aP ?_);refine bcase_t (by simp) (w0 ?_);refine bcase_f (by rfl) (aP ?_);refine ⟨q+1,by omega,by omega,?_⟩;exact (le0 (le_of_cov ⟨rfl,rfl,rfl,trivial⟩ ⟨rfl,rfl,trivial⟩ ⟨rfl,rfl,rfl,rfl⟩))
  ·rw [if_neg hz] at hgs hgo;refine aP ?_;refine callX_pure hgs (aP ?_);refine callX_pure hgo (aP ?_);refine bcase_t (by simp) (w0 ?_);refine bcase_f (by rfl) (aP ?_);refine ⟨q+1,by omega,by omega,?_⟩;exact (le0 (le_of_cov ⟨rfl,rfl,rfl,trivial⟩ ⟨rfl,rfl,trivial⟩ ⟨rfl,rfl,rfl,rfl⟩))
 refine bcase_p (fun h6=>?_) (fun h6=>?_)<;>conv=>whnf
 rotate_left
 ·obtain ⟨P,hP⟩:=hI.doc;have hpg:=pages_m_ok M hP.inv.pj.fm;rw [pages_doc hP] at hpg;obtain ⟨t,t0,t1,gM⟩:=hI.g.ex;have hag:=ageM_ok M 0 t gM.gd t1 t0;have hP2:DocI (ageM M 0).p P n:=hP.age 0 _;have hd2:(ageM M 0).p.f.dt=[]:=age0 hP _;have hI2:HI (new9 pages).2 n work (ageM M 0):=⟨hI.g.do_ (9,0),hI.pg.tr (.age 0),hI.tg.tr (.age 0),hI.og.tr (.age 0)⟩;have hF:=hP2.inv.pj.fm;have hfl:=hF.fl;have hus:=hI2.us;have hdc:=dcrash_ok (ageM M 0).p.d keep (by omega);have hdr:=recover_ok (crashD (ageM M 0).p.d keep);have hpo:=pool_m_ok (ageM M 0) (by omega) (by have:=hF.tl;omega) (by rw [hF.len];omega) (by have:=hF.dl;omega) (by omega) (by omega);obtain ⟨d,hd⟩:∃ d,recM (crashD (ageM M 0).p.d keep)=d:=⟨_,rfl⟩
  have hla:∀ q:Nat,1<=q->q<=16->getS d q=if (P q).1=0 then (zP,3) else (P q,0):=fun q q1 q16=>by rw [<-hd];exact lasts hP2 hd2 keep q1 q16
  rw [hd] at hdr;refine aP ?_;refine callH_blk hpg nm3L rfl ⟨rfl,rfl,rfl,trivial⟩ rfl (aP ?_);refine callH_blk hag nm3L rfl ⟨rfl,rfl,rfl,trivial⟩ rfl (aP ?_);refine callH_blk hpo nm3L rfl ⟨rfl,rfl,rfl,trivial⟩ rfl (aP ?_);refine callX_pure hdc (aP ?_);refine callX_pure hdr (aP ?_);refine aloop (ι:=Nat) (fun q=>[(15,.ptr 15 0 0),(16,.ptr 16 0 0),(17,.d (.int .i64 q))])
   (fun q=>[(15,.box [.d (.lst ((bgN P 16).map encP))] false),(16,.box (d.cells.map AV.d) false)])
   (fun q=>1<=q/\q<=17) (fun q=>17-q) 1 ⟨Nat.le_refl _,by decide⟩ (le0 (le_of_cov ⟨rfl,rfl,rfl,trivial⟩ ⟨rfl,rfl,trivial⟩ ⟨rfl,rfl,rfl,rfl⟩)) ?_
  rintro q ⟨hq1,hq⟩
  conv=>whnf
  refine bcase_p (fun g1=>?_) (fun g1=>?_)<;>conv=>whnf
  rotate_left
  ·refine aP ?_;refine callX_pure lives_ok (aP ?_);exact ret_of rfl rfl
  have hgs:=rgetS_ok d q;have hgo:=opsGet_ok (bgN P 16) q (by have:=bg_len P;omega);rw [hla q hq1 (by omega)] at hgs;rw [getO_bg hP.okp hq1 (by omega)] at hgo
  by_cases hz:(P q).1=0
  ·rw [if_pos hz] at hgs hgo;refine aP ?_;refine callX_pure hgs (aP ?_);refine callX_pure hgo (aP ?_);refine bcase_t (by simp) (w0 ?_);refine bcase_f (by rfl) (aP ?_);refine ⟨q+1,by omega,by omega,?_⟩;exact (le0 (le_of_cov ⟨rfl,rfl,rfl,trivial⟩ ⟨rfl,rfl,trivial⟩ ⟨rfl,rfl,rfl,rfl⟩))
  ·rw [if_neg hz] at hgs hgo;refine aP ?_;refine callX_pure hgs (aP ?_);refine callX_pure hgo (aP ?_);refine bcase_t (by simp) (w0 ?_);refine bcase_f (by rfl) (aP ?_);refine ⟨q+1,by omega,by omega,?_⟩;exact (le0 (le_of_cov ⟨rfl,rfl,rfl,trivial⟩ ⟨rfl,rfl,trivial⟩ ⟨rfl,rfl,rfl,rfl⟩))
 have hk2:k<acts.length:=by omega
 refine aP ?_;refine idxK_nat (by omega) (w0 ?_);refine getRow_of (x:=encI acts[k]) (by simp [hk2]) (aW ?_);refine callH_blk (doL_ok hI.g hw (by omega) acts[k]) nm3L rfl ⟨rfl,rfl,rfl,trivial⟩ rfl (aP ?_);have e:=es hk2;rw [hM2] at e;refine ⟨k+1,⟨by omega,by omega⟩,by omega,?_⟩;rw [e];exact (le0 (le_of_cov ⟨rfl,rfl,rfl,rfl,trivial⟩ ⟨rfl,rfl,rfl,trivial⟩ ⟨rfl,rfl,rfl,rfl⟩))
def trK (s:SA) (k:Nat):Nat:=match s.out.find? (fun f=>f.who==k) with|some f=>f.tr|none=>1
def ph (s:SA) (k:Nat) (w:WA):Nat:=if w.st=4 then 3+trK s k else if w.st=5 then 7 else if w.st=6 then 8 else w.st
def phi (m:MS) (k:Nat):Nat:=match m.ws[k]? with|none=>0|some w=>9*(w.todo.length-w.ended)-ph m.s k w
def Phi (m:MS):Nat:=phi m 0+phi m 1+phi m 2+phi m 3
theorem phi_at {m:MS} {k:Nat} {w:WA} (h:m.ws[k]?=some w):phi m k=9*(w.todo.length-w.ended)-ph m.s k w:=by rw [phi,h]
theorem phi_no {m:MS} {k:Nat} (h:m.ws.length<=k):phi m k=0:=by rw [phi,List.getElem?_eq_none h]
structure Dec (m m':MS) (d:Bool):Prop where
 le:∀ k,phi m' k<=phi m k
 lt:d=true->∃ k,k<4/\phi m' k<phi m k
theorem Dec.Phi {m m':MS} {d:Bool} (h:Dec m m' d):Phi m'<=Phi m/\ (d=true->Phi m'<Phi m):=by
 have h0:=h.le 0;have h1:=h.le 1;have h2:=h.le 2;have h3:=h.le 3;refine ⟨by unfold Go.Lk.Phi;omega,fun hd=>?_⟩;obtain ⟨k,hk,hl⟩:=h.lt hd
 have:k=0\/k=1\/k=2\/k=3:=by omega
 unfold Go.Lk.Phi
 rcases this with rfl|rfl|rfl|rfl<;>omega
theorem Dec.same {m m':MS} (h:∀ k,phi m' k=phi m k):Dec m m' false:=⟨fun k=>by rw [h k];exact Nat.le_refl _,fun q=>by cases q⟩
theorem Dec.trans {a b c:MS} {d e:Bool} (h1:Dec a b d) (h2:Dec b c e):Dec a c (d||e):=by
 refine ⟨fun k=>Nat.le_trans (h2.le k) (h1.le k),fun h=>?_⟩
 rcases Bool.or_eq_true_iff.1 h with h|h
 ·obtain ⟨k,hk,hl⟩:=h1.lt h;exact ⟨k,hk,Nat.lt_of_le_of_lt (h2.le k) hl⟩
 ·obtain ⟨k,hk,hl⟩:=h2.lt h;exact ⟨k,hk,Nat.lt_of_lt_of_le hl (h1.le k)⟩
theorem ph_le {h lat s k w} (v:WOk h lat s k w) (hs:SU s):ph s k w<=8/\ (w.st=4->4<=ph s k w/\ph s k w<=6):=by
 have h6:=v.st6
 have ht:1<=trK s k/\trK s k<=3:=by
  rw [trK]
  cases e:s.out.find? (fun f=>f.who==k) with
  |none=>exact ⟨Nat.le_refl 1,by decide⟩
  |some f=>
   have:=hs.lt f (List.mem_of_find?_eq_some e);exact ⟨this.2.2.2.1,this.2.2.2.2⟩
 rw [ph]
 repeat' split
 all_goals omega
theorem dec_one {m m':MS} {k:Nat} {w w':WA} (hk:m.ws[k]?=some w) (hws:m'.ws=m.ws.set k w') (hs:∀ j,j≠k->trK m'.s j=trK m.s j) (h4:k<4) (hlt:9*(w'.todo.length-w'.ended)-ph m'.s k w'<9*(w.todo.length-w.ended)-ph m.s k w):Dec m m' true:=by
 have hl:=(List.getElem?_eq_some_iff.1 hk).1
 have hk':m'.ws[k]?=some w':=by rw [hws,List.getElem?_set,if_pos rfl,if_pos hl]
 have hself:phi m' k<phi m k:=by rw [phi_at hk',phi_at hk];exact hlt
 refine ⟨fun j=>?_,fun _=>⟨k,h4,hself⟩⟩
 by_cases e:j=k
 ·rw [e];exact Nat.le_of_lt hself
 ·have e2:m'.ws[j]?=m.ws[j]?:=by rw [hws,List.getElem?_set,if_neg (fun q=>e q.symm)]
  rw [phi,phi,e2]
  cases h:m.ws[j]? with
  |none=>exact Nat.le_refl _
  |some v=>simp only [ph,hs j e];exact Nat.le_refl _
theorem tr_none {s:SA} {k:Nat} (h:∀ p,¬WJ s k p):trK s k=1:=by
 rw [trK]
 cases e:s.out.find? (fun f=>f.who==k) with
 |none=>rfl
 |some f=>
  have h1:f.who=k:=by have:=List.find?_some e;simpa using this
  exact absurd (.inr ⟨f,List.mem_of_find?_eq_some e,h1,rfl⟩) (h f.pg)
theorem dec_step {m:MS} (o:MOk m) (k:Int):Dec m (stepM m k).1 (stepM m k).2:=by
 cases hd:(stepM m k).2 with
 |false=>
  obtain ⟨c,e,_⟩:=stepM_no hd;rw [e]
  exact Dec.same fun j=>rfl
 |true=>
  rw [stepM] at hd⊢
  split at hd
  ·cases hd
  rename_i hk0;rw [if_neg hk0]
  cases hk:m.ws[k.toNat]? with
  |none=>rw [hk] at hd;cases hd
  |some w=>
   rw [hk] at hd;have hl:=(List.getElem?_eq_some_iff.1 hk).1
   have h4:k.toNat<4:=by have:=o.n4;omega
   have v:=o.w _ w hk;have hp:=ph_le v o.su;have hbu:=v.bu;simp only [] at hd⊢;unfold stepW at hd⊢
   split
   ·rename_i hs
    split
    ·rename_i hn;rw [hs] at hd;simp only [if_pos hn] at hd
     cases hd
    ·rename_i hn;refine dec_one hk rfl (fun _ _=>rfl) h4 ?_;simp only [ph,hs]
     simp;omega
   ·rename_i hs;have hb:=hbu (by omega)
    split
    ·rename_i hn;rw [hs] at hd;simp only [if_pos hn] at hd
     cases hd
    split
    ·refine dec_one hk rfl (fun _ _=>rfl) h4 ?_;simp only [ph,hs,tellW]
     simp;omega
    ·refine dec_one hk rfl (fun _ _=>rfl) h4 ?_;simp only [ph,hs]
     simp;omega
   ·rename_i hs;have hb:=hbu (by omega)
    split
    ·rename_i hn;rw [hs] at hd;simp only [if_pos hn] at hd
     cases hd
    ·refine dec_one hk rfl (fun _ _=>rfl) h4 ?_;simp only [ph,hs]
     simp;omega
   ·rename_i hs;have hb:=hbu (by omega)
    split
    ·rename_i hn;rw [hs] at hd;simp only [if_pos hn] at hd
     cases hd
    split
    ·refine dec_one hk rfl (fun _ _=>rfl) h4 ?_
     have ht:trK (askS m.s k.toNat w.op.2.1) k.toNat=1:=tr_none (s:=m.s) (k:=k.toNat) fun p hj=>by have:=(v.job p).1 hj;omega
     simp only [ph,hs];simp only [ht]
     simp;omega
    ·refine dec_one hk rfl (fun _ _=>rfl) h4 ?_;simp only [ph,hs]
     simp;omega
   ·rename_i hs;have hb:=hbu (by omega);refine dec_one hk rfl (fun _ _=>rfl) h4 ?_;simp only [ph,hs,tellW]
    simp;omega
   ·rename_i hs;have hb:=hbu (by omega);refine dec_one hk rfl (fun _ _=>rfl) h4 ?_;simp only [ph,hs]
    simp;omega
   ·rename_i n1 n2 n3 n4 n5 n6;exfalso
    revert hd
    split
    all_goals first|contradiction|(intro h;cases h)
theorem tr_app {s:SA} {k:Nat} {f:Fly} (h1:f.tr=1) (s':SA) (ho:s'.out=s.out++[f]):trK s' k=trK s k:=by
 rw [trK,trK,ho,List.find?_append]
 cases e:s.out.find? (fun f=>f.who==k) with
 |some g=>rfl
 |none=>
  simp only [Option.none_or];rw [List.find?_cons]
  split
  ·rename_i g heq
   split at heq
   ·cases heq;exact h1
   ·cases heq
  ·rfl
theorem tr_pump:∀ (n:Nat) (s:SA) (k:Nat),trK (pumpG n s) k=trK s k
 |0,s,k=>rfl
 |n+1,s,k=>by
  rw [pumpG]
  split
  ·split
   ·rfl
   ·rename_i j hj;rw [tr_pump n];exact tr_app rfl _ rfl
  ·rfl
theorem dec_pump (m:MS):Dec m (pumpM m) false:=Dec.same fun k=>by
 rw [phi,phi];show (match m.ws[k]? with|none=>0|some w=>9*(w.todo.length-w.ended)-ph (pumpS m.s) k w)=_
 cases m.ws[k]? with
 |none=>rfl
 |some w=>simp only [ph,show trK (pumpS m.s) k=trK m.s k from tr_pump 5 m.s k]
theorem tr_cut {s:SA} {i:Nat} {j:Fly} {A B:List Fly} (c:Cut s i j A B) {k:Nat} (hk:k≠j.who) {s':SA} {C:List Fly} (ho:s'.out=(A++B)++C) (hC:∀ f∈C,f.who=j.who):trK s' k=trK s k:=by
 have e0:(j.who==k)=false:=by simpa using fun q=>hk q.symm
 have e1:C.find? (fun f=>f.who==k)=none:=by
  rw [List.find?_eq_none];intro f hf
  rw [hC f hf];simpa using fun q=>hk q.symm
 rw [trK,trK,ho,c.o,List.find?_append,e1,List.find?_append,List.find?_append,List.find?_cons,e0,Option.or_none]
theorem tr_self {s:SA} (h:SU s) {i:Nat} {j:Fly} {A B:List Fly} (c:Cut s i j A B):trK s j.who=j.tr:=by
 have e1:A.find? (fun f=>f.who==j.who)=none:=by
  rw [List.find?_eq_none];intro f hf;have:=c.w f (List.mem_append.2 (.inl hf))
  simpa using this
 rw [trK,c.o,List.find?_append,e1,List.find?_cons];simp
theorem tr_again {s:SA} {i:Nat} {j g:Fly} {A B:List Fly} (c:Cut s i j A B) {s':SA} (ho:s'.out=(A++B)++[g]) (hg:g.who=j.who):trK s' j.who=g.tr:=by
 have e1:(A++B).find? (fun f=>f.who==j.who)=none:=by
  rw [List.find?_eq_none];intro f hf;have:=c.w f hf
  simpa using this
 rw [trK,ho,List.find?_append,e1,List.find?_cons];simp [hg]
theorem dec_fin {m:MS} (o:MOk m) (i:Int) (b:Bool):Dec m (finM m i b).1 (finM m i b).2:=by
 rw [finM]
 split
 ·exact Dec.same fun j=>rfl
 ·rename_i hi;obtain ⟨j,hj⟩:∃ j,m.s.out[i.toNat]?=some j:=⟨_,List.getElem?_eq_getElem (by omega)⟩;obtain ⟨A,B,c⟩:=cut_ok o.su hj;have hjo:=(c.mem j).2 (.inl rfl);have hwj:WJ m.s j.who j.pg:=.inr ⟨j,hjo,rfl,rfl⟩
  have hlt:j.who<m.ws.length:=by have:=(o.su.lt j hjo).2.1;rw [o.sj] at this;exact this
  obtain ⟨w,hk⟩:∃ w,m.ws[j.who]?=some w:=⟨_,List.getElem?_eq_getElem hlt⟩;have v:=o.w _ w hk;have h4:=((v.job _).1 hwj).1;have hb:=v.bu (by omega);have htr:=(o.su.lt j hjo).2.2.2;have ht:=tr_self o.su c
  have h4':j.who<4:=by have:=o.n4;omega
  rw [doneS,hj];simp only [];rw [c.e]
  split
  ·rename_i s hd
   split at hd
   ·rename_i hc
    cases hd
    refine dec_one (w:=w) (w':=w) hk ?_ (fun q hq=>tr_cut c hq rfl fun f hf=>by rw [List.mem_singleton.1 hf]) h4' ?_
    ·show m.ws=m.ws.set j.who w;obtain ⟨hx,hy⟩:=List.getElem?_eq_some_iff.1 hk
     rw [<-hy];exact (List.set_getElem_self hx).symm
    ·have ht2:trK {m.s with next:=m.s.next+1,out:=(A++B)++[⟨m.s.next,j.who,j.pg,j.tr+1⟩]} j.who=j.tr+1:=tr_again (g:=⟨m.s.next,j.who,j.pg,j.tr+1⟩) c rfl rfl;simp only [ph,h4,if_pos,ht,ht2];omega
   ·cases hd
  ·rename_i s k bad hd
   split at hd
   ·cases hd
   ·cases hd
    rw [hk];simp only [];rw [if_neg (fun q=>q h4)]
    have hw:∀ bd:Bool,(toldW m w bd).todo=w.todo/\ (toldW m w bd).ended=w.ended/\ ((toldW m w bd).st=5\/ (toldW m w bd).st=6):=fun bd=>by
     unfold toldW;split
     ·exact ⟨rfl,rfl,.inr rfl⟩
     ·exact ⟨rfl,rfl,.inl rfl⟩
    refine dec_one (w:=w) (w':=toldW m w _) hk rfl (fun q hq=>tr_cut (C:=[]) c hq (by rw [List.append_nil]) (fun f hf=>by cases hf)) h4' ?_;rw [(hw _).1,(hw _).2.1]
    have e1:ph m.s j.who w=3+j.tr:=by rw [ph,if_pos h4,ht]
    rw [e1]
    have e2:∀ s bd,7<=ph s j.who (toldW m w bd) /\ph s j.who (toldW m w bd) <=8:=fun s bd=>by
     rw [ph]
     rcases (hw bd).2.2 with e|e<;>rw [e]<;>simp
    show 9*(w.todo.length-w.ended)-ph {m.s with out:=A++B} j.who (toldW m w b)<_;have q1:=(e2 {m.s with out:=A++B} b).1;have q2:=(e2 {m.s with out:=A++B} b).2;generalize ph {m.s with out:=A++B} j.who (toldW m w b)=x at q1 q2⊢;omega
theorem dec_stN {work m} (h:MGE work m):∀ k,Dec m (stN m k).1 (stN m k).2
 |0=>Dec.same fun _=>rfl
 |k+1=>(dec_stN h k).trans (dec_step (h.stN k).ok k)
theorem dec_round {work m} (h:MGE work m) (n:Nat) (b:Bool):Dec m (roundM m n b).1 (roundM m n b).2:=by
 have h1:=dec_stN h (min n 4);have h2:=dec_pump (stN m (min n 4)).1;have h3:=dec_fin ((h.stN (min n 4)).pump).ok 0 b;have:=(h1.trans h2).trans h3;rw [Bool.or_false] at this;exact this
theorem stN_no {m:MS}:∀ {k:Nat},(stN m k).2=false->(∃ c,(stN m k).1={m with clk:=c}) /\ ∀ j,j<k->(stepM m j).2=false
 |0,_=>⟨⟨m.clk,rfl⟩,fun j hj=>absurd hj (Nat.not_lt_zero _)⟩
 |k+1,h=>by
  have h:((stN m k).2||(stepM (stN m k).1 k).2)=false:=h;rw [Bool.or_eq_false_iff] at h;obtain ⟨⟨c,e⟩,hj⟩:=stN_no h.1;have h2:=h.2;obtain ⟨c',e',_⟩:=stepM_no h2;rw [e] at h2 e';refine ⟨⟨c',?_⟩,fun j hjk=>?_⟩
  ·show (stepM (stN m k).1 k).1=_;rw [e,e']
  ·by_cases q:j=k
   ·rw [q,<-stepM_2 m c];exact h2
   ·exact hj j (by omega)
theorem round_2 (m:MS) (n:Nat) (b:Bool):(roundM m n b).2=((stN m (min n 4)).2||(finM (pumpM (stN m (min n 4)).1) 0 b).2):=rfl
theorem round_does {work m} (h:MGE work m) {n:Nat} (hn:m.ws.length<=n) (b:Bool) (hx:m.s.next+4<2147483647):(roundM m n b).2=true↔∃ k,k<m.ws.length/\0<lfV m k:=by
 have o:=h.ok;have n4:=o.n4;rw [<-goes o,round_2]
 constructor
 ·intro hd
  cases hs:(stN m (min n 4)).2 with
  |true=>
   refine Classical.byContradiction fun hz=>?_
   have key:∀ k,k<=min n 4->(stN m k).2=false:=fun k=>by
    induction k with
    |zero=>exact fun _=>rfl
    |succ k ih=>
     intro hk;have i1:=ih (by omega);obtain ⟨⟨c,e⟩,_⟩:=stN_no i1;show ((stN m k).2||(stepM (stN m k).1 k).2)=false;rw [i1,e,Bool.false_or,stepM_2]
     cases q:(stepM m k).2 with
     |false=>rfl
     |true=>
      by_cases hkl:k<m.ws.length
      ·exact absurd ⟨k,hkl,.inl q⟩ hz
      ·rw [stepM,if_neg (by omega),Int.toNat_natCast,List.getElem?_eq_none (by omega)] at q;cases q
   rw [key _ (Nat.le_refl _)] at hs;cases hs
  |false=>
   rw [hs,Bool.false_or] at hd;obtain ⟨⟨c,e⟩,_⟩:=stN_no hs;rw [e] at hd;rw [finM] at hd
   split at hd
   ·cases hd
   ·rename_i hi;have hp:=pumpG_ok 5 o.su
    have hlen:0<(pumpS m.s).out.length:=by
     have hi2:¬((0:Int)<0\/ ((pumpS m.s).out.length:Int) <=0):=hi;omega
    obtain ⟨f,hf⟩:=List.exists_mem_of_length_pos hlen;have hwj:WJ (pumpS m.s) f.who f.pg:=.inr ⟨f,hf,rfl,rfl⟩;have hwj2:=(hp.wj _ _).1 hwj
    have hwho:f.who<m.ws.length:=by
     have:=(hp.su.lt f hf).2.1
     rw [hp.len,o.sj] at this;exact this
    have:=((o.w _ _ (List.getElem?_eq_getElem hwho)).job _).1 hwj2;exact ⟨f.who,hwho,.inr (by rw [stV_at (List.getElem?_eq_getElem hwho),this.1];rfl)⟩
 ·rintro ⟨k,hk,hg⟩
  cases hs:(stN m (min n 4)).2 with
  |true=>rfl
  |false=>
   rw [Bool.false_or];obtain ⟨⟨c,e⟩,hj⟩:=stN_no hs
   rcases hg with hg|hg
   ·rw [hj k (by omega)] at hg;cases hg
   ·rw [e]
    have hw:∃ w,m.ws[k]?=some w/\w.st=4:=by
     rw [stV] at hg
     cases q:m.ws[k]? with
     |none=>rw [q] at hg;exact absurd (show (0:Int)=4 from hg) (by decide)
     |some w=>rw [q] at hg;exact ⟨w,rfl,by have hg:(w.st:Int)=4:=hg;omega⟩
    obtain ⟨w,hw1,hw2⟩:=hw;have hwj:WJ m.s k w.op.2.1:=((o.w k w hw1).job _).2 ⟨hw2,rfl⟩;have hp:=pumpG_ok 5 o.su;have hwj2:WJ (pumpS m.s) k w.op.2.1:=(hp.wj _ _).2 hwj;have hall:=pumpS_all o.su hx k (by rw [o.sj];exact hk)
    rcases hwj2 with hq|⟨f,hf,_⟩
    ·rw [hall] at hq;cases hq
    ·have hlen:0<(pumpS m.s).out.length:=List.length_pos_of_mem hf
     rw [finM,if_neg (by
      show ¬((0:Int)<0\/ ((pumpS m.s).out.length:Int) <=0)
      omega)]
     split
     ·rfl
     ·split
      ·rfl
      ·split<;>rfl
theorem phi_pos {m:MS} (o:MOk m) (k:Nat):0<phi m k↔0<lfV m k:=by
 rw [phi,lfV]
 cases h:m.ws[k]? with
 |none=>exact ⟨fun q=>absurd q (Nat.lt_irrefl _),fun q=>absurd (show (0:Int)<0 from q) (by decide)⟩
 |some w=>
  have v:=o.w k w h;have hp:=(ph_le v o.su).1;have he:=v.en;show 0<9*(w.todo.length-w.ended)-ph m.s k w↔0<(w.todo.length:Int)-w.ended
  by_cases hs:w.st=0
  ·have:ph m.s k w=0:=by simp [ph,hs]
   omega
  ·have:=v.bu hs;omega
theorem Phi_pos {m:MS} (o:MOk m):0<Phi m↔∃ k,k<m.ws.length/\0<lfV m k:=by
 constructor
 ·intro h;unfold Phi at h
  have:0<phi m 0\/0<phi m 1\/0<phi m 2\/0<phi m 3:=by omega
  have key:∀ k,0<phi m k->∃ k,k<m.ws.length/\0<lfV m k:=fun k hk=>by
   refine ⟨k,?_,(phi_pos o k).1 hk⟩
   refine Classical.byContradiction fun hn=>?_
   rw [phi_no (by omega)] at hk;exact absurd hk (Nat.lt_irrefl _)
  rcases this with h|h|h|h
  ·exact key _ h
  ·exact key _ h
  ·exact key _ h
  ·exact key _ h
 ·rintro ⟨k,hk,h⟩;have h1:=(phi_pos o k).2 h;have:=o.n4
  have:k=0\/k=1\/k=2\/k=3:=by omega
  unfold Phi
  rcases this with rfl|rfl|rfl|rfl<;>omega
theorem nx_step (m:MS) (k:Int):(stepM m k).1.s.next=m.s.next:=by
 rw [stepM];repeat' split
 ·rfl
 ·rfl
 ·unfold stepW;repeat' split
  all_goals rfl
theorem nx_stN (m:MS):∀ k,(stN m k).1.s.next=m.s.next
 |0=>rfl
 |k+1=>(nx_step _ _).trans (nx_stN m k)
theorem nx_pump {m:MS} (o:MOk m):(pumpM m).s.next<=m.s.next+4:=by
 have h:=pumpG_ok 5 o.su;have:=h.nx;have:=h.su.fl;show (pumpG 5 m.s).next<=_;omega
theorem nx_fin (m:MS) (i:Int) (b:Bool):(finM m i b).1.s.next<=m.s.next+1:=by
 have key:∀ n,(doneS m.s n b).1.next<=m.s.next+1:=fun n=>by
  rw [doneS]
  split
  ·show m.s.next<=_;omega
  ·split
   ·show m.s.next+1<=_;omega
   ·show m.s.next<=_;omega
 have hk:=key i.toNat;rw [finM]
 split
 ·show m.s.next<=_;omega
 split
 ·rename_i s e;rw [e] at hk;exact hk
 ·rename_i s k bad e;rw [e] at hk
  split
  ·exact hk
  ·split<;>exact hk
theorem nx_round {work m} (h:MGE work m) (n:Nat) (b:Bool):(roundM m n b).1.s.next<=m.s.next+5:=by
 have h1:=nx_stN m (min n 4);have h2:=nx_pump (h.stN (min n 4)).ok;have h3:=nx_fin (pumpM (stN m (min n 4)).1) 0 b;show (finM (pumpM (stN m (min n 4)).1) 0 b).1.s.next<=_;omega
theorem nx_rnds {work m} (h:MGE work m) (n:Nat) (fs:List Bool):∀ i,(rnds m n fs i).s.next<=m.s.next+5*i
 |0=>by show m.s.next<=_;omega
 |i+1=>by
  have h1:=nx_rnds h n fs i;have h2:=nx_round (h.rnds n fs i) n (fbN fs i);show (roundM (rnds m n fs i) n (fbN fs i)).1.s.next<=_;omega
theorem ws_len {work m} (h:MGE work m):m.ws.length=work.length:=by
 obtain ⟨t,_,_,g⟩:=h.ex;rw [<-g.td,List.length_map]
theorem Phi_rnds {work m} (h:MGE work m) {n:Nat} (hn:work.length<=n) (fs:List Bool):∀ i,m.s.next+5*i<=2147483600->Phi (rnds m n fs i) <=Phi m-i
 |0,_=>by show Phi m<=_;omega
 |i+1,hb=>by
  have ih:=Phi_rnds h hn fs i (by omega);have hM:=h.rnds n fs i;have hx:=nx_rnds h n fs i;have hl:=ws_len hM;have hD:=(dec_round hM n (fbN fs i)).Phi;have hr:=round_does hM (n:=n) (by omega) (fbN fs i) (by omega);rw [<-Phi_pos hM.ok] at hr;show Phi (roundM (rnds m n fs i) n (fbN fs i)).1<=_
  by_cases hz:0<Phi (rnds m n fs i)
  ·have:=hD.2 (hr.2 hz);omega
  ·omega
theorem Phi_new {n:Nat} {pages:List Pg} {work:List (List MOp)} (k:Nat):phi (begM n pages work) k=9*((work[k]?).getD []).length:=by
 rw [phi];show (match (work.map newWA)[k]? with|none=>0|some w=>9*(w.todo.length-w.ended)-ph (begM n pages work).s k w)=_;rw [List.getElem?_map]
 cases h:work[k]? with
 |none=>rfl
 |some l=>rfl
theorem rnds_end {work m} (h:MGE work m) {n:Nat} (hn:work.length<=n) (fs:List Bool) {i:Nat} (hi:Phi m<=i) (hb:m.s.next+5*i<=2147483600) (k:Nat):lfV (rnds m n fs i) k=0:=by
 have h1:=Phi_rnds h hn fs i hb;have hM:=h.rnds n fs i
 have h2:¬0<Phi (rnds m n fs i):=by omega
 rw [Phi_pos hM.ok] at h2
 by_cases hk:k<(rnds m n fs i).ws.length
 ·have h3:¬0<lfV (rnds m n fs i) k:=fun q=>h2 ⟨k,hk,q⟩
  have:=(hM.ok.w k _ (List.getElem?_eq_getElem hk)).en;rw [lfV_at (List.getElem?_eq_getElem hk)] at h3⊢;omega
 ·exact lfV_no (by omega)
theorem HI.pump {P0 n work m} (h:HI P0 n work m):HI P0 n work (pumpM m):=by
 have t:Tr m (pumpM m):=.same m.h m.lat _ m.clk (.inl rfl);exact ⟨h.g.pump,h.pg.tr t,h.tg.tr t,h.og.tr t⟩
theorem HI.fin {P0 n work m} (h:HI P0 n work m) (i:Int) (b:Bool):HI P0 n work (finM m i b).1:=by
 have t:=tr_fin h.g.ok i b;exact ⟨h.g.fin i b,h.pg.tr t,h.tg.tr t,h.og.tr t⟩
theorem HI.stN {P0 n work m} (h:HI P0 n work m):∀ k,HI P0 n work (stN m k).1
 |0=>h
 |k+1=>(HI.stN h k).step k
theorem HI.round {P0 n work m} (h:HI P0 n work m) (q:Nat) (b:Bool):HI P0 n work (roundM m q b).1:=((h.stN _).pump).fin _ _
theorem HI.rnds {P0 n work m} (h:HI P0 n work m) (q:Nat) (fs:List Bool):∀ i,HI P0 n work (rnds m q fs i)
 |0=>h
 |i+1=>(HI.rnds h q fs i).round q _
noncomputable def psN (m:MS) (n:Nat):Nat->MS
 |0=>m
 |i+1=>(stN (psN m n i) n).1
theorem MGE.psN {work m} (h:MGE work m) (n:Nat):∀ i,MGE work (psN m n i)
 |0=>h
 |i+1=>(MGE.psN h n i).stN n
theorem psN_clk (m:MS) (n:Nat):∀ i,(psN m n i).clk<=m.clk+n*i/\m.clk<= (psN m n i).clk
 |0=>⟨by show m.clk<=m.clk+((n*0:Nat):Int);simp,Int.le_refl _⟩
 |i+1=>by
  have ih:=psN_clk m n i;have h:=stN_clk (psN m n i) n;show (stN (psN m n i) n).1.clk<=m.clk+(n:Int)*((i+1:Nat):Int) /\m.clk<= (stN (psN m n i) n).1.clk
  have e:((n:Int)*((i+1:Nat):Int))=(n:Int)*(i:Int)+n:=by rw [show ((i+1:Nat):Int)=(i:Int)+1 by omega,Int.mul_add,Int.mul_one]
  rw [e];omega
def wkRd (n:Nat) (kind q:Int) (b:ByteArray):List (List MOp):=List.replicate n [(kind,q,b)]
theorem q16 {q:Int} (h1:1<=q) (h16:q<=16):q=1\/q=2\/q=3\/q=4\/q=5\/q=6\/q=7\/q=8\/q=9\/q=10\/q=11\/q=12\/q=13\/q=14\/q=15\/q=16:=by omega
theorem rd_read (p:PS) (b:ByteArray) {n:Nat} (hn:n=2\/n=3\/n=4) {q:Int} (h1:1<=q) (h16:q<=16):
  (List.range n).map (stV (psN (newMS p 4 (wkRd n 2 q b)) n 3))=List.replicate n 3:=by
 rcases hn with rfl|rfl|rfl<;>rcases q16 h1 h16 with rfl|rfl|rfl|rfl|rfl|rfl|rfl|rfl|rfl|rfl|rfl|rfl|rfl|rfl|rfl|rfl<;>kernel_rfl
theorem rd_write (p:PS) (b:ByteArray) {n:Nat} (hn:n=2\/n=3\/n=4) {q:Int} (h1:1<=q) (h16:q<=16):
  (List.range n).map (stV (psN (newMS p 4 (wkRd n 3 q b)) n 3))=3::List.replicate (n-1) 2:=by
 rcases hn with rfl|rfl|rfl<;>rcases q16 h1 h16 with rfl|rfl|rfl|rfl|rfl|rfl|rfl|rfl|rfl|rfl|rfl|rfl|rfl|rfl|rfl|rfl<;>kernel_rfl
def wB:ByteArray:=⟨#[119]⟩
def nm5:List (Nat×Nat):=[(1000000,2000296),(1000001,2000297),(1000004,2000298)]
def rdKd (w:Bool):Int:=if w=true then 3 else 2
def inN (w:Bool) (j:Nat):Nat:=if w=true then min j 1 else j
theorem rd_st (p:PS) (w:Bool) {n:Nat} (hn:n=2\/n=3\/n=4) {q:Int} (h1:1<=q) (h16:q<=16) {j:Nat} (hj:j<n):
  stV (psN (newMS p 4 (wkRd n (rdKd w) q wB)) n 3) j=if w=true/\0<j then 2 else 3:=by
 have hx:∀ {l:List Int},(List.range n).map (stV (psN (newMS p 4 (wkRd n (rdKd w) q wB)) n 3))=l->l[j]?=some (stV (psN (newMS p 4 (wkRd n (rdKd w) q wB)) n 3) j):=fun e=>by
  rw [<-e,List.getElem?_map,List.getElem?_range hj];rfl
 cases w with
 |false=>
  have:=hx (rd_read p wB hn h1 h16);rw [List.getElem?_replicate,if_pos hj] at this;rw [if_neg (fun g=>by cases g.1)];exact (Option.some.inj this).symm
 |true=>
  have:=hx (rd_write p wB hn h1 h16)
  cases j with
  |zero=>rw [if_neg (by decide)];exact (Option.some.inj this).symm
  |succ j=>
   rw [List.getElem?_cons_succ,List.getElem?_replicate,if_pos (by omega)] at this;rw [if_pos ⟨rfl,Nat.succ_pos j⟩];exact (Option.some.inj this).symm
theorem bg_one_no {p:Pg} (h:pgR p=false):bg19 [p]=[]:=by
 have e:new9 [p]=new0:=by
  show newStep9 new0 p=new0;rw [newStep9,if_neg (by rw [h];decide)]
 rw [bg19,e];rfl
theorem bg_one {p:Pg} (h:pgR p=true):0<(bg19 [p]).length:=by
 have e:new9 [p]=(putD new0.1 p,ud new0.2 p.1.toNat p):=by
  show newStep9 new0 p=_;rw [newStep9,if_pos h]
 have hr:=pgR_out.1 h;refine List.length_pos_of_mem (a:=p) ?_;rw [bg19,e];refine bg_mem.2 ⟨p.1.toNat,by omega,by omega,?_,?_⟩
 ·show (ud new0.2 p.1.toNat p p.1.toNat).1≠0
  rw [ud_at];omega
 ·show p=ud new0.2 p.1.toNat p p.1.toNat;rw [ud_at]
theorem inN_up {w:Bool} {j:Nat} {s:Int} (hs:s=if w=true/\0<j then 2 else 3):(s=3->inN w j+1=inN w (j+1)) /\ (s≠3->inN w j=inN w (j+1)):=by
 cases w with
 |false=>
  rw [if_neg (fun g=>by cases g.1)] at hs;exact ⟨fun _=>rfl,fun h=>absurd hs h⟩
 |true=>
  cases j with
  |zero=>exact ⟨fun _=>rfl,fun h=>absurd hs h⟩
  |succ j=>
   rw [if_pos ⟨rfl,Nat.succ_pos j⟩] at hs;refine ⟨fun h=>by omega,fun _=>?_⟩;show min (j+1) 1=min (j+1+1) 1;omega
set_option maxRecDepth 20000 in
set_option maxHeartbeats 16000000 in
theorem reads_ok (p:Pg) (many:Int) (m0:0<=many) (m1:many<=255) (w:Bool):ACall Tryz.prog 5 [.agg (encP p),.int .u8 many,.bool w] (.bool true):=by
 obtain ⟨n,hn1⟩:∃ n:Nat,2+many%3=n:=⟨(2+many%3).toNat,by omega⟩
 have hn:n=2\/n=3\/n=4:=by omega
 refine acall_of Tryz.func5 3 rfl (by kernel_rfl) (aP ?_);refine divK_rem (by decide) m0 (aP ?_);rw [hn1]
 cases w with
 |false=>
  refine aP ?_;refine aloop (ι:=Nat) (fun k=>[(2,.d (.bool false)),(3,.ptr 3 0 0),(7,.d (.int .i64 n)),(8,.d (.int .i64 (rdKd false))),(9,.own 31),(21,.d (.int .i64 n)),(22,.d (.int .i64 k))])
   (fun k=>[(3,.box ((encP p).map AV.d) false),(31,.row ((wkRd k (rdKd false) p.1 wB).map encTd) 1 false)])
   (fun k=>k<=n) (fun k=>n-k) 0 (Nat.zero_le _) (le1 (.row 9 31 1) ⟨rfl,rfl⟩ (le_of_cov ⟨rfl,rfl,rfl,rfl,rfl,rfl,rfl,trivial⟩ ⟨rfl,rfl,trivial⟩ ⟨rfl,rfl,rfl,rfl⟩)) ?_
  intro k hk
  conv=>whnf
  refine bcase_p (fun g1=>?_) (fun g1=>?_)<;>conv=>whnf
  ·have hml:((wkRd k (rdKd false) p.1 wB).map encTd).length=k:=by rw [List.length_map];exact List.length_replicate ..
   have et:(wkRd (k+1) (rdKd false) p.1 wB).map encTd=(wkRd k (rdKd false) p.1 wB).map encTd++[encTd [(rdKd false,p.1,wB)]]:=by
    show (List.replicate (k+1) _).map encTd=(List.replicate k _).map encTd++_
    rw [List.replicate_succ',List.map_append];rfl
   refine aP ?_;refine roomK_le 100 100 (by show ((wkRd k (rdKd false) p.1 wB).map encTd).length+1<=100;omega) (by decide) (by decide) (by decide) (aP ?_);refine ⟨k+1,by omega,by omega,?_⟩;rw [et];exact (le0 (le_of_cov ⟨rfl,rfl,rfl,rfl,rfl,rfl,rfl,trivial⟩ ⟨rfl,rfl,trivial⟩ ⟨rfl,rfl,rfl,rfl⟩))
  have hkn:k=n:=by omega
  subst hkn
  have hl:(wkRd k (rdKd false) p.1 wB).length=k:=List.length_replicate ..
  have hB:=begin19_ok 3 (by decide) (by decide) [p] (by simp) (wkRd k (rdKd false) p.1 wB) (by omega) (by omega) (fun x hx=>by rw [List.eq_of_mem_replicate hx];simp) 4 rfl
  have hW:∀ x∈wkRd k (rdKd false) p.1 wB,x.length<=1000:=fun x hx=>by rw [List.eq_of_mem_replicate hx];simp
  have hI0:=begM_mge 4 (by decide) (by decide) [p] (wkRd k (rdKd false) p.1 wB) (by omega) (by omega);have hc0:(begM 4 [p] (wkRd k (rdKd false) p.1 wB)).clk=0:=rfl
  have hmb:((bg19 [p]).map encP).length=(bg19 [p]).length:=List.length_map ..
  refine aP ?_;refine callX_ptr hB (Nat.le_of_ble_eq_true rfl) (aP ?_)
  cases hr:pgR p with
  |false=>
   rw [bg_one_no hr] at hmb⊢;refine bcase_t (by simp) (aP ?_);refine callX_pure awake19_ok (aP ?_)
   first|exact ret_of rfl rfl|exact rfl
  |true=>?_
  have hr2:=pgR_out.1 hr;have hpos:=bg_one hr
  have hst:∀ j,j<k->stV (psN (begM 4 [p] (wkRd k (rdKd false) p.1 wB)) k 3) j=if false=true/\0<j then 2 else 3:=fun j hj=>rd_st _ false hn (by omega) (by omega) hj
  obtain ⟨M0,hM⟩:∃ M0,begM 4 [p] (wkRd k (rdKd false) p.1 wB)=M0:=⟨_,rfl⟩;rw [hM] at hI0 hc0 hst⊢
  refine bcase_p (fun z1=>?_) (fun z1=>?_)<;>conv=>whnf
  ·exact absurd z1 (by omega)
  refine aP ?_
  refine bcase_p (fun z2=>?_) (fun z2=>?_)<;>conv=>whnf
  ·refine aP ?_;refine callX_pure awake19_ok (aP ?_)
   first|exact ret_of rfl rfl|exact rfl
  refine aP ?_;refine aloop (ι:=Nat) (fun i=>[(2,.d (.bool false)),(7,.d (.int .i64 k)),(10,.ptr 2000296 0 0),(52,.d (.int .i64 i))])
   (fun i=>[(2000296,.box (mCk 2000296 (psN M0 k i)) false),(2000297,.row ((psN M0 k i).ws.map encWA) 11 false),(2000298,.row ((psN M0 k i).ev.map encEvA) 11 false)])
   (fun i=>i<=3) (fun i=>3-i) 0 (Nat.zero_le _) (le0 (le_of_cov ⟨rfl,rfl,rfl,rfl,trivial⟩ ⟨rfl,rfl,rfl,trivial⟩ ⟨rfl,rfl,rfl,rfl⟩)) ?_
  intro i hi;have hM1:=hI0.psN k i;have hcl:=(psN_clk M0 k i).1
  have hki:(k:Int)*(i:Int) <=12:=by
   have:k*i<=4*3:=Nat.mul_le_mul (by omega) hi
   have e:(k:Int)*(i:Int)=((k*i:Nat):Int):=by rw [Int.natCast_mul]
   rw [e];omega
  conv=>whnf
  refine bcase_p (fun z3=>?_) (fun z3=>?_)<;>conv=>whnf
  ·refine aP ?_;obtain ⟨M,hM2⟩:∃ M,psN M0 k i=M:=⟨_,rfl⟩
   have e5:psN M0 k (i+1)=(stN M k).1:=by rw [psN,hM2]
   rw [hM2] at hM1 hcl⊢;refine aloop (ι:=Nat) (fun j=>[(2,.d (.bool false)),(7,.d (.int .i64 k)),(10,.ptr 2000296 0 0),(52,.d (.int .i64 i)),(54,.d (.int .i64 k)),(55,.d (.int .i64 j))])
    (fun j=>[(2000296,.box (mCk 2000296 (stN M j).1) false),(2000297,.row ((stN M j).1.ws.map encWA) 11 false),(2000298,.row ((stN M j).1.ev.map encEvA) 11 false)])
    (fun j=>j<=k) (fun j=>k-j) 0 (Nat.zero_le _) (le0 (le_of_cov ⟨rfl,rfl,rfl,rfl,rfl,rfl,trivial⟩ ⟨rfl,rfl,rfl,trivial⟩ ⟨rfl,rfl,rfl,rfl⟩)) ?_
   intro j hj;have hcs:=(stN_clk M j).1
   conv=>whnf
   refine bcase_p (fun z4=>?_) (fun z4=>?_)<;>conv=>whnf
   ·obtain ⟨t,t0,t1,g⟩:=(hM1.stN j).ex;have hsk:=stepM_ok g t1 hW (by omega) j;refine aP ?_;refine callH_blk hsk nm5 rfl ⟨rfl,rfl,rfl,trivial⟩ rfl (aP ?_);exact ⟨j+1,by omega,by omega,(le0 (le_of_cov ⟨rfl,rfl,rfl,rfl,rfl,rfl,trivial⟩ ⟨rfl,rfl,rfl,trivial⟩ ⟨rfl,rfl,rfl,rfl⟩))⟩
   have hjk:j=k:=by omega
   subst hjk;rw [<-e5];refine aP ?_;exact ⟨i+1,by omega,by omega,(le0 (le_of_cov ⟨rfl,rfl,rfl,rfl,trivial⟩ ⟨rfl,rfl,rfl,trivial⟩ ⟨rfl,rfl,rfl,rfl⟩))⟩
  have hi3:i=3:=by omega
  subst hi3;obtain ⟨M,hM2⟩:∃ M,psN M0 k 3=M:=⟨_,rfl⟩;rw [hM2] at hst⊢;refine aP ?_;refine aloop (ι:=Nat) (fun j=>[(2,.d (.bool false)),(7,.d (.int .i64 k)),(10,.ptr 2000296 0 0),(14,.d (.int .i64 (inN false j))),(63,.d (.int .i64 k)),(64,.d (.int .i64 j))])
   (fun j=>[(2000296,.box (mCk 2000296 M) false),(2000297,.row (M.ws.map encWA) 11 false),(2000298,.row (M.ev.map encEvA) 11 false)])
   (fun j=>j<=k) (fun j=>k-j) 0 (Nat.zero_le _) (le0 (le_of_cov ⟨rfl,rfl,rfl,rfl,rfl,rfl,trivial⟩ ⟨rfl,rfl,rfl,trivial⟩ ⟨rfl,rfl,rfl,rfl⟩)) ?_
  intro j hj
  have hin:inN false j<=4:=by simp only [inN];split<;>omega
  conv=>whnf
  refine bcase_p (fun z5=>?_) (fun z5=>?_)<;>conv=>whnf
  ·have hs:=hst j (by omega);refine aP ?_;refine callH_blk (stateV_ok M j) nm5 rfl ⟨rfl,rfl,rfl,trivial⟩ rfl (w0 ?_)
   refine bcase_p (fun z6=>?_) (fun z6=>?_)<;>conv=>whnf
   ·have e:((inN false j:Nat):Int)+1=((inN false (j+1):Nat):Int):=by have:=(inN_up hs).1 z6;omega
    refine aP ?_;rw [e];exact ⟨j+1,by omega,by omega,(le0 (le_of_cov ⟨rfl,rfl,rfl,rfl,rfl,rfl,trivial⟩ ⟨rfl,rfl,rfl,trivial⟩ ⟨rfl,rfl,rfl,rfl⟩))⟩
   ·have e:inN false j=inN false (j+1):=by have:=(inN_up hs).2 z6;omega
    refine aP ?_;rw [e];exact ⟨j+1,by omega,by omega,(le0 (le_of_cov ⟨rfl,rfl,rfl,rfl,rfl,rfl,trivial⟩ ⟨rfl,rfl,rfl,trivial⟩ ⟨rfl,rfl,rfl,rfl⟩))⟩
  have hjk:j=k:=by omega
  subst hjk
  skip
  refine bcase_t (by simp [inN]) (aP ?_);refine callX_pure awake19_ok (aP ?_)
  first|exact ret_of rfl rfl|exact rfl
 |true=>
  refine aP ?_;refine aloop (ι:=Nat) (fun k=>[(2,.d (.bool true)),(3,.ptr 3 0 0),(7,.d (.int .i64 n)),(8,.d (.int .i64 (rdKd true))),(9,.own 31),(21,.d (.int .i64 n)),(22,.d (.int .i64 k))])
   (fun k=>[(3,.box ((encP p).map AV.d) false),(31,.row ((wkRd k (rdKd true) p.1 wB).map encTd) 1 false)])
   (fun k=>k<=n) (fun k=>n-k) 0 (Nat.zero_le _) (le1 (.row 9 31 1) ⟨rfl,rfl⟩ (le_of_cov ⟨rfl,rfl,rfl,rfl,rfl,rfl,rfl,trivial⟩ ⟨rfl,rfl,trivial⟩ ⟨rfl,rfl,rfl,rfl⟩)) ?_
  intro k hk
  conv=>whnf
  refine bcase_p (fun g1=>?_) (fun g1=>?_)<;>conv=>whnf
  ·have hml:((wkRd k (rdKd true) p.1 wB).map encTd).length=k:=by rw [List.length_map];exact List.length_replicate ..
   have et:(wkRd (k+1) (rdKd true) p.1 wB).map encTd=(wkRd k (rdKd true) p.1 wB).map encTd++[encTd [(rdKd true,p.1,wB)]]:=by
    show (List.replicate (k+1) _).map encTd=(List.replicate k _).map encTd++_
    rw [List.replicate_succ',List.map_append];rfl
   refine aP ?_;refine roomK_le 100 100 (by show ((wkRd k (rdKd true) p.1 wB).map encTd).length+1<=100;omega) (by decide) (by decide) (by decide) (aP ?_);refine ⟨k+1,by omega,by omega,?_⟩;rw [et];exact (le0 (le_of_cov ⟨rfl,rfl,rfl,rfl,rfl,rfl,rfl,trivial⟩ ⟨rfl,rfl,trivial⟩ ⟨rfl,rfl,rfl,rfl⟩))
  have hkn:k=n:=by omega
  subst hkn
  have hl:(wkRd k (rdKd true) p.1 wB).length=k:=List.length_replicate ..
  have hB:=begin19_ok 3 (by decide) (by decide) [p] (by simp) (wkRd k (rdKd true) p.1 wB) (by omega) (by omega) (fun x hx=>by rw [List.eq_of_mem_replicate hx];simp) 4 rfl
  have hW:∀ x∈wkRd k (rdKd true) p.1 wB,x.length<=1000:=fun x hx=>by rw [List.eq_of_mem_replicate hx];simp
  have hI0:=begM_mge 4 (by decide) (by decide) [p] (wkRd k (rdKd true) p.1 wB) (by omega) (by omega);have hc0:(begM 4 [p] (wkRd k (rdKd true) p.1 wB)).clk=0:=rfl
  have hmb:((bg19 [p]).map encP).length=(bg19 [p]).length:=List.length_map ..
  refine aP ?_;refine callX_ptr hB (Nat.le_of_ble_eq_true rfl) (aP ?_)
  cases hr:pgR p with
  |false=>
   rw [bg_one_no hr] at hmb⊢;refine bcase_t (by simp) (aP ?_);refine callX_pure awake19_ok (aP ?_)
   first|exact ret_of rfl rfl|exact rfl
  |true=>?_
  have hr2:=pgR_out.1 hr;have hpos:=bg_one hr
  have hst:∀ j,j<k->stV (psN (begM 4 [p] (wkRd k (rdKd true) p.1 wB)) k 3) j=if true=true/\0<j then 2 else 3:=fun j hj=>rd_st _ true hn (by omega) (by omega) hj
  obtain ⟨M0,hM⟩:∃ M0,begM 4 [p] (wkRd k (rdKd true) p.1 wB)=M0:=⟨_,rfl⟩;rw [hM] at hI0 hc0 hst⊢
  refine bcase_p (fun z1=>?_) (fun z1=>?_)<;>conv=>whnf
  ·exact absurd z1 (by omega)
  refine aP ?_
  refine bcase_p (fun z2=>?_) (fun z2=>?_)<;>conv=>whnf
  ·refine aP ?_;refine callX_pure awake19_ok (aP ?_)
   first|exact ret_of rfl rfl|exact rfl
  refine aP ?_;refine aloop (ι:=Nat) (fun i=>[(2,.d (.bool true)),(7,.d (.int .i64 k)),(10,.ptr 2000296 0 0),(52,.d (.int .i64 i))])
   (fun i=>[(2000296,.box (mCk 2000296 (psN M0 k i)) false),(2000297,.row ((psN M0 k i).ws.map encWA) 11 false),(2000298,.row ((psN M0 k i).ev.map encEvA) 11 false)])
   (fun i=>i<=3) (fun i=>3-i) 0 (Nat.zero_le _) (le0 (le_of_cov ⟨rfl,rfl,rfl,rfl,trivial⟩ ⟨rfl,rfl,rfl,trivial⟩ ⟨rfl,rfl,rfl,rfl⟩)) ?_
  intro i hi;have hM1:=hI0.psN k i;have hcl:=(psN_clk M0 k i).1
  have hki:(k:Int)*(i:Int) <=12:=by
   have:k*i<=4*3:=Nat.mul_le_mul (by omega) hi
   have e:(k:Int)*(i:Int)=((k*i:Nat):Int):=by rw [Int.natCast_mul]
   rw [e];omega
  conv=>whnf
  refine bcase_p (fun z3=>?_) (fun z3=>?_)<;>conv=>whnf
  ·refine aP ?_;obtain ⟨M,hM2⟩:∃ M,psN M0 k i=M:=⟨_,rfl⟩
   have e5:psN M0 k (i+1)=(stN M k).1:=by rw [psN,hM2]
   rw [hM2] at hM1 hcl⊢;refine aloop (ι:=Nat) (fun j=>[(2,.d (.bool true)),(7,.d (.int .i64 k)),(10,.ptr 2000296 0 0),(52,.d (.int .i64 i)),(54,.d (.int .i64 k)),(55,.d (.int .i64 j))])
    (fun j=>[(2000296,.box (mCk 2000296 (stN M j).1) false),(2000297,.row ((stN M j).1.ws.map encWA) 11 false),(2000298,.row ((stN M j).1.ev.map encEvA) 11 false)])
    (fun j=>j<=k) (fun j=>k-j) 0 (Nat.zero_le _) (le0 (le_of_cov ⟨rfl,rfl,rfl,rfl,rfl,rfl,trivial⟩ ⟨rfl,rfl,rfl,trivial⟩ ⟨rfl,rfl,rfl,rfl⟩)) ?_
   intro j hj;have hcs:=(stN_clk M j).1
   conv=>whnf
   refine bcase_p (fun z4=>?_) (fun z4=>?_)<;>conv=>whnf
   ·obtain ⟨t,t0,t1,g⟩:=(hM1.stN j).ex;have hsk:=stepM_ok g t1 hW (by omega) j;refine aP ?_;refine callH_blk hsk nm5 rfl ⟨rfl,rfl,rfl,trivial⟩ rfl (aP ?_);exact ⟨j+1,by omega,by omega,(le0 (le_of_cov ⟨rfl,rfl,rfl,rfl,rfl,rfl,trivial⟩ ⟨rfl,rfl,rfl,trivial⟩ ⟨rfl,rfl,rfl,rfl⟩))⟩
   have hjk:j=k:=by omega
   subst hjk;rw [<-e5];refine aP ?_;exact ⟨i+1,by omega,by omega,(le0 (le_of_cov ⟨rfl,rfl,rfl,rfl,trivial⟩ ⟨rfl,rfl,rfl,trivial⟩ ⟨rfl,rfl,rfl,rfl⟩))⟩
  have hi3:i=3:=by omega
  subst hi3;obtain ⟨M,hM2⟩:∃ M,psN M0 k 3=M:=⟨_,rfl⟩;rw [hM2] at hst⊢;refine aP ?_;refine aloop (ι:=Nat) (fun j=>[(2,.d (.bool true)),(7,.d (.int .i64 k)),(10,.ptr 2000296 0 0),(14,.d (.int .i64 (inN true j))),(63,.d (.int .i64 k)),(64,.d (.int .i64 j))])
   (fun j=>[(2000296,.box (mCk 2000296 M) false),(2000297,.row (M.ws.map encWA) 11 false),(2000298,.row (M.ev.map encEvA) 11 false)])
   (fun j=>j<=k) (fun j=>k-j) 0 (Nat.zero_le _) (le0 (le_of_cov ⟨rfl,rfl,rfl,rfl,rfl,rfl,trivial⟩ ⟨rfl,rfl,rfl,trivial⟩ ⟨rfl,rfl,rfl,rfl⟩)) ?_
  intro j hj
  have hin:inN true j<=4:=by simp only [inN];split<;>omega
  conv=>whnf
  refine bcase_p (fun z5=>?_) (fun z5=>?_)<;>conv=>whnf
  ·have hs:=hst j (by omega);refine aP ?_;refine callH_blk (stateV_ok M j) nm5 rfl ⟨rfl,rfl,rfl,trivial⟩ rfl (w0 ?_)
   refine bcase_p (fun z6=>?_) (fun z6=>?_)<;>conv=>whnf
   ·have e:((inN true j:Nat):Int)+1=((inN true (j+1):Nat):Int):=by have:=(inN_up hs).1 z6;omega
    refine aP ?_;rw [e];exact ⟨j+1,by omega,by omega,(le0 (le_of_cov ⟨rfl,rfl,rfl,rfl,rfl,rfl,trivial⟩ ⟨rfl,rfl,rfl,trivial⟩ ⟨rfl,rfl,rfl,rfl⟩))⟩
   ·have e:inN true j=inN true (j+1):=by have:=(inN_up hs).2 z6;omega
    refine aP ?_;rw [e];exact ⟨j+1,by omega,by omega,(le0 (le_of_cov ⟨rfl,rfl,rfl,rfl,rfl,rfl,trivial⟩ ⟨rfl,rfl,rfl,trivial⟩ ⟨rfl,rfl,rfl,rfl⟩))⟩
  have hjk:j=k:=by omega
  subst hjk
  skip
  have h1:inN true j=1:=by show min j 1=1;omega
  rw [h1];refine bcase_t (by rw [decide_eq_false (show ¬(((1:Nat):Int)=(j:Int)) by omega)];rfl) (aP ?_);refine callX_pure awake19_ok (aP ?_)
  first|exact ret_of rfl rfl|exact rfl
structure FG (p:PS) (m:MS):Prop where
 pe:m.p=p
 emp:∀ id:Int,1<=id->hasF p id=false
 st:∀ (k:Nat) (w:WA),m.ws[k]?=some w->w.st≠5/\ (w.st=6->w.res=(8,zP))
 op:∀ (k:Nat) (w:WA),m.ws[k]?=some w->∀ o∈w.todo,(o.1=2\/o.1=3) /\1<=o.2.1/\o.2.1<=16
 ev:∀ e∈m.ev,e.res=(8,zP)
theorem FG.upd {p:PS} {m m':MS} (h:FG p m) {k:Nat} {w w':WA} (hk:m.ws[k]?=some w) (hws:m'.ws=m.ws.set k w') (hp:m'.p=m.p) (h1:w'.todo=w.todo) (h5:w'.st≠5) (h6:w'.st=6->w'.res=(8,zP)) (hev:∀ e∈m'.ev,e.res=(8,zP)):FG p m':=
 ⟨hp.trans h.pe,h.emp,fun j v hv=>by
  rw [hws] at hv
  rcases set_some hv with ⟨_,rfl⟩|⟨_,hv⟩
  ·exact ⟨h5,h6⟩
  ·exact h.st j v hv,fun j v hv=>by
  rw [hws] at hv
  rcases set_some hv with ⟨_,rfl⟩|⟨_,hv⟩
  ·rw [h1];exact h.op k w hk
  ·exact h.op j v hv,hev⟩
theorem FG.keep {p:PS} {m m':MS} (h:FG p m) (e1:m'.ws=m.ws) (e2:m'.p=m.p) (e3:m'.ev=m.ev):FG p m':=
 ⟨e2.trans h.pe,h.emp,by rw [e1];exact h.st,by rw [e1];exact h.op,by rw [e3];exact h.ev⟩
theorem FG.opw {p:PS} {m:MS} (h:FG p m) {k:Nat} {w:WA} (hk:m.ws[k]?=some w) (hb:w.ended<w.todo.length):(w.op.1=2\/w.op.1=3) /\1<=w.op.2.1/\w.op.2.1<=16:=by
 rw [WA.op,List.getElem?_eq_getElem hb];exact h.op k w hk _ (List.getElem_mem hb)
theorem FG.step {p:PS} {m:MS} (o:MOk m) (h:FG p m) (k:Int):FG p (stepM m k).1:=by
 rw [stepM]
 split
 ·exact h
 split
 ·exact h
 ·rename_i w hk;have v:=o.w _ w hk;have hs:=h.st _ w hk;have no:FG p {m with clk:=m.clk+1}:=h.keep rfl rfl rfl;unfold stepW
  split
  ·rename_i e
   split
   ·exact no
   ·exact h.upd hk rfl rfl rfl (by simp) (by simp) h.ev
  ·rename_i e;have hop:=h.opw hk (v.bu (by omega))
   split
   ·exact no
   split
   ·rename_i hr;simp only [refB,Bool.or_eq_true,decide_eq_true_eq] at hr;omega
   ·exact h.upd hk rfl rfl rfl (by simp) (by simp) h.ev
  ·rename_i e
   split
   ·exact no
   ·exact h.upd hk rfl rfl rfl (by simp) (by simp) h.ev
  ·rename_i e;have hop:=h.opw hk (v.bu (by omega))
   split
   ·exact no
   split
   ·exact h.upd hk rfl rfl rfl (by simp) (by simp) h.ev
   ·rename_i hn;have hn:¬(hasF m.p w.op.2.1=false/\ (w.op.1=2\/w.op.1=3)):=hn;rw [h.pe] at hn;exact absurd ⟨h.emp _ hop.2.1,hop.1⟩ hn
  ·rename_i e;exact absurd e hs.1
  ·rename_i e
   refine h.upd hk rfl rfl rfl (by simp) (by simp) fun x hx=>?_
   rcases List.mem_append.1 hx with hx|hx
   ·exact h.ev x hx
   ·rw [List.mem_singleton.1 hx];exact hs.2 e
  ·exact no
theorem FG.fin {p:PS} {m:MS} (h:FG p m) (i:Int):FG p (finM m i true).1:=by
 rw [finM]
 split
 ·exact h
 split
 ·exact h.keep rfl rfl rfl
 ·rename_i s k bad hd
  have hb:bad=true:=by
   rw [doneS] at hd
   split at hd
   ·cases hd
   ·split at hd
    ·cases hd
    ·cases hd;rfl
  subst hb
  split
  ·exact h.keep rfl rfl rfl
  ·rename_i w hk
   split
   ·exact h.keep rfl rfl rfl
   ·exact h.upd hk rfl rfl rfl (by simp [toldW,tellW]) (by simp [toldW,tellW]) h.ev
theorem FG.round {p:PS} {work m} (hM:MGE work m) (h:FG p m) (n:Nat):FG p (roundM m n true).1:=by
 have key:∀ k,FG p (stN m k).1:=fun k=>by
  induction k with
  |zero=>exact h
  |succ k ih=>exact ih.step (hM.stN k).ok k
 have h2:FG p (pumpM (stN m (min n 4)).1):=(key _).keep rfl rfl rfl;have h3:=h2.fin 0
 rw [roundM];exact h3
theorem fbT (i:Nat):fbN [true] i=true:=by
 simp [fbN,Nat.mod_one]
theorem FG.rnds {p:PS} {work m} (hM:MGE work m) (h:FG p m) (n:Nat):∀ i,FG p (rnds m n [true] i)
 |0=>h
 |i+1=>by
  show FG p (roundM (Go.Lk.rnds m n [true] i) n (fbN [true] i)).1;rw [fbT];exact (FG.rnds hM h n i).round (hM.rnds n _ i) n
theorem hasF_new {n:Nat} (h1:1<=n) (h8:n<=8) {id:Int} (hid:1<=id) (d:DS) (t:Int):hasF ⟨newFS n,d,t⟩ id=false:=by
 rw [hasF,findF_no (FM.new h1 h8) (fun i hi=>?_) (by omega)]
 have e:(newFS n).fr[i]=(0,0,false):=List.getElem_replicate ..
 rw [e];show (0:Int)≠id;omega
theorem FG.new {n:Nat} (h1:1<=n) (h8:n<=8) (pages:List Pg) {work:List (List MOp)} (hw:∀ l∈work,∀ o∈l,(o.1=2\/o.1=3) /\1<=o.2.1/\o.2.1<=16):FG (begM n pages work).p (begM n pages work):=by
 have key:∀ (k:Nat) (w:WA),(begM n pages work).ws[k]?=some w->∃ l∈work,w=newWA l:=fun k w e=>by
  have e:(work.map newWA)[k]?=some w:=e;rw [List.getElem?_map] at e
  cases h:work[k]? with
  |none=>rw [h] at e;cases e
  |some l=>rw [h] at e;cases e;exact ⟨l,List.mem_of_getElem? h,rfl⟩
 refine ⟨rfl,fun id hid=>hasF_new h1 h8 hid _ _,fun k w e=>?_,fun k w e=>?_,fun e he=>by cases he⟩
 ·obtain ⟨l,_,rfl⟩:=key k w e;exact ⟨by simp [newWA],by simp [newWA]⟩
 ·obtain ⟨l,hl,rfl⟩:=key k w e;exact hw l hl
structure Failed (pages:List Pg) (l:List MOp) (m:MS):Prop where
 h:HI (new9 pages).2 4 [l] m
 p:m.p=(begM 4 pages [l]).p
 ev:∀ e∈m.ev,e.res=(8,zP)
 len:m.ev.length=l.length
 left:lfV m 0=0
theorem fails_end (pages:List Pg) {l:List MOp} (hl:l.length<=10) (hw:∀ o∈l,(o.1=2\/o.1=3) /\1<=o.2.1/\o.2.1<=16):Failed pages l (rnds (begM 4 pages [l]) 1 [true] (20*(l.length+1))):=by
 have hI0:HI (new9 pages).2 4 [l] (begM 4 pages [l]):=HI.new (by decide) (by decide) pages (by simp) (by simp);have hF0:=FG.new (n:=4) (by decide) (by decide) pages (work:=[l]) (fun x hx=>by rw [List.mem_singleton] at hx;subst hx;exact hw);have hI:=hI0.rnds 1 [true] (20*(l.length+1));have hF:=FG.rnds hI0.g hF0 1 (20*(l.length+1))
 have hP:Phi (begM 4 pages [l])=9*l.length:=by
  rw [Phi,Phi_new,Phi_new,Phi_new,Phi_new];simp
 have hE:=rnds_end hI0.g (n:=1) (Nat.le_refl _) [true] (i:=20*(l.length+1)) (by omega) (by show 0+5*_<=_;omega) 0;obtain ⟨m,hm⟩:∃ m,rnds (begM 4 pages [l]) 1 [true] (20*(l.length+1))=m:=⟨_,rfl⟩;rw [hm] at hI hF hE⊢;have hwl:=hI.wl;obtain ⟨w,hk⟩:∃ w,m.ws[0]?=some w:=⟨_,List.getElem?_eq_getElem (by rw [hwl];simp)⟩;have hto:w.todo=l:=hI.todo hk (by simp);have hops:=hI.pg.ops 0 w hk;have hen:=(hI.g.ok.w 0 w hk).en;rw [lfV_at hk] at hE;refine ⟨hI,hF.pe,hF.ev,?_,by rw [lfV_at hk];exact hE⟩
 have h1:(opsK m.ev 0).length=m.ev.length:=by
  rw [opsK,List.length_map,List.filter_eq_self.2];intro e he;have:=hI.pg.who e he;rw [hwl] at this;have:e.who<1:=this
  simp;omega
 rw [<-h1,hops,List.length_take,hto];rw [hto] at hE hen;omega
def idOp (x:Int):MOp:=(2+x/16%2,1+x%16,⟨#[110,101,119]⟩)
def nm7:List (Nat×Nat):=[(1000000,2000368),(1000001,2000369),(1000004,2000370)]
theorem idOp_ok {x:Int} (h0:0<=x):((idOp x).1=2\/ (idOp x).1=3) /\1<= (idOp x).2.1/\ (idOp x).2.1<=16:=by
 show ((2:Int)+x/16%2=2\/ (2:Int)+x/16%2=3) /\1<=1+x%16/\1+x%16<=16;omega
theorem divQ {k:IntKind} {a b:Int} {K:Int->Prop} (hb:b≠0) (ha:0<=a) (hw:k.wrap (a/b)=a/b) (h:K (a/b)):divK true k a b K:=
 divK_raw hb (by rw [if_pos rfl,Int.tdiv_eq_ediv_of_nonneg ha,hw];exact h)
set_option maxRecDepth 20000 in
set_option maxHeartbeats 16000000 in
theorem fails_ok (pages:List Pg) (hp:pages.length<=9223372036854775807) (ids:List Int) (hw:∀ x∈ids,0<=x/\x<=255) (hl:ids.length<=9223372036854775807):ACall Tryz.prog 6 [.lst (pages.map encP),.lst (ids.map encU)] (.bool true):=by
 have hm:(ids.map encU).length=ids.length:=List.length_map ..
 refine acall_of Tryz.func6 2 rfl (by kernel_rfl) (aP ?_);refine aloop (ι:=Nat) (fun k=>[(0,.d (.lst (pages.map encP))),(1,.d (.lst (ids.map encU))),(5,.own 41),(6,.d (.int .i64 k))])
  (fun k=>[(41,.row (((ids.take k).map idOp).map encMO) 3 false)])
  (fun k=>k<=ids.length/\k<=10) (fun k=>10-k) 0 ⟨Nat.zero_le _,by decide⟩ (le1 (.row 5 41 3) ⟨rfl,rfl⟩ (le_of_cov ⟨rfl,rfl,rfl,rfl,trivial⟩ ⟨rfl,trivial⟩ ⟨rfl,rfl,rfl,rfl⟩)) ?_
 rintro k ⟨hk,hk3⟩
 conv=>whnf
 refine bcase_p (fun h5=>?_) (fun h5=>?_)<;>conv=>whnf
 rotate_left
 ·obtain ⟨l,hl⟩:∃ l,(ids.take k).map idOp=l:=⟨_,rfl⟩
  have hll:l.length=k:=by rw [<-hl,List.length_map,List.length_take];omega
  have hlo:∀ o∈l,(o.1=2\/o.1=3) /\1<=o.2.1/\o.2.1<=16:=fun o ho=>by
   rw [<-hl] at ho;obtain ⟨x,hx,rfl⟩:=List.mem_map.1 ho;exact idOp_ok (hw x (List.mem_of_mem_take hx)).1
  rw [hl]
  have hml:(l.map encMO).length=l.length:=List.length_map ..
  have hB:=begin19_ok 3 (by decide) (by decide) pages hp [l] (by simp) (by simp) (fun x hx=>by rw [List.mem_singleton] at hx;subst hx;omega) 4 rfl
  have hW:∀ x∈[l],x.length<=1000:=fun x hx=>by rw [List.mem_singleton] at hx;subst hx;omega
  have hE:=fails_end pages (l:=l) (by omega) hlo;have hI0:HI (new9 pages).2 4 [l] (begM 4 pages [l]):=HI.new (by decide) (by decide) pages (by simp) (by simp);have hd0:=begM_doc 4 (by decide) (by decide) pages [l];have hc0:(begM 4 pages [l]).clk=0:=rfl;obtain ⟨M0,hM⟩:∃ M0,begM 4 pages [l]=M0:=⟨_,rfl⟩;obtain ⟨hE1,hE2,hE3,hE4,hE5⟩:=hE;rw [hM] at hB hI0 hc0 hd0 hE1 hE2 hE3 hE4 hE5;refine aP ?_;refine callX_ptr hB (Nat.le_of_ble_eq_true rfl) (aP ?_);refine aloop (ι:=Nat) (fun i=>[(5,.d (.lst (l.map encMO))),(7,.ptr 2000368 0 0),(8,.d (.lst ((bg19 pages).map encP))),(55,.d (.int .i64 (20*((l.map encMO).length+1)))),(56,.d (.int .i64 i))])
   (fun i=>[(2000368,.box (mCk 2000368 (rnds M0 1 [true] i)) false),(2000369,.row ((rnds M0 1 [true] i).ws.map encWA) 11 false),(2000370,.row ((rnds M0 1 [true] i).ev.map encEvA) 11 false)])
   (fun i=>i<=20*(l.length+1)) (fun i=>20*(l.length+1)-i) 0 (Nat.zero_le _) (len [.sd 5 41 (l.map encMO) 3] ⟨⟨rfl,rfl⟩,trivial⟩ (le_of_cov ⟨rfl,rfl,rfl,rfl,rfl,trivial⟩ ⟨rfl,rfl,rfl,trivial⟩ ⟨rfl,rfl,rfl,rfl⟩)) ?_
  intro i hi;have hM1:=hI0.g.rnds 1 [true] i;have hcl:=(rnds_clk M0 1 [true] i).1
  have e5:rnds M0 1 [true] (i+1)=(finM (pumpM (stepM (rnds M0 1 [true] i) ((0:Nat):Int)).1) 0 true).1:=by
   show (roundM (rnds M0 1 [true] i) 1 (fbN [true] i)).1=_
   rw [fbT];rfl
  conv=>whnf
  refine bcase_p (fun h5=>?_) (fun h5=>?_)<;>conv=>whnf
  ·obtain ⟨M,hM2⟩:∃ M,rnds M0 1 [true] i=M:=⟨_,rfl⟩;rw [hM2] at hM1 hcl e5⊢;obtain ⟨t,t0,t1,g⟩:=hM1.ex;have hst:=stepM_ok g t1 hW (by omega) ((0:Nat):Int);have hcs:=stepM_clk M ((0:Nat):Int);obtain ⟨t',t0',t1',g'⟩:=(hM1.step ((0:Nat):Int)).ex;have hpu:=pumpM_ok (stepM M ((0:Nat):Int)).1 g'.ok.su g'.gd.us;have hfi:=finM_ok g'.pump (by show (stepM M ((0:Nat):Int)).1.clk<=100000;omega) 0 true;rw [<-e5] at hfi;refine aP ?_;refine callH_blk hst nm7 rfl ⟨rfl,rfl,rfl,trivial⟩ rfl (aP ?_);refine callH_blk hpu nm7 rfl ⟨rfl,rfl,rfl,trivial⟩ rfl (aP ?_);refine callH_blk (hcall_tt hfi) nm7 rfl ⟨rfl,rfl,rfl,trivial⟩ rfl (aP ?_);exact ⟨i+1,by omega,by omega,(le0 (le_of_cov ⟨rfl,rfl,rfl,rfl,rfl,trivial⟩ ⟨rfl,rfl,rfl,trivial⟩ ⟨rfl,rfl,rfl,rfl⟩))⟩
  have hil:i=20*(l.length+1):=by omega
  subst hil;obtain ⟨M,hM2⟩:∃ M,rnds M0 1 [true] (20*(l.length+1))=M:=⟨_,rfl⟩;rw [hM2] at hM1 hcl hE1 hE2 hE3 hE4 hE5⊢;have hev:=hE1.evl
  have hme:(M.ev.map encEvA).length=M.ev.length:=List.length_map ..
  have hP:DocI M.p (new9 pages).2 4:=by rw [hE2];exact hd0
  have hpg:=pages_m_ok M hP.inv.pj.fm;rw [pages_doc hP] at hpg;have hlf:=hE1.leftF hW (k:=0) (by rw [hE1.wl];simp);rw [hE5] at hlf;refine aP ?_;refine callH_blk (history_ok M (by omega)) nm7 rfl ⟨rfl,rfl,rfl,trivial⟩ rfl (aP ?_);refine aloop (ι:=Nat) (fun i=>[(5,.d (.lst (l.map encMO))),(7,.ptr 2000368 0 0),(8,.d (.lst ((bg19 pages).map encP))),(10,.d (.lst (M.ev.map encEvA))),(67,.d (.lst (M.ev.map encEvA))),(68,.d (.int .i64 (M.ev.map encEvA).length)),(69,.d (.int .i64 i))])
   (fun i=>[(2000368,.box (mCk 2000368 M) false),(2000369,.row (M.ws.map encWA) 11 false),(2000370,.row (M.ev.map encEvA) 11 false)])
   (fun i=>i<=M.ev.length) (fun i=>M.ev.length-i) 0 (Nat.zero_le _) (le0 (le_of_cov ⟨rfl,rfl,rfl,rfl,rfl,rfl,rfl,trivial⟩ ⟨rfl,rfl,rfl,trivial⟩ ⟨rfl,rfl,rfl,rfl⟩)) ?_
  intro i hi
  conv=>whnf
  refine bcase_p (fun z1=>?_) (fun z1=>?_)<;>conv=>whnf
  ·have hi2:i<M.ev.length:=by omega
   have hz:=hE3 _ (List.getElem_mem hi2);obtain ⟨v,hv⟩:∃ v,M.ev[i]=v:=⟨_,rfl⟩;rw [hv] at hz;obtain ⟨a,b,c,d,e,f⟩:=v
   cases hz
   have hvr:(M.ev.map encEvA)[i]?=some (encEvA ⟨a,b,(8,zP),d,e,f⟩):=by rw [List.getElem?_map,List.getElem?_eq_getElem hi2,hv];rfl
   refine idxK_nat (by omega) (w0 ?_);refine getRow_of hvr (aP ?_);refine bcase_t (by simp) (aP ?_);refine bcase_t (by simp [zP]) (aP ?_);exact ⟨i+1,by omega,by omega,(le0 (le_of_cov ⟨rfl,rfl,rfl,rfl,rfl,rfl,rfl,trivial⟩ ⟨rfl,rfl,rfl,trivial⟩ ⟨rfl,rfl,rfl,rfl⟩))⟩
  refine aP ?_;refine callH_blk hlf nm7 rfl ⟨rfl,rfl,rfl,trivial⟩ rfl (aP ?_);refine callH_blk hpg nm7 rfl ⟨rfl,rfl,rfl,trivial⟩ rfl (aP ?_);refine callX_pure (Hy.same_ok (bgN (new9 pages).2 16) (bgN (new9 pages).2 16) (by have:=bg_len (new9 pages).2;omega)) (w0 ?_);refine bcase_t (by simp) (aP ?_);refine callX_pure awake19_ok (aP ?_)
  first|exact ret_of rfl rfl|exact rfl
 refine bcase_p (fun h6=>?_) (fun h6=>?_)<;>conv=>whnf
 rotate_left
 ·obtain ⟨l,hl⟩:∃ l,(ids.take k).map idOp=l:=⟨_,rfl⟩
  have hll:l.length=k:=by rw [<-hl,List.length_map,List.length_take];omega
  have hlo:∀ o∈l,(o.1=2\/o.1=3) /\1<=o.2.1/\o.2.1<=16:=fun o ho=>by
   rw [<-hl] at ho;obtain ⟨x,hx,rfl⟩:=List.mem_map.1 ho;exact idOp_ok (hw x (List.mem_of_mem_take hx)).1
  rw [hl]
  have hml:(l.map encMO).length=l.length:=List.length_map ..
  have hB:=begin19_ok 3 (by decide) (by decide) pages hp [l] (by simp) (by simp) (fun x hx=>by rw [List.mem_singleton] at hx;subst hx;omega) 4 rfl
  have hW:∀ x∈[l],x.length<=1000:=fun x hx=>by rw [List.mem_singleton] at hx;subst hx;omega
  have hE:=fails_end pages (l:=l) (by omega) hlo;have hI0:HI (new9 pages).2 4 [l] (begM 4 pages [l]):=HI.new (by decide) (by decide) pages (by simp) (by simp);have hd0:=begM_doc 4 (by decide) (by decide) pages [l];have hc0:(begM 4 pages [l]).clk=0:=rfl;obtain ⟨M0,hM⟩:∃ M0,begM 4 pages [l]=M0:=⟨_,rfl⟩;obtain ⟨hE1,hE2,hE3,hE4,hE5⟩:=hE;rw [hM] at hB hI0 hc0 hd0 hE1 hE2 hE3 hE4 hE5;refine aP ?_;refine callX_ptr hB (Nat.le_of_ble_eq_true rfl) (aP ?_);refine aloop (ι:=Nat) (fun i=>[(5,.d (.lst (l.map encMO))),(7,.ptr 2000368 0 0),(8,.d (.lst ((bg19 pages).map encP))),(55,.d (.int .i64 (20*((l.map encMO).length+1)))),(56,.d (.int .i64 i))])
   (fun i=>[(2000368,.box (mCk 2000368 (rnds M0 1 [true] i)) false),(2000369,.row ((rnds M0 1 [true] i).ws.map encWA) 11 false),(2000370,.row ((rnds M0 1 [true] i).ev.map encEvA) 11 false)])
   (fun i=>i<=20*(l.length+1)) (fun i=>20*(l.length+1)-i) 0 (Nat.zero_le _) (len [.sd 5 41 (l.map encMO) 3] ⟨⟨rfl,rfl⟩,trivial⟩ (le_of_cov ⟨rfl,rfl,rfl,rfl,rfl,trivial⟩ ⟨rfl,rfl,rfl,trivial⟩ ⟨rfl,rfl,rfl,rfl⟩)) ?_
  intro i hi;have hM1:=hI0.g.rnds 1 [true] i;have hcl:=(rnds_clk M0 1 [true] i).1
  have e5:rnds M0 1 [true] (i+1)=(finM (pumpM (stepM (rnds M0 1 [true] i) ((0:Nat):Int)).1) 0 true).1:=by
   show (roundM (rnds M0 1 [true] i) 1 (fbN [true] i)).1=_
   rw [fbT];rfl
  conv=>whnf
  refine bcase_p (fun h5=>?_) (fun h5=>?_)<;>conv=>whnf
  ·obtain ⟨M,hM2⟩:∃ M,rnds M0 1 [true] i=M:=⟨_,rfl⟩;rw [hM2] at hM1 hcl e5⊢;obtain ⟨t,t0,t1,g⟩:=hM1.ex;have hst:=stepM_ok g t1 hW (by omega) ((0:Nat):Int);have hcs:=stepM_clk M ((0:Nat):Int);obtain ⟨t',t0',t1',g'⟩:=(hM1.step ((0:Nat):Int)).ex;have hpu:=pumpM_ok (stepM M ((0:Nat):Int)).1 g'.ok.su g'.gd.us;have hfi:=finM_ok g'.pump (by show (stepM M ((0:Nat):Int)).1.clk<=100000;omega) 0 true;rw [<-e5] at hfi;refine aP ?_;refine callH_blk hst nm7 rfl ⟨rfl,rfl,rfl,trivial⟩ rfl (aP ?_);refine callH_blk hpu nm7 rfl ⟨rfl,rfl,rfl,trivial⟩ rfl (aP ?_);refine callH_blk (hcall_tt hfi) nm7 rfl ⟨rfl,rfl,rfl,trivial⟩ rfl (aP ?_);exact ⟨i+1,by omega,by omega,(le0 (le_of_cov ⟨rfl,rfl,rfl,rfl,rfl,trivial⟩ ⟨rfl,rfl,rfl,trivial⟩ ⟨rfl,rfl,rfl,rfl⟩))⟩
  have hil:i=20*(l.length+1):=by omega
  subst hil;obtain ⟨M,hM2⟩:∃ M,rnds M0 1 [true] (20*(l.length+1))=M:=⟨_,rfl⟩;rw [hM2] at hM1 hcl hE1 hE2 hE3 hE4 hE5⊢;have hev:=hE1.evl
  have hme:(M.ev.map encEvA).length=M.ev.length:=List.length_map ..
  have hP:DocI M.p (new9 pages).2 4:=by rw [hE2];exact hd0
  have hpg:=pages_m_ok M hP.inv.pj.fm;rw [pages_doc hP] at hpg;have hlf:=hE1.leftF hW (k:=0) (by rw [hE1.wl];simp);rw [hE5] at hlf;refine aP ?_;refine callH_blk (history_ok M (by omega)) nm7 rfl ⟨rfl,rfl,rfl,trivial⟩ rfl (aP ?_);refine aloop (ι:=Nat) (fun i=>[(5,.d (.lst (l.map encMO))),(7,.ptr 2000368 0 0),(8,.d (.lst ((bg19 pages).map encP))),(10,.d (.lst (M.ev.map encEvA))),(67,.d (.lst (M.ev.map encEvA))),(68,.d (.int .i64 (M.ev.map encEvA).length)),(69,.d (.int .i64 i))])
   (fun i=>[(2000368,.box (mCk 2000368 M) false),(2000369,.row (M.ws.map encWA) 11 false),(2000370,.row (M.ev.map encEvA) 11 false)])
   (fun i=>i<=M.ev.length) (fun i=>M.ev.length-i) 0 (Nat.zero_le _) (le0 (le_of_cov ⟨rfl,rfl,rfl,rfl,rfl,rfl,rfl,trivial⟩ ⟨rfl,rfl,rfl,trivial⟩ ⟨rfl,rfl,rfl,rfl⟩)) ?_
  intro i hi
  conv=>whnf
  refine bcase_p (fun z1=>?_) (fun z1=>?_)<;>conv=>whnf
  ·have hi2:i<M.ev.length:=by omega
   have hz:=hE3 _ (List.getElem_mem hi2);obtain ⟨v,hv⟩:∃ v,M.ev[i]=v:=⟨_,rfl⟩;rw [hv] at hz;obtain ⟨a,b,c,d,e,f⟩:=v
   cases hz
   have hvr:(M.ev.map encEvA)[i]?=some (encEvA ⟨a,b,(8,zP),d,e,f⟩):=by rw [List.getElem?_map,List.getElem?_eq_getElem hi2,hv];rfl
   refine idxK_nat (by omega) (w0 ?_);refine getRow_of hvr (aP ?_);refine bcase_t (by simp) (aP ?_);refine bcase_t (by simp [zP]) (aP ?_);exact ⟨i+1,by omega,by omega,(le0 (le_of_cov ⟨rfl,rfl,rfl,rfl,rfl,rfl,rfl,trivial⟩ ⟨rfl,rfl,rfl,trivial⟩ ⟨rfl,rfl,rfl,rfl⟩))⟩
  refine aP ?_;refine callH_blk hlf nm7 rfl ⟨rfl,rfl,rfl,trivial⟩ rfl (aP ?_);refine callH_blk hpg nm7 rfl ⟨rfl,rfl,rfl,trivial⟩ rfl (aP ?_);refine callX_pure (Hy.same_ok (bgN (new9 pages).2 16) (bgN (new9 pages).2 16) (by have:=bg_len (new9 pages).2;omega)) (w0 ?_);refine bcase_t (by simp) (aP ?_);refine callX_pure awake19_ok (aP ?_)
  first|exact ret_of rfl rfl|exact rfl
 have hk2:k<ids.length:=by omega
 obtain ⟨b0,b1⟩:=hw _ (List.getElem_mem hk2)
 have hml:(((ids.take k).map idOp).map encMO).length=k:=by rw [List.length_map,List.length_map,List.length_take];omega
 have et:((ids.take (k+1)).map idOp).map encMO=((ids.take k).map idOp).map encMO++[encMO (idOp ids[k])]:=by
  rw [take_snoc hk2,List.map_append,List.map_append];rfl
 refine aP ?_;refine idxK_nat (by omega) (w0 ?_);refine getRow_of (x:=encU ids[k]) (by simp [hk2]) (aW ?_);refine divQ (by decide) b0 (by rw [wrap8];omega) (aP ?_);refine divK_rem (by decide) (by omega) (aP ?_);refine idxK_nat (by omega) (w0 ?_);refine getRow_of (x:=encU ids[k]) (by simp [hk2]) (aW ?_);refine divK_rem (by decide) b0 (aP ?_);refine roomK_le 100 100 (by show (((ids.take k).map idOp).map encMO).length+1<=100;omega) (by decide) (by decide) (by decide) (aP ?_);refine ⟨k+1,⟨by omega,by omega⟩,by omega,?_⟩;rw [et];exact (le0 (le_of_cov ⟨rfl,rfl,rfl,rfl,trivial⟩ ⟨rfl,trivial⟩ ⟨rfl,rfl,rfl,rfl⟩))
end Go.Lk
