/-
  What is proved here: what functions of the program compute, and what follows; no condition beyond each theorem's own.
-/
import Derived.Test.YtnlfingofodhlaaGreatEAn
import Derived.Test.YtnlfingofodhlaaGreatEAv
set_option linter.unusedSimpArgs false
set_option linter.unusedVariables false
set_option linter.unnecessarySimpa false
set_option linter.unusedSectionVars false
namespace Go.Lk
open Go Go.Proofs Go.RowKit
theorem set_some {ws:List WA} {k j:Nat} {w v:WA} (h:(ws.set k w)[j]?=some v):(j=k/\v=w) \/ (j≠k/\ws[j]?=some v):=by
 rw [List.getElem?_set] at h
 split at h
 ·rename_i e;subst e
  split at h
  ·cases h;exact .inl ⟨rfl,rfl⟩
  ·cases h
 ·rename_i e;exact .inr ⟨fun g=>e g.symm,h⟩
def opsK (l:List EvA) (k:Nat):List MOp:=(l.filter fun e=>e.who==k).map (·.op)
theorem opsK_snoc (l:List EvA) (e:EvA) (k:Nat):opsK (l++[e]) k=opsK l k++(if e.who=k then [e.op] else []):=by
 rw [opsK,List.filter_append,List.map_append,<-opsK]
 by_cases h:e.who=k
 ·rw [if_pos h];simp [h]
 ·rw [if_neg h];simp [h]
structure PG (m:MS):Prop where
 who:∀ e∈m.ev,e.who<m.ws.length
 ops:∀ (k:Nat) (w:WA),m.ws[k]?=some w->opsK m.ev k=w.todo.take w.ended
 bu:∀ (k:Nat) (w:WA),m.ws[k]?=some w->w.st≠0->w.ended<w.todo.length
theorem PG.upd {m:MS} (g:PG m) {k:Nat} {w w':WA} {p':PS} {h':HA} {lat':List LA} {s':SA} {c':Int} (hk:m.ws[k]?=some w) (e1:w'.todo=w.todo) (e2:w'.ended=w.ended) (hb:w.ended<w.todo.length):PG ⟨m.ws.set k w',p',h',lat',s',c',m.ev⟩:=by
 refine ⟨fun e he=>by show e.who<(m.ws.set k w').length;rw [List.length_set];exact g.who e he,fun j v hj=>?_,fun j v hj hs=>?_⟩
 ·rcases set_some hj with ⟨rfl,rfl⟩|⟨_,h⟩
  ·rw [e1,e2];exact g.ops _ w hk
  ·exact g.ops j v h
 ·rcases set_some hj with ⟨rfl,rfl⟩|⟨_,h⟩
  ·rw [e1,e2];exact hb
  ·exact g.bu j v h hs
theorem PG.tr {m m':MS} (g:PG m) (t:Tr m m'):PG m':=by
 cases t with
 |same h' lat' s' c' hc=>exact ⟨g.who,g.ops,g.bu⟩
 |age a=>exact ⟨g.who,g.ops,g.bu⟩
 |beg k w h' hk hs he=>exact g.upd hk rfl rfl he
 |mid k w a p s h' lat' s' hk h1 h5 h2 h6=>exact g.upd hk rfl rfl (g.bu k w hk (by omega))
 |wake k w s' hk hs=>exact g.upd hk rfl rfl (g.bu k w hk (by omega))
 |fail k w s' hk hs=>exact g.upd hk rfl rfl (g.bu k w hk (by omega))
 |refuse k w hk hs hr=>exact g.upd hk rfl rfl (g.bu k w hk (by omega))
 |work k w hk hs hr=>exact g.upd hk rfl rfl (g.bu k w hk (by omega))
 |leave k w h' lat' hk hs=>
  have hlt:=(List.getElem?_eq_some_iff.1 hk).1;have hb:=g.bu k w hk (by omega);refine ⟨fun e he=>?_,fun j v hj=>?_,fun j v hj hs'=>?_⟩
  ·show e.who<(m.ws.set k (leftW w)).length;rw [List.length_set]
   rcases List.mem_append.1 he with he|he
   ·exact g.who e he
   ·rw [List.mem_singleton.1 he];exact hlt
  ·show opsK (m.ev++[_]) j=_;rw [opsK_snoc]
   rcases set_some hj with ⟨rfl,rfl⟩|⟨hne,h⟩
   ·rw [if_pos rfl,g.ops _ w hk];show _++[w.op]=w.todo.take (w.ended+1)
    rw [take_snoc hb,WA.op,List.getElem?_eq_getElem hb];rfl
   ·rw [if_neg (fun e=>hne e.symm),List.append_nil];exact g.ops j v h
  ·rcases set_some hj with ⟨rfl,rfl⟩|⟨_,h⟩
   ·exact absurd rfl hs'
   ·exact g.bu j v h hs'
structure TG (m:MS):Prop where
 c0:0<=m.clk
 n4:m.ws.length<=4
 ev:∀ e∈m.ev,e.who<4/\0<=e.began/\e.began<e.done/\e.done<e.ended/\e.ended<m.clk
 up:m.ev.Pairwise fun a b=>a.ended<b.ended
 seq:m.ev.Pairwise fun a b=>a.who=b.who->a.ended<b.began
 w1:∀ (k:Nat) (w:WA),m.ws[k]?=some w->w.st≠0->0<=w.began/\w.began<m.clk/\ ∀ e∈m.ev,e.who=k->e.ended<w.began
 w2:∀ (k:Nat) (w:WA),m.ws[k]?=some w->2<=w.st->w.began+1<m.clk
 w6:∀ (k:Nat) (w:WA),m.ws[k]?=some w->w.st=6->w.began<w.done/\w.done<m.clk
theorem TG.upd {m:MS} (g:TG m) {k:Nat} {w':WA} {p':PS} {h':HA} {lat':List LA} {s':SA} {c':Int} (hc:m.clk<=c')
  (h1:w'.st≠0->0<=w'.began/\w'.began<c'/\ ∀ e∈m.ev,e.who=k->e.ended<w'.began) (h2:2<=w'.st->w'.began+1<c') (h6:w'.st=6->w'.began<w'.done/\w'.done<c'):TG ⟨m.ws.set k w',p',h',lat',s',c',m.ev⟩:=by
 refine ⟨by have:=g.c0;show 0<=c';omega,by show (m.ws.set k w').length<=4;rw [List.length_set];exact g.n4,fun e he=>?_,g.up,g.seq,fun j v hj hs=>?_,fun j v hj hs=>?_,fun j v hj hs=>?_⟩
 ·have:=g.ev e he;show _/\_/\_/\_/\e.ended<c';omega
 ·rcases set_some hj with ⟨rfl,rfl⟩|⟨_,h⟩
  ·exact h1 hs
  ·have:=g.w1 j v h hs;exact ⟨this.1,by show _<c';omega,this.2.2⟩
 ·rcases set_some hj with ⟨rfl,rfl⟩|⟨_,h⟩
  ·exact h2 hs
  ·have:=g.w2 j v h hs
   show _<c';omega
 ·rcases set_some hj with ⟨rfl,rfl⟩|⟨_,h⟩
  ·exact h6 hs
  ·have:=g.w6 j v h hs;exact ⟨this.1,by show _<c';omega⟩
theorem TG.tr {m m':MS} (g:TG m) (t:Tr m m'):TG m':=by
 have c0:=g.c0
 cases t with
 |same h' lat' s' c' hc=>
  refine ⟨by show 0<=c';omega,g.n4,fun e he=>?_,g.up,g.seq,fun j v hj hs=>?_,fun j v hj hs=>?_,fun j v hj hs=>?_⟩
  ·have:=g.ev e he;show _/\_/\_/\_/\e.ended<c';omega
  ·have:=g.w1 j v hj hs;exact ⟨this.1,by show _<c';omega,this.2.2⟩
  ·have:=g.w2 j v hj hs
   show _<c';omega
  ·have:=g.w6 j v hj hs;exact ⟨this.1,by show _<c';omega⟩
 |age a=>exact ⟨g.c0,g.n4,g.ev,g.up,g.seq,g.w1,g.w2,g.w6⟩
 |beg k w h' hk hs he=>
  refine g.upd (by omega) (fun _=>⟨c0,by show m.clk<m.clk+1;omega,fun e he _=>(g.ev e he).2.2.2.2⟩) (fun q=>absurd (show 2<=1 from q) (by decide)) (fun q=>absurd (show 1=6 from q) (by decide))
 |mid k w a p s h' lat' s' hk h1 h5 h2 h6=>
  have a1:=g.w1 k w hk (by omega);refine g.upd (by omega) (fun _=>⟨a1.1,by show w.began<m.clk+1;omega,a1.2.2⟩) (fun _=>by show w.began+1<m.clk+1;omega) (fun q=>absurd (show s=6 from q) (by omega))
 |wake k w s' hk hs=>
  have a1:=g.w1 k w hk (by omega);have a2:=g.w2 k w hk (by omega);exact g.upd (by omega) (fun _=>a1) (fun _=>a2) (fun q=>absurd (show 5=6 from q) (by decide))
 |fail k w s' hk hs=>
  have a1:=g.w1 k w hk (by omega);have a2:=g.w2 k w hk (by omega);exact g.upd (by omega) (fun _=>a1) (fun _=>a2) (fun _=>⟨by show w.began<m.clk-1;omega,by show m.clk-1<m.clk;omega⟩)
 |refuse k w hk hs hr=>
  have a1:=g.w1 k w hk (by omega);exact g.upd (by omega) (fun _=>⟨a1.1,by show w.began<m.clk+1;omega,a1.2.2⟩) (fun _=>by show w.began+1<m.clk+1;omega) (fun _=>⟨a1.2.1,by show m.clk<m.clk+1;omega⟩)
 |work k w hk hs hr=>
  have a1:=g.w1 k w hk (by omega);exact g.upd (by omega) (fun _=>⟨a1.1,by show w.began<m.clk+1;omega,a1.2.2⟩) (fun _=>by show w.began+1<m.clk+1;omega) (fun _=>⟨a1.2.1,by show m.clk<m.clk+1;omega⟩)
 |leave k w h' lat' hk hs=>
  have hlt:=(List.getElem?_eq_some_iff.1 hk).1;have n4:=g.n4;have a1:=g.w1 k w hk (by omega);have a6:=g.w6 k w hk hs;refine ⟨by show 0<=m.clk+1;omega,by show (m.ws.set k _).length<=4;rw [List.length_set];exact g.n4,fun e he=>?_,?_,?_,fun j v hj hs'=>?_,fun j v hj hs'=>?_,fun j v hj hs'=>?_⟩
  ·rcases List.mem_append.1 he with he|he
   ·have:=g.ev e he;show _/\_/\_/\_/\e.ended<m.clk+1;omega
   ·rw [List.mem_singleton.1 he];exact ⟨by show k<4;omega,a1.1,a6.1,a6.2,by show m.clk<m.clk+1;omega⟩
  ·refine List.pairwise_append.2 ⟨g.up,by simp,fun a ha b hb=>?_⟩;rw [List.mem_singleton.1 hb];exact (g.ev a ha).2.2.2.2
  ·refine List.pairwise_append.2 ⟨g.seq,by simp,fun a ha b hb hw=>?_⟩;rw [List.mem_singleton.1 hb] at hw⊢;exact a1.2.2 a ha hw
  ·rcases set_some hj with ⟨rfl,rfl⟩|⟨hne,h⟩
   ·exact absurd rfl hs'
   ·have:=g.w1 j v h hs';refine ⟨this.1,by show _<m.clk+1;omega,fun e he hw=>?_⟩
    rcases List.mem_append.1 he with he|he
    ·exact this.2.2 e he hw
    ·rw [List.mem_singleton.1 he] at hw;exact absurd hw.symm hne
  ·rcases set_some hj with ⟨rfl,rfl⟩|⟨hne,h⟩
   ·exact absurd (show 2<=0 from hs') (by decide)
   ·have:=g.w2 j v h hs'
    show _<m.clk+1;omega
  ·rcases set_some hj with ⟨rfl,rfl⟩|⟨hne,h⟩
   ·exact absurd (show 0=6 from hs') (by decide)
   ·have:=g.w6 j v h hs';exact ⟨this.1,by show _<m.clk+1;omega⟩
structure Rc where
 op:MOp
 res:MRes
 done:Int
def evR (e:EvA):Rc:=⟨e.op,e.res,e.done⟩
def wR (w:WA):Option Rc:=if w.st=6 then some ⟨w.op,w.res,w.done⟩ else none
def pendR (ws:List WA):List Rc:=ws.filterMap wR
def allR (m:MS):List Rc:=m.ev.map evR++pendR m.ws
def goodR (r:Rc):Bool:=decide (r.res.1≠8)
def PlayOk:(Nat->Pg)->List Rc->(Nat->Pg)->Prop
 |P,[],P'=>P'=P
 |P,r::G,P'=>(mdocX P r.op).2=r.res/\PlayOk (mdocX P r.op).1 G P'
theorem PlayOk.snoc {o:MOp} {r:MRes} {d:Int}:∀ {G:List Rc} {P P':Nat->Pg},PlayOk P G P'->(mdocX P' o).2=r->PlayOk P (G++[⟨o,r,d⟩]) (mdocX P' o).1
 | [],P,P',h,hr=>by
  cases (show P'=P from h)
  exact ⟨hr,rfl⟩
 |x::G,P,P',h,hr=>⟨h.1,PlayOk.snoc (G:=G) h.2 hr⟩
theorem cut_set {ws:List WA} {k:Nat} {w:WA} (h:ws[k]?=some w):∃ A B,ws=A++w::B/\ ∀ w',ws.set k w'=A++w'::B:=by
 have hi:=(List.getElem?_eq_some_iff.1 h).1;have hj:=(List.getElem?_eq_some_iff.1 h).2;refine ⟨ws.take k,ws.drop (k+1),?_,fun w'=>?_⟩
 ·rw [<-hj,<-List.drop_eq_getElem_cons hi,List.take_append_drop]
 ·rw [List.set_eq_take_append_cons_drop,if_pos hi]
theorem pend_at {ws:List WA} {k:Nat} {w:WA} (h:ws[k]?=some w):∃ A B:List Rc,pendR ws=A++((wR w).toList++B) /\ ∀ w',pendR (ws.set k w')=A++((wR w').toList++B):=by
 obtain ⟨A,B,e1,e2⟩:=cut_set h
 have key:∀ v:WA,pendR (A++v::B)=pendR A++((wR v).toList++pendR B):=fun v=>by
  rw [pendR,List.filterMap_append,List.filterMap_cons]
  cases e:wR v<;>simp [pendR]
 exact ⟨pendR A,pendR B,(congrArg pendR e1).trans (key w),
  fun w'=>by rw [e2];exact key w'⟩
theorem pend_no {ws:List WA} {k:Nat} {w w':WA} (h:ws[k]?=some w) (h1:w.st≠6) (h2:w'.st≠6):pendR (ws.set k w')=pendR ws:=by
 obtain ⟨A,B,e1,e2⟩:=pend_at h;rw [e1,e2,wR,wR,if_neg h1,if_neg h2]
theorem pend_new {ws:List WA} {k:Nat} {w w':WA} (h:ws[k]?=some w) (h1:w.st≠6) (h2:w'.st=6):(pendR (ws.set k w')).Perm (pendR ws++[⟨w'.op,w'.res,w'.done⟩]):=by
 obtain ⟨A,B,e1,e2⟩:=pend_at h;rw [e1,e2,wR,wR,if_neg h1,if_pos h2];show (A++(_::B)).Perm ((A++B)++[_]);exact List.perm_middle.trans (List.perm_append_singleton _ _).symm
theorem pend_old {ws:List WA} {k:Nat} {w w':WA} (h:ws[k]?=some w) (h1:w.st=6) (h2:w'.st≠6):(pendR ws).Perm (⟨w.op,w.res,w.done⟩::pendR (ws.set k w')):=by
 obtain ⟨A,B,e1,e2⟩:=pend_at h;rw [e1,e2,wR,wR,if_pos h1,if_neg h2];show (A++(_::B)).Perm (_::(A++B));exact List.perm_middle
structure OG (P0:Nat->Pg) (n:Nat) (m:MS):Prop where
 n1:1<=n
 ex:∃ (G:List Rc) (P:Nat->Pg),PlayOk P0 G P/\DocI m.p P n/\G.Pairwise (fun a b=>a.done<b.done) /\ (∀ r∈G,r.done<m.clk) /\ ((allR m).filter goodR).Perm G
 bad:∀ r∈allR m,r.res.1=8->r.res=(8,zP)
theorem OG.keep {P0 n} {m m':MS} (g:OG P0 n m) (hp:m'.p=m.p) (hc:m.clk<=m'.clk) (ha:(allR m').Perm (allR m)):OG P0 n m':=by
 obtain ⟨G,P,g1,g2,g3,g4,g5⟩:=g.ex;refine ⟨g.n1,⟨G,P,g1,by rw [hp];exact g2,g3,fun r hr=>by have:=g4 r hr;omega,(ha.filter _).trans g5⟩,fun r hr=>g.bad r (ha.mem_iff.1 hr)⟩
theorem OG.same {P0 n} {m m':MS} (g:OG P0 n m) (hp:m'.p=m.p) (hc:m.clk<=m'.clk) (ha:allR m'=allR m):OG P0 n m':=g.keep hp hc (by rw [ha])
theorem OG.add {P0 n} {m m':MS} (g:OG P0 n m) {o:MOp} {r:MRes} (hw:∀ P,DocI m.p P n->r=(mdocX P o).2/\DocI m'.p (mdocX P o).1 n) (hc:m.clk<m'.clk) (ha:(allR m').Perm (allR m++[⟨o,r,m.clk⟩])):OG P0 n m':=by
 obtain ⟨G,P,g1,g2,g3,g4,g5⟩:=g.ex;obtain ⟨h1,h2⟩:=hw P g2
 have hne:r.1≠8:=by rw [h1];exact mdocX_8 P o
 refine ⟨g.n1,⟨G++[⟨o,r,m.clk⟩],(mdocX P o).1,g1.snoc h1.symm,h2,?_,fun x hx=>?_,?_⟩,fun x hx h8=>?_⟩
 ·refine List.pairwise_append.2 ⟨g3,by simp,fun a ha b hb=>?_⟩
  rw [List.mem_singleton.1 hb];exact g4 a ha
 ·rcases List.mem_append.1 hx with hx|hx
  ·have:=g4 x hx;omega
  ·rw [List.mem_singleton.1 hx];exact hc
 ·refine (ha.filter _).trans ?_;rw [List.filter_append];refine g5.append ?_
  have:goodR ⟨o,r,m.clk⟩=true:=by simp [goodR,hne]
  rw [List.filter_cons,if_pos this,List.filter_nil]
 ·rcases List.mem_append.1 (ha.mem_iff.1 hx) with hx|hx
  ·exact g.bad x hx h8
  ·rw [List.mem_singleton.1 hx] at h8;exact absurd h8 hne
theorem DocI.age {p P n} (h:DocI p P n) (a:Int) (b:ByteArray):DocI (poolDo (tickP p 1) (8,a,b)).1 P n:=by
 have ht:DocI (tickP p 1) P n:=by
  refine ⟨?_,?_⟩
  ·have hi:=h.inv;have n0:=hi.pj.n0;have n1:=hi.pj.n1
   have mk:∀ t:Int,p.now<=t->t<=2147483647->Inv ⟨p.f,p.d,t⟩ P (fun _=>0) 2147483647 0:=fun t t0 t1=>
    ⟨⟨hi.pj.fm,hi.pj.rest,hi.pj.ca,hi.pj.z0,by show 0<=t;omega,t1,fun x hx=>by have:=hi.pj.dt x hx;show x.2<=t;omega⟩,hi.pins,hi.at_,hi.on,hi.ub⟩
   rw [tickP];repeat' split
   ·exact hi
   ·exact mk _ (by omega) (Int.le_refl _)
   ·exact mk _ (by omega) (by omega)
  ·rw [tickP];repeat' split
   all_goals exact h.len
 have d:=(age_did ht.inv a).1;obtain ⟨q,l,e,i1,n1,m1,_⟩:=d.eq
 have e2:poolDo (tickP p 1) (8,a,b)=poolAge (tickP p 1) a:=by
  rw [poolDo,if_neg (show ¬((8:Int)<1\/ (8:Int)<8) by decide),if_neg (show ¬((8:Int)≠8/\_) from fun g=>g.1 rfl)];rfl
 rw [e2,e];exact ⟨i1,m1.trans ht.len⟩
theorem OG.tr {P0 n} {m m':MS} (g:OG P0 n m) (t:Tr m m'):OG P0 n m':=by
 cases t with
 |same h' lat' s' c' hc=>exact g.same rfl (by show m.clk<=c';omega) rfl
 |age a=>
  obtain ⟨G,P,g1,g2,g3,g4,g5⟩:=g.ex;exact ⟨g.n1,⟨G,P,g1,g2.age a _,g3,g4,g5⟩,g.bad⟩
 |beg k w h' hk hs he=>exact g.same rfl (by show m.clk<=m.clk+1;omega) (congrArg (m.ev.map evR++·) (pend_no hk (by omega) (show 1≠6 by decide)))
 |mid k w a p s h' lat' s' hk h1 h5 h2 h6=>exact g.same rfl (by show m.clk<=m.clk+1;omega) (congrArg (m.ev.map evR++·) (pend_no hk (by omega) (show s≠6 by omega)))
 |wake k w s' hk hs=>exact g.same rfl (Int.le_refl _) (congrArg (m.ev.map evR++·) (pend_no hk (by omega) (show 5≠6 by decide)))
 |fail k w s' hk hs=>
  obtain ⟨G,P,g1,g2,g3,g4,g5⟩:=g.ex;have ha:=List.Perm.append_left (m.ev.map evR) (pend_new (w':=tellW w (8,zP) (m.clk-1)) hk (by omega) rfl);rw [<-List.append_assoc] at ha;refine ⟨g.n1,⟨G,P,g1,g2,g3,g4,(ha.filter _).trans ?_⟩,fun r hr h8=>?_⟩
  ·rw [List.filter_append];have:List.filter goodR [(⟨w.op,(8,zP),m.clk-1⟩:Rc)]=[]:=rfl;rw [show ([⟨(tellW w (8,zP) (m.clk-1)).op,(tellW w (8,zP) (m.clk-1)).res,(tellW w (8,zP) (m.clk-1)).done⟩]:List Rc)=[⟨w.op,(8,zP),m.clk-1⟩] from rfl,this,List.append_nil];exact g5
  ·rcases List.mem_append.1 (ha.mem_iff.1 hr) with hr|hr
   ·exact g.bad r hr h8
   ·rw [List.mem_singleton.1 hr];rfl
 |refuse k w hk hs hr=>
  have ha:=List.Perm.append_left (m.ev.map evR) (pend_new (w':=tellW w (1,zP) m.clk) hk (by omega) rfl);rw [<-List.append_assoc] at ha;refine g.add (o:=w.op) (r:=(1,zP)) (fun P hP=>?_) (by show m.clk<m.clk+1;omega) ha;rw [mdocX,if_pos hr];exact ⟨rfl,hP⟩
 |work k w hk hs hr=>
  have ha:=List.Perm.append_left (m.ev.map evR) (pend_new (w':=tellW w (workP m.p w.op).2 m.clk) hk (by omega) rfl);rw [<-List.append_assoc] at ha;refine g.add (o:=w.op) (r:=(workP m.p w.op).2) (fun P hP=>?_) (by show m.clk<m.clk+1;omega) ha;rw [mdocX,if_neg (by rw [hr];decide)];exact work9 hP g.n1 w.op hr
 |leave k w h' lat' hk hs=>
  refine g.keep rfl (by show m.clk<=m.clk+1;omega) ?_;have hp:=pend_old (w':=leftW w) hk hs (show 0≠6 by decide);show ((m.ev++[_]).map evR++pendR (m.ws.set k (leftW w))).Perm (m.ev.map evR++pendR m.ws);rw [List.map_append,List.append_assoc];exact List.Perm.append_left _ hp.symm
structure HI (P0:Nat->Pg) (n:Nat) (work:List (List MOp)) (m:MS):Prop where
 g:MGE work m
 pg:PG m
 tg:TG m
 og:OG P0 n m
theorem MGE.ok {work m} (h:MGE work m):MOk m:=by obtain ⟨t,_,_,g⟩:=h.ex;exact g.ok
theorem HI.do_ {P0 n work m} (h:HI P0 n work m) (a:Int×Int):HI P0 n work (doMS m a).1:=
 have t:=tr_do h.g.ok a
 ⟨h.g.do_ a,h.pg.tr t,h.tg.tr t,h.og.tr t⟩
theorem MGE.step {work m} (h:MGE work m) (k:Int):MGE work (stepM m k).1:=by
 obtain ⟨t,h0,h1,g⟩:=h.ex;exact ⟨t,h0,h1,g.step k⟩
theorem HI.step {P0 n work m} (h:HI P0 n work m) (k:Int):HI P0 n work (stepM m k).1:=
 have t:=tr_step h.g.ok k
 ⟨h.g.step k,h.pg.tr t,h.tg.tr t,h.og.tr t⟩
theorem HI.run {P0 n work m} (h:HI P0 n work m) (l:List (Int×Int)):HI P0 n work (runMS m l):=run_ind (fun m a h=>h.do_ a) l h
theorem HI.new {n:Nat} (n1:1<=n) (n8:n<=8) (pages:List Pg) {work:List (List MOp)} (h1:1<=work.length) (h4:work.length<=4):HI (new9 pages).2 n work (begM n pages work):=by
 have hws:∀ (k:Nat) (w:WA),(work.map newWA)[k]?=some w->w.st=0/\w.ended=0:=fun k w h=>by
  rw [List.getElem?_map] at h;obtain ⟨l,_,rfl⟩:=Option.map_eq_some_iff.1 h;exact ⟨rfl,rfl⟩
 refine ⟨begM_mge n n1 n8 pages work h1 h4,⟨fun e he=>(by cases he),fun k w hk=>?_,fun k w hk hs=>absurd (hws k w hk).1 hs⟩,⟨Int.le_refl 0,by show (work.map newWA).length<=4;rw [List.length_map];exact h4,fun e he=>(by cases he),.nil,.nil,fun k w hk hs=>absurd (hws k w hk).1 hs,fun k w hk hs=>?_,fun k w hk hs=>?_⟩,⟨n1,⟨[],_,rfl,begM_doc n n1 n8 pages work,.nil,fun r hr=>(by cases hr),?_⟩,fun r hr=>?_⟩⟩
 ·rw [(hws k w hk).2];rfl
 ·have:=(hws k w hk).1;omega
 ·have:=(hws k w hk).1;omega
 ·have:pendR (work.map newWA)=[]:=by
   rw [pendR,List.filterMap_eq_nil_iff];intro w hw;obtain ⟨l,_,rfl⟩:=List.mem_map.1 hw;rfl
  show ((([]:List EvA).map evR++pendR (work.map newWA)).filter goodR).Perm []
  rw [this];exact .nil
 ·have:pendR (work.map newWA)=[]:=by
   rw [pendR,List.filterMap_eq_nil_iff];intro w hw;obtain ⟨l,_,rfl⟩:=List.mem_map.1 hw;rfl
  rw [allR] at hr;rw [show pendR (begM n pages work).ws=[] from this] at hr
  cases hr
theorem HI.evl {P0 n work m} (h:HI P0 n work m):(m.ev.length:Int) <=m.clk:=by
 obtain ⟨t,_,_,g⟩:=h.g.ex;exact g.ev
theorem stV_at {m:MS} {k:Nat} {w:WA} (hk:m.ws[k]?=some w):stV m k=w.st:=by rw [stV,hk]
def evZ:EvA:=⟨0,noMO,(0,zP),0,0,0⟩
def nxG (l:List EvA) (t:List Bool):Nat->Int
 |0=>-1
 |j+1=>if (t[l.length-(j+1)]?.getD true)=false/\ (nxG l t j<0\/ (l[l.length-(j+1)]?.getD evZ).done<= (l[(nxG l t j).toNat]?.getD evZ).done) then ((l.length-(j+1):Nat):Int) else nxG l t j
structure NxS (l:List EvA) (t:List Bool) (j:Nat) (a:Int):Prop where
 out:(a=-1/\ ∀ k,l.length-j<=k->k<l.length->t[k]?=some true) \/
  ∃ i:Nat,a=i/\l.length-j<=i/\i<l.length/\t[i]?=some false/\ ∀ k,l.length-j<=k->k<l.length->t[k]?=some false->(l[i]?.getD evZ).done<= (l[k]?.getD evZ).done
theorem nx_spec {l:List EvA} {t:List Bool} (ht:t.length=l.length):∀ j,j<=l.length->NxS l t j (nxG l t j)
 |0,_=>⟨.inl ⟨rfl,fun k h1 h2=>by omega⟩⟩
 |j+1,hj=>by
  have ih:=(nx_spec ht j (by omega)).out
  have hlt:l.length-(j+1)<t.length:=by omega
  have htk:t[l.length-(j+1)]?=some t[l.length-(j+1)]:=List.getElem?_eq_getElem hlt
  have hk:∀ k,l.length-(j+1) <=k->k=l.length-(j+1) \/l.length-j<=k:=fun k h=>by omega
  rw [nxG]
  split
  ·rename_i hc;obtain ⟨c1,c2⟩:=hc;rw [htk,Option.getD_some] at c1;refine ⟨.inr ⟨l.length-(j+1),rfl,Nat.le_refl _,by omega,by rw [htk,c1],fun k h1 h2 h3=>?_⟩⟩
   rcases hk k h1 with rfl|h4
   ·exact Int.le_refl _
   ·rcases ih with ⟨e,h5⟩|⟨i,e,_,_,_,h5⟩
    ·rw [h5 k h4 h2] at h3;cases h3
    ·rw [e] at c2
     rcases c2 with c2|c2
     ·omega
     ·rw [Int.toNat_natCast] at c2;exact Int.le_trans c2 (h5 k h4 h2 h3)
  ·rename_i hc
   rcases ih with ⟨e,h5⟩|⟨i,e,h6,h7,h8,h5⟩
   ·have c1:t[l.length-(j+1)]=true:=by
     cases q:t[l.length-(j+1)] with
     |true=>rfl
     |false=>exact absurd ⟨by rw [htk,q];rfl,.inl (by rw [e];decide)⟩ hc
    refine ⟨.inl ⟨e,fun k h1 h2=>?_⟩⟩
    rcases hk k h1 with rfl|h4
    ·rw [htk,c1]
    ·exact h5 k h4 h2
   ·refine ⟨.inr ⟨i,e,by omega,h7,h8,fun k h1 h2 h3=>?_⟩⟩
    rcases hk k h1 with rfl|h4
    ·rw [e] at hc
     refine Classical.byContradiction fun hn=>hc ⟨by rw [h3];rfl,.inr ?_⟩
     rw [Int.toNat_natCast];omega
    ·exact h5 k h4 h2 h3
def encBl (b:Bool):List D:=[.bool b]
set_option maxRecDepth 20000 in
set_option maxHeartbeats 16000000 in
theorem next86_ok (l:List EvA) (t:List Bool) (ht:t.length=l.length) (hl:l.length<=1000000):HCall Tryz.prog 86 [.d (.lst (l.map encEvA)),.own 1000000] [(1000000,.row (t.map encBl) 1 false)] [(1000000,.row (t.map encBl) 1 false)] (.int .i64 (nxG l t l.length)):=by
 have hm:(l.map encEvA).length=l.length:=List.length_map ..
 have hmt:(t.map encBl).length=t.length:=List.length_map ..
 refine hcall_of Tryz.func86 2 rfl (by kernel_rfl) (by rfl) (aP ?_);refine aloop (ι:=Nat) (fun j=>[(0,.d (.lst (l.map encEvA))),(1,.own 1000000),(5,.d (.int .i64 (nxG l t j))),(6,.d (.int .i64 ((l.map encEvA).length-((j+1:Nat):Int))))])
  (fun j=>[(1000000,.row (t.map encBl) 1 false)]) (fun j=>j<=l.length) (fun j=>l.length-j) 0 (Nat.zero_le _) (le0 (le_of_cov ⟨rfl,rfl,rfl,rfl,trivial⟩ ⟨rfl,trivial⟩ ⟨rfl,rfl,rfl,rfl⟩)) ?_
 intro j hj;have hS:=(nx_spec ht j hj).out
 conv=>whnf
 refine bcase_p (fun h5=>?_) (fun h5=>?_)<;>conv=>whnf
 ·have hj2:j<l.length:=by omega
  obtain ⟨k,hk⟩:∃ k,l.length-(j+1)=k:=⟨_,rfl⟩
  have hkl:k<l.length:=by omega
  have hkt:k<t.length:=by omega
  have ek:((l.map encEvA).length:Int)-((j+1:Nat):Int)=(k:Int):=by omega
  have ek2:((l.map encEvA).length:Int)-((j+1+1:Nat):Int)=(k:Int)-1:=by omega
  have es:nxG l t (j+1)=if (t[k]?.getD true)=false/\ (nxG l t j<0\/ (l[k]?.getD evZ).done<= (l[(nxG l t j).toNat]?.getD evZ).done) then (k:Int) else nxG l t j:=by rw [nxG,hk]
  rw [List.getElem?_eq_getElem hkt,List.getElem?_eq_getElem hkl,Option.getD_some,Option.getD_some] at es;rw [ek]
  rcases hS with ⟨e,_⟩|⟨i,e,h6,h7,_⟩
  ·rw [e] at es⊢;refine aP ?_;refine idxK_nat (by omega) (w0 ?_);refine getRow_of (x:=encBl t[k]) (by simp [hkt]) (aW ?_)
   refine bcase_intro (fun b1=>?_) (fun b1=>?_)<;>conv=>whnf
   ·rw [if_pos ⟨by simpa using b1,.inl (by decide)⟩] at es;refine aP ?_;refine ⟨j+1,by omega,by omega,?_⟩;rw [es,ek2];exact (le0 (le_of_cov ⟨rfl,rfl,rfl,rfl,trivial⟩ ⟨rfl,trivial⟩ ⟨rfl,rfl,rfl,rfl⟩))
   ·rw [if_neg (fun g=>by rw [g.1] at b1;cases b1)] at es;refine aP ?_;refine ⟨j+1,by omega,by omega,?_⟩;rw [es,ek2];exact (le0 (le_of_cov ⟨rfl,rfl,rfl,rfl,trivial⟩ ⟨rfl,trivial⟩ ⟨rfl,rfl,rfl,rfl⟩))
  ·rw [e,Int.toNat_natCast,List.getElem?_eq_getElem h7,Option.getD_some] at es;rw [e];refine aP ?_;refine idxK_nat (by omega) (w0 ?_);refine getRow_of (x:=encBl t[k]) (by simp [hkt]) (aW ?_)
   refine bcase_intro (fun b1=>?_) (fun b1=>?_)<;>conv=>whnf
   ·refine aP ?_;refine idxK_nat (by omega) (w0 ?_);refine getRow_of (x:=encEvA l[k]) (by simp [hkl]) (aW ?_);refine aP ?_;refine idxK_nat (by omega) (w0 ?_);refine getRow_of (x:=encEvA l[i]) (by simp [h7]) (aW ?_);refine aP ?_
    refine bcase_p (fun c1=>?_) (fun c1=>?_)<;>conv=>whnf
    ·rw [if_pos ⟨by simpa using b1,.inr c1⟩] at es;refine aP ?_;refine ⟨j+1,by omega,by omega,?_⟩;rw [es,ek2];exact (le0 (le_of_cov ⟨rfl,rfl,rfl,rfl,trivial⟩ ⟨rfl,trivial⟩ ⟨rfl,rfl,rfl,rfl⟩))
    ·rw [if_neg (fun g=>by have:=g.2;omega)] at es;refine aP ?_;refine ⟨j+1,by omega,by omega,?_⟩;rw [es,ek2];exact (le0 (le_of_cov ⟨rfl,rfl,rfl,rfl,trivial⟩ ⟨rfl,trivial⟩ ⟨rfl,rfl,rfl,rfl⟩))
   ·rw [if_neg (fun g=>by rw [g.1] at b1;cases b1)] at es;refine aP ?_;refine ⟨j+1,by omega,by omega,?_⟩;rw [es,ek2];exact (le0 (le_of_cov ⟨rfl,rfl,rfl,rfl,trivial⟩ ⟨rfl,trivial⟩ ⟨rfl,rfl,rfl,rfl⟩))
 ·have hjl:j=l.length:=by omega
  subst hjl;refine aP ?_;exact hret_of rfl rfl rfl ⟨rfl,trivial⟩
def untk:List EvA->List Bool->List EvA
 |x::l,b::t=>if b=true then untk l t else x::untk l t
 |_,_=>[]
theorem untk_set:∀ {l:List EvA} {t:List Bool} {i:Nat} (hi:i<l.length),t.length=l.length->t[i]?=some false->(untk l t).Perm (l[i]::untk l (t.set i true))
 |x::l,b::t,0,_,_,h=>by
  have:b=false:=by simpa using h
  subst this;show (x::untk l t).Perm (x::untk l t);exact .refl _
 |x::l,b::t,i+1,hi,hl,h=>by
  have ih:=untk_set (l:=l) (t:=t) (i:=i) (by simpa using hi) (by simpa using hl) (by simpa using h)
  cases b with
  |true=>exact ih
  |false=>
   show (x::untk l t).Perm (l[i]'(by simpa using hi)::x::untk l (t.set i true));exact (ih.cons x).trans (.swap _ _ _)
theorem untk_all:∀ {l:List EvA} {t:List Bool},t.length=l.length->(∀ k,k<l.length->t[k]?=some true)->untk l t=[]
 | [],[],_,_=>rfl
 |x::l,b::t,hl,h=>by
  have h0:=h 0 (by simp)
  have:b=true:=by simpa using h0
  subst this
  exact untk_all (l:=l) (t:=t) (by simpa using hl) fun k hk=>by have:=h (k+1) (by simpa using hk);simpa using this
theorem untk_new:∀ l:List EvA,untk l (List.replicate l.length false)=l
 | []=>rfl
 |x::l=>by
  show x::untk l (List.replicate l.length false)=x::l;rw [untk_new l]
theorem untk_mem:∀ {l:List EvA} {t:List Bool} {e:EvA},e∈untk l t->∃ k,∃ h:k<l.length,l[k]=e/\t[k]?=some false
 |x::l,b::t,e,h=>by
  cases b with
  |true=>
   obtain ⟨k,hk,h1,h2⟩:=untk_mem (l:=l) (t:=t) h;exact ⟨k+1,by simpa using hk,by simpa using h1,by simpa using h2⟩
  |false=>
   rcases List.mem_cons.1 (show e∈x::untk l t from h) with rfl|h
   ·exact ⟨0,by simp,rfl,rfl⟩
   ·obtain ⟨k,hk,h1,h2⟩:=untk_mem (l:=l) (t:=t) h;exact ⟨k+1,by simpa using hk,by simpa using h1,by simpa using h2⟩
 | [],_,e,h=>by simp [untk] at h
 |x::l,[],e,h=>by simp [untk] at h
structure RpI (l:List EvA) (P:Nat->Pg) (n:Nat) (t:List Bool) (P':Nat->Pg):Prop where
 tl:t.length=l.length
 cnt:(untk l t).length+n=l.length
 okp:OkP P'
 ex:∃ G,PlayOk P' G P/\G.Pairwise (fun a b=>a.done<b.done) /\ (((untk l t).map evR).filter goodR).Perm G
structure RpS (l:List EvA) (P:Nat->Pg) (n:Nat) (t:List Bool) (P':Nat->Pg) (i:Nat) (e:EvA):Prop where
 nx:nxG l t l.length=i
 hi:i<l.length
 le:l[i]?=some e
 ti:t[i]?=some false
 go:(goodR (evR e)=false/\RpI l P (n+1) (t.set i true) P') \/ (goodR (evR e)=true/\ (mdocX P' e.op).2=e.res/\RpI l P (n+1) (t.set i true) (mdocX P' e.op).1)
theorem RpI.step {l P n t P'} (h:RpI l P n t P') (hn:n<l.length):∃ i e,RpS l P n t P' i e:=by
 rcases (nx_spec h.tl l.length (Nat.le_refl _)).out with ⟨_,hall⟩|⟨i,e1,_,hi,hti,hmin⟩
 ·have:=untk_all h.tl fun k hk=>hall k (by omega) hk
  have hc:=h.cnt;rw [this] at hc
  simp at hc;omega
 have hp:=untk_set hi h.tl hti
 have hlen:(t.set i true).length=l.length:=by rw [List.length_set];exact h.tl
 have hcnt:(untk l (t.set i true)).length+(n+1)=l.length:=by
  have h1:=hp.length_eq;have h2:=h.cnt;simp only [List.length_cons] at h1;omega
 obtain ⟨G,g1,g2,g3⟩:=h.ex;have hp2:((l[i]::untk l (t.set i true)).map evR |>.filter goodR).Perm G:=((hp.map evR).filter _).symm.trans g3;rw [List.map_cons,List.filter_cons] at hp2;refine ⟨i,l[i],e1,hi,List.getElem?_eq_getElem hi,hti,?_⟩
 cases hg:goodR (evR l[i]) with
 |false=>
  rw [hg,if_neg (by decide)] at hp2;exact .inl ⟨rfl,hlen,hcnt,h.okp,G,g1,g2,hp2⟩
 |true=>
  rw [hg,if_pos rfl] at hp2
  right
  have hm:evR l[i]∈G:=hp2.mem_iff.1 (List.mem_cons_self ..)
  cases G with
  |nil=>cases hm
  |cons g G'=>
   have hge:evR l[i]=g:=by
    rcases List.mem_cons.1 hm with hm|hm
    ·exact hm
    ·have h1:=(List.pairwise_cons.1 g2).1 _ hm;have h2:g∈((untk l t).map evR).filter goodR:=g3.mem_iff.2 (List.mem_cons_self ..);obtain ⟨e,he,rfl⟩:=List.mem_map.1 (List.mem_filter.1 h2).1;obtain ⟨k,hk,rfl,hk2⟩:=untk_mem he;have h3:=hmin k (by omega) hk hk2;rw [List.getElem?_eq_getElem hi,List.getElem?_eq_getElem hk,Option.getD_some,Option.getD_some] at h3;have h1:l[k].done<l[i].done:=h1;omega
   subst hge;obtain ⟨q1,q2⟩:=g1;exact ⟨rfl,q1,hlen,hcnt,mdocX_ok h.okp _,G',q2,(List.pairwise_cons.1 g2).2,hp2.cons_inv⟩
theorem RpI.end_ {l P n t P'} (h:RpI l P n t P') (hn:l.length<=n):P'=P:=by
 obtain ⟨G,g1,g2,g3⟩:=h.ex;have hc:=h.cnt;have:untk l t=[]:=List.length_eq_zero_iff.1 (by omega);rw [this] at g3;have:G=[]:=List.nil_perm.1 g3;subst this;exact (show P=P' from g1).symm
theorem encBl_set (t:List Bool) (i:Nat):(t.map encBl).set i [.bool true]=(t.set i true).map encBl:=by rw [List.map_set];rfl
set_option maxRecDepth 20000 in
set_option maxHeartbeats 16000000 in
theorem replay_ok (l:List EvA) (hl:l.length<=1000000) (P0 P:Nat->Pg) (h0:RpI l P 0 (List.replicate l.length false) P0) (hbad:∀ e∈l,e.res.1=8->e.res=(8,zP)):
  ACall Tryz.prog 41 [.lst ((bgN P0 16).map encP),.lst (l.map encEvA)] (.tup [.lst ((bgN P 16).map encP),.bool true]):=by
 have hm:(l.map encEvA).length=l.length:=List.length_map ..
 refine acall_of Tryz.func41 2 rfl (by kernel_rfl) (aP ?_);refine roomK_le 1000000 100 (by omega) (by decide) (by decide) (by decide) (aP ?_);refine aloop (ι:=Nat×List Bool×(Nat->Pg)) (fun k=>[(0,.d (.lst ((bgN k.2.2 16).map encP))),(1,.d (.lst (l.map encEvA))),(6,.own 13),(7,.d (.int .i64 k.1))])
  (fun k=>[(13,.row (k.2.1.map encBl) 1 false)]) (fun k=>RpI l P k.1 k.2.1 k.2.2) (fun k=>l.length-k.1) (0,List.replicate l.length false,P0) h0 (le0 (le_of_cov ⟨rfl,rfl,rfl,rfl,trivial⟩ ⟨by rw [List.map_replicate];show some (Blk.row (List.replicate (((l.map encEvA).length:Int).toNat) _) 1 false)=_;rw [hm];rfl,trivial⟩ ⟨rfl,rfl,rfl,rfl⟩)) ?_
 rintro ⟨n,t,P'⟩ h;simp only at h⊢
 have hle:n<=l.length:=by have:=h.cnt;omega
 conv=>whnf
 refine bcase_p (fun h5=>?_) (fun h5=>?_)<;>conv=>whnf
 ·obtain ⟨i,e,hS⟩:=h.step (by omega);have hil:=hS.hi
  have her:(l.map encEvA)[i]?=some (encEvA e):=by rw [List.getElem?_map,hS.le];rfl
  have hmt:(t.map encBl).length=t.length:=List.length_map ..
  have htl:=h.tl
  have hti:(t.map encBl)[i]?=some [.bool false]:=by rw [List.getElem?_map,hS.ti];rfl
  have hnx:=next86_ok l t h.tl hl;rw [hS.nx] at hnx;refine aP ?_;refine callX_blk hnx [(1000000,13)] rfl ⟨rfl,trivial⟩ rfl (aP ?_);refine idxK_nat (by omega) (w0 ?_);refine getRow_of hti (aP ?_);refine idxK_nat (by omega) (w0 ?_);refine getRow_of her (aP ?_)
  refine bcase_p (fun c8=>?_) (fun c8=>?_)<;>conv=>whnf
  ·have hres:=hbad e (List.mem_of_getElem? hS.le) c8
   have hid:e.res.2.1=0:=by rw [hres];rfl
   rcases hS.go with ⟨_,g2⟩|⟨g1,_⟩
   rotate_left
   ·exact absurd g1 (by simp [goodR,evR,c8])
   refine idxK_nat (by omega) (w0 ?_);refine getRow_of her (aP ?_);refine ⟨(n+1,t.set i true,P'),g2,by simp only [];omega,le0 (le_of_cov ⟨rfl,rfl,rfl,rfl,trivial⟩ ⟨?_,trivial⟩ ⟨rfl,rfl,rfl,rfl⟩)⟩
   rw [<-encBl_set];rfl
  ·rcases hS.go with ⟨g1,_⟩|⟨_,g2,g3⟩
   ·exact absurd g1 (by simp [goodR,evR,c8])
   have hdo:=Hy.refDo_ok (bgN P' 16) e.op (by have:=bg_len P';omega);rw [Hy.rdM_eq,doM_bg h.okp,g2] at hdo;refine aP ?_;refine idxK_nat (by omega) (w0 ?_);refine getRow_of her (aP ?_);refine callX_pure hdo (aP ?_);refine idxK_nat (by omega) (w0 ?_);refine getRow_of her (aP ?_);refine idxK_nat (by omega) (w0 ?_);refine getRow_of her (aP ?_);refine bcase_t (by simp) (aP ?_);refine ⟨(n+1,t.set i true,(mdocX P' e.op).1),g3,by simp only [];omega,le0 (le_of_cov ⟨rfl,rfl,rfl,rfl,trivial⟩ ⟨?_,trivial⟩ ⟨rfl,rfl,rfl,rfl⟩)⟩
   rw [<-encBl_set];rfl
 ·rw [h.end_ (by omega)];refine aP ?_;exact ret_of rfl rfl
theorem HI.rp {P0 n work m} (h:HI P0 n work m) (hk:OkP P0) (hq:∀ k,k<4->stV m k≠6):∃ P,DocI m.p P n/\RpI m.ev P 0 (List.replicate m.ev.length false) P0/\ ∀ e∈m.ev,e.res.1=8->e.res=(8,zP):=by
 obtain ⟨G,P,g1,g2,g3,g4,g5⟩:=h.og.ex
 have hp:pendR m.ws=[]:=by
  rw [pendR,List.filterMap_eq_nil_iff];intro w hw;obtain ⟨k,hk,rfl⟩:=List.mem_iff_getElem.1 hw;have:=hq k (by have:=h.tg.n4;omega);rw [stV_at (List.getElem?_eq_getElem hk)] at this;rw [wR,if_neg (fun e=>this (by rw [e];rfl))]
 rw [allR,hp,List.append_nil] at g5;refine ⟨P,g2,⟨List.length_replicate ..,by rw [untk_new];rfl,hk,G,g1,g3,by rw [untk_new];exact g5⟩,fun e he h8=>?_⟩;exact h.og.bad (evR e) (List.mem_append.2 (.inl (List.mem_map_of_mem he))) h8
structure TiOk (l:List EvA) (c:Int):Prop where
 ev:∀ e∈l,e.who<4/\0<=e.began/\e.began<e.done/\e.done<e.ended/\e.ended<c
 up:l.Pairwise fun a b=>a.ended<b.ended
 seq:l.Pairwise fun a b=>a.who=b.who->a.ended<b.began
def lastI (l:List EvA) (k:Nat):Int:=l.foldl (fun a e=>if e.who=k then e.ended+1 else a) 0
theorem lastI_snoc (l:List EvA) (e:EvA) (k:Nat):lastI (l++[e]) k=if e.who=k then e.ended+1 else lastI l k:=by
 rw [lastI,List.foldl_append];rfl
theorem fold_le {k:Nat} {b:Int}:∀ {l:List EvA} {a:Int},a<=b->(∀ e∈l,e.who=k->e.ended<b)->l.foldl (fun a e=>if e.who=k then e.ended+1 else a) a<=b
 | [],a,h,_=>h
 |e::l,a,h,h2=>by
  refine fold_le (l:=l) ?_ fun e he=>h2 e (.tail _ he)
  show (if e.who=k then e.ended+1 else a) <=b
  split
  ·rename_i q;have:=h2 e (.head _) q;omega
  ·exact h
def lsD (l:List EvA):List D:=[.int .i64 (lastI l 0),.int .i64 (lastI l 1),.int .i64 (lastI l 2),.int .i64 (lastI l 3)]
theorem lsD_get (l:List EvA) {k:Nat} (hk:k<4):(lsD l)[k]?=some (.int .i64 (lastI l k)):=by
 match k,hk with
 |0,_=>rfl
 |1,_=>rfl
 |2,_=>rfl
 |3,_=>rfl
theorem lsD_set (l:List EvA) (e:EvA) (hk:e.who<4):(lsD l).set e.who (.int .i64 (e.ended+1))=lsD (l++[e]):=by
 simp only [lsD,lastI_snoc];obtain ⟨k,hkk⟩:∃ k,e.who=k:=⟨_,rfl⟩;rw [hkk] at hk⊢
 match k,hk with
 |0,_=>simp
 |1,_=>simp
 |2,_=>simp
 |3,_=>simp
set_option maxRecDepth 20000 in
set_option maxHeartbeats 16000000 in
theorem times_ok (l:List EvA) (hl:l.length<=1000000) (c:Int) (hc:c<=1000000) (h:TiOk l c):ACall Tryz.prog 42 [.lst (l.map encEvA),.int .i64 c] (.bool true):=by
 have hm:(l.map encEvA).length=l.length:=List.length_map ..
 refine acall_of Tryz.func42 2 rfl (by kernel_rfl) (aP ?_);refine aloop (ι:=Nat) (fun i=>[(0,.d (.lst (l.map encEvA))),(1,.d (.int .i64 c)),(5,.ptr 5 0 0),(6,.d (.int .i64 i))])
  (fun i=>[(5,.box ((lsD (l.take i)).map AV.d) false)]) (fun i=>i<=l.length) (fun i=>l.length-i) 0 (Nat.zero_le _) (le0 (le_of_cov ⟨rfl,rfl,rfl,rfl,trivial⟩ ⟨rfl,trivial⟩ ⟨rfl,rfl,rfl,rfl⟩)) ?_
 intro i hi
 conv=>whnf
 refine bcase_p (fun h5=>?_) (fun h5=>?_)<;>conv=>whnf
 ·have hi2:i<l.length:=by omega
  have es:l.take (i+1)=l.take i++[l[i]]:=take_snoc hi2;have hev:=h.ev _ (List.getElem_mem hi2)
  have hls:lastI (l.take i) l[i].who<=l[i].began:=fold_le hev.2.1 fun e he hw=>by
   obtain ⟨j,hj,rfl⟩:=List.mem_iff_getElem.1 he;rw [List.length_take] at hj;rw [List.getElem_take] at hw⊢;exact (List.pairwise_iff_getElem.1 h.seq) j i (by omega) hi2 (by omega) hw
  have hup:∀ j,(hj:j+1=i)->(l[j]'(by omega)).ended<l[i].ended:=fun j hj=>(List.pairwise_iff_getElem.1 h.up) j i (by omega) hi2 (by omega)
  have hL0:=lsD_get (l.take i) hev.1;have hL1:=lsD_set (l.take i) l[i] hev.1;rw [<-es] at hL1
  have her:(l.map encEvA)[i]?=some (encEvA l[i]):=by rw [List.getElem?_map,List.getElem?_eq_getElem hi2];rfl
  obtain ⟨e,he⟩:∃ e,l[i]=e:=⟨_,rfl⟩;rw [he] at hev hls hup hL0 hL1 her;have hlen:(lsD (l.take i)).length=4:=rfl;obtain ⟨q1,q2,q3,q4,q5⟩:=hev
  have hg0:∀ j,j=e.who->(lsD (l.take i))[j]?=some (.int .i64 (lastI (l.take i) e.who)):=fun j z=>by rw [z];exact hL0
  have hg1:∀ j,j=e.who->(lsD (l.take i)).set j (.int .i64 (e.ended+1))=lsD (l.take (i+1)):=fun j z=>by rw [z];exact hL1
  refine idxK_nat (by omega) (w0 ?_);refine getRow_of her (aP ?_);refine idxK_nat (by omega) (w0 ?_)
  try (refine condK_of rfl ?_)
  refine (part_one (l:=lsD (l.take i)) (.int .i64 (lastI (l.take i) e.who)) (by first|rfl|simp only [killC_d]) (hg0 _ (by simp only [szs];omega)) ?_)
  conv=>whnf
  refine aA ?_;refine aP ?_
  refine bcase_p (fun z0=>?_) (fun z0=>?_)<;>conv=>whnf
  ·obtain ⟨j,hj⟩:∃ j,j+1=i:=⟨i-1,by omega⟩
   have hj2:j<l.length:=by omega
   have hu:=hup j hj
   have ei:(i:Int)-1=(j:Int):=by omega
   refine aP ?_;rw [ei];refine idxK_nat (by omega) (w0 ?_);refine getRow_of (x:=encEvA l[j]) (by simp [hj2]) (aW ?_);refine aP ?_;refine idxK_nat (by omega) (aP ?_)
   try (refine condK_of rfl ?_)
   refine (store_one (l:=lsD (l.take i)) (l3:=lsD (l.take (i+1))) (by first|rfl|simp only [killC_d]) (by first|omega|(simp only [szs];omega)) (hg1 _ (by simp only [szs];omega)) ?_)
   conv=>whnf
   refine aA ?_;refine aP ?_;exact ⟨i+1,by omega,by omega,(le0 (le_of_cov ⟨rfl,rfl,rfl,rfl,trivial⟩ ⟨rfl,trivial⟩ ⟨rfl,rfl,rfl,rfl⟩))⟩
  ·refine aP ?_;refine aP ?_;refine idxK_nat (by omega) (aP ?_)
   try (refine condK_of rfl ?_)
   refine (store_one (l:=lsD (l.take i)) (l3:=lsD (l.take (i+1))) (by first|rfl|simp only [killC_d]) (by first|omega|(simp only [szs];omega)) (hg1 _ (by simp only [szs];omega)) ?_)
   conv=>whnf
   refine aA ?_;refine aP ?_;exact ⟨i+1,by omega,by omega,(le0 (le_of_cov ⟨rfl,rfl,rfl,rfl,trivial⟩ ⟨rfl,trivial⟩ ⟨rfl,rfl,rfl,rfl⟩))⟩
 ·refine aP ?_;exact ret_of rfl rfl
def toE (e:EvA):Hy.Ev:=⟨e.who,e.op.1,e.op.2.1,e.op.2.2,e.res.1,e.res.2.1,e.res.2.2.1,e.res.2.2.2,e.began,e.done,e.ended⟩
theorem encE_map (l:List EvA):(l.map toE).map Hy.encE=l.map encEvA:=by rw [List.map_map];rfl
theorem evs_ok (l:List EvA) (hl:l.length<=1000000):OCall Tryz.prog 40 [.lst (l.map encEvA)] (l.map encEvA) 11:=by
 have h:=Hy.events_ok (l.map toE) (by rw [List.length_map];exact hl)
 rw [encE_map] at h;exact h
theorem step6 {m:MS} {k:Nat} {w:WA} (hk:m.ws[k]?=some w) (hs:w.st=6):(stepM m k).1.ws=m.ws.set k (leftW w):=by
 rw [stepM,if_neg (by omega),Int.toNat_natCast,hk];simp only [stepW,hs];rfl
theorem stV_six {m:MS} {k:Nat} (h:stV m k=6):∃ w,m.ws[k]?=some w/\w.st=6:=by
 rw [stV] at h
 cases e:m.ws[k]? with
 |none=>rw [e] at h;exact absurd (show (0:Int)=6 from h) (by decide)
 |some w=>rw [e] at h;exact ⟨w,rfl,by have h:(w.st:Int)=6:=h;omega⟩
theorem stV_left {m:MS} {k j:Nat} (h:stV m k=6) (hj:j=k\/stV m j≠6):stV (stepM m k).1 j≠6:=by
 obtain ⟨w,hk,hs⟩:=stV_six h;have hlt:=(List.getElem?_eq_some_iff.1 hk).1;rw [stV,step6 hk hs,List.getElem?_set]
 by_cases e:k=j
 ·subst e;rw [if_pos rfl,if_pos hlt];exact (by decide:(0:Int)≠6)
 ·rw [if_neg e]
  exact hj.resolve_left fun q=>e q.symm
theorem step_clk (m:MS) (k:Int):(stepM m k).1.clk<=m.clk+1:=(stepM_clk m k).1
theorem TG.ti {m:MS} (g:TG m):TiOk m.ev m.clk:=⟨g.ev,g.up,g.seq⟩
def nm10:List (Nat×Nat):=[(1000000,2000208),(1000001,2000209),(1000004,2000210)]
set_option maxRecDepth 20000 in
set_option maxHeartbeats 16000000 in
theorem order19_ok (many:Int) (m0:0<=many) (m1:many<=255) (pages:List Pg) (hp:pages.length<=9223372036854775807) (work:List (List MOp)) (hl:work.length<=9223372036854775807) (hl2:∀ l∈work,l.length<=9223372036854775807) (acts:List (Int×Int)) (ha:acts.length<=9223372036854775807):
  ACall Tryz.prog 10 [.int .u8 many,.lst (pages.map encP),.lst (work.map encTd),.lst (acts.map encI)] (.bool true):=by
 have hma:(acts.map encI).length=acts.length:=List.length_map ..
 have hmw:(work.map encTd).length=work.length:=List.length_map ..
 refine acall_of Tryz.func10 4 rfl (by kernel_rfl) (aP ?_);refine callX_pure (small19_ok work hl hl2) (aW ?_)
 refine bcase_p (fun q0=>?_) (fun q0=>?_)<;>conv=>whnf
 ·refine aP ?_;refine callX_pure awake19_ok (aP ?_);exact ret_of rfl rfl
 have hS:SmOk work:=by
  rcases Classical.em (SmOk work) with h|h
  ·exact h
  ·rw [smN_no h] at q0;exact absurd (by decide) q0
 obtain ⟨n,hn⟩:∃ n:Nat,1+many%8=n:=⟨(1+many%8).toNat,by omega⟩
 have n1:1<=n:=by omega
 have n8:n<=8:=by omega
 have h60:∀ l∈work,l.length<=60:=fun l h=>by have:=(hS.one l h).len;omega
 have hw:∀ l∈work,l.length<=1000:=fun l h=>by have:=(hS.one l h).len;omega
 have hB:=begin19_ok many m0 m1 pages hp work hS.n1 hS.n4 h60 n hn;have hI0:=HI.new n1 n8 pages hS.n1 hS.n4;have hc0:(begM n pages work).clk=0:=rfl;have hd0:=begM_doc n n1 n8 pages work;obtain ⟨M0,hM⟩:∃ M0,begM n pages work=M0:=⟨_,rfl⟩;rw [hM] at hB hI0 hc0 hd0;refine aP ?_;refine callX_ptr hB (Nat.le_of_ble_eq_true rfl) (aP ?_);have hokp:=hd0.okp;refine aloop (ι:=Nat) (fun k=>[(3,.d (.lst (acts.map encI))),(9,.ptr 2000208 0 0),(10,.d (.lst ((bg19 pages).map encP))),(12,.d (.int .i64 k))])
  (fun k=>[(2000208,.box (mCk 2000208 (runMS M0 (acts.take k))) false),(2000209,.row ((runMS M0 (acts.take k)).ws.map encWA) 11 false),(2000210,.row ((runMS M0 (acts.take k)).ev.map encEvA) 11 false)])
  (fun k=>k<=acts.length/\k<=300) (fun k=>300-k) 0 ⟨by omega,by decide⟩ (le0 (le_of_cov ⟨rfl,rfl,rfl,rfl,trivial⟩ ⟨rfl,rfl,rfl,trivial⟩ ⟨rfl,rfl,rfl,rfl⟩)) ?_
 rintro k ⟨hk,hk3⟩;have hI:=hI0.run (acts.take k)
 have hck:(runMS M0 (acts.take k)).clk<=k:=by
  have:=(run_clk (acts.take k) M0).1
  have:(acts.take k).length<=k:=by rw [List.length_take];omega
  omega
 have es:∀ hk2:k<acts.length,runMS M0 (acts.take (k+1))=(doMS (runMS M0 (acts.take k)) acts[k]).1:=fun hk2=>run_snoc hk2 M0
 obtain ⟨M,hM2⟩:∃ M,runMS M0 (acts.take k)=M:=⟨_,rfl⟩;rw [hM2] at hI hck;rw [hM2]
 conv=>whnf
 refine bcase_p (fun h5=>?_) (fun h5=>?_)<;>conv=>whnf
 rotate_left
 ·refine aP ?_;refine aloop (ι:=Nat×MS) (fun k=>[(9,.ptr 2000208 0 0),(10,.d (.lst ((bg19 pages).map encP))),(13,.d (.int .i64 k.1))])
   (fun k=>[(2000208,.box (mCk 2000208 k.2) false),(2000209,.row (k.2.ws.map encWA) 11 false),(2000210,.row (k.2.ev.map encEvA) 11 false)])
   (fun k=>k.1<=4/\HI (new9 pages).2 n work k.2/\k.2.clk<=1000+4*k.1/\ (k.1=0\/quB k.2=true)) (fun k=>4-k.1) (0,M) ⟨Nat.zero_le _,hI,by simp only [];omega,.inl rfl⟩ (le0 (le_of_cov ⟨rfl,rfl,rfl,trivial⟩ ⟨rfl,rfl,rfl,trivial⟩ ⟨rfl,rfl,rfl,rfl⟩)) ?_
  rintro ⟨q,M3⟩ ⟨hq,hI3,hc3,hqu⟩;simp only at hq hI3 hc3 hqu⊢
  conv=>whnf
  refine bcase_p (fun g1=>?_) (fun g1=>?_)<;>conv=>whnf
  rotate_left
  ·have hqq:quB M3=true:=hqu.resolve_left (by omega);obtain ⟨P,hP,hrp,hbad⟩:=hI3.rp hokp (quB_t.1 hqq);have hev:=hI3.evl
   have hme:(M3.ev.map encEvA).length=M3.ev.length:=List.length_map ..
   have hpg:=pages_m_ok M3 hP.inv.pj.fm;rw [pages_doc hP] at hpg;refine aP ?_;refine callH_blk (history_ok M3 (by omega)) nm10 rfl ⟨rfl,rfl,rfl,trivial⟩ rfl (aP ?_);refine callX_own (evs_ok M3.ev (by omega)) (aP ?_);refine callX_pure (replay_ok M3.ev (by omega) (new9 pages).2 P hrp hbad) (aP ?_);refine callH_blk (clock_ok M3) nm10 rfl ⟨rfl,rfl,rfl,trivial⟩ rfl (aP ?_);refine callX_pure (times_ok M3.ev (by omega) M3.clk (by omega) hI3.tg.ti) (aP ?_);refine callH_blk hpg nm10 rfl ⟨rfl,rfl,rfl,trivial⟩ rfl (aP ?_);refine callX_pure (Hy.same_ok (bgN P 16) (bgN P 16) (by have:=bg_len P;omega)) (w0 ?_);refine bcase_t (by simp) (aP ?_);refine callX_pure awake19_ok (aP ?_)
   first|exact ret_of rfl rfl|exact rfl
  refine callH_blk (quiet_ok M3) nm10 rfl ⟨rfl,rfl,rfl,trivial⟩ rfl (w0 ?_)
  refine bcase_intro (fun g2=>?_) (fun g2=>?_)<;>conv=>whnf
  rotate_left
  ·have hqq:quB M3=true:=by simpa using g2
   obtain ⟨P,hP,hrp,hbad⟩:=hI3.rp hokp (quB_t.1 hqq);have hev:=hI3.evl
   have hme:(M3.ev.map encEvA).length=M3.ev.length:=List.length_map ..
   have hpg:=pages_m_ok M3 hP.inv.pj.fm;rw [pages_doc hP] at hpg;refine aP ?_;refine callH_blk (history_ok M3 (by omega)) nm10 rfl ⟨rfl,rfl,rfl,trivial⟩ rfl (aP ?_);refine callX_own (evs_ok M3.ev (by omega)) (aP ?_);refine callX_pure (replay_ok M3.ev (by omega) (new9 pages).2 P hrp hbad) (aP ?_);refine callH_blk (clock_ok M3) nm10 rfl ⟨rfl,rfl,rfl,trivial⟩ rfl (aP ?_);refine callX_pure (times_ok M3.ev (by omega) M3.clk (by omega) hI3.tg.ti) (aP ?_);refine callH_blk hpg nm10 rfl ⟨rfl,rfl,rfl,trivial⟩ rfl (aP ?_);refine callX_pure (Hy.same_ok (bgN P 16) (bgN P 16) (by have:=bg_len P;omega)) (w0 ?_);refine bcase_t (by simp) (aP ?_);refine callX_pure awake19_ok (aP ?_)
   first|exact ret_of rfl rfl|exact rfl
  refine aP ?_;refine aloop (ι:=Nat×MS) (fun k=>[(9,.ptr 2000208 0 0),(10,.d (.lst ((bg19 pages).map encP))),(13,.d (.int .i64 q)),(57,.d (.int .i64 k.1))])
   (fun k=>[(2000208,.box (mCk 2000208 k.2) false),(2000209,.row (k.2.ws.map encWA) 11 false),(2000210,.row (k.2.ev.map encEvA) 11 false)])
   (fun k=>k.1<=4/\HI (new9 pages).2 n work k.2/\k.2.clk<=1000+4*q+k.1/\ ∀ j,j<k.1->stV k.2 j≠6) (fun k=>4-k.1) (0,M3) ⟨Nat.zero_le _,hI3,by simp only [];omega,fun j hj=>absurd hj (Nat.not_lt_zero _)⟩ (le0 (le_of_cov ⟨rfl,rfl,rfl,rfl,trivial⟩ ⟨rfl,rfl,rfl,trivial⟩ ⟨rfl,rfl,rfl,rfl⟩)) ?_
  rintro ⟨u,M4⟩ ⟨hu,hI4,hc4,hn4⟩;simp only at hu hI4 hc4 hn4⊢
  conv=>whnf
  refine bcase_p (fun g3=>?_) (fun g3=>?_)<;>conv=>whnf
  rotate_left
  ·refine aP ?_;exact ⟨(q+1,M4),⟨by simp only [];omega,hI4,by simp only [];omega,.inr (quB_t.2 fun j hj=>hn4 j (by omega))⟩,by simp only [];omega,(le0 (le_of_cov ⟨rfl,rfl,rfl,trivial⟩ ⟨rfl,rfl,rfl,trivial⟩ ⟨rfl,rfl,rfl,rfl⟩))⟩
  refine aP ?_;refine callH_blk (stateV_ok M4 u) nm10 rfl ⟨rfl,rfl,rfl,trivial⟩ rfl (w0 ?_)
  refine bcase_p (fun g4=>?_) (fun g4=>?_)<;>conv=>whnf
  ·obtain ⟨t,t0,t1,gM⟩:=hI4.g.ex;have hst:=stepM_ok gM t1 hw (by omega) u;have hIs:=hI4.step u;have hcs:=step_clk M4 u
   have hns:∀ j,j<u+1->stV (stepM M4 u).1 j≠6:=fun j hj=>stV_left g4 (by
    by_cases e:j=u
    ·exact .inl e
    ·exact .inr (hn4 j (by omega)))
   refine aP ?_;refine callH_blk hst nm10 rfl ⟨rfl,rfl,rfl,trivial⟩ rfl (aP ?_);exact ⟨(u+1,(stepM M4 u).1),⟨by simp only [];omega,hIs,by simp only [];omega,hns⟩,by simp only [];omega,(le0 (le_of_cov ⟨rfl,rfl,rfl,rfl,trivial⟩ ⟨rfl,rfl,rfl,trivial⟩ ⟨rfl,rfl,rfl,rfl⟩))⟩
  ·refine aP ?_
   exact ⟨(u+1,M4),⟨by simp only [];omega,hI4,by simp only [];omega,fun j hj=>by
    by_cases e:j=u
    ·rw [e];exact g4
    ·exact hn4 j (by simp only [] at hj;omega)⟩,by simp only [];omega,(le0 (le_of_cov ⟨rfl,rfl,rfl,rfl,trivial⟩ ⟨rfl,rfl,rfl,trivial⟩ ⟨rfl,rfl,rfl,rfl⟩))⟩
 refine bcase_p (fun h6=>?_) (fun h6=>?_)<;>conv=>whnf
 rotate_left
 ·refine aP ?_;refine aloop (ι:=Nat×MS) (fun k=>[(9,.ptr 2000208 0 0),(10,.d (.lst ((bg19 pages).map encP))),(13,.d (.int .i64 k.1))])
   (fun k=>[(2000208,.box (mCk 2000208 k.2) false),(2000209,.row (k.2.ws.map encWA) 11 false),(2000210,.row (k.2.ev.map encEvA) 11 false)])
   (fun k=>k.1<=4/\HI (new9 pages).2 n work k.2/\k.2.clk<=1000+4*k.1/\ (k.1=0\/quB k.2=true)) (fun k=>4-k.1) (0,M) ⟨Nat.zero_le _,hI,by simp only [];omega,.inl rfl⟩ (le0 (le_of_cov ⟨rfl,rfl,rfl,trivial⟩ ⟨rfl,rfl,rfl,trivial⟩ ⟨rfl,rfl,rfl,rfl⟩)) ?_
  rintro ⟨q,M3⟩ ⟨hq,hI3,hc3,hqu⟩;simp only at hq hI3 hc3 hqu⊢
  conv=>whnf
  refine bcase_p (fun g1=>?_) (fun g1=>?_)<;>conv=>whnf
  rotate_left
  ·have hqq:quB M3=true:=hqu.resolve_left (by omega);obtain ⟨P,hP,hrp,hbad⟩:=hI3.rp hokp (quB_t.1 hqq);have hev:=hI3.evl
   have hme:(M3.ev.map encEvA).length=M3.ev.length:=List.length_map ..
   have hpg:=pages_m_ok M3 hP.inv.pj.fm;rw [pages_doc hP] at hpg;refine aP ?_;refine callH_blk (history_ok M3 (by omega)) nm10 rfl ⟨rfl,rfl,rfl,trivial⟩ rfl (aP ?_);refine callX_own (evs_ok M3.ev (by omega)) (aP ?_);refine callX_pure (replay_ok M3.ev (by omega) (new9 pages).2 P hrp hbad) (aP ?_);refine callH_blk (clock_ok M3) nm10 rfl ⟨rfl,rfl,rfl,trivial⟩ rfl (aP ?_);refine callX_pure (times_ok M3.ev (by omega) M3.clk (by omega) hI3.tg.ti) (aP ?_);refine callH_blk hpg nm10 rfl ⟨rfl,rfl,rfl,trivial⟩ rfl (aP ?_);refine callX_pure (Hy.same_ok (bgN P 16) (bgN P 16) (by have:=bg_len P;omega)) (w0 ?_);refine bcase_t (by simp) (aP ?_);refine callX_pure awake19_ok (aP ?_)
   first|exact ret_of rfl rfl|exact rfl
  refine callH_blk (quiet_ok M3) nm10 rfl ⟨rfl,rfl,rfl,trivial⟩ rfl (w0 ?_)
  refine bcase_intro (fun g2=>?_) (fun g2=>?_)<;>conv=>whnf
  rotate_left
  ·have hqq:quB M3=true:=by simpa using g2
   obtain ⟨P,hP,hrp,hbad⟩:=hI3.rp hokp (quB_t.1 hqq);have hev:=hI3.evl
   have hme:(M3.ev.map encEvA).length=M3.ev.length:=List.length_map ..
   have hpg:=pages_m_ok M3 hP.inv.pj.fm;rw [pages_doc hP] at hpg;refine aP ?_;refine callH_blk (history_ok M3 (by omega)) nm10 rfl ⟨rfl,rfl,rfl,trivial⟩ rfl (aP ?_);refine callX_own (evs_ok M3.ev (by omega)) (aP ?_);refine callX_pure (replay_ok M3.ev (by omega) (new9 pages).2 P hrp hbad) (aP ?_);refine callH_blk (clock_ok M3) nm10 rfl ⟨rfl,rfl,rfl,trivial⟩ rfl (aP ?_);refine callX_pure (times_ok M3.ev (by omega) M3.clk (by omega) hI3.tg.ti) (aP ?_);refine callH_blk hpg nm10 rfl ⟨rfl,rfl,rfl,trivial⟩ rfl (aP ?_);refine callX_pure (Hy.same_ok (bgN P 16) (bgN P 16) (by have:=bg_len P;omega)) (w0 ?_);refine bcase_t (by simp) (aP ?_);refine callX_pure awake19_ok (aP ?_)
   first|exact ret_of rfl rfl|exact rfl
  refine aP ?_;refine aloop (ι:=Nat×MS) (fun k=>[(9,.ptr 2000208 0 0),(10,.d (.lst ((bg19 pages).map encP))),(13,.d (.int .i64 q)),(57,.d (.int .i64 k.1))])
   (fun k=>[(2000208,.box (mCk 2000208 k.2) false),(2000209,.row (k.2.ws.map encWA) 11 false),(2000210,.row (k.2.ev.map encEvA) 11 false)])
   (fun k=>k.1<=4/\HI (new9 pages).2 n work k.2/\k.2.clk<=1000+4*q+k.1/\ ∀ j,j<k.1->stV k.2 j≠6) (fun k=>4-k.1) (0,M3) ⟨Nat.zero_le _,hI3,by simp only [];omega,fun j hj=>absurd hj (Nat.not_lt_zero _)⟩ (le0 (le_of_cov ⟨rfl,rfl,rfl,rfl,trivial⟩ ⟨rfl,rfl,rfl,trivial⟩ ⟨rfl,rfl,rfl,rfl⟩)) ?_
  rintro ⟨u,M4⟩ ⟨hu,hI4,hc4,hn4⟩;simp only at hu hI4 hc4 hn4⊢
  conv=>whnf
  refine bcase_p (fun g3=>?_) (fun g3=>?_)<;>conv=>whnf
  rotate_left
  ·refine aP ?_;exact ⟨(q+1,M4),⟨by simp only [];omega,hI4,by simp only [];omega,.inr (quB_t.2 fun j hj=>hn4 j (by omega))⟩,by simp only [];omega,(le0 (le_of_cov ⟨rfl,rfl,rfl,trivial⟩ ⟨rfl,rfl,rfl,trivial⟩ ⟨rfl,rfl,rfl,rfl⟩))⟩
  refine aP ?_;refine callH_blk (stateV_ok M4 u) nm10 rfl ⟨rfl,rfl,rfl,trivial⟩ rfl (w0 ?_)
  refine bcase_p (fun g4=>?_) (fun g4=>?_)<;>conv=>whnf
  ·obtain ⟨t,t0,t1,gM⟩:=hI4.g.ex;have hst:=stepM_ok gM t1 hw (by omega) u;have hIs:=hI4.step u;have hcs:=step_clk M4 u
   have hns:∀ j,j<u+1->stV (stepM M4 u).1 j≠6:=fun j hj=>stV_left g4 (by
    by_cases e:j=u
    ·exact .inl e
    ·exact .inr (hn4 j (by omega)))
   refine aP ?_;refine callH_blk hst nm10 rfl ⟨rfl,rfl,rfl,trivial⟩ rfl (aP ?_);exact ⟨(u+1,(stepM M4 u).1),⟨by simp only [];omega,hIs,by simp only [];omega,hns⟩,by simp only [];omega,(le0 (le_of_cov ⟨rfl,rfl,rfl,rfl,trivial⟩ ⟨rfl,rfl,rfl,trivial⟩ ⟨rfl,rfl,rfl,rfl⟩))⟩
  ·refine aP ?_
   exact ⟨(u+1,M4),⟨by simp only [];omega,hI4,by simp only [];omega,fun j hj=>by
    by_cases e:j=u
    ·rw [e];exact g4
    ·exact hn4 j (by simp only [] at hj;omega)⟩,by simp only [];omega,(le0 (le_of_cov ⟨rfl,rfl,rfl,rfl,trivial⟩ ⟨rfl,rfl,rfl,trivial⟩ ⟨rfl,rfl,rfl,rfl⟩))⟩
 have hk2:k<acts.length:=by omega
 refine aP ?_;refine idxK_nat (by omega) (w0 ?_);refine getRow_of (x:=encI acts[k]) (by simp [hk2]) (aW ?_);refine callH_blk (doL_ok hI.g hw (by omega) acts[k]) nm10 rfl ⟨rfl,rfl,rfl,trivial⟩ rfl (aP ?_);have e:=es hk2;rw [hM2] at e;refine ⟨k+1,⟨by omega,by omega⟩,by omega,?_⟩;rw [e];exact (le0 (le_of_cov ⟨rfl,rfl,rfl,rfl,trivial⟩ ⟨rfl,rfl,rfl,trivial⟩ ⟨rfl,rfl,rfl,rfl⟩))
end Go.Lk
