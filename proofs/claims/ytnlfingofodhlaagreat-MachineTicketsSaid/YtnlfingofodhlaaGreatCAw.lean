/-
  What is proved here: what functions of the program compute, and what follows; no condition beyond each theorem's own.
-/
import Derived.Test.YtnlfingofodhlaaGreatCAi
import Derived.Test.YtnlfingofodhlaaGreatCAk
import Derived.Test.YtnlfingofodhlaaGreatCAm
import Derived.Test.YtnlfingofodhlaaGreatCAn
import Derived.Test.YtnlfingofodhlaaGreatCAt
import Derived.Test.YtnlfingofodhlaaGreatCAv
set_option linter.unusedSimpArgs false
set_option linter.unusedVariables false
set_option linter.unnecessarySimpa false
set_option linter.unusedSectionVars false
namespace Go.Lk
open Go Go.Proofs Go.RowKit
theorem kids:Kids Tryz.prog (·<Tryz.prog.types.size):=kids_rows (by kernel_rfl) (by kernel_rfl)
theorem sizes:∀ t e,t<Tryz.prog.types.size->Tryz.prog.underlying t=some (.slice e)->0<Tryz.prog.cellsOf e:=sliceSize_out (by kernel_rfl)
theorem own:ownKnob Tryz.prog.godebug=none:=by kernel_rfl
theorem fit_pg {m:Nat} {ds:List D} (h:Fit T m 57 ds):∃ x:Pg,ds=encP x/\True:=by
 obtain ⟨k,a,r,rfl,ha,b,r2,rfl,hb,c,r3,rfl,hc,rfl⟩:=fit_struct (fs:=[(0,3),(1,3),(2,9)]) rfl h;obtain ⟨x,rfl,_⟩:=fit_int (k:=.i64) rfl ha;obtain ⟨y,rfl,_⟩:=fit_int (k:=.i64) rfl hb;obtain ⟨z,rfl,_⟩:=fit_str rfl hc;exact ⟨(x,y,z),rfl,trivial⟩
theorem fit_mo {m:Nat} {ds:List D} (h:Fit T m 75 ds):∃ x:MOp,ds=encMO x/\True:=by
 obtain ⟨k,a,r,rfl,ha,b,r2,rfl,hb,c,r3,rfl,hc,rfl⟩:=fit_struct (fs:=[(0,3),(1,3),(2,9)]) rfl h;obtain ⟨x,rfl,_⟩:=fit_int (k:=.i64) rfl ha;obtain ⟨y,rfl,_⟩:=fit_int (k:=.i64) rfl hb;obtain ⟨z,rfl,_⟩:=fit_str rfl hc;exact ⟨(x,y,z),rfl,trivial⟩
theorem fit_ac {m:Nat} {ds:List D} (h:Fit T m 33 ds):∃ x:Int×Int,ds=encI x/\True:=by
 obtain ⟨k,a,r,rfl,ha,b,r2,rfl,hb,rfl⟩:=fit_struct (fs:=[(0,3),(1,3)]) rfl h;obtain ⟨x,rfl,_⟩:=fit_int (k:=.i64) rfl ha;obtain ⟨y,rfl,_⟩:=fit_int (k:=.i64) rfl hb;exact ⟨(x,y),rfl,trivial⟩
theorem fit_td {m:Nat} {ds:List D} (h:Fit T m 64 ds):∃ x:List MOp,ds=encTd x/\x.length<=9223372036854775807:=by
 obtain ⟨l,rfl,b,_⟩:=fit_rows (f:=encMO) (Q:=fun _=>True) (e:=75) rfl h fun m x h=>fit_mo h
 exact ⟨l,rfl,b⟩
theorem pages_arg {n:Nat} {d:D} (h:FitV T n 22 d):∃ l:List Pg,d=.lst (l.map encP) /\l.length<=9223372036854775807:=by
 obtain ⟨l,rfl,b,_⟩:=fitV_rows (f:=encP) (Q:=fun _=>True) (e:=57) rfl h fun m x h=>fit_pg h
 exact ⟨l,rfl,b⟩
theorem work_arg {n:Nat} {d:D} (h:FitV T n 23 d):∃ l:List (List MOp),d=.lst (l.map encTd) /\l.length<=9223372036854775807/\ ∀ x∈l,x.length<=9223372036854775807:=by
 obtain ⟨l,rfl,b,q⟩:=fitV_rows (f:=encTd) (Q:=fun x=>x.length<=9223372036854775807) (e:=64) rfl h fun m x h=>fit_td h
 exact ⟨l,rfl,b,q⟩
theorem acts_arg {n:Nat} {d:D} (h:FitV T n 24 d):∃ l:List (Int×Int),d=.lst (l.map encI) /\l.length<=9223372036854775807:=by
 obtain ⟨l,rfl,b,_⟩:=fitV_rows (f:=encI) (Q:=fun _=>True) (e:=33) rfl h fun m x h=>fit_ac h
 exact ⟨l,rfl,b⟩
theorem bytes_arg {n:Nat} {d:D} (h:FitV T n 63 d):∃ l:List Int,d=.lst (l.map encU) /\ (∀ x∈l,0<=x/\x<=255) /\l.length<=9223372036854775807:=by
 obtain ⟨l,rfl,b,q⟩:=fitV_rows (f:=encU) (Q:=fun x=>0<=x/\x<=255) (e:=5) rfl h fun m x h=>by
  obtain ⟨x,rfl,w⟩:=fit_int (k:=.u8) rfl h;exact ⟨x,rfl,(wf_u8 w).1,(wf_u8 w).2⟩
 exact ⟨l,rfl,q,b⟩
theorem u8_arg {n:Nat} {d:D} (h:FitV T n 5 d):∃ a:Int,d=.int .u8 a/\0<=a/\a<=255:=by
 obtain ⟨a,rfl,w⟩:=fitV_int (k:=.u8) rfl h;exact ⟨a,rfl,(wf_u8 w).1,(wf_u8 w).2⟩
theorem int_arg {n:Nat} {d:D} (h:FitV T n 3 d):∃ a:Int,d=.int .i64 a:=by
 obtain ⟨a,rfl,w⟩:=fitV_int (k:=.i64) rfl h;exact ⟨a,rfl⟩
noncomputable def runMS (m:MS) (l:List (Int×Int)):MS:=l.foldl (fun m a=>(doMS m a).1) m
theorem run_snoc {l:List (Int×Int)} {k:Nat} (hk:k<l.length) (m:MS):runMS m (l.take (k+1))=(doMS (runMS m (l.take k)) l[k]).1:=by
 rw [runMS,take_snoc hk,List.foldl_append];rfl
theorem run_ind {Q:MS->Prop} (hQ:∀ m a,Q m->Q (doMS m a).1):∀ (l:List (Int×Int)) {m:MS},Q m->Q (runMS m l)
 | [],m,h=>h
 |a::l,m,h=>run_ind hQ l (m:=(doMS m a).1) (hQ m a h)
theorem run_clk:∀ (l:List (Int×Int)) (m:MS),(runMS m l).clk<=m.clk+l.length/\m.clk<= (runMS m l).clk
 | [],m=>by constructor<;>simp [runMS]
 |a::l,m=>by
  have h1:=doMS_clk m a;have h2:=run_clk l (doMS m a).1;have e:runMS m (a::l)=runMS (doMS m a).1 l:=rfl;rw [e,List.length_cons];omega
theorem begM_doc (n:Nat) (n1:1<=n) (n8:n<=8) (pages:List Pg) (work:List (List MOp)):DocI (begM n pages work).p (new9 pages).2 n:=
 ⟨Inv.new n1 n8 (NI9.ofG pages).rest (NI9.ofG pages).z (NI9.ofG pages).on (Int.le_refl 0),List.length_replicate ..⟩
theorem begM_mg (n:Nat) (n1:1<=n) (n8:n<=8) (pages:List Pg) (work:List (List MOp)) (h1:1<=work.length) (h4:work.length<=4):MG work 0 (begM n pages work):=
 MG.new n1 n8 (List.length_replicate ..) (begM_doc n n1 n8 pages work).gd h1 h4
theorem begM_mge (n:Nat) (n1:1<=n) (n8:n<=8) (pages:List Pg) (work:List (List MOp)) (h1:1<=work.length) (h4:work.length<=4):MGE work (begM n pages work):=
 ⟨0,Int.le_refl 0,by decide,begM_mg n n1 n8 pages work h1 h4⟩
inductive Tr (m:MS):MS->Prop
 |same (h':HA) (lat':List LA) (s':SA) (c':Int) (hc:c'=m.clk\/c'=m.clk+1):Tr m ⟨m.ws,m.p,h',lat',s',c',m.ev⟩
 |age (a:Int):Tr m (ageM m a)
 |beg (k:Nat) (w:WA) (h':HA) (hk:m.ws[k]?=some w) (hs:w.st=0) (he:w.ended<w.todo.length):Tr m ⟨m.ws.set k {w with began:=m.clk,st:=1},m.p,h',m.lat,m.s,m.clk+1,m.ev⟩
 |mid (k:Nat) (w:WA) (a p:Bool) (s:Nat) (h':HA) (lat':List LA) (s':SA) (hk:m.ws[k]?=some w) (h1:1<=w.st) (h5:w.st<6) (h2:2<=s) (h6:s<=5):Tr m ⟨m.ws.set k {w with asked:=a,pinned:=p,st:=s},m.p,h',lat',s',m.clk+1,m.ev⟩
 |wake (k:Nat) (w:WA) (s':SA) (hk:m.ws[k]?=some w) (hs:w.st=4):Tr m ⟨m.ws.set k {w with st:=5},m.p,m.h,m.lat,s',m.clk,m.ev⟩
 |fail (k:Nat) (w:WA) (s':SA) (hk:m.ws[k]?=some w) (hs:w.st=4):Tr m ⟨m.ws.set k (tellW w (8,zP) (m.clk-1)),m.p,m.h,m.lat,s',m.clk,m.ev⟩
 |refuse (k:Nat) (w:WA) (hk:m.ws[k]?=some w) (hs:w.st=1) (hr:refB w.op=true):Tr m ⟨m.ws.set k (tellW w (1,zP) m.clk),m.p,m.h,m.lat,m.s,m.clk+1,m.ev⟩
 |work (k:Nat) (w:WA) (hk:m.ws[k]?=some w) (hs:w.st=5) (hr:refB w.op=false):Tr m ⟨m.ws.set k (tellW w (workP m.p w.op).2 m.clk),(workP m.p w.op).1,m.h,m.lat,m.s,m.clk+1,m.ev⟩
 |leave (k:Nat) (w:WA) (h':HA) (lat':List LA) (hk:m.ws[k]?=some w) (hs:w.st=6):Tr m ⟨m.ws.set k (leftW w),m.p,h',lat',m.s,m.clk+1,m.ev++[⟨k,w.op,w.res,w.began,w.done,m.clk⟩]⟩
theorem tr_step {m:MS} (o:MOk m) (k:Int):Tr m (stepM m k).1:=by
 rw [stepM]
 split
 ·exact .same m.h m.lat m.s m.clk (.inl rfl)
 split
 ·exact .same m.h m.lat m.s m.clk (.inl rfl)
 ·rename_i w hk;have v:=o.w _ w hk;have no:Tr m {m with clk:=m.clk+1}:=.same m.h m.lat m.s (m.clk+1) (.inr rfl);unfold stepW
  split
  ·rename_i hs
   split
   ·exact no
   ·exact .beg _ w _ hk hs (by omega)
  ·rename_i hs
   split
   ·exact no
   split
   ·rename_i hr;exact .refuse _ w hk hs hr
   ·exact .mid _ w true w.pinned 2 _ _ _ hk (by omega) (by omega) (by omega) (by omega)
  ·rename_i hs
   split
   ·exact no
   ·exact .mid _ w w.asked w.pinned 3 _ _ _ hk (by omega) (by omega) (by omega) (by omega)
  ·rename_i hs
   split
   ·exact no
   split
   ·exact .mid _ w w.asked true 4 _ _ _ hk (by omega) (by omega) (by omega) (by omega)
   ·exact .mid _ w w.asked true 5 _ _ _ hk (by omega) (by omega) (by omega) (by omega)
  ·rename_i hs;exact .work _ w hk hs (v.val (v.ask (by omega) (by omega)))
  ·rename_i hs;exact .leave _ w _ _ hk hs
  ·exact no
theorem tr_fin {m:MS} (o:MOk m) (i:Int) (b:Bool):Tr m (finM m i b).1:=by
 rw [finM]
 split
 ·exact .same m.h m.lat m.s m.clk (.inl rfl)
 split
 ·exact .same m.h m.lat _ m.clk (.inl rfl)
 ·split
  ·exact .same m.h m.lat _ m.clk (.inl rfl)
  ·rename_i w hk
   split
   ·exact .same m.h m.lat _ m.clk (.inl rfl)
   ·rename_i hs;unfold toldW
    split
    ·exact .fail _ w _ hk (by omega)
    ·exact .wake _ w _ hk (by omega)
theorem tr_do {m:MS} (o:MOk m) (a:Int×Int):Tr m (doMS m a).1:=by
 rw [doMS];repeat' split
 ·exact .same m.h m.lat _ m.clk (.inl rfl)
 ·exact tr_fin o _ _
 ·exact .age _
 ·exact tr_step o _
 ·exact tr_step o _
def mdocX (P:Nat->Pg) (o:MOp):(Nat->Pg)×MRes:=if refB o=true then (P,(1,zP)) else mdoc P o
theorem mdocX_8 (P:Nat->Pg) (o:MOp):(mdocX P o).2.1≠8:=by
 rw [mdocX]
 split
 ·exact (by decide:(1:Int)≠8)
 rw [mdoc];repeat' split
 all_goals first|exact (by decide:(4:Int)≠8)|exact (by decide:(0:Int)≠8)|exact (by decide:(3:Int)≠8)|exact (by decide:(5:Int)≠8)|exact (by decide:(7:Int)≠8)
theorem bg_len (P:Nat->Pg):(bgN P 16).length<=16:=fm_len _ _
theorem bg_filter (P:Nat->Pg):∀ l:List Nat,l.filterMap (bgAt P)=(l.map fun k=>P (k+1)).filter fun p=>!decide (p.1=0)
 | []=>rfl
 |k::l=>by
  rw [List.filterMap_cons,List.map_cons,List.filter_cons,bgAt,bg_filter P l]
  by_cases e:(P (k+1)).1=0
  ·rw [if_neg (fun g=>g e),decide_eq_true e];rfl
  ·rw [if_pos e,decide_eq_false e];rfl
theorem set_some {ws:List WA} {k j:Nat} {w v:WA} (h:(ws.set k w)[j]?=some v):(j=k/\v=w) \/ (j≠k/\ws[j]?=some v):=by
 rw [List.getElem?_set] at h
 split at h
 ·rename_i e;subst e
  split at h
  ·cases h;exact .inl ⟨rfl,rfl⟩
  ·cases h
 ·rename_i e;exact .inr ⟨fun g=>e g.symm,h⟩
def opsK (l:List EvA) (k:Nat):List MOp:=(l.filter fun e=>e.who==k).map (·.op)
theorem opsK_snoc (l:List EvA) (e:EvA) (k:Nat):opsK (l++[e]) k=opsK l k++(if e.who=k then [e.op] else []):=by
 rw [opsK,List.filter_append,List.map_append,<-opsK]
 by_cases h:e.who=k
 ·rw [if_pos h];simp [h]
 ·rw [if_neg h];simp [h]
structure PG (m:MS):Prop where
 who:∀ e∈m.ev,e.who<m.ws.length
 ops:∀ (k:Nat) (w:WA),m.ws[k]?=some w->opsK m.ev k=w.todo.take w.ended
 bu:∀ (k:Nat) (w:WA),m.ws[k]?=some w->w.st≠0->w.ended<w.todo.length
theorem PG.upd {m:MS} (g:PG m) {k:Nat} {w w':WA} {p':PS} {h':HA} {lat':List LA} {s':SA} {c':Int} (hk:m.ws[k]?=some w) (e1:w'.todo=w.todo) (e2:w'.ended=w.ended) (hb:w.ended<w.todo.length):PG ⟨m.ws.set k w',p',h',lat',s',c',m.ev⟩:=by
 refine ⟨fun e he=>by show e.who<(m.ws.set k w').length;rw [List.length_set];exact g.who e he,fun j v hj=>?_,fun j v hj hs=>?_⟩
 ·rcases set_some hj with ⟨rfl,rfl⟩|⟨_,h⟩
  ·rw [e1,e2];exact g.ops _ w hk
  ·exact g.ops j v h
 ·rcases set_some hj with ⟨rfl,rfl⟩|⟨_,h⟩
  ·rw [e1,e2];exact hb
  ·exact g.bu j v h hs
theorem PG.tr {m m':MS} (g:PG m) (t:Tr m m'):PG m':=by
 cases t with
 |same h' lat' s' c' hc=>exact ⟨g.who,g.ops,g.bu⟩
 |age a=>exact ⟨g.who,g.ops,g.bu⟩
 |beg k w h' hk hs he=>exact g.upd hk rfl rfl he
 |mid k w a p s h' lat' s' hk h1 h5 h2 h6=>exact g.upd hk rfl rfl (g.bu k w hk (by omega))
 |wake k w s' hk hs=>exact g.upd hk rfl rfl (g.bu k w hk (by omega))
 |fail k w s' hk hs=>exact g.upd hk rfl rfl (g.bu k w hk (by omega))
 |refuse k w hk hs hr=>exact g.upd hk rfl rfl (g.bu k w hk (by omega))
 |work k w hk hs hr=>exact g.upd hk rfl rfl (g.bu k w hk (by omega))
 |leave k w h' lat' hk hs=>
  have hlt:=(List.getElem?_eq_some_iff.1 hk).1;have hb:=g.bu k w hk (by omega);refine ⟨fun e he=>?_,fun j v hj=>?_,fun j v hj hs'=>?_⟩
  ·show e.who<(m.ws.set k (leftW w)).length;rw [List.length_set]
   rcases List.mem_append.1 he with he|he
   ·exact g.who e he
   ·rw [List.mem_singleton.1 he];exact hlt
  ·show opsK (m.ev++[_]) j=_;rw [opsK_snoc]
   rcases set_some hj with ⟨rfl,rfl⟩|⟨hne,h⟩
   ·rw [if_pos rfl,g.ops _ w hk];show _++[w.op]=w.todo.take (w.ended+1)
    rw [take_snoc hb,WA.op,List.getElem?_eq_getElem hb];rfl
   ·rw [if_neg (fun e=>hne e.symm),List.append_nil];exact g.ops j v h
  ·rcases set_some hj with ⟨rfl,rfl⟩|⟨_,h⟩
   ·exact absurd rfl hs'
   ·exact g.bu j v h hs'
structure TG (m:MS):Prop where
 c0:0<=m.clk
 n4:m.ws.length<=4
 ev:∀ e∈m.ev,e.who<4/\0<=e.began/\e.began<e.done/\e.done<e.ended/\e.ended<m.clk
 up:m.ev.Pairwise fun a b=>a.ended<b.ended
 seq:m.ev.Pairwise fun a b=>a.who=b.who->a.ended<b.began
 w1:∀ (k:Nat) (w:WA),m.ws[k]?=some w->w.st≠0->0<=w.began/\w.began<m.clk/\ ∀ e∈m.ev,e.who=k->e.ended<w.began
 w2:∀ (k:Nat) (w:WA),m.ws[k]?=some w->2<=w.st->w.began+1<m.clk
 w6:∀ (k:Nat) (w:WA),m.ws[k]?=some w->w.st=6->w.began<w.done/\w.done<m.clk
theorem TG.upd {m:MS} (g:TG m) {k:Nat} {w':WA} {p':PS} {h':HA} {lat':List LA} {s':SA} {c':Int} (hc:m.clk<=c')
  (h1:w'.st≠0->0<=w'.began/\w'.began<c'/\ ∀ e∈m.ev,e.who=k->e.ended<w'.began) (h2:2<=w'.st->w'.began+1<c') (h6:w'.st=6->w'.began<w'.done/\w'.done<c'):TG ⟨m.ws.set k w',p',h',lat',s',c',m.ev⟩:=by
 refine ⟨by have:=g.c0;show 0<=c';omega,by show (m.ws.set k w').length<=4;rw [List.length_set];exact g.n4,fun e he=>?_,g.up,g.seq,fun j v hj hs=>?_,fun j v hj hs=>?_,fun j v hj hs=>?_⟩
 ·have:=g.ev e he;show _/\_/\_/\_/\e.ended<c';omega
 ·rcases set_some hj with ⟨rfl,rfl⟩|⟨_,h⟩
  ·exact h1 hs
  ·have:=g.w1 j v h hs;exact ⟨this.1,by show _<c';omega,this.2.2⟩
 ·rcases set_some hj with ⟨rfl,rfl⟩|⟨_,h⟩
  ·exact h2 hs
  ·have:=g.w2 j v h hs
   show _<c';omega
 ·rcases set_some hj with ⟨rfl,rfl⟩|⟨_,h⟩
  ·exact h6 hs
  ·have:=g.w6 j v h hs;exact ⟨this.1,by show _<c';omega⟩
theorem TG.tr {m m':MS} (g:TG m) (t:Tr m m'):TG m':=by
 have c0:=g.c0
 cases t with
 |same h' lat' s' c' hc=>
  refine ⟨by show 0<=c';omega,g.n4,fun e he=>?_,g.up,g.seq,fun j v hj hs=>?_,fun j v hj hs=>?_,fun j v hj hs=>?_⟩
  ·have:=g.ev e he;show _/\_/\_/\_/\e.ended<c';omega
  ·have:=g.w1 j v hj hs;exact ⟨this.1,by show _<c';omega,this.2.2⟩
  ·have:=g.w2 j v hj hs
   show _<c';omega
  ·have:=g.w6 j v hj hs;exact ⟨this.1,by show _<c';omega⟩
 |age a=>exact ⟨g.c0,g.n4,g.ev,g.up,g.seq,g.w1,g.w2,g.w6⟩
 |beg k w h' hk hs he=>
  refine g.upd (by omega) (fun _=>⟨c0,by show m.clk<m.clk+1;omega,fun e he _=>(g.ev e he).2.2.2.2⟩) (fun q=>absurd (show 2<=1 from q) (by decide)) (fun q=>absurd (show 1=6 from q) (by decide))
 |mid k w a p s h' lat' s' hk h1 h5 h2 h6=>
  have a1:=g.w1 k w hk (by omega);refine g.upd (by omega) (fun _=>⟨a1.1,by show w.began<m.clk+1;omega,a1.2.2⟩) (fun _=>by show w.began+1<m.clk+1;omega) (fun q=>absurd (show s=6 from q) (by omega))
 |wake k w s' hk hs=>
  have a1:=g.w1 k w hk (by omega);have a2:=g.w2 k w hk (by omega);exact g.upd (by omega) (fun _=>a1) (fun _=>a2) (fun q=>absurd (show 5=6 from q) (by decide))
 |fail k w s' hk hs=>
  have a1:=g.w1 k w hk (by omega);have a2:=g.w2 k w hk (by omega);exact g.upd (by omega) (fun _=>a1) (fun _=>a2) (fun _=>⟨by show w.began<m.clk-1;omega,by show m.clk-1<m.clk;omega⟩)
 |refuse k w hk hs hr=>
  have a1:=g.w1 k w hk (by omega);exact g.upd (by omega) (fun _=>⟨a1.1,by show w.began<m.clk+1;omega,a1.2.2⟩) (fun _=>by show w.began+1<m.clk+1;omega) (fun _=>⟨a1.2.1,by show m.clk<m.clk+1;omega⟩)
 |work k w hk hs hr=>
  have a1:=g.w1 k w hk (by omega);exact g.upd (by omega) (fun _=>⟨a1.1,by show w.began<m.clk+1;omega,a1.2.2⟩) (fun _=>by show w.began+1<m.clk+1;omega) (fun _=>⟨a1.2.1,by show m.clk<m.clk+1;omega⟩)
 |leave k w h' lat' hk hs=>
  have hlt:=(List.getElem?_eq_some_iff.1 hk).1;have n4:=g.n4;have a1:=g.w1 k w hk (by omega);have a6:=g.w6 k w hk hs;refine ⟨by show 0<=m.clk+1;omega,by show (m.ws.set k _).length<=4;rw [List.length_set];exact g.n4,fun e he=>?_,?_,?_,fun j v hj hs'=>?_,fun j v hj hs'=>?_,fun j v hj hs'=>?_⟩
  ·rcases List.mem_append.1 he with he|he
   ·have:=g.ev e he;show _/\_/\_/\_/\e.ended<m.clk+1;omega
   ·rw [List.mem_singleton.1 he];exact ⟨by show k<4;omega,a1.1,a6.1,a6.2,by show m.clk<m.clk+1;omega⟩
  ·refine List.pairwise_append.2 ⟨g.up,by simp,fun a ha b hb=>?_⟩;rw [List.mem_singleton.1 hb];exact (g.ev a ha).2.2.2.2
  ·refine List.pairwise_append.2 ⟨g.seq,by simp,fun a ha b hb hw=>?_⟩;rw [List.mem_singleton.1 hb] at hw⊢;exact a1.2.2 a ha hw
  ·rcases set_some hj with ⟨rfl,rfl⟩|⟨hne,h⟩
   ·exact absurd rfl hs'
   ·have:=g.w1 j v h hs';refine ⟨this.1,by show _<m.clk+1;omega,fun e he hw=>?_⟩
    rcases List.mem_append.1 he with he|he
    ·exact this.2.2 e he hw
    ·rw [List.mem_singleton.1 he] at hw;exact absurd hw.symm hne
  ·rcases set_some hj with ⟨rfl,rfl⟩|⟨hne,h⟩
   ·exact absurd (show 2<=0 from hs') (by decide)
   ·have:=g.w2 j v h hs'
    show _<m.clk+1;omega
  ·rcases set_some hj with ⟨rfl,rfl⟩|⟨hne,h⟩
   ·exact absurd (show 0=6 from hs') (by decide)
   ·have:=g.w6 j v h hs';exact ⟨this.1,by show _<m.clk+1;omega⟩
structure Rc where
 op:MOp
 res:MRes
 done:Int
def evR (e:EvA):Rc:=⟨e.op,e.res,e.done⟩
def wR (w:WA):Option Rc:=if w.st=6 then some ⟨w.op,w.res,w.done⟩ else none
def pendR (ws:List WA):List Rc:=ws.filterMap wR
def allR (m:MS):List Rc:=m.ev.map evR++pendR m.ws
def goodR (r:Rc):Bool:=decide (r.res.1≠8)
def PlayOk:(Nat->Pg)->List Rc->(Nat->Pg)->Prop
 |P,[],P'=>P'=P
 |P,r::G,P'=>(mdocX P r.op).2=r.res/\PlayOk (mdocX P r.op).1 G P'
theorem PlayOk.snoc {o:MOp} {r:MRes} {d:Int}:∀ {G:List Rc} {P P':Nat->Pg},PlayOk P G P'->(mdocX P' o).2=r->PlayOk P (G++[⟨o,r,d⟩]) (mdocX P' o).1
 | [],P,P',h,hr=>by
  cases (show P'=P from h)
  exact ⟨hr,rfl⟩
 |x::G,P,P',h,hr=>⟨h.1,PlayOk.snoc (G:=G) h.2 hr⟩
theorem cut_set {ws:List WA} {k:Nat} {w:WA} (h:ws[k]?=some w):∃ A B,ws=A++w::B/\ ∀ w',ws.set k w'=A++w'::B:=by
 have hi:=(List.getElem?_eq_some_iff.1 h).1;have hj:=(List.getElem?_eq_some_iff.1 h).2;refine ⟨ws.take k,ws.drop (k+1),?_,fun w'=>?_⟩
 ·rw [<-hj,<-List.drop_eq_getElem_cons hi,List.take_append_drop]
 ·rw [List.set_eq_take_append_cons_drop,if_pos hi]
theorem pend_at {ws:List WA} {k:Nat} {w:WA} (h:ws[k]?=some w):∃ A B:List Rc,pendR ws=A++((wR w).toList++B) /\ ∀ w',pendR (ws.set k w')=A++((wR w').toList++B):=by
 obtain ⟨A,B,e1,e2⟩:=cut_set h
 have key:∀ v:WA,pendR (A++v::B)=pendR A++((wR v).toList++pendR B):=fun v=>by
  rw [pendR,List.filterMap_append,List.filterMap_cons]
  cases e:wR v<;>simp [pendR]
 exact ⟨pendR A,pendR B,(congrArg pendR e1).trans (key w),
  fun w'=>by rw [e2];exact key w'⟩
theorem pend_no {ws:List WA} {k:Nat} {w w':WA} (h:ws[k]?=some w) (h1:w.st≠6) (h2:w'.st≠6):pendR (ws.set k w')=pendR ws:=by
 obtain ⟨A,B,e1,e2⟩:=pend_at h;rw [e1,e2,wR,wR,if_neg h1,if_neg h2]
theorem pend_new {ws:List WA} {k:Nat} {w w':WA} (h:ws[k]?=some w) (h1:w.st≠6) (h2:w'.st=6):(pendR (ws.set k w')).Perm (pendR ws++[⟨w'.op,w'.res,w'.done⟩]):=by
 obtain ⟨A,B,e1,e2⟩:=pend_at h;rw [e1,e2,wR,wR,if_neg h1,if_pos h2];show (A++(_::B)).Perm ((A++B)++[_]);exact List.perm_middle.trans (List.perm_append_singleton _ _).symm
theorem pend_old {ws:List WA} {k:Nat} {w w':WA} (h:ws[k]?=some w) (h1:w.st=6) (h2:w'.st≠6):(pendR ws).Perm (⟨w.op,w.res,w.done⟩::pendR (ws.set k w')):=by
 obtain ⟨A,B,e1,e2⟩:=pend_at h;rw [e1,e2,wR,wR,if_pos h1,if_neg h2];show (A++(_::B)).Perm (_::(A++B));exact List.perm_middle
structure OG (P0:Nat->Pg) (n:Nat) (m:MS):Prop where
 n1:1<=n
 ex:∃ (G:List Rc) (P:Nat->Pg),PlayOk P0 G P/\DocI m.p P n/\G.Pairwise (fun a b=>a.done<b.done) /\ (∀ r∈G,r.done<m.clk) /\ ((allR m).filter goodR).Perm G
 bad:∀ r∈allR m,r.res.1=8->r.res=(8,zP)
theorem OG.keep {P0 n} {m m':MS} (g:OG P0 n m) (hp:m'.p=m.p) (hc:m.clk<=m'.clk) (ha:(allR m').Perm (allR m)):OG P0 n m':=by
 obtain ⟨G,P,g1,g2,g3,g4,g5⟩:=g.ex;refine ⟨g.n1,⟨G,P,g1,by rw [hp];exact g2,g3,fun r hr=>by have:=g4 r hr;omega,(ha.filter _).trans g5⟩,fun r hr=>g.bad r (ha.mem_iff.1 hr)⟩
theorem OG.same {P0 n} {m m':MS} (g:OG P0 n m) (hp:m'.p=m.p) (hc:m.clk<=m'.clk) (ha:allR m'=allR m):OG P0 n m':=g.keep hp hc (by rw [ha])
theorem OG.add {P0 n} {m m':MS} (g:OG P0 n m) {o:MOp} {r:MRes} (hw:∀ P,DocI m.p P n->r=(mdocX P o).2/\DocI m'.p (mdocX P o).1 n) (hc:m.clk<m'.clk) (ha:(allR m').Perm (allR m++[⟨o,r,m.clk⟩])):OG P0 n m':=by
 obtain ⟨G,P,g1,g2,g3,g4,g5⟩:=g.ex;obtain ⟨h1,h2⟩:=hw P g2
 have hne:r.1≠8:=by rw [h1];exact mdocX_8 P o
 refine ⟨g.n1,⟨G++[⟨o,r,m.clk⟩],(mdocX P o).1,g1.snoc h1.symm,h2,?_,fun x hx=>?_,?_⟩,fun x hx h8=>?_⟩
 ·refine List.pairwise_append.2 ⟨g3,by simp,fun a ha b hb=>?_⟩
  rw [List.mem_singleton.1 hb];exact g4 a ha
 ·rcases List.mem_append.1 hx with hx|hx
  ·have:=g4 x hx;omega
  ·rw [List.mem_singleton.1 hx];exact hc
 ·refine (ha.filter _).trans ?_;rw [List.filter_append];refine g5.append ?_
  have:goodR ⟨o,r,m.clk⟩=true:=by simp [goodR,hne]
  rw [List.filter_cons,if_pos this,List.filter_nil]
 ·rcases List.mem_append.1 (ha.mem_iff.1 hx) with hx|hx
  ·exact g.bad x hx h8
  ·rw [List.mem_singleton.1 hx] at h8;exact absurd h8 hne
theorem DocI.age {p P n} (h:DocI p P n) (a:Int) (b:ByteArray):DocI (poolDo (tickP p 1) (8,a,b)).1 P n:=by
 have ht:DocI (tickP p 1) P n:=by
  refine ⟨?_,?_⟩
  ·have hi:=h.inv;have n0:=hi.pj.n0;have n1:=hi.pj.n1
   have mk:∀ t:Int,p.now<=t->t<=2147483647->Inv ⟨p.f,p.d,t⟩ P (fun _=>0) 2147483647 0:=fun t t0 t1=>
    ⟨⟨hi.pj.fm,hi.pj.rest,hi.pj.ca,hi.pj.z0,by show 0<=t;omega,t1,fun x hx=>by have:=hi.pj.dt x hx;show x.2<=t;omega⟩,hi.pins,hi.at_,hi.on,hi.ub⟩
   rw [tickP];repeat' split
   ·exact hi
   ·exact mk _ (by omega) (Int.le_refl _)
   ·exact mk _ (by omega) (by omega)
  ·rw [tickP];repeat' split
   all_goals exact h.len
 have d:=(age_did ht.inv a).1;obtain ⟨q,l,e,i1,n1,m1,_⟩:=d.eq
 have e2:poolDo (tickP p 1) (8,a,b)=poolAge (tickP p 1) a:=by
  rw [poolDo,if_neg (show ¬((8:Int)<1\/ (8:Int)<8) by decide),if_neg (show ¬((8:Int)≠8/\_) from fun g=>g.1 rfl)];rfl
 rw [e2,e];exact ⟨i1,m1.trans ht.len⟩
theorem OG.tr {P0 n} {m m':MS} (g:OG P0 n m) (t:Tr m m'):OG P0 n m':=by
 cases t with
 |same h' lat' s' c' hc=>exact g.same rfl (by show m.clk<=c';omega) rfl
 |age a=>
  obtain ⟨G,P,g1,g2,g3,g4,g5⟩:=g.ex;exact ⟨g.n1,⟨G,P,g1,g2.age a _,g3,g4,g5⟩,g.bad⟩
 |beg k w h' hk hs he=>exact g.same rfl (by show m.clk<=m.clk+1;omega) (congrArg (m.ev.map evR++·) (pend_no hk (by omega) (show 1≠6 by decide)))
 |mid k w a p s h' lat' s' hk h1 h5 h2 h6=>exact g.same rfl (by show m.clk<=m.clk+1;omega) (congrArg (m.ev.map evR++·) (pend_no hk (by omega) (show s≠6 by omega)))
 |wake k w s' hk hs=>exact g.same rfl (Int.le_refl _) (congrArg (m.ev.map evR++·) (pend_no hk (by omega) (show 5≠6 by decide)))
 |fail k w s' hk hs=>
  obtain ⟨G,P,g1,g2,g3,g4,g5⟩:=g.ex;have ha:=List.Perm.append_left (m.ev.map evR) (pend_new (w':=tellW w (8,zP) (m.clk-1)) hk (by omega) rfl);rw [<-List.append_assoc] at ha;refine ⟨g.n1,⟨G,P,g1,g2,g3,g4,(ha.filter _).trans ?_⟩,fun r hr h8=>?_⟩
  ·rw [List.filter_append];have:List.filter goodR [(⟨w.op,(8,zP),m.clk-1⟩:Rc)]=[]:=rfl;rw [show ([⟨(tellW w (8,zP) (m.clk-1)).op,(tellW w (8,zP) (m.clk-1)).res,(tellW w (8,zP) (m.clk-1)).done⟩]:List Rc)=[⟨w.op,(8,zP),m.clk-1⟩] from rfl,this,List.append_nil];exact g5
  ·rcases List.mem_append.1 (ha.mem_iff.1 hr) with hr|hr
   ·exact g.bad r hr h8
   ·rw [List.mem_singleton.1 hr];rfl
 |refuse k w hk hs hr=>
  have ha:=List.Perm.append_left (m.ev.map evR) (pend_new (w':=tellW w (1,zP) m.clk) hk (by omega) rfl);rw [<-List.append_assoc] at ha;refine g.add (o:=w.op) (r:=(1,zP)) (fun P hP=>?_) (by show m.clk<m.clk+1;omega) ha;rw [mdocX,if_pos hr];exact ⟨rfl,hP⟩
 |work k w hk hs hr=>
  have ha:=List.Perm.append_left (m.ev.map evR) (pend_new (w':=tellW w (workP m.p w.op).2 m.clk) hk (by omega) rfl);rw [<-List.append_assoc] at ha;refine g.add (o:=w.op) (r:=(workP m.p w.op).2) (fun P hP=>?_) (by show m.clk<m.clk+1;omega) ha;rw [mdocX,if_neg (by rw [hr];decide)];exact work9 hP g.n1 w.op hr
 |leave k w h' lat' hk hs=>
  refine g.keep rfl (by show m.clk<=m.clk+1;omega) ?_;have hp:=pend_old (w':=leftW w) hk hs (show 0≠6 by decide);show ((m.ev++[_]).map evR++pendR (m.ws.set k (leftW w))).Perm (m.ev.map evR++pendR m.ws);rw [List.map_append,List.append_assoc];exact List.Perm.append_left _ hp.symm
structure HI (P0:Nat->Pg) (n:Nat) (work:List (List MOp)) (m:MS):Prop where
 g:MGE work m
 pg:PG m
 tg:TG m
 og:OG P0 n m
theorem MGE.ok {work m} (h:MGE work m):MOk m:=by obtain ⟨t,_,_,g⟩:=h.ex;exact g.ok
theorem HI.do_ {P0 n work m} (h:HI P0 n work m) (a:Int×Int):HI P0 n work (doMS m a).1:=
 have t:=tr_do h.g.ok a
 ⟨h.g.do_ a,h.pg.tr t,h.tg.tr t,h.og.tr t⟩
theorem MGE.step {work m} (h:MGE work m) (k:Int):MGE work (stepM m k).1:=by
 obtain ⟨t,h0,h1,g⟩:=h.ex;exact ⟨t,h0,h1,g.step k⟩
theorem HI.step {P0 n work m} (h:HI P0 n work m) (k:Int):HI P0 n work (stepM m k).1:=
 have t:=tr_step h.g.ok k
 ⟨h.g.step k,h.pg.tr t,h.tg.tr t,h.og.tr t⟩
theorem HI.run {P0 n work m} (h:HI P0 n work m) (l:List (Int×Int)):HI P0 n work (runMS m l):=run_ind (fun m a h=>h.do_ a) l h
theorem HI.new {n:Nat} (n1:1<=n) (n8:n<=8) (pages:List Pg) {work:List (List MOp)} (h1:1<=work.length) (h4:work.length<=4):HI (new9 pages).2 n work (begM n pages work):=by
 have hws:∀ (k:Nat) (w:WA),(work.map newWA)[k]?=some w->w.st=0/\w.ended=0:=fun k w h=>by
  rw [List.getElem?_map] at h;obtain ⟨l,_,rfl⟩:=Option.map_eq_some_iff.1 h;exact ⟨rfl,rfl⟩
 refine ⟨begM_mge n n1 n8 pages work h1 h4,⟨fun e he=>(by cases he),fun k w hk=>?_,fun k w hk hs=>absurd (hws k w hk).1 hs⟩,⟨Int.le_refl 0,by show (work.map newWA).length<=4;rw [List.length_map];exact h4,fun e he=>(by cases he),.nil,.nil,fun k w hk hs=>absurd (hws k w hk).1 hs,fun k w hk hs=>?_,fun k w hk hs=>?_⟩,⟨n1,⟨[],_,rfl,begM_doc n n1 n8 pages work,.nil,fun r hr=>(by cases hr),?_⟩,fun r hr=>?_⟩⟩
 ·rw [(hws k w hk).2];rfl
 ·have:=(hws k w hk).1;omega
 ·have:=(hws k w hk).1;omega
 ·have:pendR (work.map newWA)=[]:=by
   rw [pendR,List.filterMap_eq_nil_iff];intro w hw;obtain ⟨l,_,rfl⟩:=List.mem_map.1 hw;rfl
  show ((([]:List EvA).map evR++pendR (work.map newWA)).filter goodR).Perm []
  rw [this];exact .nil
 ·have:pendR (work.map newWA)=[]:=by
   rw [pendR,List.filterMap_eq_nil_iff];intro w hw;obtain ⟨l,_,rfl⟩:=List.mem_map.1 hw;rfl
  rw [allR] at hr;rw [show pendR (begM n pages work).ws=[] from this] at hr
  cases hr
theorem HI.evl {P0 n work m} (h:HI P0 n work m):(m.ev.length:Int) <=m.clk:=by
 obtain ⟨t,_,_,g⟩:=h.g.ex;exact g.ev
theorem HI.td {P0 n work m} (h:HI P0 n work m):m.ws.map (·.todo)=work:=by
 obtain ⟨t,_,_,g⟩:=h.g.ex;exact g.td
theorem HI.wl {P0 n work m} (h:HI P0 n work m):m.ws.length=work.length:=by
 rw [<-h.td,List.length_map]
theorem opsK_app (a b:List EvA) (k:Nat):opsK (a++b) k=opsK a k++opsK b k:=by
 rw [opsK,List.filter_append,List.map_append];rfl
theorem prog_at {P0 n work m} (h:HI P0 n work m) {i:Nat} {v:EvA} (hv:m.ev[i]?=some v):∃ l,work[v.who]?=some l/\l[(opsK (m.ev.take i) v.who).length]?=some v.op:=by
 obtain ⟨hi,rfl⟩:=List.getElem?_eq_some_iff.1 hv;have hw:=h.pg.who _ (List.getElem_mem hi);obtain ⟨v,hv⟩:∃ v,m.ev[i]=v:=⟨_,rfl⟩;rw [hv] at hw⊢;have hx:m.ws[v.who]?=some m.ws[v.who]:=List.getElem?_eq_getElem hw;have ho:=h.pg.ops _ _ hx;refine ⟨m.ws[v.who].todo,?_,?_⟩
 ·rw [<-h.td,List.getElem?_map,hx];rfl
 ·have e:m.ev=m.ev.take i++v::m.ev.drop (i+1):=by rw [<-hv,<-List.drop_eq_getElem_cons hi,List.take_append_drop]
  have e2:opsK m.ev v.who=opsK (m.ev.take i) v.who++v.op::opsK (m.ev.drop (i+1)) v.who:=by
   conv=>lhs;rw [e]
   rw [opsK_app]
   congr 1
   rw [opsK,List.filter_cons]
   simp;rfl
  have e3:(m.ws[v.who].todo.take m.ws[v.who].ended)[(opsK (m.ev.take i) v.who).length]?=some v.op:=by
   rw [<-ho,e2,List.getElem?_append_right (Nat.le_refl _),Nat.sub_self];rfl
  rw [List.getElem?_take] at e3
  split at e3
  ·exact e3
  ·cases e3
def atD (l:List EvA):List D:=[.int .i64 (opsK l 0).length,.int .i64 (opsK l 1).length,.int .i64 (opsK l 2).length,.int .i64 (opsK l 3).length]
theorem atD_get (l:List EvA) {k:Nat} (hk:k<4):(atD l)[k]?=some (.int .i64 (opsK l k).length):=by
 match k,hk with
 |0,_=>rfl
 |1,_=>rfl
 |2,_=>rfl
 |3,_=>rfl
theorem atD_set (l:List EvA) (e:EvA) (hk:e.who<4):(atD l).set e.who (.int .i64 ((opsK l e.who).length+1:Nat))=atD (l++[e]):=by
 have key:∀ k,opsK (l++[e]) k=opsK l k++(if e.who=k then [e.op] else []):=opsK_snoc l e;simp only [atD,key];obtain ⟨k,hkk⟩:∃ k,e.who=k:=⟨_,rfl⟩;rw [hkk] at hk⊢
 match k,hk with
 |0,_=>simp
 |1,_=>simp
 |2,_=>simp
 |3,_=>simp
theorem HI.left {P0 n work m} (h:HI P0 n work m) (hw:∀ l∈work,l.length<=1000000:=by assumption):∀ w∈m.ws,w.ended<=1000000/\w.todo.length<=1000000:=fun w hw'=>by
 obtain ⟨k,hk,rfl⟩:=List.mem_iff_getElem.1 hw';have h1:=(h.g.ok.w k _ (List.getElem?_eq_getElem hk)).en
 have h2:m.ws[k].todo∈work:=by rw [<-h.td];exact List.mem_map_of_mem (List.getElem_mem hk)
 have:=hw _ h2;omega
theorem HI.todo {P0 n work m} (h:HI P0 n work m) {k:Nat} {w:WA} (hk:m.ws[k]?=some w) (hk2:k<work.length:=by omega):w.todo=work[k]:=by
 have e:(m.ws.map (·.todo))[k]?=some w.todo:=by rw [List.getElem?_map,hk];rfl
 rw [h.td,List.getElem?_eq_getElem hk2] at e;exact (Option.some.inj e).symm
theorem HI.leftV {P0 n work m} (h:HI P0 n work m) (hw:∀ l∈work,l.length<=1000) {k:Nat} {w:WA} (hk:m.ws[k]?=some w):HCall Tryz.prog 37 [.ptr 1000000 0 0,.d (.int .i64 k)] (mH m) (mH m) (.int .i64 ((w.todo.length:Int)-w.ended)):=by
 have hlf:=left_m_ok m k (h.left fun l hl=>by have:=hw l hl;omega);rw [if_pos (by omega),Int.toNat_natCast,hk] at hlf;exact hlf
theorem HI.leftNo {P0 n work m} (h:HI P0 n work m) (hw:∀ l∈work,l.length<=1000) {k:Int} (hk:k<0\/ (m.ws.length:Int) <=k):HCall Tryz.prog 37 [.ptr 1000000 0 0,.d (.int .i64 k)] (mH m) (mH m) (.int .i64 0):=by
 have hlf:=left_m_ok m k (h.left fun l hl=>by have:=hw l hl;omega)
 by_cases e:0<=k
 ·rw [if_pos e,List.getElem?_eq_none (by omega)] at hlf;exact hlf
 ·rw [if_neg e] at hlf;exact hlf
def nm8:List (Nat×Nat):=[(1000000,2000176),(1000001,2000177),(1000004,2000178)]
set_option maxRecDepth 20000 in
set_option maxHeartbeats 16000000 in
theorem program_ok (many:Int) (m0:0<=many) (m1:many<=255) (work:List (List MOp)) (hl:work.length<=9223372036854775807) (hl2:∀ l∈work,l.length<=9223372036854775807) (acts:List (Int×Int)) (ha:acts.length<=9223372036854775807):
  ACall Tryz.prog 8 [.int .u8 many,.lst (work.map encTd),.lst (acts.map encI)] (.bool true):=by
 have hma:(acts.map encI).length=acts.length:=List.length_map ..
 have hmw:(work.map encTd).length=work.length:=List.length_map ..
 refine acall_of Tryz.func8 3 rfl (by kernel_rfl) (aP ?_);refine callX_pure (small19_ok work hl hl2) (aW ?_)
 refine bcase_p (fun q0=>?_) (fun q0=>?_)<;>conv=>whnf
 ·refine aP ?_;refine callX_pure awake19_ok (aP ?_);exact ret_of rfl rfl
 have hS:SmOk work:=by
  rcases Classical.em (SmOk work) with h|h
  ·exact h
  ·rw [smN_no h] at q0;exact absurd (by decide) q0
 obtain ⟨n,hn⟩:∃ n:Nat,1+many%8=n:=⟨(1+many%8).toNat,by omega⟩
 have n1:1<=n:=by omega
 have n8:n<=8:=by omega
 have h60:∀ l∈work,l.length<=60:=fun l h=>by have:=(hS.one l h).len;omega
 have hw:∀ l∈work,l.length<=1000:=fun l h=>by have:=(hS.one l h).len;omega
 have hB:=begin19_ok many m0 m1 [] (by decide) work hS.n1 hS.n4 h60 n hn;have hI0:=HI.new n1 n8 [] hS.n1 hS.n4;have hc0:(begM n [] work).clk=0:=rfl;have hd0:=begM_doc n n1 n8 [] work;obtain ⟨M0,hM⟩:∃ M0,begM n [] work=M0:=⟨_,rfl⟩;rw [hM] at hB hI0 hc0 hd0;refine aP ?_;refine callX_ptr hB (Nat.le_of_ble_eq_true rfl) (aP ?_);refine aloop (ι:=Nat) (fun k=>[(1,.d (.lst (work.map encTd))),(2,.d (.lst (acts.map encI))),(7,.ptr 2000176 0 0),(10,.d (.int .i64 k))])
  (fun k=>[(2000176,.box (mCk 2000176 (runMS M0 (acts.take k))) false),(2000177,.row ((runMS M0 (acts.take k)).ws.map encWA) 11 false),(2000178,.row ((runMS M0 (acts.take k)).ev.map encEvA) 11 false)])
  (fun k=>k<=acts.length/\k<=300) (fun k=>300-k) 0 ⟨by omega,by decide⟩ (le0 (le_of_cov ⟨rfl,rfl,rfl,rfl,trivial⟩ ⟨rfl,rfl,rfl,trivial⟩ ⟨rfl,rfl,rfl,rfl⟩)) ?_
 rintro k ⟨hk,hk3⟩;have hI:=hI0.run (acts.take k)
 have hck:(runMS M0 (acts.take k)).clk<=k:=by
  have:=(run_clk (acts.take k) M0).1
  have:(acts.take k).length<=k:=by rw [List.length_take];omega
  omega
 have es:∀ hk2:k<acts.length,runMS M0 (acts.take (k+1))=(doMS (runMS M0 (acts.take k)) acts[k]).1:=fun hk2=>run_snoc hk2 M0
 obtain ⟨M,hM2⟩:∃ M,runMS M0 (acts.take k)=M:=⟨_,rfl⟩;rw [hM2] at hI hck;rw [hM2]
 conv=>whnf
 refine bcase_p (fun h5=>?_) (fun h5=>?_)<;>conv=>whnf
 rotate_left
 ·have hev:=hI.evl
  have hme:(M.ev.map encEvA).length=M.ev.length:=List.length_map ..
  refine callH_blk (history_ok M (by omega)) nm8 rfl ⟨rfl,rfl,rfl,trivial⟩ rfl (aP ?_);refine aloop (ι:=Nat) (fun i=>[(1,.d (.lst (work.map encTd))),(7,.ptr 2000176 0 0),(11,.ptr 11 0 0),(45,.d (.lst (M.ev.map encEvA))),(46,.d (.int .i64 (M.ev.map encEvA).length)),(47,.d (.int .i64 i))])
   (fun i=>[(2000176,.box (mCk 2000176 M) false),(2000177,.row (M.ws.map encWA) 11 false),(2000178,.row (M.ev.map encEvA) 11 false),(11,.box ((atD (M.ev.take i)).map AV.d) false)])
   (fun i=>i<=M.ev.length) (fun i=>M.ev.length-i) 0 (Nat.zero_le _) (le0 (le_of_cov ⟨rfl,rfl,rfl,rfl,rfl,rfl,trivial⟩ ⟨rfl,rfl,rfl,rfl,trivial⟩ ⟨rfl,rfl,rfl,rfl⟩)) ?_
  intro i hi
  conv=>whnf
  refine bcase_p (fun g5=>?_) (fun g5=>?_)<;>conv=>whnf
  ·have hi2:i<M.ev.length:=by omega
   obtain ⟨v,hv⟩:∃ v,M.ev[i]=v:=⟨_,rfl⟩
   have hv2:M.ev[i]?=some v:=by rw [List.getElem?_eq_getElem hi2,hv]
   have hvr:(M.ev.map encEvA)[i]?=some (encEvA v):=by rw [List.getElem?_map,hv2];rfl
   obtain ⟨l,hl0,hl1⟩:=prog_at hI hv2;have hwl:=hI.wl;have hwho:=hI.pg.who v (List.mem_of_getElem? hv2);have h4:=hS.n4
   have hlr:(work.map encTd)[v.who]?=some (encTd l):=by rw [List.getElem?_map,hl0];rfl
   have hll:(l.map encMO).length=l.length:=List.length_map ..
   have hlb:=hw l (List.mem_of_getElem? hl0);have hlc:=(List.getElem?_eq_some_iff.1 hl1).1
   have hlo:(l.map encMO)[(opsK (M.ev.take i) v.who).length]?=some (encMO v.op):=by rw [List.getElem?_map,hl1];rfl
   obtain ⟨c,hc⟩:∃ c,(opsK (M.ev.take i) v.who).length=c:=⟨_,rfl⟩
   have hac:∀ j,j=v.who->(atD (M.ev.take i))[j]?=some (.int .i64 c):=fun j e=>by rw [e,<-hc];exact atD_get _ (by omega)
   have hal:(atD (M.ev.take i)).length=4:=rfl
   have hac2:(opsK (M.ev.take i) v.who).length+1=c+1:=by rw [hc]
   have has:∀ j,j=v.who->(atD (M.ev.take i)).set j (.int .i64 ((c:Int)+1))=atD (M.ev.take (i+1)):=fun j e=>by
    rw [e,take_snoc hi2,hv,<-atD_set (M.ev.take i) v (by omega),hac2];rfl
   rw [hc] at hlc hlo;refine idxK_nat (by omega) (w0 ?_);refine getRow_of hvr (aP ?_);refine idxK_nat (by omega) (w0 ?_)
   try (refine condK_of rfl ?_)
   refine (part_one (l:=atD (M.ev.take i)) (.int .i64 c) (by first|rfl|simp only [killC_d]) (hac _ (by simp only [szs];omega)) ?_)
   conv=>whnf
   refine aA ?_;refine aP ?_;refine idxK_nat (by omega) (w0 ?_);refine getRow_of hlr (aP ?_);refine idxK_nat (by omega) (w0 ?_);refine getRow_of hlr (aP ?_);refine idxK_nat (by omega) (w0 ?_)
   try (refine condK_of rfl ?_)
   refine (part_one (l:=atD (M.ev.take i)) (.int .i64 c) (by first|rfl|simp only [killC_d]) (hac _ (by simp only [szs];omega)) ?_)
   conv=>whnf
   refine aA ?_;refine aP ?_;refine idxK_nat (by omega) (w0 ?_);refine getRow_of hlo (aP ?_);refine bcase_t (by simp) (aP ?_);refine idxK_nat (by omega) (w0 ?_)
   try (refine condK_of rfl ?_)
   refine (part_one (l:=atD (M.ev.take i)) (.int .i64 c) (by first|rfl|simp only [killC_d]) (hac _ (by simp only [szs];omega)) ?_)
   conv=>whnf
   refine aA ?_;refine aP ?_;refine idxK_nat (by omega) (w0 ?_)
   try (refine condK_of rfl ?_)
   refine (store_one (l:=atD (M.ev.take i)) (l3:=atD (M.ev.take (i+1))) (by first|rfl|simp only [killC_d]) (by first|omega|(simp only [szs];omega)) (has _ (by simp only [szs];omega)) ?_)
   conv=>whnf
   refine aA ?_;refine aP ?_;exact ⟨i+1,by omega,by omega,(le0 (le_of_cov ⟨rfl,rfl,rfl,rfl,rfl,rfl,trivial⟩ ⟨rfl,rfl,rfl,rfl,trivial⟩ ⟨rfl,rfl,rfl,rfl⟩))⟩
  have hil:i=M.ev.length:=by omega
  subst hil;rw [List.take_length];refine aP ?_;refine aloop (ι:=Nat) (fun w=>[(1,.d (.lst (work.map encTd))),(7,.ptr 2000176 0 0),(11,.ptr 11 0 0),(98,.d (.int .i64 (work.map encTd).length)),(99,.d (.int .i64 w))])
   (fun w=>[(2000176,.box (mCk 2000176 M) false),(2000177,.row (M.ws.map encWA) 11 false),(2000178,.row (M.ev.map encEvA) 11 false),(11,.box ((atD M.ev).map AV.d) false)])
   (fun w=>w<=work.length) (fun w=>work.length-w) 0 (Nat.zero_le _) (le0 (le_of_cov ⟨rfl,rfl,rfl,rfl,rfl,trivial⟩ ⟨rfl,rfl,rfl,rfl,trivial⟩ ⟨rfl,rfl,rfl,rfl⟩)) ?_
  intro w hw';have hal:(atD M.ev).length=4:=rfl;have hwl:=hI.wl;have h4:=hS.n4
  conv=>whnf
  refine bcase_p (fun g7=>?_) (fun g7=>?_)<;>conv=>whnf
  ·have hw2:w<work.length:=by omega
   have hlw:(work[w].map encMO).length=work[w].length:=List.length_map ..
   obtain ⟨wa,hwa⟩:∃ wa,M.ws[w]?=some wa:=⟨_,List.getElem?_eq_getElem (by omega)⟩;have hto:wa.todo=work[w]:=hI.todo hwa;have hops:=hI.pg.ops w wa hwa;have hen:=(hI.g.ok.w w wa hwa).en;have hwb:=hw work[w] (List.getElem_mem hw2);rw [hto] at hen
   have hcc:(opsK M.ev w).length=wa.ended:=by rw [hops,List.length_take,hto];omega
   have hea:(atD M.ev)[w]?=some (.int .i64 wa.ended):=by rw [<-hcc];exact atD_get M.ev (by omega)
   have hlf:=hI.leftV hw hwa;rw [hto] at hlf;refine callH_blk hlf nm8 rfl ⟨rfl,rfl,rfl,trivial⟩ rfl (aP ?_);refine idxK_nat (by omega) (w0 ?_);refine getRow_of (x:=encTd work[w]) (by simp [hw2]) (aW ?_);refine aP ?_;refine idxK_nat (by omega) (w0 ?_)
   try (refine condK_of rfl ?_)
   refine (part_one (l:=atD M.ev) (.int .i64 wa.ended) (by first|rfl|simp only [killC_d]) ((by rw [<-hea];congr 1;simp only [szs];omega)) ?_)
   conv=>whnf
   refine aA ?_;refine aP ?_;exact ⟨w+1,by omega,by omega,(le0 (le_of_cov ⟨rfl,rfl,rfl,rfl,rfl,trivial⟩ ⟨rfl,rfl,rfl,rfl,trivial⟩ ⟨rfl,rfl,rfl,rfl⟩))⟩
  refine aP ?_;refine callH_blk (hI.leftNo hw (k:=4) (by omega)) nm8 rfl ⟨rfl,rfl,rfl,trivial⟩ rfl (aP ?_);refine callH_blk (hI.leftNo hw (k:=-1) (by omega)) nm8 rfl ⟨rfl,rfl,rfl,trivial⟩ rfl (aP ?_);refine callX_pure awake19_ok (aP ?_)
  first|exact ret_of rfl rfl|exact rfl
 refine bcase_p (fun h6=>?_) (fun h6=>?_)<;>conv=>whnf
 rotate_left
 ·have hev:=hI.evl
  have hme:(M.ev.map encEvA).length=M.ev.length:=List.length_map ..
  refine callH_blk (history_ok M (by omega)) nm8 rfl ⟨rfl,rfl,rfl,trivial⟩ rfl (aP ?_);refine aloop (ι:=Nat) (fun i=>[(1,.d (.lst (work.map encTd))),(7,.ptr 2000176 0 0),(11,.ptr 11 0 0),(45,.d (.lst (M.ev.map encEvA))),(46,.d (.int .i64 (M.ev.map encEvA).length)),(47,.d (.int .i64 i))])
   (fun i=>[(2000176,.box (mCk 2000176 M) false),(2000177,.row (M.ws.map encWA) 11 false),(2000178,.row (M.ev.map encEvA) 11 false),(11,.box ((atD (M.ev.take i)).map AV.d) false)])
   (fun i=>i<=M.ev.length) (fun i=>M.ev.length-i) 0 (Nat.zero_le _) (le0 (le_of_cov ⟨rfl,rfl,rfl,rfl,rfl,rfl,trivial⟩ ⟨rfl,rfl,rfl,rfl,trivial⟩ ⟨rfl,rfl,rfl,rfl⟩)) ?_
  intro i hi
  conv=>whnf
  refine bcase_p (fun g5=>?_) (fun g5=>?_)<;>conv=>whnf
  ·have hi2:i<M.ev.length:=by omega
   obtain ⟨v,hv⟩:∃ v,M.ev[i]=v:=⟨_,rfl⟩
   have hv2:M.ev[i]?=some v:=by rw [List.getElem?_eq_getElem hi2,hv]
   have hvr:(M.ev.map encEvA)[i]?=some (encEvA v):=by rw [List.getElem?_map,hv2];rfl
   obtain ⟨l,hl0,hl1⟩:=prog_at hI hv2;have hwl:=hI.wl;have hwho:=hI.pg.who v (List.mem_of_getElem? hv2);have h4:=hS.n4
   have hlr:(work.map encTd)[v.who]?=some (encTd l):=by rw [List.getElem?_map,hl0];rfl
   have hll:(l.map encMO).length=l.length:=List.length_map ..
   have hlb:=hw l (List.mem_of_getElem? hl0);have hlc:=(List.getElem?_eq_some_iff.1 hl1).1
   have hlo:(l.map encMO)[(opsK (M.ev.take i) v.who).length]?=some (encMO v.op):=by rw [List.getElem?_map,hl1];rfl
   obtain ⟨c,hc⟩:∃ c,(opsK (M.ev.take i) v.who).length=c:=⟨_,rfl⟩
   have hac:∀ j,j=v.who->(atD (M.ev.take i))[j]?=some (.int .i64 c):=fun j e=>by rw [e,<-hc];exact atD_get _ (by omega)
   have hal:(atD (M.ev.take i)).length=4:=rfl
   have hac2:(opsK (M.ev.take i) v.who).length+1=c+1:=by rw [hc]
   have has:∀ j,j=v.who->(atD (M.ev.take i)).set j (.int .i64 ((c:Int)+1))=atD (M.ev.take (i+1)):=fun j e=>by
    rw [e,take_snoc hi2,hv,<-atD_set (M.ev.take i) v (by omega),hac2];rfl
   rw [hc] at hlc hlo;refine idxK_nat (by omega) (w0 ?_);refine getRow_of hvr (aP ?_);refine idxK_nat (by omega) (w0 ?_)
   try (refine condK_of rfl ?_)
   refine (part_one (l:=atD (M.ev.take i)) (.int .i64 c) (by first|rfl|simp only [killC_d]) (hac _ (by simp only [szs];omega)) ?_)
   conv=>whnf
   refine aA ?_;refine aP ?_;refine idxK_nat (by omega) (w0 ?_);refine getRow_of hlr (aP ?_);refine idxK_nat (by omega) (w0 ?_);refine getRow_of hlr (aP ?_);refine idxK_nat (by omega) (w0 ?_)
   try (refine condK_of rfl ?_)
   refine (part_one (l:=atD (M.ev.take i)) (.int .i64 c) (by first|rfl|simp only [killC_d]) (hac _ (by simp only [szs];omega)) ?_)
   conv=>whnf
   refine aA ?_;refine aP ?_;refine idxK_nat (by omega) (w0 ?_);refine getRow_of hlo (aP ?_);refine bcase_t (by simp) (aP ?_);refine idxK_nat (by omega) (w0 ?_)
   try (refine condK_of rfl ?_)
   refine (part_one (l:=atD (M.ev.take i)) (.int .i64 c) (by first|rfl|simp only [killC_d]) (hac _ (by simp only [szs];omega)) ?_)
   conv=>whnf
   refine aA ?_;refine aP ?_;refine idxK_nat (by omega) (w0 ?_)
   try (refine condK_of rfl ?_)
   refine (store_one (l:=atD (M.ev.take i)) (l3:=atD (M.ev.take (i+1))) (by first|rfl|simp only [killC_d]) (by first|omega|(simp only [szs];omega)) (has _ (by simp only [szs];omega)) ?_)
   conv=>whnf
   refine aA ?_;refine aP ?_;exact ⟨i+1,by omega,by omega,(le0 (le_of_cov ⟨rfl,rfl,rfl,rfl,rfl,rfl,trivial⟩ ⟨rfl,rfl,rfl,rfl,trivial⟩ ⟨rfl,rfl,rfl,rfl⟩))⟩
  have hil:i=M.ev.length:=by omega
  subst hil;rw [List.take_length];refine aP ?_;refine aloop (ι:=Nat) (fun w=>[(1,.d (.lst (work.map encTd))),(7,.ptr 2000176 0 0),(11,.ptr 11 0 0),(98,.d (.int .i64 (work.map encTd).length)),(99,.d (.int .i64 w))])
   (fun w=>[(2000176,.box (mCk 2000176 M) false),(2000177,.row (M.ws.map encWA) 11 false),(2000178,.row (M.ev.map encEvA) 11 false),(11,.box ((atD M.ev).map AV.d) false)])
   (fun w=>w<=work.length) (fun w=>work.length-w) 0 (Nat.zero_le _) (le0 (le_of_cov ⟨rfl,rfl,rfl,rfl,rfl,trivial⟩ ⟨rfl,rfl,rfl,rfl,trivial⟩ ⟨rfl,rfl,rfl,rfl⟩)) ?_
  intro w hw';have hal:(atD M.ev).length=4:=rfl;have hwl:=hI.wl;have h4:=hS.n4
  conv=>whnf
  refine bcase_p (fun g7=>?_) (fun g7=>?_)<;>conv=>whnf
  ·have hw2:w<work.length:=by omega
   have hlw:(work[w].map encMO).length=work[w].length:=List.length_map ..
   obtain ⟨wa,hwa⟩:∃ wa,M.ws[w]?=some wa:=⟨_,List.getElem?_eq_getElem (by omega)⟩;have hto:wa.todo=work[w]:=hI.todo hwa;have hops:=hI.pg.ops w wa hwa;have hen:=(hI.g.ok.w w wa hwa).en;have hwb:=hw work[w] (List.getElem_mem hw2);rw [hto] at hen
   have hcc:(opsK M.ev w).length=wa.ended:=by rw [hops,List.length_take,hto];omega
   have hea:(atD M.ev)[w]?=some (.int .i64 wa.ended):=by rw [<-hcc];exact atD_get M.ev (by omega)
   have hlf:=hI.leftV hw hwa;rw [hto] at hlf;refine callH_blk hlf nm8 rfl ⟨rfl,rfl,rfl,trivial⟩ rfl (aP ?_);refine idxK_nat (by omega) (w0 ?_);refine getRow_of (x:=encTd work[w]) (by simp [hw2]) (aW ?_);refine aP ?_;refine idxK_nat (by omega) (w0 ?_)
   try (refine condK_of rfl ?_)
   refine (part_one (l:=atD M.ev) (.int .i64 wa.ended) (by first|rfl|simp only [killC_d]) ((by rw [<-hea];congr 1;simp only [szs];omega)) ?_)
   conv=>whnf
   refine aA ?_;refine aP ?_;exact ⟨w+1,by omega,by omega,(le0 (le_of_cov ⟨rfl,rfl,rfl,rfl,rfl,trivial⟩ ⟨rfl,rfl,rfl,rfl,trivial⟩ ⟨rfl,rfl,rfl,rfl⟩))⟩
  refine aP ?_;refine callH_blk (hI.leftNo hw (k:=4) (by omega)) nm8 rfl ⟨rfl,rfl,rfl,trivial⟩ rfl (aP ?_);refine callH_blk (hI.leftNo hw (k:=-1) (by omega)) nm8 rfl ⟨rfl,rfl,rfl,trivial⟩ rfl (aP ?_);refine callX_pure awake19_ok (aP ?_)
  first|exact ret_of rfl rfl|exact rfl
 have hk2:k<acts.length:=by omega
 refine aP ?_;refine idxK_nat (by omega) (w0 ?_);refine getRow_of (x:=encI acts[k]) (by simp [hk2]) (aW ?_);refine callH_blk (doL_ok hI.g hw (by omega) acts[k]) nm8 rfl ⟨rfl,rfl,rfl,trivial⟩ rfl (aP ?_);have e:=es hk2;rw [hM2] at e;refine ⟨k+1,⟨by omega,by omega⟩,by omega,?_⟩;rw [e];exact (le0 (le_of_cov ⟨rfl,rfl,rfl,rfl,trivial⟩ ⟨rfl,rfl,rfl,trivial⟩ ⟨rfl,rfl,rfl,rfl⟩))
theorem latch_one {m:MS} (o:MOk m) {a b:Nat} {wa wb:WA} (ha:m.ws[a]?=some wa) (hb:m.ws[b]?=some wb) (hne:a≠b) (a3:3<=wa.st) (a5:wa.st<=5) (b3:3<=wb.st) (b5:wb.st<=5) (he:wa.op.2.1=wb.op.2.1):wa.op.1=2/\wb.op.1=2:=by
 have va:=o.w a wa ha;have vb:=o.w b wb hb;have qa:=va.ask (by omega) a5;have qb:=vb.ask (by omega) b5;obtain ⟨_,r1,r2⟩:=refB_f (va.val qa)
 have hi:wa.op.2.1.toNat<m.lat.length:=by rw [o.ll];omega
 obtain ⟨l,hl⟩:∃ l,m.lat[wa.op.2.1.toNat]?=some l:=⟨_,List.getElem?_eq_getElem hi⟩;have ha2:=va.hold qa a3 l hl;have hb2:=vb.hold qb b3 l (by rw [<-he];exact hl);have L:=(o.li _ l hl).li
 have hex:l.ex=false:=by
  cases e:l.ex with
  |false=>rfl
  |true=>
   have h1:=L.one e
   match hs:l.hs,h1 with
   | [x],_=>
    rw [hs] at ha2 hb2;exact absurd ((List.mem_singleton.1 ha2).trans (List.mem_singleton.1 hb2).symm) hne
 have xa:=L.hd a ha2;have xb:=L.hd b hb2;rw [hex,xk_at ha] at xa;rw [hex,xk_at hb] at xb;simp at xa xb;exact ⟨xa,xb⟩
theorem HI.stateV {P0 n work m} (h:HI P0 n work m) {k:Nat} {w:WA} (hk:m.ws[k]?=some w):HCall Tryz.prog 33 [.ptr 1000000 0 0,.d (.int .i64 k)] (mH m) (mH m) (.int .i64 w.st):=by
 have:=stateV_ok m k;rw [stV,hk] at this;exact this
theorem HI.op_at {P0 n work m} (h:HI P0 n work m) {k:Nat} {w:WA} (hk:m.ws[k]?=some w) (hs:w.st≠0) (hk2:k<work.length):w.ended<work[k].length/\work[k][w.ended]?=some w.op:=by
 have hb:=h.pg.bu k w hk hs;have e:=h.todo hk hk2;rw [e] at hb;refine ⟨hb,?_⟩
 rw [WA.op,e,List.getElem?_eq_getElem hb];rfl
def nm12:List (Nat×Nat):=[(1000000,2000192),(1000001,2000193),(1000004,2000194)]
set_option maxRecDepth 20000 in
set_option maxHeartbeats 16000000 in
theorem latch_ok (many:Int) (m0:0<=many) (m1:many<=255) (work:List (List MOp)) (hl:work.length<=9223372036854775807) (hl2:∀ l∈work,l.length<=9223372036854775807) (acts:List (Int×Int)) (ha:acts.length<=9223372036854775807):
  ACall Tryz.prog 12 [.int .u8 many,.lst (work.map encTd),.lst (acts.map encI)] (.bool true):=by
 have hma:(acts.map encI).length=acts.length:=List.length_map ..
 have hmw:(work.map encTd).length=work.length:=List.length_map ..
 refine acall_of Tryz.func12 3 rfl (by kernel_rfl) (aP ?_);refine callX_pure (small19_ok work hl hl2) (aW ?_)
 refine bcase_p (fun q0=>?_) (fun q0=>?_)<;>conv=>whnf
 ·refine aP ?_;refine callX_pure awake19_ok (aP ?_);exact ret_of rfl rfl
 have hS:SmOk work:=by
  rcases Classical.em (SmOk work) with h|h
  ·exact h
  ·rw [smN_no h] at q0;exact absurd (by decide) q0
 obtain ⟨n,hn⟩:∃ n:Nat,1+many%8=n:=⟨(1+many%8).toNat,by omega⟩
 have n1:1<=n:=by omega
 have n8:n<=8:=by omega
 have h60:∀ l∈work,l.length<=60:=fun l h=>by have:=(hS.one l h).len;omega
 have hw:∀ l∈work,l.length<=1000:=fun l h=>by have:=(hS.one l h).len;omega
 have hB:=begin19_ok many m0 m1 [] (by decide) work hS.n1 hS.n4 h60 n hn;have hI0:=HI.new n1 n8 [] hS.n1 hS.n4;have hc0:(begM n [] work).clk=0:=rfl;have hd0:=begM_doc n n1 n8 [] work;obtain ⟨M0,hM⟩:∃ M0,begM n [] work=M0:=⟨_,rfl⟩;rw [hM] at hB hI0 hc0 hd0;refine aP ?_;refine callX_ptr hB (Nat.le_of_ble_eq_true rfl) (aP ?_);refine aloop (ι:=Nat) (fun k=>[(1,.d (.lst (work.map encTd))),(2,.d (.lst (acts.map encI))),(7,.ptr 2000192 0 0),(10,.d (.int .i64 k))])
  (fun k=>[(2000192,.box (mCk 2000192 (runMS M0 (acts.take k))) false),(2000193,.row ((runMS M0 (acts.take k)).ws.map encWA) 11 false),(2000194,.row ((runMS M0 (acts.take k)).ev.map encEvA) 11 false)])
  (fun k=>k<=acts.length/\k<=200) (fun k=>200-k) 0 ⟨by omega,by decide⟩ (le0 (le_of_cov ⟨rfl,rfl,rfl,rfl,trivial⟩ ⟨rfl,rfl,rfl,trivial⟩ ⟨rfl,rfl,rfl,rfl⟩)) ?_
 rintro k ⟨hk,hk3⟩;have hI:=hI0.run (acts.take k)
 have hck:(runMS M0 (acts.take k)).clk<=k:=by
  have:=(run_clk (acts.take k) M0).1
  have:(acts.take k).length<=k:=by rw [List.length_take];omega
  omega
 have es:∀ hk2:k<acts.length,runMS M0 (acts.take (k+1))=(doMS (runMS M0 (acts.take k)) acts[k]).1:=fun hk2=>run_snoc hk2 M0
 obtain ⟨M,hM2⟩:∃ M,runMS M0 (acts.take k)=M:=⟨_,rfl⟩;rw [hM2] at hI hck;rw [hM2]
 conv=>whnf
 refine bcase_p (fun h5=>?_) (fun h5=>?_)<;>conv=>whnf
 rotate_left
 ·refine aP ?_;refine callX_pure awake19_ok (aP ?_)
  first|exact ret_of rfl rfl|exact rfl
 refine bcase_p (fun h6=>?_) (fun h6=>?_)<;>conv=>whnf
 rotate_left
 ·refine aP ?_;refine callX_pure awake19_ok (aP ?_)
  first|exact ret_of rfl rfl|exact rfl
 have hk2:k<acts.length:=by omega
 refine aP ?_;refine idxK_nat (by omega) (w0 ?_);refine getRow_of (x:=encI acts[k]) (by simp [hk2]) (aW ?_);refine callH_blk (doL_ok hI.g hw (by omega) acts[k]) nm12 rfl ⟨rfl,rfl,rfl,trivial⟩ rfl (aP ?_);have e:=es hk2;rw [hM2] at e;have hI2:=hI.do_ acts[k];obtain ⟨M2,hM3⟩:∃ M2,(doMS M acts[k]).1=M2:=⟨_,rfl⟩;rw [hM3] at e hI2;rw [hM3];have hwl:=hI2.wl;have h4:=hS.n4;refine aloop (ι:=Nat) (fun a=>[(1,.d (.lst (work.map encTd))),(2,.d (.lst (acts.map encI))),(7,.ptr 2000192 0 0),(10,.d (.int .i64 k)),(47,.d (.int .i64 (work.map encTd).length)),(48,.d (.int .i64 a))])
  (fun a=>[(2000192,.box (mCk 2000192 M2) false),(2000193,.row (M2.ws.map encWA) 11 false),(2000194,.row (M2.ev.map encEvA) 11 false)])
  (fun a=>a<=work.length) (fun a=>work.length-a) 0 (Nat.zero_le _) (le0 (le_of_cov ⟨rfl,rfl,rfl,rfl,rfl,rfl,trivial⟩ ⟨rfl,rfl,rfl,trivial⟩ ⟨rfl,rfl,rfl,rfl⟩)) ?_
 intro a ha'
 conv=>whnf
 refine bcase_p (fun g1=>?_) (fun g1=>?_)<;>conv=>whnf
 rotate_left
 ·refine aP ?_;refine ⟨k+1,⟨by omega,by omega⟩,by omega,?_⟩;rw [e];exact (le0 (le_of_cov ⟨rfl,rfl,rfl,rfl,trivial⟩ ⟨rfl,rfl,rfl,trivial⟩ ⟨rfl,rfl,rfl,rfl⟩))
 have ha2:a<work.length:=by omega
 refine aP ?_;refine aloop (ι:=Nat) (fun b=>[(1,.d (.lst (work.map encTd))),(2,.d (.lst (acts.map encI))),(7,.ptr 2000192 0 0),(10,.d (.int .i64 k)),(11,.d (.int .i64 a)),(47,.d (.int .i64 (work.map encTd).length)),(48,.d (.int .i64 a)),(51,.d (.int .i64 a)),(52,.d (.int .i64 b))])
  (fun b=>[(2000192,.box (mCk 2000192 M2) false),(2000193,.row (M2.ws.map encWA) 11 false),(2000194,.row (M2.ev.map encEvA) 11 false)])
  (fun b=>b<=a) (fun b=>a-b) 0 (Nat.zero_le _) (le0 (le_of_cov ⟨rfl,rfl,rfl,rfl,rfl,rfl,rfl,rfl,rfl,trivial⟩ ⟨rfl,rfl,rfl,trivial⟩ ⟨rfl,rfl,rfl,rfl⟩)) ?_
 intro b hb'
 conv=>whnf
 refine bcase_p (fun g2=>?_) (fun g2=>?_)<;>conv=>whnf
 rotate_left
 ·refine aP ?_;exact ⟨a+1,by omega,by omega,(le0 (le_of_cov ⟨rfl,rfl,rfl,rfl,rfl,rfl,trivial⟩ ⟨rfl,rfl,rfl,trivial⟩ ⟨rfl,rfl,rfl,rfl⟩))⟩
 have hb2:b<a:=by omega
 obtain ⟨wa,hwa⟩:∃ wa,M2.ws[a]?=some wa:=⟨_,List.getElem?_eq_getElem (by omega)⟩;obtain ⟨wb,hwb⟩:∃ wb,M2.ws[b]?=some wb:=⟨_,List.getElem?_eq_getElem (by omega)⟩;refine aP ?_;refine callH_blk (hI2.stateV hwa) nm12 rfl ⟨rfl,rfl,rfl,trivial⟩ rfl (w0 ?_)
 refine bcase_p (fun g3=>?_) (fun g3=>?_)<;>conv=>whnf
 ·refine aP ?_;exact ⟨b+1,by omega,by omega,(le0 (le_of_cov ⟨rfl,rfl,rfl,rfl,rfl,rfl,rfl,rfl,rfl,trivial⟩ ⟨rfl,rfl,rfl,trivial⟩ ⟨rfl,rfl,rfl,rfl⟩))⟩
 refine callH_blk (hI2.stateV hwa) nm12 rfl ⟨rfl,rfl,rfl,trivial⟩ rfl (w0 ?_)
 refine bcase_p (fun g4=>?_) (fun g4=>?_)<;>conv=>whnf
 ·refine aP ?_;exact ⟨b+1,by omega,by omega,(le0 (le_of_cov ⟨rfl,rfl,rfl,rfl,rfl,rfl,rfl,rfl,rfl,trivial⟩ ⟨rfl,rfl,rfl,trivial⟩ ⟨rfl,rfl,rfl,rfl⟩))⟩
 refine callH_blk (hI2.stateV hwb) nm12 rfl ⟨rfl,rfl,rfl,trivial⟩ rfl (w0 ?_)
 refine bcase_p (fun g5=>?_) (fun g5=>?_)<;>conv=>whnf
 ·refine aP ?_;exact ⟨b+1,by omega,by omega,(le0 (le_of_cov ⟨rfl,rfl,rfl,rfl,rfl,rfl,rfl,rfl,rfl,trivial⟩ ⟨rfl,rfl,rfl,trivial⟩ ⟨rfl,rfl,rfl,rfl⟩))⟩
 refine callH_blk (hI2.stateV hwb) nm12 rfl ⟨rfl,rfl,rfl,trivial⟩ rfl (w0 ?_)
 refine bcase_p (fun g6=>?_) (fun g6=>?_)<;>conv=>whnf
 ·refine aP ?_;exact ⟨b+1,by omega,by omega,(le0 (le_of_cov ⟨rfl,rfl,rfl,rfl,rfl,rfl,rfl,rfl,rfl,trivial⟩ ⟨rfl,rfl,rfl,trivial⟩ ⟨rfl,rfl,rfl,rfl⟩))⟩
 have hta:=hI2.todo hwa;have htb:=hI2.todo hwb (by omega)
 have hb3:b<work.length:=by omega
 obtain ⟨oa1,oa2⟩:=hI2.op_at hwa (by omega) ha2;obtain ⟨ob1,ob2⟩:=hI2.op_at hwb (by omega) hb3
 have hla:(work[a].map encMO).length=work[a].length:=List.length_map ..
 have hlb:(work[b].map encMO).length=work[b].length:=List.length_map ..
 have hba:=hw work[a] (List.getElem_mem ha2);have hbb:=hw work[b] (List.getElem_mem hb3);have hLa:=hI2.leftV hw hwa;have hLb:=hI2.leftV hw hwb;rw [hta] at hLa;rw [htb] at hLb
 have ga:(work[a].map encMO)[wa.ended]?=some (encMO wa.op):=by rw [List.getElem?_map,oa2];rfl
 have gb:(work[b].map encMO)[wb.ended]?=some (encMO wb.op):=by rw [List.getElem?_map,ob2];rfl
 have ea:((work[a].map encMO).length:Int)-((work[a].length:Int)-wa.ended)=(wa.ended:Int):=by omega
 have eb:((work[b].map encMO).length:Int)-((work[b].length:Int)-wb.ended)=(wb.ended:Int):=by omega
 refine aP ?_;refine idxK_nat (by omega) (w0 ?_);refine getRow_of (x:=encTd work[a]) (by simp [ha2]) (aW ?_);refine callH_blk hLa nm12 rfl ⟨rfl,rfl,rfl,trivial⟩ rfl (aP ?_);refine idxK_nat (by omega) (w0 ?_);refine getRow_of (x:=encTd work[b]) (by simp [hb3]) (aW ?_);refine callH_blk hLb nm12 rfl ⟨rfl,rfl,rfl,trivial⟩ rfl (aP ?_);rw [ea,eb];refine idxK_nat (by omega) (w0 ?_);refine getRow_of (x:=encTd work[a]) (by simp [ha2]) (aW ?_);refine aP ?_;refine idxK_nat (by omega) (w0 ?_);refine getRow_of (x:=encTd work[b]) (by simp [hb3]) (aW ?_);refine aP ?_;refine idxK_nat (by omega) (w0 ?_);refine getRow_of (x:=encTd work[a]) (by simp [ha2]) (aW ?_);refine aP ?_;refine idxK_nat (by omega) (w0 ?_);refine getRow_of ga (aP ?_);refine idxK_nat (by omega) (w0 ?_);refine getRow_of (x:=encTd work[b]) (by simp [hb3]) (aW ?_);refine aP ?_;refine idxK_nat (by omega) (w0 ?_);refine getRow_of gb (aP ?_)
 refine bcase_p (fun g7=>?_) (fun g7=>?_)<;>conv=>whnf
 ·obtain ⟨z1,z2⟩:=latch_one hI2.g.ok hwa hwb (by omega) (by omega) (by omega) (by omega) (by omega) g7;refine aP ?_;exact ⟨b+1,by omega,by omega,(le0 (le_of_cov ⟨rfl,rfl,rfl,rfl,rfl,rfl,rfl,rfl,rfl,trivial⟩ ⟨rfl,rfl,rfl,trivial⟩ ⟨rfl,rfl,rfl,rfl⟩))⟩
 ·refine aP ?_;exact ⟨b+1,by omega,by omega,(le0 (le_of_cov ⟨rfl,rfl,rfl,rfl,rfl,rfl,rfl,rfl,rfl,trivial⟩ ⟨rfl,rfl,rfl,trivial⟩ ⟨rfl,rfl,rfl,rfl⟩))⟩
def nm9a:List (Nat×Nat):=[(1000000,2000192),(1000001,2000193),(1000004,2000194)]
def nm9b:List (Nat×Nat):=[(1000000,2000248),(1000001,2000249),(1000004,2000250)]
theorem HI.doc {P0 n work m} (h:HI P0 n work m):∃ P,DocI m.p P n:=by
 obtain ⟨G,P,g1,g2,g3,g4,g5⟩:=h.og.ex;exact ⟨P,g2⟩
set_option maxRecDepth 20000 in
set_option maxHeartbeats 16000000 in
theorem same19_ok (many:Int) (m0:0<=many) (m1:many<=255) (work:List (List MOp)) (hl:work.length<=9223372036854775807) (hl2:∀ l∈work,l.length<=9223372036854775807) (acts:List (Int×Int)) (ha:acts.length<=9223372036854775807):
  ACall Tryz.prog 9 [.int .u8 many,.lst (work.map encTd),.lst (acts.map encI)] (.bool true):=by
 have hma:(acts.map encI).length=acts.length:=List.length_map ..
 have hmw:(work.map encTd).length=work.length:=List.length_map ..
 refine acall_of Tryz.func9 3 rfl (by kernel_rfl) (aP ?_);refine callX_pure (small19_ok work hl hl2) (aW ?_)
 refine bcase_p (fun q0=>?_) (fun q0=>?_)<;>conv=>whnf
 ·refine aP ?_;refine callX_pure awake19_ok (aP ?_);exact ret_of rfl rfl
 have hS:SmOk work:=by
  rcases Classical.em (SmOk work) with h|h
  ·exact h
  ·rw [smN_no h] at q0;exact absurd (by decide) q0
 obtain ⟨n,hn⟩:∃ n:Nat,1+many%8=n:=⟨(1+many%8).toNat,by omega⟩
 have n1:1<=n:=by omega
 have n8:n<=8:=by omega
 have h60:∀ l∈work,l.length<=60:=fun l h=>by have:=(hS.one l h).len;omega
 have hw:∀ l∈work,l.length<=1000:=fun l h=>by have:=(hS.one l h).len;omega
 have hB:=begin19_ok many m0 m1 [] (by decide) work hS.n1 hS.n4 h60 n hn;have hI0:=HI.new n1 n8 [] hS.n1 hS.n4;have hc0:(begM n [] work).clk=0:=rfl;have hd0:=begM_doc n n1 n8 [] work;obtain ⟨M0,hM⟩:∃ M0,begM n [] work=M0:=⟨_,rfl⟩;rw [hM] at hB hI0 hc0 hd0;refine aP ?_;refine callX_ptr hB (Nat.le_of_ble_eq_true rfl) (aP ?_);refine callX_ptr hB (Nat.le_of_ble_eq_true rfl) (aP ?_);refine aloop (ι:=Nat) (fun k=>[(2,.d (.lst (acts.map encI))),(7,.ptr 2000192 0 0),(10,.ptr 2000248 0 0),(13,.d (.int .i64 k))])
  (fun k=>[(2000192,.box (mCk 2000192 (runMS M0 (acts.take k))) false),(2000193,.row ((runMS M0 (acts.take k)).ws.map encWA) 11 false),(2000194,.row ((runMS M0 (acts.take k)).ev.map encEvA) 11 false),(2000248,.box (mCk 2000248 (runMS M0 (acts.take k))) false),(2000249,.row ((runMS M0 (acts.take k)).ws.map encWA) 11 false),(2000250,.row ((runMS M0 (acts.take k)).ev.map encEvA) 11 false)])
  (fun k=>k<=acts.length/\k<=200) (fun k=>200-k) 0 ⟨by omega,by decide⟩ (le0 (le_of_cov ⟨rfl,rfl,rfl,rfl,trivial⟩ ⟨rfl,rfl,rfl,rfl,rfl,rfl,trivial⟩ ⟨rfl,rfl,rfl,rfl⟩)) ?_
 rintro k ⟨hk,hk3⟩;have hI:=hI0.run (acts.take k)
 have hck:(runMS M0 (acts.take k)).clk<=1000:=by
  have:=(run_clk (acts.take k) M0).1
  have:(acts.take k).length<=k:=by rw [List.length_take];omega
  omega
 have es:∀ hk2:k<acts.length,runMS M0 (acts.take (k+1))=(doMS (runMS M0 (acts.take k)) acts[k]).1:=fun hk2=>run_snoc hk2 M0
 obtain ⟨M,hM2⟩:∃ M,runMS M0 (acts.take k)=M:=⟨_,rfl⟩;rw [hM2] at hI hck;rw [hM2]
 conv=>whnf
 refine bcase_p (fun h5=>?_) (fun h5=>?_)<;>conv=>whnf
 rotate_left
 ·obtain ⟨P,hP⟩:=hI.doc;have hev:=hI.evl
  have hme:(M.ev.map encEvA).length=M.ev.length:=List.length_map ..
  have hpg:=pages_m_ok M hP.inv.pj.fm;rw [pages_doc hP] at hpg;have hh9:=history_ok M (by omega);refine callH_blk hh9 nm9a rfl ⟨rfl,rfl,rfl,trivial⟩ rfl (aP ?_);refine callH_blk hh9 nm9b rfl ⟨rfl,rfl,rfl,trivial⟩ rfl (aP ?_);refine aloop (ι:=Nat) (fun i=>[(7,.ptr 2000192 0 0),(10,.ptr 2000248 0 0),(14,.d (.lst (M.ev.map encEvA))),(15,.d (.lst (M.ev.map encEvA))),(88,.d (.int .i64 (M.ev.map encEvA).length)),(89,.d (.int .i64 i))])
   (fun i=>[(2000192,.box (mCk 2000192 M) false),(2000193,.row (M.ws.map encWA) 11 false),(2000194,.row (M.ev.map encEvA) 11 false),(2000248,.box (mCk 2000248 M) false),(2000249,.row (M.ws.map encWA) 11 false),(2000250,.row (M.ev.map encEvA) 11 false)])
   (fun i=>i<=M.ev.length) (fun i=>M.ev.length-i) 0 (Nat.zero_le _) (le0 (le_of_cov ⟨rfl,rfl,rfl,rfl,rfl,rfl,trivial⟩ ⟨rfl,rfl,rfl,rfl,rfl,rfl,trivial⟩ ⟨rfl,rfl,rfl,rfl⟩)) ?_
  intro i hi
  conv=>whnf
  refine bcase_p (fun g5=>?_) (fun g5=>?_)<;>conv=>whnf
  ·have hi2:i<M.ev.length:=by omega
   refine idxK_nat (by omega) (w0 ?_);refine getRow_of (x:=encEvA M.ev[i]) (by simp [hi2]) (aW ?_);refine aP ?_;refine idxK_nat (by omega) (w0 ?_);refine getRow_of (x:=encEvA M.ev[i]) (by simp [hi2]) (aW ?_);refine aP ?_;refine bcase_t (by simp) (aP ?_);exact ⟨i+1,by omega,by omega,(le0 (le_of_cov ⟨rfl,rfl,rfl,rfl,rfl,rfl,trivial⟩ ⟨rfl,rfl,rfl,rfl,rfl,rfl,trivial⟩ ⟨rfl,rfl,rfl,rfl⟩))⟩
  refine aP ?_;refine callH_blk hpg nm9a rfl ⟨rfl,rfl,rfl,trivial⟩ rfl (aP ?_);refine callH_blk hpg nm9b rfl ⟨rfl,rfl,rfl,trivial⟩ rfl (aP ?_);refine callX_pure (Hy.same_ok (bgN P 16) (bgN P 16) (by have:=bg_len P;omega)) (w0 ?_);refine bcase_t (by simp) (aP ?_);refine callX_pure awake19_ok (aP ?_)
  first|exact ret_of rfl rfl|exact rfl
 refine bcase_p (fun h6=>?_) (fun h6=>?_)<;>conv=>whnf
 rotate_left
 ·obtain ⟨P,hP⟩:=hI.doc;have hev:=hI.evl
  have hme:(M.ev.map encEvA).length=M.ev.length:=List.length_map ..
  have hpg:=pages_m_ok M hP.inv.pj.fm;rw [pages_doc hP] at hpg;have hh9:=history_ok M (by omega);refine callH_blk hh9 nm9a rfl ⟨rfl,rfl,rfl,trivial⟩ rfl (aP ?_);refine callH_blk hh9 nm9b rfl ⟨rfl,rfl,rfl,trivial⟩ rfl (aP ?_);refine aloop (ι:=Nat) (fun i=>[(7,.ptr 2000192 0 0),(10,.ptr 2000248 0 0),(14,.d (.lst (M.ev.map encEvA))),(15,.d (.lst (M.ev.map encEvA))),(88,.d (.int .i64 (M.ev.map encEvA).length)),(89,.d (.int .i64 i))])
   (fun i=>[(2000192,.box (mCk 2000192 M) false),(2000193,.row (M.ws.map encWA) 11 false),(2000194,.row (M.ev.map encEvA) 11 false),(2000248,.box (mCk 2000248 M) false),(2000249,.row (M.ws.map encWA) 11 false),(2000250,.row (M.ev.map encEvA) 11 false)])
   (fun i=>i<=M.ev.length) (fun i=>M.ev.length-i) 0 (Nat.zero_le _) (le0 (le_of_cov ⟨rfl,rfl,rfl,rfl,rfl,rfl,trivial⟩ ⟨rfl,rfl,rfl,rfl,rfl,rfl,trivial⟩ ⟨rfl,rfl,rfl,rfl⟩)) ?_
  intro i hi
  conv=>whnf
  refine bcase_p (fun g5=>?_) (fun g5=>?_)<;>conv=>whnf
  ·have hi2:i<M.ev.length:=by omega
   refine idxK_nat (by omega) (w0 ?_);refine getRow_of (x:=encEvA M.ev[i]) (by simp [hi2]) (aW ?_);refine aP ?_;refine idxK_nat (by omega) (w0 ?_);refine getRow_of (x:=encEvA M.ev[i]) (by simp [hi2]) (aW ?_);refine aP ?_;refine bcase_t (by simp) (aP ?_);exact ⟨i+1,by omega,by omega,(le0 (le_of_cov ⟨rfl,rfl,rfl,rfl,rfl,rfl,trivial⟩ ⟨rfl,rfl,rfl,rfl,rfl,rfl,trivial⟩ ⟨rfl,rfl,rfl,rfl⟩))⟩
  refine aP ?_;refine callH_blk hpg nm9a rfl ⟨rfl,rfl,rfl,trivial⟩ rfl (aP ?_);refine callH_blk hpg nm9b rfl ⟨rfl,rfl,rfl,trivial⟩ rfl (aP ?_);refine callX_pure (Hy.same_ok (bgN P 16) (bgN P 16) (by have:=bg_len P;omega)) (w0 ?_);refine bcase_t (by simp) (aP ?_);refine callX_pure awake19_ok (aP ?_)
  first|exact ret_of rfl rfl|exact rfl
 have hk2:k<acts.length:=by omega
 have e:=es hk2;rw [hM2] at e;have hD:=doL_ok hI.g hw (by omega) acts[k];refine aP ?_;refine idxK_nat (by omega) (w0 ?_);refine getRow_of (x:=encI acts[k]) (by simp [hk2]) (aW ?_);refine callH_blk hD nm9a rfl ⟨rfl,rfl,rfl,trivial⟩ rfl (aP ?_);refine idxK_nat (by omega) (w0 ?_);refine getRow_of (x:=encI acts[k]) (by simp [hk2]) (aW ?_);refine callH_blk hD nm9b rfl ⟨rfl,rfl,rfl,trivial⟩ rfl (aP ?_);refine callH_blk (flight_ok (doMS M acts[k]).1) nm9a rfl ⟨rfl,rfl,rfl,trivial⟩ rfl (aP ?_);refine callH_blk (flight_ok (doMS M acts[k]).1) nm9b rfl ⟨rfl,rfl,rfl,trivial⟩ rfl (aP ?_);refine callH_blk (clock_ok (doMS M acts[k]).1) nm9a rfl ⟨rfl,rfl,rfl,trivial⟩ rfl (aP ?_);refine callH_blk (clock_ok (doMS M acts[k]).1) nm9b rfl ⟨rfl,rfl,rfl,trivial⟩ rfl (aP ?_);refine ⟨k+1,⟨by omega,by omega⟩,by omega,?_⟩;rw [e];exact (le0 (le_of_cov ⟨rfl,rfl,rfl,rfl,trivial⟩ ⟨rfl,rfl,rfl,rfl,rfl,rfl,trivial⟩ ⟨rfl,rfl,rfl,rfl⟩))
def wkR:List (List MOp):=[[],[]]
structure RG (m:MS):Prop where
 ev:m.ev=[]
 out:m.s.out=[]
 jobs:∀ j∈m.s.jobs,j=none
 ws:∀ w∈m.ws,w.st=0/\w.ended=0/\w.todo=[]
theorem lane_none {jobs:List (Option Int)} (h:∀ j∈jobs,j=none):∀ (n k:Nat),laneFrom jobs n k=none
 |0,_=>rfl
 |n+1,k=>by
  rw [laneFrom,if_neg,lane_none h n]
  cases e:jobs[k%jobs.length]? with
  |none=>simp
  |some j=>rw [h j (List.mem_of_getElem? e)];simp
theorem RG.pump {m:MS} (h:RG m):pumpS m.s=m.s:=by
 have e:nextL m.s=none:=lane_none h.jobs _ _;rw [pumpS,pumpG]
 split
 ·rw [e]
 ·rfl
theorem RG.step {m:MS} (h:RG m) (k:Int):RG (stepM m k).1/\ (stepM m k).2=false:=by
 rw [stepM]
 split
 ·exact ⟨h,rfl⟩
 split
 ·exact ⟨h,rfl⟩
 ·rename_i w hk;obtain ⟨h1,h2,h3⟩:=h.ws w (List.mem_of_getElem? hk);rw [stepW,h1];simp only [];rw [if_pos (by rw [h2,h3];exact Nat.le_refl 0)];exact ⟨⟨h.ev,h.out,h.jobs,h.ws⟩,rfl⟩
theorem RG.fin {m:MS} (h:RG m) (i:Int) (b:Bool):finM m i b=(m,false):=by
 rw [finM,if_pos]
 rw [h.out];simp;omega
theorem RG.do_ {m:MS} (h:RG m) (a:Int×Int):RG (doMS m a).1/\ ((a.1=7\/a.1=8\/a.1<6\/9<a.1)->(doMS m a).2=false):=by
 rw [doMS];repeat' split
 ·refine ⟨?_,fun g=>by omega⟩
  rw [pumpM,h.pump];exact h
 ·rw [h.fin];exact ⟨h,fun _=>rfl⟩
 ·exact ⟨⟨h.ev,h.out,h.jobs,h.ws⟩,fun g=>by omega⟩
 ·exact ⟨(h.step _).1,fun _=>(h.step _).2⟩
 ·exact ⟨(h.step _).1,fun _=>(h.step _).2⟩
theorem RG.doc {P0 n work m} (h:RG m) (g:HI P0 n work m):DocI m.p P0 n:=by
 obtain ⟨G,P,g1,g2,g3,g4,g5⟩:=g.og.ex
 have hp:pendR m.ws=[]:=by
  rw [pendR,List.filterMap_eq_nil_iff];intro w hw;rw [wR,if_neg]
  have:=(h.ws w hw).1;omega
 rw [allR,h.ev,hp] at g5;have:G=[]:=List.nil_perm.1 g5;subst this
 cases (show P=P0 from g1)
 exact g2
theorem RG.new (n:Nat) (pages:List Pg):RG (begM n pages wkR):=
 ⟨rfl,rfl,fun j hj=>List.eq_of_mem_replicate hj,fun w hw=>by
  have hw:w∈[newWA [],newWA []]:=hw;simp at hw
  rw [hw];exact ⟨rfl,rfl,rfl⟩⟩
theorem RG.st {m:MS} (h:RG m) (k:Int):HCall Tryz.prog 33 [.ptr 1000000 0 0,.d (.int .i64 k)] (mH m) (mH m) (.int .i64 0):=by
 have e:=state_ok m k
 by_cases hk:0<=k
 ·rw [if_pos hk] at e
  cases hw:m.ws[k.toNat]? with
  |none=>rw [hw] at e;exact e
  |some w=>rw [hw] at e;simp only [(h.ws w (List.mem_of_getElem? hw)).1] at e;exact e
 ·rw [if_neg hk] at e;exact e
theorem RG.lf {m:MS} (h:RG m) (k:Int):HCall Tryz.prog 37 [.ptr 1000000 0 0,.d (.int .i64 k)] (mH m) (mH m) (.int .i64 0):=by
 have e:=left_m_ok m k (fun w hw=>by obtain ⟨_,z1,z2⟩:=h.ws w hw;rw [z1,z2];exact ⟨by decide,by decide⟩)
 by_cases hk:0<=k
 ·rw [if_pos hk] at e
  cases hw:m.ws[k.toNat]? with
  |none=>rw [hw] at e;exact e
  |some w=>rw [hw] at e;simp only [(h.ws w (List.mem_of_getElem? hw)).2.1,(h.ws w (List.mem_of_getElem? hw)).2.2] at e;exact e
 ·rw [if_neg hk] at e;exact e
def nm11:List (Nat×Nat):=[(1000000,2000144),(1000001,2000145),(1000004,2000146)]
set_option maxRecDepth 20000 in
set_option maxHeartbeats 16000000 in
theorem rest_ok (many:Int) (m0:0<=many) (m1:many<=255) (pages:List Pg) (hp:pages.length<=9223372036854775807) (acts:List (Int×Int)) (ha:acts.length<=9223372036854775807) (who:Int):
  ACall Tryz.prog 11 [.int .u8 many,.lst (pages.map encP),.lst (acts.map encI),.int .i64 who] (.bool true):=by
 have hma:(acts.map encI).length=acts.length:=List.length_map ..
 obtain ⟨n,hn⟩:∃ n:Nat,1+many%8=n:=⟨(1+many%8).toNat,by omega⟩
 have n1:1<=n:=by omega
 have n8:n<=8:=by omega
 have hB:=begin19_ok many m0 m1 pages hp wkR (by decide) (by decide) (by decide) n hn;have hI0:=HI.new (n:=n) (work:=wkR) n1 n8 pages (by decide) (by decide);have hR0:=RG.new n pages;have hc0:(begM n pages wkR).clk=0:=rfl;obtain ⟨M0,hM⟩:∃ M0,begM n pages wkR=M0:=⟨_,rfl⟩;rw [hM] at hB hI0 hc0 hR0;refine acall_of Tryz.func11 4 rfl (by kernel_rfl) (aP ?_);refine callX_ptr hB (Nat.le_of_ble_eq_true rfl) (aP ?_)
 refine bcase_p (fun c60=>?_) (fun c60=>?_)<;>conv=>whnf
 ·refine aP ?_;refine callX_pure awake19_ok (aP ?_)
  first|exact ret_of rfl rfl|exact rfl
 refine aP ?_;refine aloop (ι:=Nat×MS) (fun k=>[(3,.d (.int .i64 who)),(9,.ptr 2000144 0 0),(10,.d (.lst ((bg19 pages).map encP))),(33,.d (.lst (acts.map encI))),(34,.d (.int .i64 (acts.map encI).length)),(35,.d (.int .i64 k.1))])
  (fun k=>[(2000144,.box (mCk 2000144 k.2) false),(2000145,.row (k.2.ws.map encWA) 11 false),(2000146,.row (k.2.ev.map encEvA) 11 false)])
  (fun k=>k.1<=acts.length/\HI (new9 pages).2 n wkR k.2/\RG k.2/\k.2.clk<=k.1) (fun k=>acts.length-k.1) (0,M0) ⟨Nat.zero_le _,hI0,hR0,by rw [hc0];exact Int.le_refl 0⟩ (le0 (le_of_cov ⟨rfl,rfl,rfl,rfl,rfl,rfl,trivial⟩ ⟨rfl,rfl,rfl,trivial⟩ ⟨rfl,rfl,rfl,rfl⟩)) ?_
 rintro ⟨k,M⟩ ⟨hk,hI,hR,hck⟩;simp only at hk hI hR hck⊢
 conv=>whnf
 refine bcase_p (fun h5=>?_) (fun h5=>?_)<;>conv=>whnf
 ·have hk2:k<acts.length:=by omega
  obtain ⟨d1,d2⟩:=hR.do_ acts[k];have hD:=doL_ok hI.g (fun l h=>by simp [wkR] at h;rw [h];decide) (by omega) acts[k]
  have hD0:(doMS M acts[k]).2=false->HCall Tryz.prog 18 [.ptr 1000000 0 0,.agg [.d (.int .i64 acts[k].1),.d (.int .i64 acts[k].2)]] (mH M) (mH (doMS M acts[k]).1) (.int .i64 0):=fun h=>by rw [h] at hD;exact hD
  have hI2:=hI.do_ acts[k];have hc2:=(doMS_clk M acts[k]).1;obtain ⟨M2,hM2⟩:∃ M2,(doMS M acts[k]).1=M2:=⟨_,rfl⟩;rw [hM2] at d1 hD0 hI2 hc2;refine idxK_nat (by omega) (w0 ?_);refine getRow_of (x:=encI acts[k]) (by simp [hk2]) (aW ?_)
  refine bcase_p (fun e7=>?_) (fun e7=>?_)<;>conv=>whnf
  ·have hD:=hD0 (d2 (by omega));refine aP ?_;refine callH_blk hD nm11 rfl ⟨rfl,rfl,rfl,trivial⟩ rfl (aP ?_);exact ⟨(k+1,M2),⟨by simp only [];omega,hI2,d1,by simp only [];omega⟩,by simp only [];omega,(le0 (le_of_cov ⟨rfl,rfl,rfl,rfl,rfl,rfl,trivial⟩ ⟨rfl,rfl,rfl,trivial⟩ ⟨rfl,rfl,rfl,rfl⟩))⟩
  refine aP ?_
  refine bcase_p (fun e8=>?_) (fun e8=>?_)<;>conv=>whnf
  ·have hD:=hD0 (d2 (by omega));refine aP ?_;refine callH_blk hD nm11 rfl ⟨rfl,rfl,rfl,trivial⟩ rfl (aP ?_);exact ⟨(k+1,M2),⟨by simp only [];omega,hI2,d1,by simp only [];omega⟩,by simp only [];omega,(le0 (le_of_cov ⟨rfl,rfl,rfl,rfl,rfl,rfl,trivial⟩ ⟨rfl,rfl,rfl,trivial⟩ ⟨rfl,rfl,rfl,rfl⟩))⟩
  refine aP ?_
  refine bcase_p (fun e6=>?_) (fun e6=>?_)<;>conv=>whnf
  ·have hD:=hD0 (d2 (by omega));refine aP ?_;refine callH_blk hD nm11 rfl ⟨rfl,rfl,rfl,trivial⟩ rfl (aP ?_);exact ⟨(k+1,M2),⟨by simp only [];omega,hI2,d1,by simp only [];omega⟩,by simp only [];omega,(le0 (le_of_cov ⟨rfl,rfl,rfl,rfl,rfl,rfl,trivial⟩ ⟨rfl,rfl,rfl,trivial⟩ ⟨rfl,rfl,rfl,rfl⟩))⟩
  refine aP ?_
  refine bcase_p (fun e9=>?_) (fun e9=>?_)<;>conv=>whnf
  ·have hD:=hD0 (d2 (by omega));refine aP ?_;refine callH_blk hD nm11 rfl ⟨rfl,rfl,rfl,trivial⟩ rfl (aP ?_);exact ⟨(k+1,M2),⟨by simp only [];omega,hI2,d1,by simp only [];omega⟩,by simp only [];omega,(le0 (le_of_cov ⟨rfl,rfl,rfl,rfl,rfl,rfl,trivial⟩ ⟨rfl,rfl,rfl,trivial⟩ ⟨rfl,rfl,rfl,rfl⟩))⟩
  refine aP ?_;exact ⟨(k+1,M),⟨by simp only [];omega,hI,hR,by simp only [];omega⟩,by simp only [];omega,(le0 (le_of_cov ⟨rfl,rfl,rfl,rfl,rfl,rfl,trivial⟩ ⟨rfl,rfl,rfl,trivial⟩ ⟨rfl,rfl,rfl,rfl⟩))⟩
 refine aP ?_;have e1:=hR.st who;have e2:=hR.lf who;have e3:=history_ok M (by rw [hR.ev];exact (by decide:0<=1000000))
 have e4:HCall Tryz.prog 30 [.ptr 1000000 0 0] (mH M) (mH M) (.int .i64 0):=by
  have e:=flight_ok M
  rw [hR.out] at e;exact e
 have hdoc:=hR.doc hI;have e5:=pages_m_ok M hdoc.inv.pj.fm;rw [pages_doc hdoc] at e5
 have hev:(M.ev.map encEvA).length=0:=by rw [hR.ev];rfl
 refine callH_blk e1 nm11 rfl ⟨rfl,rfl,rfl,trivial⟩ rfl (aP ?_);refine callH_blk e2 nm11 rfl ⟨rfl,rfl,rfl,trivial⟩ rfl (aP ?_);refine callH_blk e3 nm11 rfl ⟨rfl,rfl,rfl,trivial⟩ rfl (aP ?_);refine callH_blk e4 nm11 rfl ⟨rfl,rfl,rfl,trivial⟩ rfl (aP ?_);refine callH_blk (clock_ok M) nm11 rfl ⟨rfl,rfl,rfl,trivial⟩ rfl (aP ?_);refine callH_blk e5 nm11 rfl ⟨rfl,rfl,rfl,trivial⟩ rfl (aP ?_);refine callX_pure (Hy.same_ok (bgN (new9 pages).2 16) (bgN (new9 pages).2 16) (by have:=bg_len (new9 pages).2;omega)) (w0 ?_);refine bcase_t (by simp) (aP ?_);refine callX_pure awake19_ok (aP ?_)
 first|exact ret_of rfl rfl|exact rfl
theorem stepW_2 (m:MS) (c:Int) (k:Nat) (w:WA) (now now':Int):(stepW {m with clk:=c} k w now').2=(stepW m k w now).2:=by
 unfold stepW;repeat' split
 all_goals first|rfl|(exfalso;simp only [latM] at*;simp_all;done)
theorem stepM_2 (m:MS) (c:Int) (k:Int):(stepM {m with clk:=c} k).2=(stepM m k).2:=by
 rw [stepM,stepM]
 split
 ·rfl
 ·show (match m.ws[k.toNat]? with|none=>({m with clk:=c},false)|some w=>stepW {m with clk:=c+1} k.toNat w c).2=_
  cases h:m.ws[k.toNat]? with
  |none=>rfl
  |some w=>exact (stepW_2 m (c+1) _ w 0 c).trans (stepW_2 m (m.clk+1) _ w 0 m.clk).symm
theorem stepW_no (m:MS) (k:Nat) (w:WA) (now:Int):(stepW m k w now).2=false->(stepW m k w now).1=m:=by
 unfold stepW;repeat' split
 all_goals first|exact fun _=>rfl|exact fun h=>by cases h
theorem stepM_no {m:MS} {k:Int} (h:(stepM m k).2=false):∃ c,(stepM m k).1={m with clk:=c} /\m.clk<=c/\c<=m.clk+1:=by
 rw [stepM] at h⊢
 split
 ·exact ⟨m.clk,rfl,by omega,by omega⟩
 ·rename_i hk;rw [if_neg hk] at h
  cases e:m.ws[k.toNat]? with
  |none=>exact ⟨m.clk,rfl,by omega,by omega⟩
  |some w=>
   rw [e] at h;exact ⟨m.clk+1,stepW_no _ _ _ _ h,by omega,by omega⟩
def goB (m:MS) (k:Nat):Prop:=(stepM m k).2=true\/stV m k=4
def lfV (m:MS) (k:Nat):Int:=match m.ws[k]? with|some w=>(w.todo.length:Int)-w.ended|none=>0
theorem step_at {m:MS} {k:Nat} {w:WA} (hk:m.ws[k]?=some w):(stepM m k).2=(stepW m k w 0).2:=by
 rw [stepM,if_neg (by omega),Int.toNat_natCast,hk];exact stepW_2 m _ _ w 0 _
theorem stV_at {m:MS} {k:Nat} {w:WA} (hk:m.ws[k]?=some w):stV m k=w.st:=by rw [stV,hk]
theorem goes3 {m:MS} (o:MOk m) (hz:∀ k,¬goB m k) {k:Nat} {w:WA} (hk:m.ws[k]?=some w):w.st<3:=by
 have v:=o.w k w hk;have h6:=v.st6;have hg:=hz k;rw [goB,step_at hk,stV_at hk] at hg
 refine Classical.byContradiction fun hn=>hg ?_
 have hst:w.st=3\/w.st=4\/w.st=5\/w.st=6:=by omega
 rcases hst with hs|hs|hs|hs
 ·left
  simp only [stepW,hs]
  split
  ·rename_i hf
   have hf1:0<heldN m.h.cl:=by have:=o.hall.n1;omega
   obtain ⟨c,hc,hb⟩:=List.countP_pos_iff.1 hf1;have hm:c.1∈m.h.all:=List.mem_append.2 (.inl (List.mem_map_of_mem (f:=(·.1)) hc));have hlt:=o.hw _ hm;obtain ⟨w2,hw2⟩:∃ w2,m.ws[c.1]?=some w2:=⟨_,List.getElem?_eq_getElem hlt⟩;have v2:=o.w _ w2 hw2
   have hp:w2.pinned=true:=by
    rw [<-v2.held];exact heldW_t.2 (by rw [<-hb];exact hc)
   have h4:¬w2.st<4:=fun g=>by rw [v2.npin g] at hp;cases hp
   have h62:=v2.st6;have hg2:=hz c.1;rw [goB,step_at hw2,stV_at hw2] at hg2;refine absurd ?_ hg2
   have hst:w2.st=4\/w2.st=5\/w2.st=6:=by omega
   rcases hst with hs2|hs2|hs2
   ·right;omega
   ·left;simp only [stepW,hs2]
   ·left;simp only [stepW,hs2]
  ·split<;>rfl
 ·right;omega
 ·left;simp only [stepW,hs]
 ·left;simp only [stepW,hs]
theorem goes2 {m:MS} (o:MOk m) (hz:∀ k,¬goB m k) {k:Nat} {w:WA} (hk:m.ws[k]?=some w):w.st<2:=by
 have h3:=goes3 o hz hk
 refine Classical.byContradiction fun hn=>?_
 have hs:w.st=2:=by omega
 have v:=o.w k w hk;have ha:=v.ask (by omega) (by omega);obtain ⟨_,r1,r2⟩:=refB_f (v.val ha)
 have hi:w.op.2.1.toNat<m.lat.length:=by rw [o.ll];omega
 obtain ⟨l,hl⟩:∃ l,m.lat[w.op.2.1.toNat]?=some l:=⟨_,List.getElem?_eq_getElem hi⟩;have hm:=(v.lt _ l hl).2 ⟨ha,by omega⟩;have L:=o.li _ l hl
 have key:∀ j,j∈l.hs->False:=fun j hj=>by
  have hlt:=L.lt j (List.mem_append.2 (.inl hj));obtain ⟨w2,hw2⟩:∃ w2,m.ws[j]?=some w2:=⟨_,List.getElem?_eq_getElem hlt⟩;have v2:=o.w _ w2 hw2;obtain ⟨q1,q2⟩:=(v2.lt _ l hl).1 (List.mem_append.2 (.inl hj));have q3:=goes3 o hz hw2
  have q4:¬w2.st<2:=fun g=>by rw [v2.nask g] at q1;cases q1
  have q5:w2.st=2:=by omega
  have hg2:=hz j;rw [goB,step_at hw2] at hg2;refine hg2 (.inl ?_)
  have e:latM m w2.op.2.1=l:=by rw [latM,q2,Int.toNat_natCast,hl];rfl
  simp only [stepW,q5];rw [e,holdsL,List.contains_iff_mem.2 hj];rfl
 rcases List.mem_append.1 hm with h|h
 ·exact key k h
 ·rcases L.shut with e|⟨e,_⟩
  ·rw [e] at h;cases h
  ·obtain ⟨j,hj⟩:=List.exists_mem_of_ne_nil _ e;exact key j hj
theorem goes1 {m:MS} (o:MOk m) (hz:∀ k,¬goB m k) {k:Nat} {w:WA} (hk:m.ws[k]?=some w):w.st=0:=by
 have h2:=goes2 o hz hk
 refine Classical.byContradiction fun hn=>?_
 have hs:w.st=1:=by omega
 have v:=o.w k w hk;have hm:=v.hal.2 hn
 have key:∀ j,isCl m.h j=true->False:=fun j hj=>by
  have hmj:j∈m.h.all:=List.mem_append.2 (.inl (isCl_t.1 hj));have hlt:=o.hw j hmj;obtain ⟨w2,hw2⟩:∃ w2,m.ws[j]?=some w2:=⟨_,List.getElem?_eq_getElem hlt⟩;have v2:=o.w _ w2 hw2;have q0:=v2.hal.1 hmj;have q3:=goes2 o hz hw2
  have q5:w2.st=1:=by omega
  have hg2:=hz j;rw [goB,step_at hw2] at hg2;refine hg2 (.inl ?_);simp only [stepW,q5];rw [hj,if_neg (by decide)]
  split<;>rfl
 rcases List.mem_append.1 hm with h|h
 ·exact key k (isCl_t.2 h)
 ·rcases o.hall.shut with e|e
  ·rw [e] at h;cases h
  ·have n1:=o.hall.n1
   have:0<m.h.cl.length:=by omega
   obtain ⟨c,hc⟩:=List.exists_mem_of_length_pos this;exact key c.1 (isCl_t.2 (List.mem_map_of_mem (f:=(·.1)) hc))
theorem goes0 {m:MS} (o:MOk m) (hz:∀ k,¬goB m k) {k:Nat} {w:WA} (hk:m.ws[k]?=some w):w.ended=w.todo.length:=by
 have h1:=goes1 o hz hk;have v:=o.w k w hk
 refine Classical.byContradiction fun hn=>?_
 have hg:=hz k;rw [goB,step_at hk] at hg;refine hg (.inl ?_);simp only [stepW,h1];rw [if_neg (by have:=v.en;omega)]
theorem go_left {m:MS} (o:MOk m) {k:Nat} {w:WA} (hk:m.ws[k]?=some w) (h:goB m k):w.ended<w.todo.length:=by
 have v:=o.w k w hk;rw [goB,step_at hk,stV_at hk] at h
 by_cases hs:w.st=0
 ·rcases h with h|h
  ·simp only [stepW,hs] at h
   split at h
   ·cases h
   ·omega
  ·omega
 ·exact v.bu hs
theorem goes {m:MS} (o:MOk m):(∃ k,k<m.ws.length/\goB m k)↔∃ k,k<m.ws.length/\0<lfV m k:=by
 constructor
 ·rintro ⟨k,hk,h⟩;refine ⟨k,hk,?_⟩;have:=go_left o (List.getElem?_eq_getElem hk) h;rw [lfV,List.getElem?_eq_getElem hk]
  show 0<(m.ws[k].todo.length:Int)-m.ws[k].ended;omega
 ·rintro ⟨k,hk,h⟩
  refine Classical.byContradiction fun hn=>?_
  have hz:∀ k,¬goB m k:=fun j hj=>by
   by_cases e:j<m.ws.length
   ·exact hn ⟨j,e,hj⟩
   ·rw [goB,stepM,if_neg (by omega),Int.toNat_natCast,List.getElem?_eq_none (by omega),stV,List.getElem?_eq_none (by omega)] at hj
    rcases hj with hj|hj
    ·cases hj
    ·exact absurd hj (by decide)
  have:=goes0 o hz (List.getElem?_eq_getElem hk);rw [lfV,List.getElem?_eq_getElem hk] at h;replace h:0<(m.ws[k].todo.length:Int)-m.ws[k].ended:=h;omega
theorem nodup_leN:∀ {a b:List Nat},a.Nodup->(∀ x∈a,x∈b)->a.length<=b.length
 | [],b,_,_=>Nat.zero_le _
 |y::r,b,hn,hs=>by
  rw [List.nodup_cons] at hn;have hy:=hs y (List.mem_cons_self ..)
  have:=nodup_leN (b:=b.erase y) hn.2 fun z hz=>(List.mem_erase_of_ne (fun e=>hn.1 (by rw [<-e];exact hz))).2 (hs z (List.mem_cons_of_mem _ hz))
  rw [List.length_erase_of_mem hy] at this;have hb:0<b.length:=List.length_pos_of_mem hy
  simp only [List.length_cons];omega
def waitsN (m:MS) (k:Nat):Nat:=((List.range k).filter fun j=>decide (stV m j=4)).length
theorem waits_succ (m:MS) (k:Nat):waitsN m (k+1)=waitsN m k+(if stV m k=4 then 1 else 0):=by
 rw [waitsN,List.range_succ,List.filter_append,List.length_append,<-waitsN]
 by_cases h:stV m k=4
 ·rw [if_pos h,List.filter_cons,if_pos (by simpa using h)];rfl
 ·rw [if_neg h,List.filter_cons,if_neg (by simpa using h)];rfl
theorem waits_le (m:MS) (k:Nat):waitsN m k<=k:=by
 have:=List.length_filter_le (fun j=>decide (stV m j=4)) (List.range k)
 rwa [List.length_range] at this
theorem waits_pos {m:MS} {k:Nat}:0<waitsN m k↔∃ j,j<k/\stV m j=4:=by
 rw [waitsN,List.length_pos_iff_exists_mem];simp
theorem flight_waits {m:MS} (o:MOk m):m.s.out.length<=waitsN m m.ws.length:=by
 have h:=nodup_leN (a:=m.s.out.map (·.who)) (b:=(List.range m.ws.length).filter fun j=>decide (stV m j=4)) o.su.nd fun x hx=>by
  obtain ⟨f,hf,rfl⟩:=List.mem_map.1 hx;have h1:=(o.su.lt f hf).2.1;rw [o.sj] at h1;have h2:=((o.w f.who _ (List.getElem?_eq_getElem h1)).job f.pg).1 (.inr ⟨f,hf,rfl,rfl⟩);simp only [List.mem_filter,List.mem_range,decide_eq_true_eq];refine ⟨h1,?_⟩
  rw [stV_at (List.getElem?_eq_getElem h1),h2.1];rfl
 simpa [waitsN] using h
def leftS (m:MS):Nat->Int
 |0=>0
 |k+1=>leftS m k+lfV m k
theorem leftS_pos {m:MS} (h:∀ k,0<=lfV m k):∀ k,(0<leftS m k↔∃ j,j<k/\0<lfV m j) /\0<=leftS m k
 |0=>⟨⟨fun g=>absurd (show (0:Int)<0 from g) (by decide),fun ⟨j,hj,_⟩=>absurd hj (Nat.not_lt_zero _)⟩,Int.le_refl 0⟩
 |k+1=>by
  obtain ⟨ih,ih0⟩:=leftS_pos h k;have hk:=h k;refine ⟨⟨fun g=>?_,fun ⟨j,hj,hp⟩=>?_⟩,by show 0<=leftS m k+lfV m k;omega⟩
  ·by_cases e:0<lfV m k
   ·exact ⟨k,Nat.lt_succ_self k,e⟩
   ·have:0<leftS m k:=by have g:0<leftS m k+lfV m k:=g;omega
    obtain ⟨j,hj,hp⟩:=ih.1 this;exact ⟨j,by omega,hp⟩
  ·show 0<leftS m k+lfV m k
   by_cases e:j=k
   ·subst e;omega
   ·have:=ih.2 ⟨j,by omega,hp⟩;omega
theorem encI_ok2:∀ (l:List (Int×Int)),okRows 2 (l.map encI)=true
 | []=>rfl
 |_::r=>encI_ok2 r
set_option maxRecDepth 20000 in
set_option maxHeartbeats 8000000 in
theorem hall_ok (m:MS) (h1:m.h.cl.length<=1000000) (h2:m.h.q.length<=1000000):HCall Tryz.prog 34 [.ptr 1000000 0 0] (mH m) (mH m) (encHA m.h):=by
 have hc:=cloneCl (encCl_ok m.h.cl) (by rw [List.length_map];exact h1);have ht:=cloneTk (encTk_ok m.h.q) (by rw [List.length_map];exact h2);refine hcall_of Tryz.func34 1 rfl (by kernel_rfl) (by rfl) (aP ?_);refine callX_own hc (aP ?_);refine callX_own ht (aP ?_);exact hret_of rfl rfl rfl ⟨rfl,rfl,rfl,trivial⟩
set_option maxRecDepth 20000 in
set_option maxHeartbeats 8000000 in
theorem pool_m_ok (m:MS) (h1:m.p.f.fr.length<=1000000) (h2:m.p.f.tb.length<=1000000) (h3:m.p.f.pg.length<=1000000) (h4:m.p.f.dt.length<=1000000) (h5:m.p.d.sec.length<=1000000) (h6:m.p.d.ca.length<=1000000):
  HCall Tryz.prog 23 [.ptr 1000000 0 0] (mH m) (mH m) (encPS m.p):=by
 have e1:=cloneF_ok m.p.f.fr h1;have e2:=Tb.clone_ok m.p.f.tb h2;have e3:=cloneP_ok m.p.f.pg h3;have e4:=cloneDt (encI_ok2 m.p.f.dt) (by rw [List.length_map];exact h4);have e5:=cloneB_ok m.p.d.sec h5;have e6:=cloneW_ok m.p.d.ca h6;refine hcall_of Tryz.func23 1 rfl (by kernel_rfl) (by rfl) (aP ?_);refine callX_own e1 (aP ?_);refine callX_own e2 (aP ?_);refine callX_own e3 (aP ?_);refine callX_own e4 (aP ?_);refine callX_own e5 (aP ?_);refine callX_own e6 (aP ?_);exact hret_of rfl rfl rfl ⟨rfl,rfl,rfl,trivial⟩
theorem lfV_at {m:MS} {k:Nat} {w:WA} (hk:m.ws[k]?=some w):lfV m k=(w.todo.length:Int)-w.ended:=by rw [lfV,hk]
theorem HI.leftF {P0 n work m} (h:HI P0 n work m) (hw:∀ l∈work,l.length<=1000) {k:Nat} (hk:k<m.ws.length):HCall Tryz.prog 37 [.ptr 1000000 0 0,.d (.int .i64 k)] (mH m) (mH m) (.int .i64 (lfV m k)):=by
 rw [lfV_at (List.getElem?_eq_getElem hk)];exact h.leftV hw (List.getElem?_eq_getElem hk)
theorem HI.lfB {P0 n work m} (h:HI P0 n work m) (hw:∀ l∈work,l.length<=1000) (k:Nat):0<=lfV m k/\lfV m k<=1000:=by
 rw [lfV]
 cases e:m.ws[k]? with
 |none=>exact ⟨Int.le_refl 0,by decide⟩
 |some w=>
  have h1:=(h.g.ok.w k w e).en
  have h2:w.todo∈work:=by rw [<-h.td];exact List.mem_map_of_mem (List.mem_of_getElem? e)
  have:=hw _ h2;show 0<= (w.todo.length:Int)-w.ended/\ (w.todo.length:Int)-w.ended<=1000;omega
theorem leftS_le {m:MS} (h:∀ k,0<=lfV m k/\lfV m k<=1000):∀ k,0<=leftS m k/\leftS m k<=1000*k
 |0=>⟨Int.le_refl 0,Int.le_refl 0⟩
 |k+1=>by
  have:=leftS_le h k;have:=h k;show 0<=leftS m k+lfV m k/\leftS m k+lfV m k<=1000*((k+1:Nat):Int);omega
theorem held_succ {l:List (Nat×Bool)} {k:Nat} (hk:k<l.length):heldN (l.take (k+1))=heldN (l.take k)+(if l[k].2=true then 1 else 0):=by
 rw [heldN,heldN,take_snoc hk,List.countP_append,List.countP_cons,List.countP_nil,Nat.zero_add]
theorem DocI.pins0 {p P n} (h:DocI p P n) {i:Nat} (hi:i<p.f.fr.length):(p.f.fr[i]).2.1=0:=by
 by_cases hz:p.f.fr[i].1=0
 ·exact h.inv.loose0 hi hz
 ·have hA:=frOk_out.1 (h.inv.pj.fm.ck.all i hi);obtain ⟨q,hq⟩:∃ q:Nat,p.f.fr[i].1=(q:Int):=⟨p.f.fr[i].1.toNat,by omega⟩;have:=h.inv.wat (atF_of h.inv.pj.fm (by omega) hi hq);exact this.symm
theorem HI.us {P0 n work m} (h:HI P0 n work m):m.p.d.sec.length<=100/\m.p.d.ca.length<=200:=by
 obtain ⟨t,_,_,g⟩:=h.g.ex;have h1:=g.gd.us.dr.s2;have h2:=g.gd.us.dr.c1;omega
theorem fmRight9 {f:FX} (h:FM f):ACall Tryz.prog 44 [encFS f] (.bool true):=by
 have h1:=fright_ok f h.tl h.dl
 rw [frightB_t.2 (fm_iff.2 h)] at h1;exact h1
def nm13:List (Nat×Nat):=[(1000000,2000264),(1000001,2000265),(1000004,2000266)]
set_option maxRecDepth 20000 in
set_option maxHeartbeats 16000000 in
theorem safe19_ok (many:Int) (m0:0<=many) (m1:many<=255) (work:List (List MOp)) (hl:work.length<=9223372036854775807) (hl2:∀ l∈work,l.length<=9223372036854775807) (acts:List (Int×Int)) (ha:acts.length<=9223372036854775807):
  ACall Tryz.prog 13 [.int .u8 many,.lst (work.map encTd),.lst (acts.map encI)] (.bool true):=by
 have hma:(acts.map encI).length=acts.length:=List.length_map ..
 have hmw:(work.map encTd).length=work.length:=List.length_map ..
 refine acall_of Tryz.func13 3 rfl (by kernel_rfl) (aP ?_);refine callX_pure (small19_ok work hl hl2) (aW ?_)
 refine bcase_p (fun q0=>?_) (fun q0=>?_)<;>conv=>whnf
 ·refine aP ?_;refine callX_pure awake19_ok (aP ?_);exact ret_of rfl rfl
 have hS:SmOk work:=by
  rcases Classical.em (SmOk work) with h|h
  ·exact h
  ·rw [smN_no h] at q0;exact absurd (by decide) q0
 obtain ⟨n,hn⟩:∃ n:Nat,1+many%8=n:=⟨(1+many%8).toNat,by omega⟩
 have n1:1<=n:=by omega
 have n8:n<=8:=by omega
 have h60:∀ l∈work,l.length<=60:=fun l h=>by have:=(hS.one l h).len;omega
 have hw:∀ l∈work,l.length<=1000:=fun l h=>by have:=(hS.one l h).len;omega
 have hB:=begin19_ok many m0 m1 [] (by decide) work hS.n1 hS.n4 h60 n hn;have hI0:=HI.new n1 n8 [] hS.n1 hS.n4;have hc0:(begM n [] work).clk=0:=rfl;have hd0:=begM_doc n n1 n8 [] work;obtain ⟨M0,hM⟩:∃ M0,begM n [] work=M0:=⟨_,rfl⟩;rw [hM] at hB hI0 hc0 hd0;refine aP ?_;refine callX_ptr hB (Nat.le_of_ble_eq_true rfl) (aP ?_);refine aloop (ι:=Nat) (fun k=>[(1,.d (.lst (work.map encTd))),(2,.d (.lst (acts.map encI))),(7,.ptr 2000264 0 0),(10,.d (.int .i64 k))])
  (fun k=>[(2000264,.box (mCk 2000264 (runMS M0 (acts.take k))) false),(2000265,.row ((runMS M0 (acts.take k)).ws.map encWA) 11 false),(2000266,.row ((runMS M0 (acts.take k)).ev.map encEvA) 11 false)])
  (fun k=>k<=acts.length/\k<=200) (fun k=>200-k) 0 ⟨by omega,by decide⟩ (le0 (le_of_cov ⟨rfl,rfl,rfl,rfl,trivial⟩ ⟨rfl,rfl,rfl,trivial⟩ ⟨rfl,rfl,rfl,rfl⟩)) ?_
 rintro k ⟨hk,hk3⟩;have hI:=hI0.run (acts.take k)
 have hck:(runMS M0 (acts.take k)).clk<=k:=by
  have:=(run_clk (acts.take k) M0).1
  have:(acts.take k).length<=k:=by rw [List.length_take];omega
  omega
 have es:∀ hk2:k<acts.length,runMS M0 (acts.take (k+1))=(doMS (runMS M0 (acts.take k)) acts[k]).1:=fun hk2=>run_snoc hk2 M0
 obtain ⟨M,hM2⟩:∃ M,runMS M0 (acts.take k)=M:=⟨_,rfl⟩;rw [hM2] at hI hck;rw [hM2]
 conv=>whnf
 refine bcase_p (fun h5=>?_) (fun h5=>?_)<;>conv=>whnf
 rotate_left
 ·have hwl:=hI.wl;have h4:=hS.n4;refine aP ?_;refine aloop (ι:=Nat) (fun i=>[(1,.d (.lst (work.map encTd))),(7,.ptr 2000264 0 0),(21,.d (.int .i64 (leftS M i))),(22,.d (.int .i64 (waitsN M i))),(23,.d (.bool false)),(134,.d (.int .i64 (work.map encTd).length)),(135,.d (.int .i64 i))])
   (fun i=>[(2000264,.box (mCk 2000264 M) false),(2000265,.row (M.ws.map encWA) 11 false),(2000266,.row (M.ev.map encEvA) 11 false)])
   (fun i=>i<=work.length) (fun i=>work.length-i) 0 (Nat.zero_le _) (len [.wk 23 (.d (.bool false))] ⟨wk_ff,trivial⟩ (le_of_cov ⟨rfl,rfl,rfl,rfl,rfl,rfl,rfl,trivial⟩ ⟨rfl,rfl,rfl,trivial⟩ ⟨rfl,rfl,rfl,rfl⟩)) ?_
  intro i hi;have lb:=hI.lfB hw i;have lS:=leftS_le (hI.lfB hw) i;have wle:=waits_le M i;have ws:=waits_succ M i
  conv=>whnf
  refine bcase_p (fun g1=>?_) (fun g1=>?_)<;>conv=>whnf
  ·have hi2:i<work.length:=by omega
   refine callH_blk (hI.leftF hw (k:=i) (by omega)) nm13 rfl ⟨rfl,rfl,rfl,trivial⟩ rfl (aP ?_);refine callH_blk (stateV_ok M i) nm13 rfl ⟨rfl,rfl,rfl,trivial⟩ rfl (w0 ?_)
   refine bcase_p (fun g4=>?_) (fun g4=>?_)<;>conv=>whnf
   ·rw [if_pos g4] at ws;refine aP ?_;rw [show ((waitsN M i:Nat):Int)+1=((waitsN M (i+1):Nat):Int) by omega];exact ⟨i+1,by omega,by omega,(le0 (le_of_cov ⟨rfl,rfl,rfl,rfl,rfl,rfl,rfl,trivial⟩ ⟨rfl,rfl,rfl,trivial⟩ ⟨rfl,rfl,rfl,rfl⟩))⟩
   ·rw [if_neg g4] at ws;refine aP ?_;rw [show waitsN M i=waitsN M (i+1) by omega];exact ⟨i+1,by omega,by omega,(le0 (le_of_cov ⟨rfl,rfl,rfl,rfl,rfl,rfl,rfl,trivial⟩ ⟨rfl,rfl,rfl,trivial⟩ ⟨rfl,rfl,rfl,rfl⟩))⟩
  have hil:i=work.length:=by omega
  refine aP ?_;refine aloop (ι:=Nat×Bool×MS) (fun k=>[(7,.ptr 2000264 0 0),(21,.d (.int .i64 (leftS M i))),(22,.d (.int .i64 (waitsN M i))),(23,.d (.bool k.2.1)),(151,.d (.int .i64 (work.map encTd).length)),(152,.d (.int .i64 k.1))])
   (fun k=>[(2000264,.box (mCk 2000264 k.2.2) false),(2000265,.row (k.2.2.ws.map encWA) 11 false),(2000266,.row (k.2.2.ev.map encEvA) 11 false)])
   (fun k=>k.1<=work.length/\ (k.2.1=false->∃ c,k.2.2={M with clk:=c} /\M.clk<=c/\c<=M.clk+k.1/\ ∀ j,j<k.1->(stepM M j).2=false) /\ (k.2.1=true->∃ j,j<work.length/\ (stepM M j).2=true)) (fun k=>work.length-k.1) (0,false,M) ⟨Nat.zero_le _,fun _=>⟨M.clk,rfl,Int.le_refl _,by simp,fun j hj=>absurd hj (Nat.not_lt_zero _)⟩,fun q=>by cases q⟩ (le0 (le_of_cov ⟨rfl,rfl,rfl,rfl,rfl,rfl,trivial⟩ ⟨rfl,rfl,rfl,trivial⟩ ⟨rfl,rfl,rfl,rfl⟩)) ?_
  rintro ⟨q,b,M3⟩ ⟨hq,hf,ht⟩;simp only at hq hf ht⊢
  conv=>whnf
  refine bcase_p (fun g2=>?_) (fun g2=>?_)<;>conv=>whnf
  ·have hq2:q<work.length:=by omega
   refine aP ?_
   refine bcase_intro (fun hb=>?_) (fun hb=>?_)<;>conv=>whnf
   ·refine aP ?_;exact ⟨(q+1,true,M3),⟨by simp only [];omega,fun z=>(by cases z),fun _=>ht hb⟩,by simp only [];omega,len [.wk 23 (.d (.bool true))] ⟨wk_tt,trivial⟩ (le_of_cov ⟨rfl,rfl,rfl,rfl,rfl,rfl,trivial⟩ ⟨rfl,rfl,rfl,trivial⟩ ⟨rfl,rfl,rfl,rfl⟩)⟩
   obtain ⟨c,rfl,c0,c1,hno⟩:=hf hb;obtain ⟨t,t0,t1,gM⟩:=hI.g.ex;have gM3:MG work t {M with clk:=c}:=⟨gM.ok.clk c,gM.gd,gM.td,by have:=gM.ev;show (M.ev.length:Int) <=c;omega⟩;have hst:=stepM_ok gM3 t1 hw (by show c<=100000;omega) q;have h22:=stepM_2 M c q;rw [h22] at hst;obtain ⟨r,hr⟩:∃ r,(stepM M q).2=r:=⟨_,rfl⟩
   have hno2:r=false->∃ c',(stepM {M with clk:=c} q).1={M with clk:=c'} /\c<=c'/\c'<=c+1:=fun z=>stepM_no (m:={M with clk:=c}) (by rw [h22,hr,z])
   obtain ⟨M4,hM4⟩:∃ M4,(stepM {M with clk:=c} q).1=M4:=⟨_,rfl⟩;rw [hr,hM4] at hst;rw [hM4] at hno2;refine callH_blk hst nm13 rfl ⟨rfl,rfl,rfl,trivial⟩ rfl (aP ?_);refine ⟨(q+1,r,M4),⟨by simp only [];omega,fun z=>?_,fun z=>?_⟩,by simp only [];omega,(le0 (le_of_cov ⟨rfl,rfl,rfl,rfl,rfl,rfl,trivial⟩ ⟨rfl,rfl,rfl,trivial⟩ ⟨rfl,rfl,rfl,rfl⟩))⟩
   ·obtain ⟨c',e1,e2,e3⟩:=hno2 z;refine ⟨c',e1,by omega,by simp only [];omega,fun j hj=>?_⟩
    by_cases ej:j=q
    ·rw [ej,hr];exact z
    ·exact hno j (by simp only [] at hj;omega)
   ·exact ⟨q,hq2,by rw [hr];exact z⟩
  have hgo:=goes hI.g.ok;have hwp:=waits_pos (m:=M) (k:=i);have hlp:=(leftS_pos (fun k=>(hI.lfB hw k).1) i).1;rw [hwl] at hgo;rw [<-hil] at hgo
  have hiff:(∃ j,j<i/\ (stepM M j).2=true) \/0<waitsN M i↔0<leftS M i:=by
   rw [hlp,<-hgo,hwp]
   constructor
   ·rintro (⟨j,h1,h2⟩|⟨j,h1,h2⟩)
    ·exact ⟨j,h1,.inl h2⟩
    ·exact ⟨j,h1,.inr h2⟩
   ·rintro ⟨j,h1,h2|h2⟩
    ·exact .inl ⟨j,h1,h2⟩
    ·exact .inr ⟨j,h1,h2⟩
  refine bcase_intro (fun hb=>?_) (fun hb=>?_)<;>conv=>whnf
  ·have hL:=hiff.1 (.inl (by rw [hil];exact ht hb));refine aP ?_;refine bcase_t (by rw [decide_eq_true hL];rfl) (aP ?_);refine callX_pure awake19_ok (aP ?_)
   first|exact ret_of rfl rfl|exact rfl
  obtain ⟨c,_,_,_,hno⟩:=hf hb
  by_cases hL:0<leftS M i
  ·have hW:0<waitsN M i:=(hiff.2 hL).resolve_left fun ⟨j,h1,h2⟩=>by rw [hno j (by omega)] at h2;cases h2
   refine aP ?_;refine bcase_t (by rw [decide_eq_true hL,decide_eq_true (show 0<((waitsN M i:Nat):Int) by omega)];rfl) (aP ?_);refine callX_pure awake19_ok (aP ?_)
   first|exact ret_of rfl rfl|exact rfl
  ·have hW:¬0<waitsN M i:=fun h=>hL (hiff.1 (.inr h))
   refine aP ?_;refine bcase_t (by rw [decide_eq_false hL,decide_eq_false (show ¬0<((waitsN M i:Nat):Int) by omega)];rfl) (aP ?_);refine callX_pure awake19_ok (aP ?_)
   first|exact ret_of rfl rfl|exact rfl
 refine bcase_p (fun h6=>?_) (fun h6=>?_)<;>conv=>whnf
 rotate_left
 ·have hwl:=hI.wl;have h4:=hS.n4;refine aP ?_;refine aloop (ι:=Nat) (fun i=>[(1,.d (.lst (work.map encTd))),(7,.ptr 2000264 0 0),(21,.d (.int .i64 (leftS M i))),(22,.d (.int .i64 (waitsN M i))),(23,.d (.bool false)),(134,.d (.int .i64 (work.map encTd).length)),(135,.d (.int .i64 i))])
   (fun i=>[(2000264,.box (mCk 2000264 M) false),(2000265,.row (M.ws.map encWA) 11 false),(2000266,.row (M.ev.map encEvA) 11 false)])
   (fun i=>i<=work.length) (fun i=>work.length-i) 0 (Nat.zero_le _) (len [.wk 23 (.d (.bool false))] ⟨wk_ff,trivial⟩ (le_of_cov ⟨rfl,rfl,rfl,rfl,rfl,rfl,rfl,trivial⟩ ⟨rfl,rfl,rfl,trivial⟩ ⟨rfl,rfl,rfl,rfl⟩)) ?_
  intro i hi;have lb:=hI.lfB hw i;have lS:=leftS_le (hI.lfB hw) i;have wle:=waits_le M i;have ws:=waits_succ M i
  conv=>whnf
  refine bcase_p (fun g1=>?_) (fun g1=>?_)<;>conv=>whnf
  ·have hi2:i<work.length:=by omega
   refine callH_blk (hI.leftF hw (k:=i) (by omega)) nm13 rfl ⟨rfl,rfl,rfl,trivial⟩ rfl (aP ?_);refine callH_blk (stateV_ok M i) nm13 rfl ⟨rfl,rfl,rfl,trivial⟩ rfl (w0 ?_)
   refine bcase_p (fun g4=>?_) (fun g4=>?_)<;>conv=>whnf
   ·rw [if_pos g4] at ws;refine aP ?_;rw [show ((waitsN M i:Nat):Int)+1=((waitsN M (i+1):Nat):Int) by omega];exact ⟨i+1,by omega,by omega,(le0 (le_of_cov ⟨rfl,rfl,rfl,rfl,rfl,rfl,rfl,trivial⟩ ⟨rfl,rfl,rfl,trivial⟩ ⟨rfl,rfl,rfl,rfl⟩))⟩
   ·rw [if_neg g4] at ws;refine aP ?_;rw [show waitsN M i=waitsN M (i+1) by omega];exact ⟨i+1,by omega,by omega,(le0 (le_of_cov ⟨rfl,rfl,rfl,rfl,rfl,rfl,rfl,trivial⟩ ⟨rfl,rfl,rfl,trivial⟩ ⟨rfl,rfl,rfl,rfl⟩))⟩
  have hil:i=work.length:=by omega
  refine aP ?_;refine aloop (ι:=Nat×Bool×MS) (fun k=>[(7,.ptr 2000264 0 0),(21,.d (.int .i64 (leftS M i))),(22,.d (.int .i64 (waitsN M i))),(23,.d (.bool k.2.1)),(151,.d (.int .i64 (work.map encTd).length)),(152,.d (.int .i64 k.1))])
   (fun k=>[(2000264,.box (mCk 2000264 k.2.2) false),(2000265,.row (k.2.2.ws.map encWA) 11 false),(2000266,.row (k.2.2.ev.map encEvA) 11 false)])
   (fun k=>k.1<=work.length/\ (k.2.1=false->∃ c,k.2.2={M with clk:=c} /\M.clk<=c/\c<=M.clk+k.1/\ ∀ j,j<k.1->(stepM M j).2=false) /\ (k.2.1=true->∃ j,j<work.length/\ (stepM M j).2=true)) (fun k=>work.length-k.1) (0,false,M) ⟨Nat.zero_le _,fun _=>⟨M.clk,rfl,Int.le_refl _,by simp,fun j hj=>absurd hj (Nat.not_lt_zero _)⟩,fun q=>by cases q⟩ (le0 (le_of_cov ⟨rfl,rfl,rfl,rfl,rfl,rfl,trivial⟩ ⟨rfl,rfl,rfl,trivial⟩ ⟨rfl,rfl,rfl,rfl⟩)) ?_
  rintro ⟨q,b,M3⟩ ⟨hq,hf,ht⟩;simp only at hq hf ht⊢
  conv=>whnf
  refine bcase_p (fun g2=>?_) (fun g2=>?_)<;>conv=>whnf
  ·have hq2:q<work.length:=by omega
   refine aP ?_
   refine bcase_intro (fun hb=>?_) (fun hb=>?_)<;>conv=>whnf
   ·refine aP ?_;exact ⟨(q+1,true,M3),⟨by simp only [];omega,fun z=>(by cases z),fun _=>ht hb⟩,by simp only [];omega,len [.wk 23 (.d (.bool true))] ⟨wk_tt,trivial⟩ (le_of_cov ⟨rfl,rfl,rfl,rfl,rfl,rfl,trivial⟩ ⟨rfl,rfl,rfl,trivial⟩ ⟨rfl,rfl,rfl,rfl⟩)⟩
   obtain ⟨c,rfl,c0,c1,hno⟩:=hf hb;obtain ⟨t,t0,t1,gM⟩:=hI.g.ex;have gM3:MG work t {M with clk:=c}:=⟨gM.ok.clk c,gM.gd,gM.td,by have:=gM.ev;show (M.ev.length:Int) <=c;omega⟩;have hst:=stepM_ok gM3 t1 hw (by show c<=100000;omega) q;have h22:=stepM_2 M c q;rw [h22] at hst;obtain ⟨r,hr⟩:∃ r,(stepM M q).2=r:=⟨_,rfl⟩
   have hno2:r=false->∃ c',(stepM {M with clk:=c} q).1={M with clk:=c'} /\c<=c'/\c'<=c+1:=fun z=>stepM_no (m:={M with clk:=c}) (by rw [h22,hr,z])
   obtain ⟨M4,hM4⟩:∃ M4,(stepM {M with clk:=c} q).1=M4:=⟨_,rfl⟩;rw [hr,hM4] at hst;rw [hM4] at hno2;refine callH_blk hst nm13 rfl ⟨rfl,rfl,rfl,trivial⟩ rfl (aP ?_);refine ⟨(q+1,r,M4),⟨by simp only [];omega,fun z=>?_,fun z=>?_⟩,by simp only [];omega,(le0 (le_of_cov ⟨rfl,rfl,rfl,rfl,rfl,rfl,trivial⟩ ⟨rfl,rfl,rfl,trivial⟩ ⟨rfl,rfl,rfl,rfl⟩))⟩
   ·obtain ⟨c',e1,e2,e3⟩:=hno2 z;refine ⟨c',e1,by omega,by simp only [];omega,fun j hj=>?_⟩
    by_cases ej:j=q
    ·rw [ej,hr];exact z
    ·exact hno j (by simp only [] at hj;omega)
   ·exact ⟨q,hq2,by rw [hr];exact z⟩
  have hgo:=goes hI.g.ok;have hwp:=waits_pos (m:=M) (k:=i);have hlp:=(leftS_pos (fun k=>(hI.lfB hw k).1) i).1;rw [hwl] at hgo;rw [<-hil] at hgo
  have hiff:(∃ j,j<i/\ (stepM M j).2=true) \/0<waitsN M i↔0<leftS M i:=by
   rw [hlp,<-hgo,hwp]
   constructor
   ·rintro (⟨j,h1,h2⟩|⟨j,h1,h2⟩)
    ·exact ⟨j,h1,.inl h2⟩
    ·exact ⟨j,h1,.inr h2⟩
   ·rintro ⟨j,h1,h2|h2⟩
    ·exact .inl ⟨j,h1,h2⟩
    ·exact .inr ⟨j,h1,h2⟩
  refine bcase_intro (fun hb=>?_) (fun hb=>?_)<;>conv=>whnf
  ·have hL:=hiff.1 (.inl (by rw [hil];exact ht hb));refine aP ?_;refine bcase_t (by rw [decide_eq_true hL];rfl) (aP ?_);refine callX_pure awake19_ok (aP ?_)
   first|exact ret_of rfl rfl|exact rfl
  obtain ⟨c,_,_,_,hno⟩:=hf hb
  by_cases hL:0<leftS M i
  ·have hW:0<waitsN M i:=(hiff.2 hL).resolve_left fun ⟨j,h1,h2⟩=>by rw [hno j (by omega)] at h2;cases h2
   refine aP ?_;refine bcase_t (by rw [decide_eq_true hL,decide_eq_true (show 0<((waitsN M i:Nat):Int) by omega)];rfl) (aP ?_);refine callX_pure awake19_ok (aP ?_)
   first|exact ret_of rfl rfl|exact rfl
  ·have hW:¬0<waitsN M i:=fun h=>hL (hiff.1 (.inr h))
   refine aP ?_;refine bcase_t (by rw [decide_eq_false hL,decide_eq_false (show ¬0<((waitsN M i:Nat):Int) by omega)];rfl) (aP ?_);refine callX_pure awake19_ok (aP ?_)
   first|exact ret_of rfl rfl|exact rfl
 have hk2:k<acts.length:=by omega
 refine aP ?_;refine idxK_nat (by omega) (w0 ?_);refine getRow_of (x:=encI acts[k]) (by simp [hk2]) (aW ?_);refine callH_blk (doL_ok hI.g hw (by omega) acts[k]) nm13 rfl ⟨rfl,rfl,rfl,trivial⟩ rfl (aP ?_);have e:=es hk2;rw [hM2] at e;have hI2:=hI.do_ acts[k];obtain ⟨M2,hM3⟩:∃ M2,(doMS M acts[k]).1=M2:=⟨_,rfl⟩;rw [hM3] at e hI2;rw [hM3];have hwl:=hI2.wl;have h4:=hS.n4;have hHO:=hI2.g.ok.hall;have hHl:=hHO.len;obtain ⟨P2,hP2⟩:=hI2.doc
 have hmc:(M2.h.cl.map encCl).length=M2.h.cl.length:=List.length_map ..
 have hmf:(M2.p.f.fr.map encF).length=M2.p.f.fr.length:=List.length_map ..
 refine callH_blk (hall_ok M2 (by omega) (by omega)) nm13 rfl ⟨rfl,rfl,rfl,trivial⟩ rfl (aP ?_);refine aloop (ι:=Nat) (fun i=>[(1,.d (.lst (work.map encTd))),(2,.d (.lst (acts.map encI))),(7,.ptr 2000264 0 0),(10,.d (.int .i64 k)),(11,.ptr 11 0 0),(12,.d (.int .i64 (heldN (M2.h.cl.take i)))),(58,.d (.lst (M2.h.cl.map encCl))),(59,.d (.int .i64 (M2.h.cl.map encCl).length)),(60,.d (.int .i64 i))])
  (fun i=>[(2000264,.box (mCk 2000264 M2) false),(2000265,.row (M2.ws.map encWA) 11 false),(2000266,.row (M2.ev.map encEvA) 11 false),(11,.box (M2.h.cells.map AV.d) false)])
  (fun i=>i<=M2.h.cl.length) (fun i=>M2.h.cl.length-i) 0 (Nat.zero_le _) (le0 (le_of_cov ⟨rfl,rfl,rfl,rfl,rfl,rfl,rfl,rfl,rfl,trivial⟩ ⟨rfl,rfl,rfl,rfl,trivial⟩ ⟨rfl,rfl,rfl,rfl⟩)) ?_
 intro i hi;have hhb:=List.countP_le_length (p:=fun c:Nat×Bool=>c.2) (l:=M2.h.cl.take i);rw [List.length_take] at hhb
 replace hhb:heldN (M2.h.cl.take i) <=4:=by show List.countP _ _<=4;omega
 conv=>whnf
 refine bcase_p (fun g1=>?_) (fun g1=>?_)<;>conv=>whnf
 ·have hi2:i<M2.h.cl.length:=by omega
  have es2:=held_succ hi2;refine idxK_nat (by omega) (w0 ?_);refine getRow_of (x:=encCl M2.h.cl[i]) (by simp [hi2]) (aW ?_)
  have ec:(heldN (M2.h.cl.take i):Int)+(if M2.h.cl[i].2=true then 1 else 0)=((heldN (M2.h.cl.take (i+1)):Nat):Int):=by
   rw [es2];split<;>simp
  rw [ec];exact ⟨i+1,by omega,by omega,(le0 (le_of_cov ⟨rfl,rfl,rfl,rfl,rfl,rfl,rfl,rfl,rfl,trivial⟩ ⟨rfl,rfl,rfl,rfl,trivial⟩ ⟨rfl,rfl,rfl,rfl⟩))⟩
 have hil:i=M2.h.cl.length:=by omega
 subst hil;rw [List.take_length] at hhb⊢;have hF:=hP2.inv.pj.fm;have hfl:=hF.fl;refine callH_blk (pool_m_ok M2 (by omega) (by have:=hF.tl;omega) (by rw [hF.len];omega) (by have:=hF.dl;omega) (by have:=hI2.us;omega) (by have:=hI2.us;omega)) nm13 rfl ⟨rfl,rfl,rfl,trivial⟩ rfl (aP ?_);refine aloop (ι:=Nat) (fun i=>[(1,.d (.lst (work.map encTd))),(2,.d (.lst (acts.map encI))),(7,.ptr 2000264 0 0),(10,.d (.int .i64 k)),(11,.ptr 11 0 0),(12,.d (.int .i64 (heldN M2.h.cl))),(15,.d (.int .i64 0)),(73,.d (.lst (M2.p.f.fr.map encF))),(74,.d (.int .i64 (M2.p.f.fr.map encF).length)),(75,.d (.int .i64 i))])
  (fun i=>[(2000264,.box (mCk 2000264 M2) false),(2000265,.row (M2.ws.map encWA) 11 false),(2000266,.row (M2.ev.map encEvA) 11 false),(11,.box (M2.h.cells.map AV.d) false)])
  (fun i=>i<=M2.p.f.fr.length) (fun i=>M2.p.f.fr.length-i) 0 (Nat.zero_le _) (le0 (le_of_cov ⟨rfl,rfl,rfl,rfl,rfl,rfl,rfl,rfl,rfl,rfl,trivial⟩ ⟨rfl,rfl,rfl,rfl,trivial⟩ ⟨rfl,rfl,rfl,rfl⟩)) ?_
 intro i hi
 conv=>whnf
 refine bcase_p (fun g1=>?_) (fun g1=>?_)<;>conv=>whnf
 ·have hi2:i<M2.p.f.fr.length:=by omega
  have hz:=hP2.pins0 hi2;obtain ⟨⟨a,b,c⟩,hx⟩:∃ x,M2.p.f.fr[i]=x:=⟨_,rfl⟩;rw [hx] at hz
  cases (show b=0 from hz)
  have hxr:(M2.p.f.fr.map encF)[i]?=some (encF (a,0,c)):=by rw [List.getElem?_map,List.getElem?_eq_getElem hi2,hx];rfl
  refine idxK_nat (by omega) (w0 ?_);refine getRow_of hxr (aP ?_);exact ⟨i+1,by omega,by omega,(le0 (le_of_cov ⟨rfl,rfl,rfl,rfl,rfl,rfl,rfl,rfl,rfl,rfl,trivial⟩ ⟨rfl,rfl,rfl,rfl,trivial⟩ ⟨rfl,rfl,rfl,rfl⟩))⟩
 refine aP ?_;refine aloop (ι:=Nat) (fun i=>[(1,.d (.lst (work.map encTd))),(2,.d (.lst (acts.map encI))),(7,.ptr 2000264 0 0),(10,.d (.int .i64 k)),(11,.ptr 11 0 0),(12,.d (.int .i64 (heldN M2.h.cl))),(15,.d (.int .i64 0)),(18,.d (.int .i64 (waitsN M2 i))),(19,.d (.int .i64 (leftS M2 i))),(85,.d (.int .i64 (work.map encTd).length)),(86,.d (.int .i64 i))])
  (fun i=>[(2000264,.box (mCk 2000264 M2) false),(2000265,.row (M2.ws.map encWA) 11 false),(2000266,.row (M2.ev.map encEvA) 11 false),(11,.box (M2.h.cells.map AV.d) false)])
  (fun i=>i<=work.length) (fun i=>work.length-i) 0 (Nat.zero_le _) (le0 (le_of_cov ⟨rfl,rfl,rfl,rfl,rfl,rfl,rfl,rfl,rfl,rfl,rfl,trivial⟩ ⟨rfl,rfl,rfl,rfl,trivial⟩ ⟨rfl,rfl,rfl,rfl⟩)) ?_
 intro i hi;have lb:=hI2.lfB hw i;have lS:=leftS_le (hI2.lfB hw) i;have wle:=waits_le M2 i;have ws:=waits_succ M2 i
 conv=>whnf
 refine bcase_p (fun g1=>?_) (fun g1=>?_)<;>conv=>whnf
 ·have hi2:i<work.length:=by omega
  refine callH_blk (hI2.leftF hw (k:=i) (by omega)) nm13 rfl ⟨rfl,rfl,rfl,trivial⟩ rfl (aP ?_);refine callH_blk (stateV_ok M2 i) nm13 rfl ⟨rfl,rfl,rfl,trivial⟩ rfl (w0 ?_)
  refine bcase_p (fun g4=>?_) (fun g4=>?_)<;>conv=>whnf
  ·rw [if_pos g4] at ws;refine aP ?_;rw [show ((waitsN M2 i:Nat):Int)+1=((waitsN M2 (i+1):Nat):Int) by omega];exact ⟨i+1,by omega,by omega,(le0 (le_of_cov ⟨rfl,rfl,rfl,rfl,rfl,rfl,rfl,rfl,rfl,rfl,rfl,trivial⟩ ⟨rfl,rfl,rfl,rfl,trivial⟩ ⟨rfl,rfl,rfl,rfl⟩))⟩
  ·rw [if_neg g4] at ws;refine aP ?_;rw [show waitsN M2 i=waitsN M2 (i+1) by omega];exact ⟨i+1,by omega,by omega,(le0 (le_of_cov ⟨rfl,rfl,rfl,rfl,rfl,rfl,rfl,rfl,rfl,rfl,rfl,trivial⟩ ⟨rfl,rfl,rfl,rfl,trivial⟩ ⟨rfl,rfl,rfl,rfl⟩))⟩
 have hil:i=work.length:=by omega
 have hfw:=flight_waits hI2.g.ok;rw [hwl,<-hil] at hfw;have hof:=hI2.g.ok.su.fl;have hhd:=hHO.held;refine aP ?_;refine callX_pure (admitR_ok M2.h hHO) (aP ?_);refine callH_blk (flight_ok M2) nm13 rfl ⟨rfl,rfl,rfl,trivial⟩ rfl (aP ?_);refine callH_blk (flight_ok M2) nm13 rfl ⟨rfl,rfl,rfl,trivial⟩ rfl (aP ?_);refine callH_blk (pool_m_ok M2 (by omega) (by have:=hF.tl;omega) (by rw [hF.len];omega) (by have:=hF.dl;omega) (by have:=hI2.us;omega) (by have:=hI2.us;omega)) nm13 rfl ⟨rfl,rfl,rfl,trivial⟩ rfl (aP ?_);refine callX_pure (fmRight9 hF) (aP ?_);refine ⟨k+1,⟨by omega,by omega⟩,by omega,?_⟩;rw [e];exact (le0 (le_of_cov ⟨rfl,rfl,rfl,rfl,trivial⟩ ⟨rfl,rfl,rfl,trivial⟩ ⟨rfl,rfl,rfl,rfl⟩))
noncomputable def stN (m:MS):Nat->MS×Bool
 |0=>(m,false)
 |k+1=>((stepM (stN m k).1 k).1,(stN m k).2||(stepM (stN m k).1 k).2)
theorem MGE.stN {work m} (h:MGE work m):∀ k,MGE work (stN m k).1
 |0=>h
 |k+1=>(MGE.stN h k).step k
theorem stN_clk (m:MS):∀ k,(stN m k).1.clk<=m.clk+k/\m.clk<= (stN m k).1.clk
 |0=>⟨by show m.clk<=m.clk+0;omega,Int.le_refl _⟩
 |k+1=>by
  have ih:=stN_clk m k;have h:=stepM_clk (stN m k).1 k;show (stepM (stN m k).1 k).1.clk<=m.clk+(k+1:Nat) /\m.clk<= (stepM (stN m k).1 k).1.clk;omega
theorem nx_step (m:MS) (k:Int):(stepM m k).1.s.next=m.s.next:=by
 rw [stepM];repeat' split
 ·rfl
 ·rfl
 ·unfold stepW;repeat' split
  all_goals rfl
theorem nx_stN (m:MS):∀ k,(stN m k).1.s.next=m.s.next
 |0=>rfl
 |k+1=>(nx_step _ _).trans (nx_stN m k)
theorem HI.stN {P0 n work m} (h:HI P0 n work m):∀ k,HI P0 n work (stN m k).1
 |0=>h
 |k+1=>(HI.stN h k).step k
noncomputable def psN (m:MS) (n:Nat):Nat->MS
 |0=>m
 |i+1=>(stN (psN m n i) n).1
theorem MGE.psN {work m} (h:MGE work m) (n:Nat):∀ i,MGE work (psN m n i)
 |0=>h
 |i+1=>(MGE.psN h n i).stN n
theorem psN_clk (m:MS) (n:Nat):∀ i,(psN m n i).clk<=m.clk+n*i/\m.clk<= (psN m n i).clk
 |0=>⟨by show m.clk<=m.clk+((n*0:Nat):Int);simp,Int.le_refl _⟩
 |i+1=>by
  have ih:=psN_clk m n i;have h:=stN_clk (psN m n i) n;show (stN (psN m n i) n).1.clk<=m.clk+(n:Int)*((i+1:Nat):Int) /\m.clk<= (stN (psN m n i) n).1.clk
  have e:((n:Int)*((i+1:Nat):Int))=(n:Int)*(i:Int)+n:=by rw [show ((i+1:Nat):Int)=(i:Int)+1 by omega,Int.mul_add,Int.mul_one]
  rw [e];omega
def wkRd (n:Nat) (kind q:Int) (b:ByteArray):List (List MOp):=List.replicate n [(kind,q,b)]
theorem q16 {q:Int} (h1:1<=q) (h16:q<=16):q=1\/q=2\/q=3\/q=4\/q=5\/q=6\/q=7\/q=8\/q=9\/q=10\/q=11\/q=12\/q=13\/q=14\/q=15\/q=16:=by omega
theorem rd_write (p:PS) (b:ByteArray) {n:Nat} (hn:n=2\/n=3\/n=4) {q:Int} (h1:1<=q) (h16:q<=16):
  (List.range n).map (stV (psN (newMS p 4 (wkRd n 3 q b)) n 3))=3::List.replicate (n-1) 2:=by
 rcases hn with rfl|rfl|rfl<;>rcases q16 h1 h16 with rfl|rfl|rfl|rfl|rfl|rfl|rfl|rfl|rfl|rfl|rfl|rfl|rfl|rfl|rfl|rfl<;>kernel_rfl
noncomputable def stepW1 (m:MS) (k:Nat) (w:WA) (now:Int):MS×Bool:=
 match w.st with
 |0=>if w.todo.length<=w.ended then (m,false) else ({setW' m k {w with began:=now,st:=1} with h:=beginH m.h k},true)
 |1=>if isCl m.h k=false then (m,false) else
   if refB w.op=true then (setW' m k (tellW w (1,zP) now),true) else
   ({setW' m k {w with asked:=true,st:=2} with lat:=lsetM m.lat w.op.2.1 (askL (latM m w.op.2.1) k (decide (w.op.1≠2)))},true)
 |2=>if holdsL (latM m w.op.2.1) k=false then (m,false) else (setW' m k {w with st:=3},true)
 |3=>if m.h.n<=heldN m.h.cl then (m,false) else ({setW' m k {w with pinned:=true,st:=5} with h:=pinH m.h k},true)
 |5=>({setW' m k (tellW w (workP m.p w.op).2 now) with p:=(workP m.p w.op).1},true)
 |6=>({m with
   ws:=m.ws.set k ⟨w.todo,w.ended+1,0,false,false,0,0,(0,zP)⟩
   h:=endH (if w.pinned=true then unpinH m.h k else m.h) k
   lat:=if w.asked=true then lsetM m.lat w.op.2.1 (dropL (latM m w.op.2.1) k) else m.lat
   ev:=m.ev++[⟨k,w.op,w.res,w.began,w.done,now⟩]},true)
 |_=>(m,false)
noncomputable def stepM1 (m:MS) (k:Nat):MS×Bool:=
 match m.ws[k]? with
 |none=>(m,false)
 |some w=>stepW1 {m with clk:=m.clk+1} k w m.clk
noncomputable def stN1 (m:MS):Nat->MS×Bool
 |0=>(m,false)
 |k+1=>((stepM1 (stN1 m k).1 k).1,(stN1 m k).2||(stepM1 (stN1 m k).1 k).2)
noncomputable def psN1 (m:MS) (n:Nat):Nat->MS
 |0=>m
 |i+1=>(stN1 (psN1 m n i) n).1
theorem stepM_1 {work m} (h:MGE work m) (hw:∀ l∈work,∀ o∈l,o.1=1) (k:Nat):stepM m k=stepM1 m k:=by
 rw [stepM,stepM1,if_neg (by omega),Int.toNat_natCast]
 cases hk:m.ws[k]? with
 |none=>rfl
 |some w=>
  have h23:¬(w.op.1=2\/w.op.1=3):=by
   rw [WA.op]
   cases e:w.todo[w.ended]? with
   |none=>simp [noMO]
   |some o=>
    obtain ⟨t,_,_,g⟩:=h.ex
    have h2:w.todo∈work:=by rw [<-g.td];exact List.mem_map_of_mem (List.mem_of_getElem? hk)
    have:=hw _ h2 o (List.mem_of_getElem? e)
    simp only [Option.getD_some];omega
  have h3:w.st=3->stepW {m with clk:=m.clk+1} k w m.clk=stepW1 {m with clk:=m.clk+1} k w m.clk:=fun e=>by
   rw [stepW,stepW1,e];simp only [h23,and_false,if_false]
  show stepW {m with clk:=m.clk+1} k w m.clk=stepW1 {m with clk:=m.clk+1} k w m.clk;generalize hs:w.st=s at h3
  match s,h3 with
  |3,h3=>exact h3 rfl
  |0,_=>rw [stepW,stepW1,hs];rfl
  |1,_=>rw [stepW,stepW1,hs];rfl
  |2,_=>rw [stepW,stepW1,hs];rfl
  |4,_=>rw [stepW,stepW1,hs];rfl
  |5,_=>rw [stepW,stepW1,hs];rfl
  |6,_=>rw [stepW,stepW1,hs];rfl
  |s+7,_=>rw [stepW,stepW1,hs];rfl
theorem stN_1 {work m} (h:MGE work m) (hw:∀ l∈work,∀ o∈l,o.1=1):∀ k,stN m k=stN1 m k
 |0=>rfl
 |k+1=>by rw [stN,stN1,<-stN_1 h hw k,stepM_1 (h.stN k) hw]
theorem psN_1 {work m} (h:MGE work m) (hw:∀ l∈work,∀ o∈l,o.1=1) (n:Nat):∀ i,psN m n i=psN1 m n i
 |0=>rfl
 |i+1=>by rw [psN,psN1,<-psN_1 h hw n i,stN_1 (h.psN n i) hw]
def tkOp (k:Nat):MOp:=(1,1+(k:Int),ByteArray.empty)
def wkTk (n:Nat):List (List MOp):=(List.range n).map fun k=>[tkOp k]
def tkP:Nat->Nat->Pg
 |0=>fun _=>zP
 |k+1=>ud (tkP k) (k+1) (newP (k+1))
noncomputable def tkp (p:PS):Nat->PS
 |0=>p
 |k+1=>(workP (tkp p k) (tkOp k)).1
theorem tkP_hi:∀ (k j:Nat),k<j->tkP k j=zP
 |0,j,_=>rfl
 |k+1,j,h=>by rw [tkP,ud_ne _ _ (by omega),tkP_hi k j (by omega)]
theorem tk_step {p:PS} {n k:Nat} (h:DocI (tkp p k) (tkP k) n) (hn:1<=n) (hk:k<16):(workP (tkp p k) (tkOp k)).2=(0,newP (k+1)) /\DocI (tkp p (k+1)) (tkP (k+1)) n:=by
 have hr:refB (tkOp k)=false:=by
  have a:¬(1+(k:Int)<1):=by omega
  have b:¬(16<1+(k:Int)):=by omega
  show (decide ((1:Int)<1)||decide ((4:Int)<1)||decide (1+(k:Int)<1)||decide (16<1+(k:Int)))=false
  rw [decide_eq_false a,decide_eq_false b];rfl
 have e:mdoc (tkP k) (tkOp k)=(tkP (k+1),(0,newP (k+1))):=by
  have e1:(tkOp k).2.1.toNat=k+1:=by show (1+(k:Int)).toNat=_;omega
  rw [mdoc,if_pos (show (tkOp k).1=1 from rfl),e1,tkP_hi k (k+1) (by omega),if_neg (fun q=>q rfl)];rfl
 have h9:=work9 h hn (tkOp k) hr;rw [e] at h9;exact h9
theorem tk_doc {p:PS} {n:Nat} (h:DocI p (fun _=>zP) n) (hn:1<=n):∀ k,k<=16->DocI (tkp p k) (tkP k) n
 |0,_=>h
 |k+1,hk=>(tk_step (tk_doc h hn k (by omega)) hn (by omega)).2
noncomputable def tk1 (p:PS) (n:Nat):MS:=(stN1 (newMS p 1 (wkTk n)) n).1
noncomputable def tkE (p:PS) (n:Nat):MS:=psN1 (stepM1 (tk1 p n) 2).1 n (10*n)
theorem tk3_a (p:PS):(List.range 3).map (fun k=>(stepM1 (stN1 (newMS p 1 (wkTk 3)) k).1 k).2)=[true,true,true] /\ (tk1 p 3).h=⟨1,[(0,false),(1,false)],[2]⟩ /\ (stepM1 (tk1 p 3) 2).2=false:=⟨by kernel_rfl,by kernel_rfl,by kernel_rfl⟩
theorem tk4_a (p:PS):(List.range 4).map (fun k=>(stepM1 (stN1 (newMS p 1 (wkTk 4)) k).1 k).2)=[true,true,true,true] /\ (tk1 p 4).h=⟨1,[(0,false),(1,false)],[2,3]⟩ /\ (stepM1 (tk1 p 4) 2).2=false:=⟨by kernel_rfl,by kernel_rfl,by kernel_rfl⟩
theorem tk3_b (p:PS):(tkE p 3).ev.map (fun e=>(e.who,e.res))=(List.range 3).map (fun k=>(k,(workP (tkp p k) (tkOp k)).2)) /\ (tkE p 3).p=tkp p 3:=⟨by kernel_rfl,by kernel_rfl⟩
theorem tk4_b (p:PS):(tkE p 4).ev.map (fun e=>(e.who,e.res))=(List.range 4).map (fun k=>(k,(workP (tkp p k) (tkOp k)).2)) /\ (tkE p 4).p=tkp p 4:=⟨by kernel_rfl,by kernel_rfl⟩
end Go.Lk
