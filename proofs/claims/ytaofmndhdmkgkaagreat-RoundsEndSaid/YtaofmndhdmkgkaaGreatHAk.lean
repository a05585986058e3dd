/-
  What is proved here: what functions of the program compute, and what follows; no condition beyond each theorem's own.
-/
import Derived.Test.YtaofmndhdmkgkaaGreatHAj
import Derived.Orders
set_option linter.unusedSimpArgs false
set_option linter.unusedVariables false
set_option linter.unnecessarySimpa false
set_option linter.unusedSectionVars false
namespace Go.Lk
open Go Go.RowKit
structure DOp where
 o:Oper
 act:Bool
 e:Eff
 s:Summ
def DOp.app (x:DOp) (st:AState):AState:=⟨putT (killT x.e.kl st.tm) x.o.dst x.e.av,x.e.hp st.hp⟩
def GSay (av:AV) (want act:Bool):Prop:=(∃ b,(av=.d (.bool b) \/ (av=.tt/\b=true) \/ (av=.ff/\b=false)) /\act=(b==want)) \/ (av=.tup [] /\act=false)
structure DFact (P:Program) (ops:Array Oper) (x:DOp) (st:AState):Prop where
 dst:x.s.dst=x.o.dst
 W:x.s.W=effW x.e
 foot:x.s.wd=false->∀ t∈x.s.rd,inO (namesO (st.tm t)) x.s.F=true
 footh:x.s.wd=false->x.s.bl=false->∀ b∈x.s.F,∀ B,st.hp b=some B->inO (namesB B) x.s.F=true
 ks:x.s.k=klOf x.e
 eff:x.s.wd=false->EffFact x.s.F x.o.dst x.e
 kl:∀ k,x.e.kl=some k->¬(1000000<=k/\k<1000004)
 guard:match x.o.guard with
  |none=>x.act=true
  |some (g,want)=>∃ t,(ops[g]?).bind (·.dst)=some t/\t∈x.s.rd/\GSay (st.tm t) want x.act
 sem:x.act=true->∃ rd,(∀ t∈rd,t∈x.s.rd) /\ (x.s.wd=false->x.s.bl=false->OpSem P x.o (evT (restrT rd st.tm)) (restrH x.s.F st.hp) x.e) /\ (x.s.wd=false->x.s.bl=true->∀ hp,OpSem P x.o (evT (restrT rd st.tm)) hp x.e) /\ (x.s.wd=true->OpSem P x.o (evT (restrT rd st.tm)) st.hp x.e)
 off:x.act=false->x.e=⟨.tup [],[],none⟩
structure Off (y x:DOp):Prop where
 nw:x.s.wd=false
 dst:∀ d,y.o.dst=some d->d∉x.s.rd
 W:x.s.bl=false->∀ b∈effW y.e,b∉x.s.F
 K:∀ k,y.e.kl=some k->k∉x.s.F
 kl:∀ k,y.e.kl=some k->k∈wrNames y.e.wr
 lt:∀ k,y.e.kl=some k->Solo k
theorem app_tm (x:DOp) (st:AState) (t:Nat):(x.app st).tm t=if x.o.dst=some t then x.e.av else killA x.e.kl (st.tm t):=by
 show putT (killT x.e.kl st.tm) x.o.dst x.e.av t=_
 cases hd:x.o.dst with
 |none=>simp [putT,killT_eq]
 |some d=>
  simp only [putT,Option.some.injEq]
  by_cases e:t=d
  ·subst e;rw [upd_same,if_pos rfl]
  ·rw [upd_other _ _ e,if_neg fun h=>e h.symm,killT_eq]
theorem app_hp (x:DOp) (st:AState) (b:Nat):(x.app st).hp b=match wrGet x.e.wr b with|some B=>some B|none=>killO x.e.kl (st.hp b):=eff_hp_get x.e st.hp b
theorem killA_keep {k:Option Nat} {x:AV} {F:List Nat} (h:inO (namesO x) F=true) (hl:∀ b,k=some b->Solo b) (hk:∀ b,k=some b->b∉F):killA k x=x:=by
 cases k with
 |none=>rfl
 |some k=>
  obtain ⟨ns,e,hn⟩:=inO_out h
  exact killV_keep (hl k rfl) e fun hm=>hk k rfl (hn k hm)
theorem killO_keep {k:Option Nat} {o:Option Blk} {F:List Nat} (h:∀ B,o=some B->inO (namesB B) F=true) (hl:∀ b,k=some b->Solo b) (hk:∀ b,k=some b->b∉F):killO k o=o:=by
 cases k with
 |none=>rfl
 |some k=>
  cases o with
  |none=>rfl
  |some B=>
   obtain ⟨ns,e,hn⟩:=inO_out (h B rfl);simp only [killO,Option.map_some,killB_keep (hl k rfl) e fun hm=>hk k rfl (hn k hm)]
theorem agr_fwd {y x:DOp} {st:AState} (ho:Off y x) (hf:∀ t∈x.s.rd,inO (namesO (st.tm t)) x.s.F=true) (hh:x.s.bl=false->∀ b∈x.s.F,∀ B,st.hp b=some B->inO (namesB B) x.s.F=true):
  (∀ t∈x.s.rd,(y.app st).tm t=st.tm t) /\ (x.s.bl=false->∀ b∈x.s.F,(y.app st).hp b=st.hp b):=by
 refine ⟨fun t ht=>?_,fun hbl b hb=>?_⟩
 ·rw [app_tm,if_neg fun h=>ho.dst t h ht];exact killA_keep (hf t ht) ho.lt ho.K
 ·rw [app_hp,wrGet_none.2 fun hm=>ho.W hbl b (effW_mem.2 (.inr hm)) hb];exact killO_keep (hh hbl b hb) ho.lt ho.K
theorem agr_bwd {y x:DOp} {st:AState} (ho:Off y x) (hf:∀ t∈x.s.rd,inO (namesO ((y.app st).tm t)) x.s.F=true) (hh:x.s.bl=false->∀ b∈x.s.F,∀ B,(y.app st).hp b=some B->inO (namesB B) x.s.F=true):
  (∀ t∈x.s.rd,(y.app st).tm t=st.tm t) /\ (x.s.bl=false->∀ b∈x.s.F,(y.app st).hp b=st.hp b):=by
 refine ⟨fun t ht=>?_,fun hbl b hb=>?_⟩
 ·have h1:=hf t ht;rw [app_tm,if_neg fun h=>ho.dst t h ht] at h1⊢;obtain ⟨ns,e,_⟩:=inO_out h1
  cases hk:y.e.kl with
  |none=>rfl
  |some k=>
   rw [hk] at e;exact killV_clean (by show namesO (killA (some k) (st.tm t))≠none;rw [e];simp)
 ·have h1:=hh hbl b hb;rw [app_hp,wrGet_none.2 fun hm=>ho.W hbl b (effW_mem.2 (.inr hm)) hb] at h1⊢;simp only at h1⊢
  cases hk:y.e.kl with
  |none=>rfl
  |some k=>
   cases hx:st.hp b with
   |none=>rfl
   |some B=>
    rw [hk,hx] at h1;obtain ⟨ns,e,_⟩:=inO_out (h1 _ rfl);simp only [killO,Option.map_some];rw [killB_clean (by rw [e];simp)]
theorem DFact.turn {P:Program} {ops:Array Oper} {x:DOp} {st st':AState} (h:DFact P ops x st) (hw:x.s.wd=false) (ht:∀ t∈x.s.rd,st'.tm t=st.tm t) (hb:x.s.bl=false->∀ b∈x.s.F,st'.hp b=st.hp b):DFact P ops x st':=by
 refine ⟨h.dst,h.W,fun _ t m=>by rw [ht t m];exact h.foot hw t m,fun _ hbl b m B hB=>h.footh hw hbl b m B (by rw [<-hb hbl b m];exact hB),h.ks,h.eff,h.kl,?_,fun ha=>?_,h.off⟩
 ·have hg:=h.guard
  split at hg
  ·exact hg
  ·rename_i g want e;obtain ⟨t,h1,h2,h3⟩:=hg;exact ⟨t,h1,h2,by rw [ht t h2];exact h3⟩
 ·obtain ⟨rd,h1,h2,h3,_⟩:=h.sem ha
  have e1:restrT rd st'.tm=restrT rd st.tm:=by
   funext t
   unfold restrT
   cases hm:memN t rd with
   |true=>simp only [cond_true];exact ht t (h1 t (memN_iff.1 hm))
   |false=>rfl
  refine ⟨rd,h1,fun _ hbl=>?_,fun _ hbl=>by rw [e1];exact h3 hw hbl,fun h'=>by rw [hw] at h';cases h'⟩
  have e2:restrH x.s.F st'.hp=restrH x.s.F st.hp:=by
   funext b
   unfold restrH
   cases hm:memN b x.s.F with
   |true=>simp only [cond_true];exact hb hbl b (memN_iff.1 hm)
   |false=>rfl
  rw [e1,e2];exact h2 hw hbl
theorem DFact.fwd {P:Program} {ops:Array Oper} {x y:DOp} {st:AState} (h:DFact P ops x st) (ho:Off y x):DFact P ops x (y.app st):=
 let ⟨a,b⟩:=agr_fwd ho (h.foot ho.nw) (h.footh ho.nw)
 h.turn ho.nw a b
theorem DFact.bwd {P:Program} {ops:Array Oper} {x y:DOp} {st:AState} (h:DFact P ops x (y.app st)) (ho:Off y x):DFact P ops x st:=
 let ⟨a,b⟩:=agr_bwd ho (h.foot ho.nw) (h.footh ho.nw)
 h.turn ho.nw (fun t m=>(a t m).symm) fun hbl c m=>(b hbl c m).symm
structure Ind (x y:DOp):Prop where
 xy:Off x y
 yx:Off y x
 dst:∀ d,x.o.dst=some d->y.o.dst≠some d
 W:∀ b∈effW x.e,b∉effW y.e
structure Own (x:DOp):Prop where
 dst:x.s.dst=x.o.dst
 W:x.s.W=effW x.e
 ks:x.s.k=klOf x.e
 eff:x.s.wd=false->EffFact x.s.F x.o.dst x.e
theorem klOf_mem {e:Eff} {k:Nat}:k∈klOf e↔e.kl=some k:=by
 unfold klOf
 cases e.kl with
 |none=>simp
 |some k=>simp [eq_comm]
theorem ind_out {x y:DOp} (hx:Own x) (hy:Own y) (h:indep x.s y.s=true):Ind x y:=by
 simp only [indep,Bool.and_eq_true,Bool.not_eq_true'] at h;obtain ⟨⟨wx,wy⟩,⟨⟨⟨⟨h1,h2⟩,h3⟩,h4⟩,h5⟩,h6⟩:=h;have hex:=hx.eff wx;have hey:=hy.eff wy
 have nin:∀ (d:Option Tmp) (l:List Nat),notIn d l=true->∀ t,d=some t->t∉l:=by
  intro d l h t ht hm;subst ht;simp only [notIn,Bool.not_eq_true'] at h
  rw [memN_iff.2 hm] at h;cases h
 have off:∀ {x y:DOp},Own x->disN (bif y.s.bl then x.s.k else x.s.W) y.s.F=true->(y.s.bl=false->∀ b∈effW x.e,b∉y.s.F) /\ ∀ k,x.e.kl=some k->k∉y.s.F:=by
  intro x y hx h
  cases hb:y.s.bl with
  |true=>
   simp only [hb,cond_true] at h;exact ⟨fun h'=>(by cases h'),fun k hk=>disN_out h k (by rw [hx.ks];exact klOf_mem.2 hk)⟩
  |false=>
   simp only [hb,cond_false] at h;exact ⟨fun _ b hb=>disN_out h b (by rw [hx.W];exact hb),fun k hk=>disN_out h k (by rw [hx.W];exact effW_mem.2 (.inl hk))⟩
 obtain ⟨a1,a2⟩:=off hx h5;obtain ⟨b1,b2⟩:=off hy h6
 refine ⟨⟨wy,fun d hd=>nin _ _ h1 d (by rw [hx.dst];exact hd),a1,a2,hex.kl,hex.lt⟩,
  ⟨wx,fun d hd=>nin _ _ h3 d (by rw [hy.dst];exact hd),b1,b2,hey.kl,hey.lt⟩,fun d hd hd'=>?_,fun b hb hm=>disN_out h4 b (by rw [hx.W];exact hb) (by rw [hy.W];exact hm)⟩
 rw [hx.dst,hy.dst,hd,hd'] at h2;simp [notEq] at h2
theorem killA_comm (a b:Option Nat) (x:AV):killA a (killA b x)=killA b (killA a x):=by
 cases a<;>cases b<;>first|rfl|exact killV_comm _ _ _
theorem killO_comm (a b:Option Nat) (x:Option Blk):killO a (killO b x)=killO b (killO a x):=by
 cases a<;>cases b<;>first|rfl|(cases x<;>simp [killO,killB_comm])
theorem comm_app {x y:DOp} (hx:Own x) (hy:Own y) (h:Ind x y) (st:AState):y.app (x.app st)=x.app (y.app st):=by
 have hex:=hx.eff h.yx.nw;have hey:=hy.eff h.xy.nw
 have kx:∀ b,x.e.kl=some b->b∉y.s.F++effW y.e:=fun b hb hm=>by
  have hb':=effW_mem.2 (.inl hb)
  rcases List.mem_append.1 hm with m|m
  ·exact h.xy.K b hb m
  ·exact h.W b hb' m
 have ky:∀ b,y.e.kl=some b->b∉x.s.F++effW x.e:=fun b hb hm=>by
  have hb':=effW_mem.2 (.inl hb)
  rcases List.mem_append.1 hm with m|m
  ·exact h.yx.K b hb m
  ·exact h.W b m hb'
 have avx:∀ d,x.o.dst=some d->killA y.e.kl x.e.av=x.e.av:=fun d hd=>by
  rcases hex.av d hd with e|e
  ·rw [e];cases y.e.kl<;>rfl
  ·exact killA_keep e hey.lt ky
 have avy:∀ d,y.o.dst=some d->killA x.e.kl y.e.av=y.e.av:=fun d hd=>by
  rcases hey.av d hd with e|e
  ·rw [e];cases x.e.kl<;>rfl
  ·exact killA_keep e hex.lt kx
 have e1:(y.app (x.app st)).tm=(x.app (y.app st)).tm:=by
  funext t
  rw [app_tm,app_tm,app_tm,app_tm]
  by_cases dx:x.o.dst=some t
  ·have dy:¬y.o.dst=some t:=h.dst t dx;rw [if_neg dy,if_pos dx,if_pos dx,avx t dx]
  ·by_cases dy:y.o.dst=some t
   ·rw [if_pos dy,if_neg dx,if_pos dy,avy t dy]
   ·rw [if_neg dy,if_neg dx,if_neg dx,if_neg dy,killA_comm]
 have e2:(y.app (x.app st)).hp=(x.app (y.app st)).hp:=by
  funext b
  rw [app_hp,app_hp,app_hp,app_hp]
  cases wx:wrGet x.e.wr b with
  |some B=>
   have hbx:b∈wrNames x.e.wr:=Classical.byContradiction fun hn=>by rw [wrGet_none.2 hn] at wx;cases wx
   have wy:wrGet y.e.wr b=none:=wrGet_none.2 fun hm=>h.W b (effW_mem.2 (.inr hbx)) (effW_mem.2 (.inr hm))
   rw [wy];exact killO_keep (fun B' e=>by cases e;exact hex.blk b B wx) hey.lt ky
  |none=>
   cases wy:wrGet y.e.wr b with
   |some B=>exact (killO_keep (fun B' e=>by cases e;exact hey.blk b B wy) hex.lt kx).symm
   |none=>exact killO_comm _ _ _
 cases hl:y.app (x.app st) with
 |mk a1 b1=>
  cases hr:x.app (y.app st) with
  |mk a2 b2=>
   rw [hl,hr] at e1 e2;simp only at e1 e2;rw [e1,e2]
def fold (l:List (DOp×Nat)) (st:AState):AState:=l.foldl (fun s p=>p.1.app s) st
theorem fold_cons (p:DOp×Nat) (l:List (DOp×Nat)) (st:AState):fold (p::l) st=fold l (p.1.app st):=rfl
theorem fold_append (a b:List (DOp×Nat)) (st:AState):fold (a++b) st=fold b (fold a st):=by simp [fold]
theorem fold_swap {x:DOp}:∀ {l:List (DOp×Nat)},(∀ p∈l,∀ st,p.1.app (x.app st)=x.app (p.1.app st))->∀ st,fold l (x.app st)=x.app (fold l st)
 | [],_,st=>rfl
 |p::r,h,st=>by
  rw [fold_cons,fold_cons,h p (List.mem_cons_self ..)];exact fold_swap (fun q hq=>h q (List.mem_cons_of_mem _ hq)) _
theorem fold_swap2:∀ {a b:List (DOp×Nat)},(∀ p∈a,∀ q∈b,∀ st,q.1.app (p.1.app st)=p.1.app (q.1.app st))->∀ st,fold b (fold a st)=fold a (fold b st)
 | [],b,_,st=>rfl
 |p::r,b,h,st=>by
  rw [fold_cons,fold_cons,fold_swap2 (fun p' hp=>h p' (List.mem_cons_of_mem _ hp)),fold_swap (x:=p.1) fun q hq=>h p (List.mem_cons_self ..) q hq]
theorem fold_split {D:Nat->Bool}:∀ {l:List (DOp×Nat)},l.Pairwise (fun p q=>D p.2=false->D q.2=true->∀ st,q.1.app (p.1.app st)=p.1.app (q.1.app st))->∀ st,
  fold l st=fold (l.filter fun p=>!D p.2) (fold (l.filter fun p=>D p.2) st)
 | [],_,st=>rfl
 |p::r,h,st=>by
  rw [List.pairwise_cons] at h;rw [fold_cons,fold_split h.2]
  cases hp:D p.2 with
  |true=>simp [List.filter_cons,hp,fold_cons]
  |false=>
   simp only [List.filter_cons,hp,Bool.not_false,if_true,fold_cons,Bool.false_eq_true,if_false];rw [fold_swap (x:=p.1) fun q hq=>h.1 q (List.mem_filter.1 hq).1 hp (by simpa using (List.mem_filter.1 hq).2)]
theorem fact_fold {P:Program} {ops:Array Oper} {x:DOp}:∀ {l:List (DOp×Nat)} {st:AState},DFact P ops x st->(∀ p∈l,Off p.1 x)->DFact P ops x (fold l st)
 | [],st,h,_=>h
 |p::r,st,h,ho=>fact_fold (l:=r) (h.fwd (ho p (List.mem_cons_self ..))) fun q hq=>ho q (List.mem_cons_of_mem _ hq)
theorem fact_unfold {P:Program} {ops:Array Oper} {x:DOp}:∀ {l:List (DOp×Nat)} {st:AState},DFact P ops x (fold l st)->(∀ p∈l,Off p.1 x)->DFact P ops x st
 | [],st,h,_=>h
 |p::r,st,h,ho=>(fact_unfold (l:=r) (st:=p.1.app st) h fun q hq=>ho q (List.mem_cons_of_mem _ hq)).bwd (ho p (List.mem_cons_self ..))
theorem pairsOk_out {s:Summ} {p:Nat}:∀ {l:List Summ} {m:Nat},pairsOk s p m l=true->∀ (i:Nat) (x:Summ),l[i]?=some x->Nat.testBit p (m+i)=true\/indep x s=true
 | [],m,_,i,x,h=>by simp at h
 |y::r,m,h,i,x,hx=>by
  simp only [pairsOk] at h
  cases hb:(Nat.testBit p m||indep y s) with
  |false=>simp [hb] at h
  |true=>
   simp only [hb,cond_true] at h
   cases i with
   |zero=>
    simp only [List.getElem?_cons_zero,Option.some.injEq] at hx;subst hx
    simpa using hb
   |succ i=>
    have:=pairsOk_out h i x (by simpa using hx)
    rwa [show m+1+i=m+(i+1) by omega] at this
theorem backOk_out {i:Nat}:∀ {l:List Edge},backOk i l=true->∀ e∈l,bindsA e=true->e.on<i
 | [],_,e,he,_=>by cases he
 |y::r,h,e,he,hb=>by
  simp only [backOk] at h
  cases hy:bindsA y with
  |false=>
   simp only [hy,cond_false] at h
   cases he with
   |head=>rw [hy] at hb;cases hb
   |tail _ he=>exact backOk_out h e he hb
  |true=>
   simp only [hy,cond_true] at h
   cases hlt:Nat.blt y.on i with
   |false=>simp [hlt] at h
   |true=>
    simp only [hlt,cond_true] at h
    cases he with
    |head=>exact Nat.le_of_ble_eq_true hlt
    |tail _ he=>exact backOk_out h e he hb
theorem predsOf_out {pm:List Nat} {m:Nat}:∀ {l:List Edge},Nat.testBit (predsOf pm l) m=true->∃ e∈l,bindsA e=true/\ (m=e.on\/Nat.testBit (pm.getD e.on 0) m=true)
 | [],h=>by simp [predsOf] at h
 |y::r,h=>by
  simp only [predsOf] at h
  cases hy:bindsA y with
  |false=>
   simp only [hy,cond_false] at h;obtain ⟨e,he,h1⟩:=predsOf_out h;exact ⟨e,List.mem_cons_of_mem _ he,h1⟩
  |true=>
   simp only [hy,cond_true] at h;have h:(2^y.on|||pm.getD y.on 0|||predsOf pm r).testBit m=true:=h;rw [Nat.testBit_or,Nat.testBit_or,Bool.or_eq_true,Bool.or_eq_true] at h
   rcases h with (h|h)|h
   ·refine ⟨y,List.mem_cons_self ..,hy,.inl ?_⟩;rw [Nat.testBit_two_pow] at h;exact (of_decide_eq_true h).symm
   ·exact ⟨y,List.mem_cons_self ..,hy,.inr h⟩
   ·obtain ⟨e,he,h1⟩:=predsOf_out h;exact ⟨e,List.mem_cons_of_mem _ he,h1⟩
theorem drawOk_out:∀ {r:List Oper} {q:List Summ} {i:Nat} {done:List Summ} {pm:List Nat},drawOk r q i done pm=true->done.length=i->pm.length=i->
  ∃ Ps:List Nat,Ps.take i=pm/\q.length=r.length/\ ∀ (k:Nat) (o:Oper) (s:Summ),r[k]?=some o->q[k]?=some s->
   backOk (i+k) o.after.toList=true/\ (∀ m,Nat.testBit (Ps.getD (i+k) 0) m=true->∃ e∈o.after.toList,bindsA e=true/\ (m=e.on\/Nat.testBit (Ps.getD e.on 0) m=true)) /\
   ∀ (m:Nat) (x:Summ),(done++q)[m]?=some x->m<i+k->Nat.testBit (Ps.getD (i+k) 0) m=true\/indep x s=true
 | [],[],i,done,pm,_,_,hp=>⟨pm,by simp [<-hp],rfl,fun k o s h=>by simp at h⟩
 | [],_::_,_,_,_,h,_,_=>by simp [drawOk] at h
 |_::_,[],_,_,_,h,_,_=>by simp [drawOk] at h
 |o::r,s::q,i,done,pm,h,hd,hp=>by
  simp only [drawOk,Bool.and_eq_true] at h;obtain ⟨⟨h1,h2⟩,h3⟩:=h;obtain ⟨Ps,e1,e2,e3⟩:=drawOk_out h3 (by simp [hd]) (by simp [hp])
  have hPi:Ps[i]?=some (predsOf pm o.after.toList):=by
   have:=congrArg (·[i]?) e1;simp only [List.getElem?_take,show i<i+1 by omega,if_true] at this;rw [this,List.getElem?_append_right (by omega)];simp [hp]
  have hPd:Ps.getD i 0=predsOf pm o.after.toList:=by simp [List.getD_eq_getElem?_getD,hPi]
  have hPm:∀ j,j<i->Ps.getD j 0=pm.getD j 0:=by
   intro j hj;have:=congrArg (·[j]?) e1;simp only [List.getElem?_take,show j<i+1 by omega,if_true] at this;rw [List.getElem?_append_left (by omega)] at this;simp [List.getD_eq_getElem?_getD,this]
  refine ⟨Ps,?_,by simp [e2],fun k o' s' hk1 hk2=>?_⟩
  ·have:=congrArg (List.take i) e1;rw [List.take_take,Nat.min_eq_left (by omega)] at this;rw [this,List.take_append_of_le_length (by omega)];exact List.take_of_length_le (by omega)
  ·cases k with
   |zero=>
    simp only [List.getElem?_cons_zero,Option.some.injEq] at hk1 hk2;subst hk1 hk2;refine ⟨h1,fun m hm=>?_,fun m x hx hm=>?_⟩
    ·rw [Nat.add_zero,hPd] at hm;obtain ⟨e,he,hb,h⟩:=predsOf_out hm;refine ⟨e,he,hb,orR h fun h=>?_⟩
     rw [hPm e.on (backOk_out h1 e he hb)];exact h
    ·rw [Nat.add_zero,hPd];rw [List.getElem?_append_left (by omega)] at hx
     simpa using pairsOk_out h2 m x hx
   |succ k=>
    obtain ⟨g1,g2,g3⟩:=e3 k o' s' (by simpa using hk1) (by simpa using hk2)
    have hik:i+1+k=i+(k+1):=by omega
    rw [hik] at g1 g2 g3;refine ⟨g1,g2,fun m x hx hm=>g3 m x ?_ hm⟩
    rw [List.append_assoc];exact hx
theorem forceN_out:∀ {l:List Nat} {K:List Nat->Prop},forceN l K->K l
 | [],_,h=>h
 |x::r,K,h=>forceN_out (l:=r) (K:=fun r=>K (x::r)) h
theorem footT_out {tm:Nat->AV} {F:List Nat}:∀ {rd:List Nat},footT tm rd F=true->∀ t∈rd,inO (namesO (tm t)) F=true
 | [],_,t,ht=>by cases ht
 |x::r,h,t,ht=>by
  simp only [footT] at h
  cases hx:inO (namesO (tm x)) F with
  |false=>simp [hx] at h
  |true=>
   simp only [hx,cond_true] at h
   cases ht with
   |head=>exact hx
   |tail _ ht=>exact footT_out h t ht
theorem footH_out {hp:Nat->Option Blk} {F:List Nat}:∀ {G:List Nat},footH hp F G=true->∀ b∈G,∀ B,hp b=some B->inO (namesB B) F=true
 | [],_,b,hb,_,_=>by cases hb
 |x::r,h,b,hb,B,hB=>by
  simp only [footH] at h
  cases hx:hp x with
  |none=>
   simp only [hx] at h
   cases hb with
   |head=>rw [hx] at hB;cases hB
   |tail _ hb=>exact footH_out h b hb B hB
  |some B0=>
   simp only [hx] at h
   cases hi:inO (namesB B0) F with
   |false=>simp [hi] at h
   |true=>
    simp only [hi,cond_true] at h
    cases hb with
    |head=>rw [hx] at hB;cases hB;exact hi
    |tail _ hb=>exact footH_out h b hb B hB
section
variable {P:Program} {T:Tab} (hT:TabOk P T)
include hT
omit hT in
theorem splitB_out {g:Bool} {o:Oper} {ρ:Operand->AV} {F:List Nat} {e:Eff} {K:Eff->Prop} (h:splitB g e K) (hf:EffFact F o.dst e):
  ∃ e',K e'/\ (∀ hp,OpSem P o ρ hp e->OpSem P o ρ hp e') /\EffFact F o.dst e'/\effW e'=effW e/\klOf e'=klOf e:=by
 have turn:∀ (b:Bool) (av:AV),e.av=.d (.bool b)->namesO av=some []->(∀ (M:Mem) (ι:Inj),DenA M ι av (.bool b))->(∀ hp,OpSem P o ρ hp e->OpSem P o ρ hp ⟨av,e.wr,e.kl⟩) /\EffFact F o.dst ⟨av,e.wr,e.kl⟩:=by
  intro b av he hn hv;refine ⟨fun hp hs own M ι a w ho ha hh hρ=>Oper.wp_monoQ (fun a' w' hq=>?_) (fun _ _ _ h=>h) (hs own M ι a w ho ha hh hρ),⟨hf.kl,hf.lt,hf.wr,hf.blk,fun d hd=>.inr ?_⟩⟩
  ·obtain ⟨v,e1,M',ι',f1,s1,a1,n1,g1,k1,d1⟩:=hq;rw [he] at d1;have:=den_bool d1;subst this;exact ⟨_,e1,M',ι',f1,s1,a1,n1,g1,k1,hv M' ι'⟩
  ·show inO (namesO av) _=true
   rw [hn];rfl
 cases g with
 |false=>exact ⟨e,h,fun _ hs=>hs,hf,rfl,rfl⟩
 |true=>
  obtain ⟨av,wr,kl⟩:=e;simp only [splitB] at h
  split at h
  ·rename_i b
   rcases bcase_out h with ⟨rfl,h1⟩|⟨rfl,h1⟩
   ·obtain ⟨q1,q2⟩:=turn true .tt rfl rfl fun _ _=>.tt
    exact ⟨_,h1,q1,q2,rfl,rfl⟩
   ·obtain ⟨q1,q2⟩:=turn false .ff rfl rfl fun _ _=>.ff
    exact ⟨_,h1,q1,q2,rfl,rfl⟩
  ·exact ⟨_,h,fun _ hs=>hs,hf,rfl,rfl⟩
omit hT in
theorem force_of {v:AV} {K:AV->Prop} (h:v≠.dead) (k:K v):force v K:=by
 cases v<;>first|exact k|exact absurd rfl h
omit hT in
theorem splitB_out0 {g:Bool} {o:Oper} {ρ:Operand->AV} {e:Eff} {K:Eff->Prop} (h:splitB g e K):
  ∃ e',K e'/\ (∀ hp,OpSem P o ρ hp e->OpSem P o ρ hp e') /\effW e'=effW e/\klOf e'=klOf e:=by
 have turn:∀ (b:Bool) (av:AV),e.av=.d (.bool b)->(∀ (M:Mem) (ι:Inj),DenA M ι av (.bool b))->(∀ hp,OpSem P o ρ hp e->OpSem P o ρ hp ⟨av,e.wr,e.kl⟩):=by
  intro b av he hv hp hs own M ι a w ho ha hh hρ;refine Oper.wp_monoQ (fun a' w' hq=>?_) (fun _ _ _ h=>h) (hs own M ι a w ho ha hh hρ);obtain ⟨v,e1,M',ι',f1,s1,a1,n1,g1,k1,d1⟩:=hq;rw [he] at d1;have:=den_bool d1;subst this;exact ⟨_,e1,M',ι',f1,s1,a1,n1,g1,k1,hv M' ι'⟩
 cases g with
 |false=>exact ⟨e,h,fun _ hs=>hs,rfl,rfl⟩
 |true=>
  obtain ⟨av,wr,kl⟩:=e;simp only [splitB] at h
  split at h
  ·rename_i b
   rcases bcase_out h with ⟨rfl,h1⟩|⟨rfl,h1⟩
   ·exact ⟨_,h1,turn true .tt rfl fun _ _=>.tt,rfl,rfl⟩
   ·exact ⟨_,h1,turn false .ff rfl fun _ _=>.ff,rfl,rfl⟩
  ·exact ⟨_,h,fun _ hs=>hs,rfl,rfl⟩
omit hT in
theorem footW_out {bl:Bool} {tm:Nat->AV} {hp:Nat->Option Blk} {rd:List Nat} {K:List Nat->Prop} {K2:Prop} (h:footW bl tm hp rd K K2):
  K2\/ ∃ F,K F/\ (∀ t∈rd,inO (namesO (tm t)) F=true) /\ (bl=false->∀ b∈F,∀ B,hp b=some B->inO (namesB B) F=true):=by
 unfold footW at h
 split at h
 ·have h:=forceN_out h
  cases hb:(footT tm rd _&&(bif bl then true else footH hp _ _)) with
  |false=>rw [hb] at h;exact .inl h
  |true=>
   rw [hb] at h;rw [Bool.and_eq_true] at hb;exact .inr ⟨_,h,footT_out hb.1,fun e=>footH_out (by have:=hb.2;rw [e] at this⊢;exact this)⟩
 ·exact .inl h
omit hT in
theorem blind_out {o:Oper} {ρ:Operand->AV} {hp:Nat->Option Blk} {K:Eff->Prop} (hb:blindOp o.op=true) (h:opG T P o ρ hp K):∃ e,K e/\ ∀ hp',opG T P o ρ hp' (fun e'=>e'=e):=by
 have one:∀ x:Operand,force (ρ x) (val K)->∃ e,K e/\force (ρ x) (val fun e'=>e'=e):=fun x h=>
  let q:=force_out h
  ⟨_,q.1,force_of q.2 rfl⟩
 cases ho:o.op with
 |move x=>
  simp only [opG,ho] at h⊢
  obtain ⟨e,h1,h2⟩:=one _ h;exact ⟨e,h1,fun _=>h2⟩
 |assign x=>
  simp only [opG,ho] at h⊢
  obtain ⟨e,h1,h2⟩:=one _ h;exact ⟨e,h1,fun _=>h2⟩
 |pick c a b=>
  simp only [opG,ho] at h⊢
  split at h
  ·obtain ⟨e,h1,h2⟩:=one _ h;exact ⟨e,h1,fun _=>h2⟩
  ·obtain ⟨e,h1,h2⟩:=one _ h;exact ⟨e,h1,fun _=>h2⟩
  ·rename_i c' _
   rcases bcase_out h with ⟨rfl,h'⟩|⟨rfl,h'⟩
   ·obtain ⟨e,h1,h2⟩:=one _ h';exact ⟨e,h1,fun _=>⟨h2⟩⟩
   ·obtain ⟨e,h1,h2⟩:=one _ h';exact ⟨e,h1,fun _=>⟨h2⟩⟩
  ·exact h.elim
 |_=>rw [ho] at hb;cases hb
theorem opD_out {ops:Array Oper} {o:Oper} {gb:Bool} {gs:List Nat} {tm:Nat->AV} {hp:Nat->Option Blk} {K:Eff->Summ->Prop} (h:opD T P o gb gs tm hp K) (hgs:∀ t∈gs,namesO (tm t)=some [])
  (hg:match o.guard with
  |none=>True
  |some (g,want)=>∃ t,(ops[g]?).bind (·.dst)=some t/\t∈gs/\GSay (tm t) want true):
  ∃ e s,K e s/\ ((∀ k,e.kl=some k->¬(1000000<=k/\k<1000004))->DFact P ops ⟨o,true,e,s⟩ ⟨tm,hp⟩):=by
 unfold opD at h;have h:=forceN_out h
 rcases footW_out h with h|⟨F,h,h1,h2⟩
 ·obtain ⟨e,h,hs⟩:=opG_sound hT h;have h:=forceN_out (forceN_out h);obtain ⟨e,h,hturn,hW,hks⟩:=splitB_out0 (P:=P) (o:=o) (ρ:=evT (restrT (tmpsL (readsP o.op tm)) tm)) h;rw [<-hW] at h;refine ⟨e,_,h,fun hk=>⟨rfl,rfl,fun h=>(by cases h),fun h=>(by cases h),rfl,fun h=>(by cases h),hk,?_,fun _=>⟨tmpsL (readsP o.op tm),fun t ht=>List.mem_append_right _ ht,fun h=>(by cases h),fun h=>(by cases h),fun _=>hturn _ hs⟩,fun h=>by cases h⟩⟩
  split at hg
  ·rename_i e0
   show match o.guard with|none=>_|some (g,want)=>_
   rw [e0]
  ·rename_i g want e0;obtain ⟨t,q1,q2,q3⟩:=hg
   show match o.guard with|none=>_|some (g,want)=>_
   rw [e0];exact ⟨t,q1,List.mem_append_left _ q2,q3⟩
 have hsem:∃ e,(bif effOk F o.dst e then forceN (effW e) fun W=>forceN (gs++tmpsL (readsP o.op tm)) fun rg=>splitB gb e fun e'=>K e' ⟨o.dst,rg,F,W,blindOp o.op,klOf e',false⟩ else False) /\
   (blindOp o.op=false->OpSem P o (evT (restrT (tmpsL (readsP o.op tm)) tm)) (restrH F hp) e) /\ (blindOp o.op=true->∀ hp',OpSem P o (evT (restrT (tmpsL (readsP o.op tm)) tm)) hp' e):=by
  cases hb:blindOp o.op with
  |false=>
   obtain ⟨e,h,hs⟩:=opG_sound hT h;exact ⟨e,by rw [hb] at h;exact h,fun _=>hs,fun h=>by cases h⟩
  |true=>
   obtain ⟨e,h,hs⟩:=blind_out hb h;refine ⟨e,by rw [hb] at h;exact h,(fun h=>by cases h),fun _ hp'=>?_⟩;obtain ⟨e',he,hs⟩:=opG_sound hT (hs hp')
   rw [<-he];exact hs
 obtain ⟨e,h,hsem,hsemb⟩:=hsem;obtain ⟨he,h⟩:=bif_one h;have h:=forceN_out (forceN_out h);obtain ⟨e,h,hturn,he,hW,hks⟩:=splitB_out h (effOk_out he);rw [<-hW] at h;refine ⟨e,_,h,fun hk=>⟨rfl,rfl,fun _ t ht=>?_,fun _ hb=>h2 hb,rfl,fun _=>he,hk,?_,fun _=>⟨tmpsL (readsP o.op tm),fun t ht=>List.mem_append_right _ ht,fun _ hb=>hturn _ (hsem hb),fun _ hb hp'=>hturn _ (hsemb hb hp'),fun h=>by cases h⟩,fun h=>by cases h⟩⟩
 ·rcases List.mem_append.1 ht with m|m
  ·show inO (namesO (tm t)) F=true
   rw [hgs t m];rfl
  ·exact h1 t m
 ·split at hg
  ·rename_i e0
   show match o.guard with|none=>_|some (g,want)=>_
   rw [e0]
  ·rename_i g want e0;obtain ⟨t,q1,q2,q3⟩:=hg
   show match o.guard with|none=>_|some (g,want)=>_
   rw [e0];exact ⟨t,q1,List.mem_append_left _ q2,q3⟩
omit hT in
def DGoal (P:Program) (ops:Array Oper) (K:AState->Prop) (l:List Oper) (tm:Nat->AV) (hp:Nat->Option Blk) (acc:List Summ):Prop:=
 ∃ xs:List DOp,xs.map (·.o)=l/\drawOk ops.toList (acc++xs.map (·.s)) 0 [] []=true/\K (xs.foldl (fun s x=>x.app s) ⟨tm,hp⟩) /\
   ∀ (i:Nat) (x:DOp),xs[i]?=some x->DFact P ops x ((xs.take i).foldl (fun s x=>x.app s) ⟨tm,hp⟩)
theorem AOpsD_out {ops:Array Oper} {K:AState->Prop}:∀ {l:List Oper} {tm:Nat->AV} {hp:Nat->Option Blk} {acc:List Summ},AOpsD T P ops l tm hp acc K->DGoal P ops K l tm hp acc
 | [],tm,hp,acc,h=>by
  obtain ⟨h1,h2⟩:=condK_out h;exact ⟨[],rfl,by simpa using h1,h2,fun i x h=>by simp at h⟩
 |o::rest,tm,hp,acc,h=>by
  have next:∀ (x:DOp),x.o=o->DFact P ops x ⟨tm,hp⟩->AOpsD T P ops rest (x.app ⟨tm,hp⟩).tm (x.app ⟨tm,hp⟩).hp (acc++[x.s]) K->
    DGoal P ops K (o::rest) tm hp acc:=by
   intro x hx hf h;obtain ⟨xs,e1,e2,e3,e4⟩:=AOpsD_out h;refine ⟨x::xs,by simp [hx,e1],by simpa using e2,e3,fun i y hy=>?_⟩
   cases i with
   |zero=>
    simp only [List.getElem?_cons_zero,Option.some.injEq] at hy;subst hy;exact hf
   |succ i=>exact e4 i y (by simpa using hy)
  have take:∀ gs,(∀ t∈gs,namesO (tm t)=some [])->(match o.guard with
  |none=>True
  |some (g,want)=>∃ t,(ops[g]?).bind (·.dst)=some t/\t∈gs/\GSay (tm t) want true)->
    opD T P o (isG ops o.dst ops.toList) gs tm hp (fun e s=>step tm hp o.dst e fun st=>AOpsD T P ops rest st.tm st.hp (acc++[s]) K)->DGoal P ops K (o::rest) tm hp acc:=by
   intro gs h1 h2 h;obtain ⟨e,s,h3,h4⟩:=opD_out hT h h1 h2;obtain ⟨h5,h6⟩:=step_out h3;exact next ⟨o,true,e,s⟩ rfl (h4 h5) h6
  have skip:∀ t,namesO (tm t)=some []->(match o.guard with
  |none=>False
  |some (g,want)=>(ops[g]?).bind (·.dst)=some t/\GSay (tm t) want false)->
    step tm hp o.dst ⟨.tup [],[],none⟩ (fun st=>AOpsD T P ops rest st.tm st.hp (acc++[⟨o.dst,[t],[],[],false,[],false⟩]) K)->DGoal P ops K (o::rest) tm hp acc:=by
   intro t h1 h2 h;obtain ⟨h5,h6⟩:=step_out h;refine next ⟨o,false,⟨.tup [],[],none⟩,⟨o.dst,[t],[],[],false,[],false⟩⟩ rfl ⟨rfl,rfl,fun _ t' ht=>?_,fun _ _ b hb=>(by cases hb),rfl,fun _=>⟨fun k h=>(by cases h),fun k h=>(by cases h),fun b hb=>(by cases hb),fun c B h=>(by cases h),fun d _=>.inr rfl⟩,fun k h=>(by cases h),?_,fun h=>(by cases h),fun _=>rfl⟩ h6
   ·have:t'=t:=by simpa using ht
    subst this;show inO (namesO (tm t')) []=true
    rw [h1];rfl
   ·split at h2
    ·exact h2.elim
    ·rename_i g want e0;obtain ⟨q1,q3⟩:=h2
     show match o.guard with|none=>_|some (g,want)=>_
     rw [e0];exact ⟨t,q1,by simp,q3⟩
  rw [AOpsD_cons] at h;simp only [stepD,stD_eq] at h
  cases hg:o.guard with
  |none=>
   simp only [hg] at h;exact take [] (fun t ht=>by cases ht) (by rw [hg];trivial) h
  |some gw=>
   obtain ⟨g,want⟩:=gw;simp only [hg] at h take skip
   cases ht:(ops[g]?).bind (·.dst) with
   |none=>simp [ht] at h
   |some t=>
    simp only [ht] at h
    have go:∀ b,namesO (tm t)=some []->(tm t=.d (.bool b) \/ (tm t=.tt/\b=true) \/ (tm t=.ff/\b=false))->
      (if b=want then opD T P o (isG ops o.dst ops.toList) [t] tm hp (fun e s=>step tm hp o.dst e fun st=>AOpsD T P ops rest st.tm st.hp (acc++[s]) K) else step tm hp o.dst ⟨.tup [],[],none⟩ (fun st=>AOpsD T P ops rest st.tm st.hp (acc++[⟨o.dst,[t],[],[],false,[],false⟩]) K))->DGoal P ops K (o::rest) tm hp acc:=by
     intro b hn hb h
     by_cases e:b=want
     ·rw [if_pos e] at h;exact take [t] (fun t' ht'=>by rw [List.mem_singleton.1 ht'];exact hn) ⟨t,ht,by simp,.inl ⟨b,hb,by simp [e]⟩⟩ h
     ·rw [if_neg e] at h;exact skip t hn ⟨ht,.inl ⟨b,hb,by simp [e]⟩⟩ h
    split at h
    ·rename_i hx;refine go true (by rw [hx];rfl) (.inr (.inl ⟨hx,rfl⟩)) ?_
     cases want
     ·simpa using h
     ·simpa using h
    ·rename_i hx;refine go false (by rw [hx];rfl) (.inr (.inr ⟨hx,rfl⟩)) ?_
     cases want
     ·simpa using h
     ·simpa using h
    ·rename_i b hx
     rcases bcase_out h with ⟨rfl,h1⟩|⟨rfl,h1⟩
     ·refine go true (by rw [hx];rfl) (.inl hx) ?_
      cases want
      ·simpa using h1
      ·simpa using h1
     ·refine go false (by rw [hx];rfl) (.inl hx) ?_
      cases want
      ·simpa using h1
      ·simpa using h1
    ·rename_i hx;exact skip t (by rw [hx];rfl) ⟨ht,.inr ⟨hx,rfl⟩⟩ h
    ·exact h.elim
end
theorem bindsA_eq (e:Edge):Region.binds .any e=bindsA e:=by
 unfold Region.binds bindsA
 split<;>simp_all<;>rfl
theorem fold_eq (l:List (DOp×Nat)) (st:AState):fold l st=(l.map (·.1)).foldl (fun s x=>x.app s) st:=by
 simp [fold,List.foldl_map]
section
variable {own:Nat->Prop} {w0:World} {M0:Mem} {ι0:Inj} {N:Nat} {P:Program}
theorem ARel.drawn {st:AState} {a:Act} {w:World} (h:ARel own w0 M0 ι0 N st a w) (n:Nat):ARel own w0 M0 ι0 N st a {w with drawn:=n}:=by
 obtain ⟨M,ι,h1,h2,h3,h4,h5,h6,h7,h8,h9⟩:=h;exact ⟨M,ι,h1,h2,h3,⟨h4.os,h4.tape,h4.output,h4.size,h4.block⟩,⟨h5.dom,h5.virt,h5.at_,h5.inj⟩,h6,h7,h8,h9⟩
theorem run_fact {ops:Array Oper} {Q:Exit->Act->World->Prop} (hown:∀ c,w0.heap.size<=c->own c) {x:DOp} {st:AState} {a:Act} {w:World} {j:Nat} {K:Act->World->Prop} (hj:ops[j]?=some x.o) (hf:DFact P ops x st) (hr:ARel own w0 M0 ι0 N st a w) (hd:DstOk N x.o)
  (hK:∀ a' w',ARel own w0 M0 ι0 N (x.app st) a' w'->K a' w'):wpOp P ops Q j K a w:=by
 obtain ⟨M,ι,h1,h2,h3,h4,h5,h6,h7,h8,h9⟩:=hr
 have hw:Region.wanted x.o (yielded ops a.tmps)=x.act:=by
  have hg:=hf.guard;unfold Region.wanted
  split at hg
  ·rename_i e;rw [e,hg]
  ·rename_i g want e;rw [e];obtain ⟨t,q1,q2,⟨b,q3,q4⟩|⟨q3,q4⟩⟩:=hg
   ·have hv:a.tmps.getD t undef=.bool b:=by
     have hden:=h7 t
     rcases q3 with q|⟨q,rfl⟩|⟨q,rfl⟩
     ·exact den_bool (q▸hden)
     ·exact (den_guard hden).1 q
     ·exact (den_guard hden).2 q
    simp [yields_bool q1 hv,q4]
   ·simp [yields_undef q1 (den_undef (q3▸h7 t)),q4]
 unfold wpOp;rw [hj];simp only [hw]
 cases hact:x.act with
 |false=>
  simp only [Bool.false_eq_true,if_false];have he:=hf.off hact;refine hK _ _ ?_
  have:x.app st=⟨putT st.tm x.o.dst (.tup []),st.hp⟩:=by simp only [DOp.app,he];rfl
  rw [this];exact skip_rel ⟨M,ι,h1,h2,h3,h4,h5,h6,h7,h8,h9⟩ hd
 |true=>
  simp only [if_true]
  left
  obtain ⟨rd,hrd,hsem,hsemb,hsemw⟩:=hf.sem hact
  have hρ:∀ y,evT (restrT rd st.tm) y=.dead\/evT (restrT rd st.tm) y=evT st.tm y:=fun y=>by
   cases y with
   |tmp t=>
    simp only [evT,restrT]
    cases memN t rd with
    |true=>exact .inr rfl
    |false=>exact .inl rfl
   |_=>exact .inr rfl
  have hrun:x.o.wp P a w (fun a' w'=>∃ v,a'=a.put x.o.dst v/\ ∃ (M':Mem) (ι':Inj),FrameOwn own w w'/\Sub M M'/\Agree M' w'/\NewDom own M M'/\HRel own M' ι' (x.e.hp st.hp) w'/\ (∀ b,Kp x.e.kl b->ι' b=ι b) /\ (x.o.dst≠none->DenA M' ι' x.e.av v)) (fun _ _ _=>False):=by
   have ho:∀ c,w.heap.size<=c->own c:=fun c hc=>hown c (Nat.le_trans h4.size hc)
   have plain:OpSem P x.o (evT (restrT rd st.tm)) st.hp x.e->x.o.wp P a w (fun a' w'=>∃ v,a'=a.put x.o.dst v/\ ∃ (M':Mem) (ι':Inj),FrameOwn own w w'/\Sub M M'/\Agree M' w'/\NewDom own M M'/\HRel own M' ι' (x.e.hp st.hp) w'/\ (∀ b,Kp x.e.kl b->ι' b=ι b) /\ (x.o.dst≠none->DenA M' ι' x.e.av v)) (fun _ _ _=>False):=by
    intro hs;refine Oper.wp_monoQ (fun a' w' hq=>?_) (fun _ _ _ h=>h.elim) (hs own M ι a w ho h2 h5 fun y=>?_)
    ·obtain ⟨v,e1,M',ι',f1,s1,a1,n1,g1,k1,d1⟩:=hq;exact ⟨v,e1,M',ι',f1,s1,a1,n1,g1,k1,fun _=>d1⟩
    ·rcases hρ y with e|e
     ·rw [e];exact .dead _
     ·rw [e];exact evT_den h7 y
   cases hwd:x.s.wd with
   |true=>exact plain (hsemw hwd)
   |false=>
    cases hbl:x.s.bl with
    |false=>exact opSem_frame (hsem hwd hbl) (hf.eff hwd) hρ (fun _ _=>rfl) (hf.footh hwd hbl) own M ι a w ho h2 h5 (evT_den h7)
    |true=>exact plain (hsemb hwd hbl st.hp)
  refine Oper.wp_monoQ (fun a' w' hq=>?_) (fun _ _ _ h=>h.elim) hrun;obtain ⟨v,rfl,M',ι',f1,s1,a1,n1,g1,k1,d1⟩:=hq;refine hK _ _ ⟨M',ι',h1.trans s1,a1,h3.trans n1,h4.trans f1,g1,fun b hb hb'=>?_,?_,by rw [put_size,h8],by rw [put_def,h9]⟩
  ·rw [k1 b (Kp_far hf.kl hb hb')];exact h6 b hb hb'
  ·intro t;show DenA M' ι' (putT (killT x.e.kl st.tm) x.o.dst x.e.av t) _
   cases hdst:x.o.dst with
   |none=>exact killT_den s1 k1 (h7 t)
   |some d=>
    rw [<-hdst];exact put_den (by rw [h8];exact hd) (d1 (by rw [hdst];simp)) (fun t=>killT_den s1 k1 (h7 t)) t
theorem countP_lt {α:Type} {p q:α->Bool}:∀ {l:List α} {x:α},(∀ y,q y=true->p y=true)->x∈l->p x=true->q x=false->l.countP q<l.countP p
 | [],x,_,hx,_,_=>by cases hx
 |y::r,x,h,hx,h1,h2=>by
  have hle:r.countP q<=r.countP p:=List.countP_mono_left fun z _=>h z
  cases hx with
  |head=>
   rw [List.countP_cons_of_pos h1,List.countP_cons_of_neg (by simp [h2])];omega
  |tail _ hx=>
   have:=countP_lt h hx h1 h2
   cases hq:q y with
   |true=>rw [List.countP_cons_of_pos (h y hq),List.countP_cons_of_pos hq];omega
   |false=>
    rw [List.countP_cons_of_neg (p:=q) (by simp [hq])]
    cases hp:p y with
    |true=>rw [List.countP_cons_of_pos hp];omega
    |false=>rw [List.countP_cons_of_neg (by simp [hp])];exact this
def Dn (listed:Array Bool) (i:Nat):Bool:=listed.getD i false
theorem dn_true {listed:Array Bool} {i:Nat} (hi:i<listed.size):listed.getD i true=Dn listed i:=by simp [Dn,Array.getD,hi]
theorem dn_set {listed:Array Bool} {i j:Nat} (hi:i<listed.size):Dn (listed.setIfInBounds i true) j=(decide (j=i)||Dn listed j):=by
 by_cases h:j=i
 ·subst h;simp [Dn,Array.getD,hi]
 ·have:=getD_set_ne (listed:=listed) (i:=i) (j:=j) false fun e=>h e.symm
  simp [Dn,this,h]
theorem any_sound {ops:Array Oper} {Q:Exit->Act->World->Prop} (hown:∀ c,w0.heap.size<=c->own c) (hdst:∀ o∈ops,DstOk N o) {xs:List DOp} {s0:AState} (hxs:xs.map (·.o)=ops.toList) (hdraw:drawOk ops.toList (xs.map (·.s)) 0 [] []=true)
  (hfact:∀ (i:Nat) (x:DOp),xs[i]?=some x->DFact P ops x ((xs.take i).foldl (fun s x=>x.app s) s0)) (hQ:∀ a w,ARel own w0 M0 ι0 N (xs.foldl (fun s x=>x.app s) s0) a w->Q .normal a w):
  ∀ (fuel:Nat) (listed:Array Bool) (a:Act) (w:World),listed.size=ops.size->(List.range ops.size).countP (fun i=>!Dn listed i) <=fuel->(∀ (k:Nat) (o:Oper),ops[k]?=some o->Dn listed k=true->∀ e∈o.after,Region.binds .any e=true->Dn listed e.on=true)->
   ARel own w0 M0 ι0 N (fold (xs.zipIdx.filter fun p=>Dn listed p.2) s0) a w->wpAny P .any ops Q fuel listed a w:=by
 obtain ⟨Ps,_,hlen,hpairs⟩:=drawOk_out hdraw rfl rfl;simp only [Nat.zero_add,List.nil_append] at hpairs
 have hn:xs.length=ops.size:=by have:=congrArg List.length hxs;simpa using this
 have hop:∀ (k:Nat) (x:DOp),xs[k]?=some x->ops[k]?=some x.o:=fun k x hx=>by
  have:=congrArg (·[k]?) hxs;simp only [List.getElem?_map,hx,Option.map_some,Array.getElem?_toList] at this;exact this.symm
 have hsum:∀ (k:Nat) (x:DOp),xs[k]?=some x->(xs.map (·.s))[k]?=some x.s:=fun k x hx=>by simp [hx]
 have hown':∀ (k:Nat) (x:DOp),xs[k]?=some x->Own x:=fun k x hx=>let h:=hfact k x hx;⟨h.dst,h.W,h.ks,h.eff⟩
 have hmem:∀ p∈xs.zipIdx,xs[p.2]?=some p.1:=fun p hp=>by
  obtain ⟨i,hi⟩:=List.getElem?_of_mem hp;rw [List.getElem?_zipIdx] at hi
  cases hx:xs[i]? with
  |none=>rw [hx] at hi;cases hi
  |some y=>
   rw [hx] at hi;simp only [Option.map_some,Option.some.injEq,Nat.zero_add] at hi;subst hi;exact hx
 intro fuel
 have main:∀ (listed:Array Bool),listed.size=ops.size->(∀ (k:Nat) (o:Oper),ops[k]?=some o->Dn listed k=true->∀ e∈o.after,Region.binds .any e=true->Dn listed e.on=true)->
   ∀ (j:Nat) (x:DOp),xs[j]?=some x->Dn listed j=false->(∀ e∈x.o.after,Region.binds .any e=true->Dn listed e.on=true)->
    DFact P ops x (fold (xs.zipIdx.filter fun p=>Dn listed p.2) s0) /\fold (xs.zipIdx.filter fun p=>Dn (listed.setIfInBounds j true) p.2) s0=x.app (fold (xs.zipIdx.filter fun p=>Dn listed p.2) s0):=by
  intro listed hsz hcl j x hx hjn hready;have hj:j<xs.length:=(List.getElem?_eq_some_iff.1 hx).1
  have reach:∀ (m q:Nat) (o:Oper),ops[q]?=some o->(∀ e∈o.after,Region.binds .any e=true->Dn listed e.on=true)->Nat.testBit (Ps.getD q 0) m=true->Dn listed m=true:=by
   intro m q
   induction q using Nat.strongRecOn with
   |_ q ih=>
    intro o ho hp hb;have hq:q<ops.size:=(Array.getElem?_eq_some_iff.1 ho).1;obtain ⟨y,hy⟩:∃ y,xs[q]?=some y:=⟨xs[q]'(by omega),by simp⟩
    have hyo:y.o=o:=by have:=hop q y hy;rw [ho] at this;exact (Option.some.inj this).symm
    subst hyo;obtain ⟨g1,g2,_⟩:=hpairs q y.o y.s (by simpa using ho) (hsum q y hy);obtain ⟨e,he,hbe,h⟩:=g2 m hb;have hD:=hp e (by simpa using he) (by rw [bindsA_eq];exact hbe)
    rcases h with rfl|h
    ·exact hD
    ·have hlt:=backOk_out g1 e he hbe
     have ho':ops[e.on]?=some (ops[e.on]'(by omega)):=by simp
     exact ih e.on hlt _ ho' (hcl _ _ ho' hD) h
  have ind:∀ (m k:Nat) (y z:DOp),xs[m]?=some y->xs[k]?=some z->m<k->Dn listed m=false->(∀ e∈z.o.after,Region.binds .any e=true->Dn listed e.on=true)->Ind y z:=by
   intro m k y z hy hz hmk hm hp;obtain ⟨_,_,g3⟩:=hpairs k z.o z.s (by have:=hop k z hz;simpa using this) (hsum k z hz)
   rcases g3 m y.s (hsum m y hy) hmk with h|h
   ·rw [reach m k z.o (hop k z hz) hp h] at hm;cases hm
   ·exact ind_out (hown' m y hy) (hown' k z hz) h
  have closedOf:∀ (k:Nat) (z:DOp),xs[k]?=some z->Dn listed k=true->∀ e∈z.o.after,Region.binds .any e=true->Dn listed e.on=true:=fun k z hz hk=>hcl k z.o (hop k z hz) hk
  let L:=xs.zipIdx
  let A:=L.take j
  let B:=L.drop (j+1)
  have hLj:L[j]?=some (x,j):=by
   show (xs.zipIdx)[j]?=_
   rw [List.getElem?_zipIdx,hx];simp
  have hL:L=A++(x,j)::B:=by
   have h1:L=L.take j++L.drop j:=(List.take_append_drop j L).symm
   have h2:L.drop j=(x,j)::L.drop (j+1):=by
    have hjl:=(List.getElem?_eq_some_iff.1 hLj).1;rw [List.drop_eq_getElem_cons hjl]
    congr 1
    have:=List.getElem?_eq_getElem hjl;rw [this] at hLj;exact Option.some.inj hLj
   rw [h2] at h1;exact h1
  have hA:∀ p∈A,p.2<j/\xs[p.2]?=some p.1:=fun p hp=>by
   obtain ⟨i,hi⟩:=List.getElem?_of_mem hp
   have:i<j:=by
    have:=(List.getElem?_eq_some_iff.1 hi).1
    have h2:A.length<=j:=by simp [A];omega
    omega
   rw [List.getElem?_take_of_lt this,List.getElem?_zipIdx] at hi
   cases hy:xs[i]? with
   |none=>rw [hy] at hi;cases hi
   |some y=>
    rw [hy] at hi;simp only [Option.map_some,Option.some.injEq,Nat.zero_add] at hi;subst hi;exact ⟨this,hy⟩
  have hB:∀ p∈B,j<p.2/\xs[p.2]?=some p.1:=fun p hp=>by
   obtain ⟨i,hi⟩:=List.getElem?_of_mem hp;rw [List.getElem?_drop,List.getElem?_zipIdx] at hi
   cases hy:xs[j+1+i]? with
   |none=>rw [hy] at hi;cases hi
   |some y=>
    rw [hy] at hi;simp only [Option.map_some,Option.some.injEq,Nat.zero_add] at hi;subst hi;exact ⟨by simp;omega,hy⟩
  have hS:fold (L.filter fun p=>Dn listed p.2) s0=fold (B.filter fun p=>Dn listed p.2) (fold (A.filter fun p=>Dn listed p.2) s0):=by
   rw [hL,List.filter_append,List.filter_cons,if_neg (by simp [hjn]),fold_append]
  have hS':fold (L.filter fun p=>Dn (listed.setIfInBounds j true) p.2) s0=fold (B.filter fun p=>Dn listed p.2) (x.app (fold (A.filter fun p=>Dn listed p.2) s0)):=by
   have eA:A.filter (fun p=>Dn (listed.setIfInBounds j true) p.2)=A.filter fun p=>Dn listed p.2:=List.filter_congr fun p hp=>by
    rw [dn_set (by omega)];simp [show p.2≠j by have:=(hA p hp).1;omega]
   have eB:B.filter (fun p=>Dn (listed.setIfInBounds j true) p.2)=B.filter fun p=>Dn listed p.2:=List.filter_congr fun p hp=>by
    rw [dn_set (by omega)];simp [show p.2≠j by have:=(hB p hp).1;omega]
   rw [hL,List.filter_append,List.filter_cons,if_pos (by rw [dn_set (by omega)];simp),fold_append,eA,eB,fold_cons]
  have indB:∀ p∈B.filter (fun p=>Dn listed p.2),Ind x p.1:=fun p hp=>by
   obtain ⟨m1,m2⟩:=List.mem_filter.1 hp;obtain ⟨q1,q2⟩:=hB p m1;exact ind j p.2 x p.1 hx q2 q1 hjn (closedOf p.2 p.1 q2 m2)
  refine ⟨?_,?_⟩
  ·show DFact P ops x (fold (L.filter fun p=>Dn listed p.2) s0);rw [hS]
   have f0:DFact P ops x (fold A s0):=by
    have:=hfact j x hx;rw [fold_eq]
    have e:A.map (·.1)=xs.take j:=by
     show (xs.zipIdx.take j).map (·.1)=_;rw [List.map_take,List.zipIdx_map_fst]
    rw [e];exact this
   have f1:=fact_fold (l:=B.filter fun p=>Dn listed p.2) f0 fun p hp=>(indB p hp).yx
   have pw:A.Pairwise fun p q=>Dn listed p.2=false->Dn listed q.2=true->∀ st,q.1.app (p.1.app st)=p.1.app (q.1.app st):=by
    have key:L.Pairwise fun p q=>p.2<q.2:=by
     rw [List.pairwise_iff_getElem];intro i k hi hk hik;simp only [L,List.getElem_zipIdx];omega
    refine (key.sublist (List.take_sublist j L)).imp_of_mem fun {p q} hp hq hlt hp1 hq1 st=>?_
    have ip:=ind p.2 q.2 p.1 q.1 (hA p hp).2 (hA q hq).2 hlt hp1 (closedOf q.2 q.1 (hA q hq).2 hq1);exact comm_app (hown' _ _ (hA p hp).2) (hown' _ _ (hA q hq).2) ip st
   rw [fold_split (D:=Dn listed) pw,fold_swap2] at f1
   ·exact fact_unfold f1 fun p hp=>by
     obtain ⟨m1,m2⟩:=List.mem_filter.1 hp;exact (ind p.2 j p.1 x (hA p m1).2 hx (hA p m1).1 (by simpa using m2) hready).xy
   ·intro p hp q hq st;obtain ⟨m1,m2⟩:=List.mem_filter.1 hp;obtain ⟨m3,m4⟩:=List.mem_filter.1 hq;have ip:=ind p.2 q.2 p.1 q.1 (hA p m1).2 (hB q m3).2 (by have:=(hA p m1).1;have:=(hB q m3).1;omega) (by simpa using m2) (closedOf q.2 q.1 (hB q m3).2 m4);exact comm_app (hown' _ _ (hA p m1).2) (hown' _ _ (hB q m3).2) ip st
  ·show fold (L.filter fun p=>Dn (listed.setIfInBounds j true) p.2) s0=x.app (fold (L.filter fun p=>Dn listed p.2) s0);rw [hS,hS'];refine fold_swap (fun p hp st=>?_) _;exact comm_app (hown' j x hx) (hown' _ _ (hB p (List.mem_filter.1 hp).1).2) (indB p hp) st
 have stepOk:∀ (listed:Array Bool) (a:Act) (w:World) (K:Act->World->Prop),listed.size=ops.size->(∀ (k:Nat) (o:Oper),ops[k]?=some o->Dn listed k=true->∀ e∈o.after,Region.binds .any e=true->Dn listed e.on=true)->
   ARel own w0 M0 ι0 N (fold (xs.zipIdx.filter fun p=>Dn listed p.2) s0) a w->∀ j∈Region.ready .any ops listed,
   (∀ a' w',ARel own w0 M0 ι0 N (fold (xs.zipIdx.filter fun p=>Dn (listed.setIfInBounds j true) p.2) s0) a' w'->K a' w')->wpOp P ops Q j K a w:=by
  intro listed a w K hsz hcl hr j hj hK;obtain ⟨h1,o,ho,h2⟩:=mem_ready.1 hj;have hjl:j<ops.size:=(Array.getElem?_eq_some_iff.1 ho).1;rw [dn_true (by omega)] at h1;obtain ⟨x,hx⟩:∃ x,xs[j]?=some x:=⟨xs[j]'(by omega),by simp⟩
  have hxo:x.o=o:=by have:=hop j x hx;rw [ho] at this;exact (Option.some.inj this).symm
  subst hxo;obtain ⟨q1,q2⟩:=main listed hsz hcl j x hx h1 h2
  exact run_fact hown ho q1 hr (hdst x.o (Array.mem_of_getElem? ho)) fun a' w' hr'=>hK a' w' (by rw [q2];exact hr')
 have doneAll:∀ (listed:Array Bool) (a:Act) (w:World),listed.size=ops.size->ARel own w0 M0 ι0 N (fold (xs.zipIdx.filter fun p=>Dn listed p.2) s0) a w->Region.ready .any ops listed=[]->Q .normal a w:=by
  intro listed a w hsz hr hnil
  have all:∀ j,j<ops.size->Dn listed j=true:=by
   intro j
   induction j using Nat.strongRecOn with
   |_ j ih=>
    intro hj
    cases hd:Dn listed j with
    |true=>rfl
    |false=>
     exfalso
     have ho:ops[j]?=some (ops[j]):=by simp
     obtain ⟨x,hx⟩:∃ x,xs[j]?=some x:=⟨xs[j]'(by omega),by simp⟩;have hxo:=hop j x hx;obtain ⟨g1,_,_⟩:=hpairs j x.o x.s (by simpa using hxo) (hsum j x hx)
     have:j∈Region.ready .any ops listed:=mem_ready.2 ⟨by rw [dn_true (by omega)];exact hd,x.o,hxo,fun e he hb=>by
      have hlt:=backOk_out g1 e (by simpa using he) (by rw [<-bindsA_eq];exact hb)
      exact ih e.on hlt (by omega)⟩
     rw [hnil] at this
     cases this
  refine hQ a w ?_
  have e:xs.zipIdx.filter (fun p=>Dn listed p.2)=xs.zipIdx:=List.filter_eq_self.2 fun p hp=>all p.2 (by
   have:=(List.getElem?_eq_some_iff.1 (hmem p hp)).1
   omega)
  rw [e,fold_eq,List.zipIdx_map_fst] at hr;exact hr
 induction fuel with
 |zero=>
  intro listed a w hsz hc hcl hr
  have hnil:Region.ready .any ops listed=[]:=by
   cases hr0:Region.ready .any ops listed with
   |nil=>rfl
   |cons j r=>
    exfalso
    have hj:j∈Region.ready .any ops listed:=by rw [hr0];exact List.mem_cons_self ..
    obtain ⟨h1,o,ho,_⟩:=mem_ready.1 hj;have hjl:j<ops.size:=(Array.getElem?_eq_some_iff.1 ho).1;rw [dn_true (by omega)] at h1;have:0<(List.range ops.size).countP (fun i=>!Dn listed i):=List.countP_pos_iff.2 ⟨j,List.mem_range.2 hjl,by simp [h1]⟩;omega
  exact ⟨hnil,doneAll listed a w hsz hr hnil⟩
 |succ fuel ih=>
  intro listed a w hsz hc hcl hr;refine ⟨doneAll listed a w hsz hr,fun j hj=>stepOk listed a w _ hsz hcl hr j hj fun a' w' hr'=>?_⟩;obtain ⟨h1,o,ho,h2⟩:=mem_ready.1 hj;have hjl:j<ops.size:=(Array.getElem?_eq_some_iff.1 ho).1;rw [dn_true (by omega)] at h1;refine ih _ a' w' (by simp [hsz]) ?_ ?_ hr'
  ·have:=countP_lt (p:=fun i=>!Dn listed i) (q:=fun i=>!Dn (listed.setIfInBounds j true) i) (l:=List.range ops.size) (x:=j)
    (fun y hy=>by simp only [dn_set (show j<listed.size by omega),Bool.not_or,Bool.and_eq_true] at hy;exact hy.2) (List.mem_range.2 hjl) (by simp [h1]) (by simp [dn_set (show j<listed.size by omega)])
   omega
  ·intro k o' ho' hk e he hb;rw [dn_set (by omega)] at hk⊢;simp only [Bool.or_eq_true,decide_eq_true_eq] at hk⊢
   right
   rcases hk with rfl|hk
   ·rw [ho] at ho';cases ho';exact h2 e he hb
   ·exact hcl k o' ho' hk e he hb
theorem AOpsD_sound {T:Tab} (hT:TabOk P T) (hown:∀ c,w0.heap.size<=c->own c) {ops:Array Oper} {Q:Exit->Act->World->Prop} {K:AState->Prop} (hQ:∀ st a w,K st->ARel own w0 M0 ι0 N st a w->Q .normal a w) (hd:∀ o∈ops,DstOk N o) (hm:P.follows .mixedOrders=true) (id:Nat)
  {tm:Nat->AV} {hp:Nat->Option Blk} {a:Act} {w:World} (h:AOpsD T P ops ops.toList tm hp [] K) (hr:ARel own w0 M0 ι0 N ⟨tm,hp⟩ a w):(Code.region id ops true).wp P Q a w:=by
 obtain ⟨xs,e1,e2,e3,e4⟩:=AOpsD_out hT h;refine wp_region_any hm (any_sound (s0:=⟨tm,hp⟩) hown hd e1 (by simpa using e2) e4 (fun a w hr=>hQ _ a w e3 hr) ops.size _ a _ (by simp) ?_ ?_ ?_)
 ·exact Nat.le_trans (List.countP_le_length) (by simp)
 ·intro k o _ hk;simp [Dn,Array.getD] at hk
 ·have:xs.zipIdx.filter (fun p=>Dn (Array.replicate ops.size false) p.2)=[]:=List.filter_eq_nil_iff.2 fun p _=>by
   simp [Dn,Array.getD]
  rw [this];exact hr.drawn _
end
end Go.Lk
