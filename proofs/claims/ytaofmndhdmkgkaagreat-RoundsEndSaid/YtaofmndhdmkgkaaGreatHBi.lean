/-
  What is proved here: what functions of the program compute, and what follows; no condition beyond each theorem's own.
-/
import Derived.Test.YtaofmndhdmkgkaaGreatHAt
import Derived.Test.YtaofmndhdmkgkaaGreatHAu
import Derived.Test.YtaofmndhdmkgkaaGreatHBc
import Derived.Test.YtaofmndhdmkgkaaGreatHBh
set_option linter.unusedSimpArgs false
set_option linter.unusedVariables false
set_option linter.unnecessarySimpa false
set_option linter.unusedSectionVars false
namespace Go.Lk
open Go Go.Proofs Go.RowKit
def untk:List EvA->List Bool->List EvA
 |x::l,b::t=>if b=true then untk l t else x::untk l t
 |_,_=>[]
theorem untk_set:∀ {l:List EvA} {t:List Bool} {i:Nat} (hi:i<l.length),t.length=l.length->t[i]?=some false->(untk l t).Perm (l[i]::untk l (t.set i true))
 |x::l,b::t,0,_,_,h=>by
  have:b=false:=by simpa using h
  subst this;show (x::untk l t).Perm (x::untk l t);exact .refl _
 |x::l,b::t,i+1,hi,hl,h=>by
  have ih:=untk_set (l:=l) (t:=t) (i:=i) (by simpa using hi) (by simpa using hl) (by simpa using h)
  cases b with
  |true=>exact ih
  |false=>
   show (x::untk l t).Perm (l[i]'(by simpa using hi)::x::untk l (t.set i true));exact (ih.cons x).trans (.swap _ _ _)
theorem untk_all:∀ {l:List EvA} {t:List Bool},t.length=l.length->(∀ k,k<l.length->t[k]?=some true)->untk l t=[]
 | [],[],_,_=>rfl
 |x::l,b::t,hl,h=>by
  have h0:=h 0 (by simp)
  have:b=true:=by simpa using h0
  subst this
  exact untk_all (l:=l) (t:=t) (by simpa using hl) fun k hk=>by have:=h (k+1) (by simpa using hk);simpa using this
theorem untk_new:∀ l:List EvA,untk l (List.replicate l.length false)=l
 | []=>rfl
 |x::l=>by
  show x::untk l (List.replicate l.length false)=x::l;rw [untk_new l]
theorem untk_mem:∀ {l:List EvA} {t:List Bool} {e:EvA},e∈untk l t->∃ k,∃ h:k<l.length,l[k]=e/\t[k]?=some false
 |x::l,b::t,e,h=>by
  cases b with
  |true=>
   obtain ⟨k,hk,h1,h2⟩:=untk_mem (l:=l) (t:=t) h;exact ⟨k+1,by simpa using hk,by simpa using h1,by simpa using h2⟩
  |false=>
   rcases List.mem_cons.1 (show e∈x::untk l t from h) with rfl|h
   ·exact ⟨0,by simp,rfl,rfl⟩
   ·obtain ⟨k,hk,h1,h2⟩:=untk_mem (l:=l) (t:=t) h;exact ⟨k+1,by simpa using hk,by simpa using h1,by simpa using h2⟩
 | [],_,e,h=>by simp [untk] at h
 |x::l,[],e,h=>by simp [untk] at h
structure RpI (l:List EvA) (P:Nat->Pg) (n:Nat) (t:List Bool) (P':Nat->Pg):Prop where
 tl:t.length=l.length
 cnt:(untk l t).length+n=l.length
 okp:OkP P'
 ex:∃ G,PlayOk P' G P/\G.Pairwise (fun a b=>a.done<b.done) /\ (((untk l t).map evR).filter goodR).Perm G
structure RpS (l:List EvA) (P:Nat->Pg) (n:Nat) (t:List Bool) (P':Nat->Pg) (i:Nat) (e:EvA):Prop where
 nx:nxG l t l.length=i
 hi:i<l.length
 le:l[i]?=some e
 ti:t[i]?=some false
 go:(goodR (evR e)=false/\RpI l P (n+1) (t.set i true) P') \/ (goodR (evR e)=true/\ (mdocX P' e.op).2=e.res/\RpI l P (n+1) (t.set i true) (mdocX P' e.op).1)
theorem RpI.step {l P n t P'} (h:RpI l P n t P') (hn:n<l.length):∃ i e,RpS l P n t P' i e:=by
 rcases (nx_spec h.tl l.length (Nat.le_refl _)).out with ⟨_,hall⟩|⟨i,e1,_,hi,hti,hmin⟩
 ·have:=untk_all h.tl fun k hk=>hall k (by omega) hk
  have hc:=h.cnt;rw [this] at hc
  simp at hc;omega
 have hp:=untk_set hi h.tl hti
 have hlen:(t.set i true).length=l.length:=by rw [List.length_set];exact h.tl
 have hcnt:(untk l (t.set i true)).length+(n+1)=l.length:=by
  have h1:=hp.length_eq;have h2:=h.cnt;simp only [List.length_cons] at h1;omega
 obtain ⟨G,g1,g2,g3⟩:=h.ex;have hp2:((l[i]::untk l (t.set i true)).map evR |>.filter goodR).Perm G:=((hp.map evR).filter _).symm.trans g3;rw [List.map_cons,List.filter_cons] at hp2;refine ⟨i,l[i],e1,hi,List.getElem?_eq_getElem hi,hti,?_⟩
 cases hg:goodR (evR l[i]) with
 |false=>
  rw [hg,if_neg (by decide)] at hp2;exact .inl ⟨rfl,hlen,hcnt,h.okp,G,g1,g2,hp2⟩
 |true=>
  rw [hg,if_pos rfl] at hp2
  right
  have hm:evR l[i]∈G:=hp2.mem_iff.1 (List.mem_cons_self ..)
  cases G with
  |nil=>cases hm
  |cons g G'=>
   have hge:evR l[i]=g:=by
    rcases List.mem_cons.1 hm with hm|hm
    ·exact hm
    ·have h1:=(List.pairwise_cons.1 g2).1 _ hm;have h2:g∈((untk l t).map evR).filter goodR:=g3.mem_iff.2 (List.mem_cons_self ..);obtain ⟨e,he,rfl⟩:=List.mem_map.1 (List.mem_filter.1 h2).1;obtain ⟨k,hk,rfl,hk2⟩:=untk_mem he;have h3:=hmin k (by omega) hk hk2;rw [List.getElem?_eq_getElem hi,List.getElem?_eq_getElem hk,Option.getD_some,Option.getD_some] at h3;have h1:l[k].done<l[i].done:=h1;omega
   subst hge;obtain ⟨q1,q2⟩:=g1;exact ⟨rfl,q1,hlen,hcnt,mdocX_ok h.okp _,G',q2,(List.pairwise_cons.1 g2).2,hp2.cons_inv⟩
theorem RpI.end_ {l P n t P'} (h:RpI l P n t P') (hn:l.length<=n):P'=P:=by
 obtain ⟨G,g1,g2,g3⟩:=h.ex;have hc:=h.cnt;have:untk l t=[]:=List.length_eq_zero_iff.1 (by omega);rw [this] at g3;have:G=[]:=List.nil_perm.1 g3;subst this;exact (show P=P' from g1).symm
theorem encBl_set (t:List Bool) (i:Nat):(t.map encBl).set i [.bool true]=(t.set i true).map encBl:=by rw [List.map_set];rfl
set_option maxRecDepth 20000 in
set_option maxHeartbeats 16000000 in
theorem replay_ok (l:List EvA) (hl:l.length<=1000000) (P0 P:Nat->Pg) (h0:RpI l P 0 (List.replicate l.length false) P0) (hbad:∀ e∈l,e.res.1=8->e.res=(8,zP)):
  ACall Tryz.prog 45 [.lst ((bgN P0 16).map encP),.lst (l.map encEvA)] (.tup [.lst ((bgN P 16).map encP),.bool true]):=by
 have hm:(l.map encEvA).length=l.length:=List.length_map ..
 refine acall_of Tryz.func45 2 rfl (by kernel_rfl) (aP ?_);refine roomK_le 1000000 100 (by omega) (by decide) (by decide) (by decide) (aP ?_);refine aloop (ι:=Nat×List Bool×(Nat->Pg)) (fun k=>[(0,.d (.lst ((bgN k.2.2 16).map encP))),(1,.d (.lst (l.map encEvA))),(6,.own 13),(7,.d (.int .i64 k.1))])
  (fun k=>[(13,.row (k.2.1.map encBl) 1 false)]) (fun k=>RpI l P k.1 k.2.1 k.2.2) (fun k=>l.length-k.1) (0,List.replicate l.length false,P0) h0 (le0 (le_of_cov ⟨rfl,rfl,rfl,rfl,trivial⟩ ⟨by rw [List.map_replicate];show some (Blk.row (List.replicate (((l.map encEvA).length:Int).toNat) _) 1 false)=_;rw [hm];rfl,trivial⟩ ⟨rfl,rfl,rfl,rfl⟩)) ?_
 rintro ⟨n,t,P'⟩ h;simp only at h⊢
 have hle:n<=l.length:=by have:=h.cnt;omega
 conv=>whnf
 refine bcase_p (fun h5=>?_) (fun h5=>?_)<;>conv=>whnf
 ·obtain ⟨i,e,hS⟩:=h.step (by omega);have hil:=hS.hi
  have her:(l.map encEvA)[i]?=some (encEvA e):=by rw [List.getElem?_map,hS.le];rfl
  have hmt:(t.map encBl).length=t.length:=List.length_map ..
  have htl:=h.tl
  have hti:(t.map encBl)[i]?=some [.bool false]:=by rw [List.getElem?_map,hS.ti];rfl
  have hnx:=next86_ok l t h.tl hl;rw [hS.nx] at hnx;refine aP ?_;refine callX_blk hnx [(1000000,13)] rfl ⟨rfl,trivial⟩ rfl (aP ?_);refine idxK_nat (by omega) (w0 ?_);refine getRow_of hti (aP ?_);refine idxK_nat (by omega) (w0 ?_);refine getRow_of her (aP ?_)
  refine bcase_p (fun c8=>?_) (fun c8=>?_)<;>conv=>whnf
  ·have hres:=hbad e (List.mem_of_getElem? hS.le) c8
   have hid:e.res.2.1=0:=by rw [hres];rfl
   rcases hS.go with ⟨_,g2⟩|⟨g1,_⟩
   rotate_left
   ·exact absurd g1 (by simp [goodR,evR,c8])
   refine idxK_nat (by omega) (w0 ?_);refine getRow_of her (aP ?_);refine ⟨(n+1,t.set i true,P'),g2,by simp only [];omega,le0 (le_of_cov ⟨rfl,rfl,rfl,rfl,trivial⟩ ⟨?_,trivial⟩ ⟨rfl,rfl,rfl,rfl⟩)⟩
   rw [<-encBl_set];rfl
  ·rcases hS.go with ⟨g1,_⟩|⟨_,g2,g3⟩
   ·exact absurd g1 (by simp [goodR,evR,c8])
   have hdo:=Hy.refDo_ok (bgN P' 16) e.op (by have:=bg_len P';omega);rw [Hy.rdM_eq,doM_bg h.okp,g2] at hdo;refine aP ?_;refine idxK_nat (by omega) (w0 ?_);refine getRow_of her (aP ?_);refine callX_pure hdo (aP ?_);refine idxK_nat (by omega) (w0 ?_);refine getRow_of her (aP ?_);refine idxK_nat (by omega) (w0 ?_);refine getRow_of her (aP ?_);refine bcase_t (by simp) (aP ?_);refine ⟨(n+1,t.set i true,(mdocX P' e.op).1),g3,by simp only [];omega,le0 (le_of_cov ⟨rfl,rfl,rfl,rfl,trivial⟩ ⟨?_,trivial⟩ ⟨rfl,rfl,rfl,rfl⟩)⟩
   rw [<-encBl_set];rfl
 ·rw [h.end_ (by omega)];refine aP ?_;exact ret_of rfl rfl
theorem HI.rp {P0 n work m} (h:HI P0 n work m) (hk:OkP P0) (hq:∀ k,k<4->stV m k≠6):∃ P,DocI m.p P n/\RpI m.ev P 0 (List.replicate m.ev.length false) P0/\ ∀ e∈m.ev,e.res.1=8->e.res=(8,zP):=by
 obtain ⟨G,P,g1,g2,g3,g4,g5⟩:=h.og.ex
 have hp:pendR m.ws=[]:=by
  rw [pendR,List.filterMap_eq_nil_iff];intro w hw;obtain ⟨k,hk,rfl⟩:=List.mem_iff_getElem.1 hw;have:=hq k (by have:=h.tg.n4;omega);rw [stV_at (List.getElem?_eq_getElem hk)] at this;rw [wR,if_neg (fun e=>this (by rw [e];rfl))]
 rw [allR,hp,List.append_nil] at g5;refine ⟨P,g2,⟨List.length_replicate ..,by rw [untk_new];rfl,hk,G,g1,g3,by rw [untk_new];exact g5⟩,fun e he h8=>?_⟩;exact h.og.bad (evR e) (List.mem_append.2 (.inl (List.mem_map_of_mem he))) h8
structure TiOk (l:List EvA) (c:Int):Prop where
 ev:∀ e∈l,e.who<4/\0<=e.began/\e.began<e.done/\e.done<e.ended/\e.ended<c
 up:l.Pairwise fun a b=>a.ended<b.ended
 seq:l.Pairwise fun a b=>a.who=b.who->a.ended<b.began
def lastI (l:List EvA) (k:Nat):Int:=l.foldl (fun a e=>if e.who=k then e.ended+1 else a) 0
theorem lastI_snoc (l:List EvA) (e:EvA) (k:Nat):lastI (l++[e]) k=if e.who=k then e.ended+1 else lastI l k:=by
 rw [lastI,List.foldl_append];rfl
theorem fold_le {k:Nat} {b:Int}:∀ {l:List EvA} {a:Int},a<=b->(∀ e∈l,e.who=k->e.ended<b)->l.foldl (fun a e=>if e.who=k then e.ended+1 else a) a<=b
 | [],a,h,_=>h
 |e::l,a,h,h2=>by
  refine fold_le (l:=l) ?_ fun e he=>h2 e (.tail _ he)
  show (if e.who=k then e.ended+1 else a) <=b
  split
  ·rename_i q;have:=h2 e (.head _) q;omega
  ·exact h
def lsD (l:List EvA):List D:=[.int .i64 (lastI l 0),.int .i64 (lastI l 1),.int .i64 (lastI l 2),.int .i64 (lastI l 3)]
theorem lsD_get (l:List EvA) {k:Nat} (hk:k<4):(lsD l)[k]?=some (.int .i64 (lastI l k)):=by
 match k,hk with
 |0,_=>rfl
 |1,_=>rfl
 |2,_=>rfl
 |3,_=>rfl
theorem lsD_set (l:List EvA) (e:EvA) (hk:e.who<4):(lsD l).set e.who (.int .i64 (e.ended+1))=lsD (l++[e]):=by
 simp only [lsD,lastI_snoc];obtain ⟨k,hkk⟩:∃ k,e.who=k:=⟨_,rfl⟩;rw [hkk] at hk⊢
 match k,hk with
 |0,_=>simp
 |1,_=>simp
 |2,_=>simp
 |3,_=>simp
set_option maxRecDepth 20000 in
set_option maxHeartbeats 16000000 in
theorem times_ok (l:List EvA) (hl:l.length<=1000000) (c:Int) (hc:c<=1000000) (h:TiOk l c):ACall Tryz.prog 46 [.lst (l.map encEvA),.int .i64 c] (.bool true):=by
 have hm:(l.map encEvA).length=l.length:=List.length_map ..
 refine acall_of Tryz.func46 2 rfl (by kernel_rfl) (aP ?_);refine aloop (ι:=Nat) (fun i=>[(0,.d (.lst (l.map encEvA))),(1,.d (.int .i64 c)),(5,.ptr 5 0 0),(6,.d (.int .i64 i))])
  (fun i=>[(5,.box ((lsD (l.take i)).map AV.d) false)]) (fun i=>i<=l.length) (fun i=>l.length-i) 0 (Nat.zero_le _) (le0 (le_of_cov ⟨rfl,rfl,rfl,rfl,trivial⟩ ⟨rfl,trivial⟩ ⟨rfl,rfl,rfl,rfl⟩)) ?_
 intro i hi
 conv=>whnf
 refine bcase_p (fun h5=>?_) (fun h5=>?_)<;>conv=>whnf
 ·have hi2:i<l.length:=by omega
  have es:l.take (i+1)=l.take i++[l[i]]:=take_snoc hi2;have hev:=h.ev _ (List.getElem_mem hi2)
  have hls:lastI (l.take i) l[i].who<=l[i].began:=fold_le hev.2.1 fun e he hw=>by
   obtain ⟨j,hj,rfl⟩:=List.mem_iff_getElem.1 he;rw [List.length_take] at hj;rw [List.getElem_take] at hw⊢;exact (List.pairwise_iff_getElem.1 h.seq) j i (by omega) hi2 (by omega) hw
  have hup:∀ j,(hj:j+1=i)->(l[j]'(by omega)).ended<l[i].ended:=fun j hj=>(List.pairwise_iff_getElem.1 h.up) j i (by omega) hi2 (by omega)
  have hL0:=lsD_get (l.take i) hev.1;have hL1:=lsD_set (l.take i) l[i] hev.1;rw [<-es] at hL1
  have her:(l.map encEvA)[i]?=some (encEvA l[i]):=by rw [List.getElem?_map,List.getElem?_eq_getElem hi2];rfl
  obtain ⟨e,he⟩:∃ e,l[i]=e:=⟨_,rfl⟩;rw [he] at hev hls hup hL0 hL1 her;have hlen:(lsD (l.take i)).length=4:=rfl;obtain ⟨q1,q2,q3,q4,q5⟩:=hev
  have hg0:∀ j,j=e.who->(lsD (l.take i))[j]?=some (.int .i64 (lastI (l.take i) e.who)):=fun j z=>by rw [z];exact hL0
  have hg1:∀ j,j=e.who->(lsD (l.take i)).set j (.int .i64 (e.ended+1))=lsD (l.take (i+1)):=fun j z=>by rw [z];exact hL1
  refine idxK_nat (by omega) (w0 ?_);refine getRow_of her (aP ?_);refine idxK_nat (by omega) (w0 ?_)
  try (refine condK_of rfl ?_)
  refine (part_one (l:=lsD (l.take i)) (.int .i64 (lastI (l.take i) e.who)) (by first|rfl|simp only [killC_d]) (hg0 _ (by simp only [szs];omega)) ?_)
  conv=>whnf
  refine aA ?_;refine aP ?_
  refine bcase_p (fun z0=>?_) (fun z0=>?_)<;>conv=>whnf
  ·obtain ⟨j,hj⟩:∃ j,j+1=i:=⟨i-1,by omega⟩
   have hj2:j<l.length:=by omega
   have hu:=hup j hj
   have ei:(i:Int)-1=(j:Int):=by omega
   refine aP ?_;rw [ei];refine idxK_nat (by omega) (w0 ?_);refine getRow_of (x:=encEvA l[j]) (by simp [hj2]) (aW ?_);refine aP ?_;refine idxK_nat (by omega) (aP ?_)
   try (refine condK_of rfl ?_)
   refine (store_one (l:=lsD (l.take i)) (l3:=lsD (l.take (i+1))) (by first|rfl|simp only [killC_d]) (by first|omega|(simp only [szs];omega)) (hg1 _ (by simp only [szs];omega)) ?_)
   conv=>whnf
   refine aA ?_;refine aP ?_;exact ⟨i+1,by omega,by omega,(le0 (le_of_cov ⟨rfl,rfl,rfl,rfl,trivial⟩ ⟨rfl,trivial⟩ ⟨rfl,rfl,rfl,rfl⟩))⟩
  ·refine aP ?_;refine aP ?_;refine idxK_nat (by omega) (aP ?_)
   try (refine condK_of rfl ?_)
   refine (store_one (l:=lsD (l.take i)) (l3:=lsD (l.take (i+1))) (by first|rfl|simp only [killC_d]) (by first|omega|(simp only [szs];omega)) (hg1 _ (by simp only [szs];omega)) ?_)
   conv=>whnf
   refine aA ?_;refine aP ?_;exact ⟨i+1,by omega,by omega,(le0 (le_of_cov ⟨rfl,rfl,rfl,rfl,trivial⟩ ⟨rfl,trivial⟩ ⟨rfl,rfl,rfl,rfl⟩))⟩
 ·refine aP ?_;exact ret_of rfl rfl
def toE (e:EvA):Hy.Ev:=⟨e.who,e.op.1,e.op.2.1,e.op.2.2,e.res.1,e.res.2.1,e.res.2.2.1,e.res.2.2.2,e.began,e.done,e.ended⟩
theorem encE_map (l:List EvA):(l.map toE).map Hy.encE=l.map encEvA:=by rw [List.map_map];rfl
theorem evs_ok (l:List EvA) (hl:l.length<=1000000):OCall Tryz.prog 44 [.lst (l.map encEvA)] (l.map encEvA) 11:=by
 have h:=Hy.events_ok (l.map toE) (by rw [List.length_map];exact hl)
 rw [encE_map] at h;exact h
theorem TG.ti {m:MS} (g:TG m):TiOk m.ev m.clk:=⟨g.ev,g.up,g.seq⟩
theorem ecall_wk {P:Program} {f:FuncId} {xs xs':List AV} {hp:Nat->Option Blk} {e:Eff} (H:ECall P f xs hp e) (hl:xs'.length=xs.length) (h:∀ (i:Nat) (x y:AV),xs'[i]?=some x->xs[i]?=some y->WkA x y):ECall P f xs' hp e:=
 ⟨H.1,fun own M ι w vs ho ha hh hd=>H.2 own M ι w vs ho ha hh ⟨hd.1.trans hl,fun i d v h1 h2=>by
  have hi:i<xs.length:=(List.getElem?_eq_some_iff.1 h1).1;have h3:xs'[i]?=some (xs'[i]'(by omega)):=List.getElem?_eq_getElem (by omega)
  exact (h i _ d h3 h1).out M ι v (hd.2 i _ v h3 h2)⟩⟩
theorem hcall_b3 {P:Program} {f:FuncId} {a b x y:AV} {pre post:List (Nat×Blk)} {d:D} (H:HCall P f [a,b,y] pre post d) (hx:∀ s,rnV s x=x) (hy:∀ s,rnV s y=y) (hw:WkA x y):HCall P f [a,b,x] pre post d:=
 ⟨H.1,fun s hp h1 h2=>ecall_wk (H.2 s hp h1 h2) rfl fun i u v e1 e2=>by
  match i with
  |0=>cases e1;cases e2;exact wk_refl _
  |1=>cases e1;cases e2;exact wk_refl _
  |2=>cases e1;cases e2;rw [hx,hy];exact hw
  |i+3=>cases e1⟩
theorem hcall_ff {P:Program} {f:FuncId} {a b:AV} {pre post:List (Nat×Blk)} {d:D} (H:HCall P f [a,b,.d (.bool false)] pre post d):HCall P f [a,b,.ff] pre post d:=hcall_b3 H (fun _=>rfl) (fun _=>rfl) wk_ff
theorem hcall_nil {P:Program} {f:FuncId} {a b c:AV} {pre post:List (Nat×Blk)} {d:D} (H:HCall P f [a,b,.d (.lst []),c] pre post d):HCall P f [a,b,.nil,c] pre post d:=
 ⟨H.1,fun s hp h1 h2=>ecall_wk (H.2 s hp h1 h2) rfl fun i u v e1 e2=>by
  match i with
  |0=>cases e1;cases e2;exact wk_refl _
  |1=>cases e1;cases e2;exact wk_refl _
  |2=>cases e1;cases e2;exact wk_nil
  |3=>cases e1;cases e2;exact wk_refl _
  |i+4=>cases e1⟩
noncomputable def stN (m:MS):Nat->MS×Bool
 |0=>(m,false)
 |k+1=>((stepM (stN m k).1 k).1,(stN m k).2||(stepM (stN m k).1 k).2)
noncomputable def roundM (m:MS) (n:Nat) (fault:Bool):MS×Bool:=
 ((finM (pumpM (stN m (min n 4)).1) 0 fault).1,(stN m (min n 4)).2||(finM (pumpM (stN m (min n 4)).1) 0 fault).2)
def fbN (faults:List Bool) (i:Nat):Bool:=if 0<faults.length then faults[i%faults.length]?.getD false else false
noncomputable def rnds (m:MS) (n:Nat) (faults:List Bool):Nat->MS
 |0=>m
 |i+1=>(roundM (rnds m n faults i) n (fbN faults i)).1
open Classical in
noncomputable def leftB (m:MS) (n:Nat):Bool:=decide (∃ k,k<min n 4/\0<lfV m k)
theorem leftB_t {m:MS} {n:Nat}:leftB m n=true↔∃ k,k<min n 4/\0<lfV m k:=by simp [leftB]
theorem leftB_f {m:MS} {n:Nat}:leftB m n=false↔∀ k,k<min n 4->¬0<lfV m k:=by
 rw [leftB,decide_eq_false_iff_not];exact ⟨fun h k hk hp=>h ⟨k,hk,hp⟩,fun h ⟨k,hk,hp⟩=>h k hk hp⟩
theorem MGE.pump {work m} (h:MGE work m):MGE work (pumpM m):=by
 obtain ⟨t,h0,h1,g⟩:=h.ex;exact ⟨t,h0,h1,g.pump⟩
theorem MGE.fin {work m} (h:MGE work m) (i:Int) (b:Bool):MGE work (finM m i b).1:=by
 obtain ⟨t,h0,h1,g⟩:=h.ex;exact ⟨t,h0,h1,g.fin i b⟩
theorem MGE.stN {work m} (h:MGE work m):∀ k,MGE work (stN m k).1
 |0=>h
 |k+1=>(MGE.stN h k).step k
theorem stN_clk (m:MS):∀ k,(stN m k).1.clk<=m.clk+k/\m.clk<= (stN m k).1.clk
 |0=>⟨by show m.clk<=m.clk+0;omega,Int.le_refl _⟩
 |k+1=>by
  have ih:=stN_clk m k;have h:=stepM_clk (stN m k).1 k;show (stepM (stN m k).1 k).1.clk<=m.clk+(k+1:Nat) /\m.clk<= (stepM (stN m k).1 k).1.clk;omega
theorem MGE.round {work m} (h:MGE work m) (n:Nat) (b:Bool):MGE work (roundM m n b).1:=((h.stN _).pump).fin _ _
theorem round_clk (m:MS) (n:Nat) (b:Bool):(roundM m n b).1.clk<=m.clk+4/\m.clk<= (roundM m n b).1.clk:=by
 have h:=stN_clk m (min n 4);have e:(roundM m n b).1.clk=(stN m (min n 4)).1.clk:=finM_clk _ _ _
 rw [e];omega
theorem MGE.rnds {work m} (h:MGE work m) (n:Nat) (fs:List Bool):∀ i,MGE work (rnds m n fs i)
 |0=>h
 |i+1=>(MGE.rnds h n fs i).round n _
theorem rnds_clk (m:MS) (n:Nat) (fs:List Bool):∀ i,(rnds m n fs i).clk<=m.clk+4*i/\m.clk<= (rnds m n fs i).clk
 |0=>⟨by show m.clk<=m.clk+4*0;omega,Int.le_refl _⟩
 |i+1=>by
  have ih:=rnds_clk m n fs i;have h:=round_clk (rnds m n fs i) n (fbN fs i);show (roundM (rnds m n fs i) n (fbN fs i)).1.clk<=m.clk+4*(i+1:Nat) /\m.clk<= (roundM (rnds m n fs i) n (fbN fs i)).1.clk;omega
theorem lfV_no {m:MS} {k:Nat} (h:m.ws.length<=k):lfV m k=0:=by rw [lfV,List.getElem?_eq_none h]
theorem left_any {work m} (h:MGE work m) (hw:∀ l∈work,l.length<=1000) (k:Nat):HCall Tryz.prog 38 [.ptr 1000000 0 0,.d (.int .i64 k)] (mH m) (mH m) (.int .i64 (lfV m k)):=by
 have hl:∀ w∈m.ws,w.ended<=1000000/\w.todo.length<=1000000:=fun w hw'=>by
  obtain ⟨t,_,_,g⟩:=h.ex;obtain ⟨k,hk,rfl⟩:=List.mem_iff_getElem.1 hw';have h1:=(g.ok.w k _ (List.getElem?_eq_getElem hk)).en
  have h2:m.ws[k].todo∈work:=by rw [<-g.td];exact List.mem_map_of_mem (List.getElem_mem hk)
  have:=hw _ h2;omega
 have hlf:=left_m_ok m k hl;rw [if_pos (by omega),Int.toNat_natCast] at hlf;exact hlf
set_option maxRecDepth 20000 in
set_option maxHeartbeats 16000000 in
theorem left104_ok {work m} (h:MGE work m) (hw:∀ l∈work,l.length<=1000) (n:Nat) (hn:n<=1000000):HCall Tryz.prog 74 [.ptr 1000000 0 0,.d (.int .i64 n)] (mH m) (mH m) (.bool (leftB m n)):=by
 refine hcall_of Tryz.func74 2 rfl (by kernel_rfl) (by rfl) (aP ?_);refine aloop (ι:=Nat) (fun k=>[(0,.ptr 1000000 0 0),(7,.d (.int .i64 (min (n:Int) 4))),(8,.d (.int .i64 k))]) (fun k=>mH m)
  (fun k=>k<=min n 4/\ ∀ j,j<k->¬0<lfV m j) (fun k=>min n 4-k) 0 ⟨Nat.zero_le _,fun j h=>absurd h (by omega)⟩ (le0 (le_of_cov ⟨rfl,rfl,rfl,trivial⟩ ⟨rfl,rfl,rfl,trivial⟩ ⟨rfl,rfl,rfl,rfl⟩)) ?_
 rintro k ⟨hk,hR⟩
 conv=>whnf
 refine bcase_p (fun h5=>?_) (fun h5=>?_)<;>conv=>whnf
 ·refine aP ?_;refine callH_blk (left_any h hw k) nm3 rfl ⟨rfl,rfl,rfl,trivial⟩ rfl (w0 ?_)
  refine bcase_p (fun h6=>?_) (fun h6=>?_)<;>conv=>whnf
  ·rw [leftB_t.2 ⟨k,by omega,h6⟩];refine aP ?_;exact hret_of rfl rfl rfl ⟨rfl,rfl,rfl,trivial⟩
  ·refine aP ?_
   exact ⟨k+1,⟨by omega,fun j hj=>by
    by_cases e:j=k
    ·subst e;exact h6
    ·exact hR j (by omega)⟩,by omega,(le0 (le_of_cov ⟨rfl,rfl,rfl,trivial⟩ ⟨rfl,rfl,rfl,trivial⟩ ⟨rfl,rfl,rfl,rfl⟩))⟩
 ·rw [leftB_f.2 fun j hj=>hR j (by omega)];refine aP ?_;exact hret_of rfl rfl rfl ⟨rfl,rfl,rfl,trivial⟩
set_option maxRecDepth 20000 in
set_option maxHeartbeats 16000000 in
theorem round105_ok {work m} (h:MGE work m) (hw:∀ l∈work,l.length<=1000) (hc:m.clk<=90000) (n:Nat) (hn:n<=1000000) (b:Bool):HCall Tryz.prog 41 [.ptr 1000000 0 0,.d (.int .i64 n),.d (.bool b)] (mH m) (mH (roundM m n b).1) (.bool (roundM m n b).2):=by
 refine hcall_of Tryz.func41 3 rfl (by kernel_rfl) (by rfl) (aP ?_);refine aloop (ι:=Nat) (fun k=>[(0,.ptr 1000000 0 0),(2,.d (.bool b)),(7,.d (.bool (stN m k).2)),(10,.d (.int .i64 (min (n:Int) 4))),(11,.d (.int .i64 k))]) (fun k=>mH (stN m k).1)
  (fun k=>k<=min n 4) (fun k=>min n 4-k) 0 (Nat.zero_le _) (len [.wk 7 (.d (.bool false))] ⟨wk_ff,trivial⟩ (le_of_cov ⟨rfl,rfl,rfl,rfl,rfl,trivial⟩ ⟨rfl,rfl,rfl,trivial⟩ ⟨rfl,rfl,rfl,rfl⟩)) ?_
 intro k hk;have hM:=h.stN k;have hcl:=(stN_clk m k).1;have e1:(stN m (k+1)).1=(stepM (stN m k).1 k).1:=rfl;have e2:(stN m (k+1)).2=((stN m k).2||(stepM (stN m k).1 k).2):=rfl
 conv=>whnf
 refine bcase_p (fun h5=>?_) (fun h5=>?_)<;>conv=>whnf
 ·obtain ⟨t,t0,t1,g⟩:=hM.ex;have hst:=stepM_ok g t1 hw (by omega) k;rw [<-e1] at hst;obtain ⟨r,hr⟩:∃ r,(stepM (stN m k).1 k).2=r:=⟨_,rfl⟩;obtain ⟨r0,hr0⟩:∃ r0,(stN m k).2=r0:=⟨_,rfl⟩;rw [hr] at hst e2;rw [hr0] at e2⊢;refine aP ?_;refine callH_blk hst nm3 rfl ⟨rfl,rfl,rfl,trivial⟩ rfl (w0 ?_)
  refine bcase_intro (fun h6=>?_) (fun h6=>?_)<;>conv=>whnf
  ·rw [h6,Bool.or_true] at e2;refine aP ?_;refine ⟨k+1,by omega,by omega,len [.wk 7 (.d (.bool true))] ⟨wk_tt,trivial⟩ (le_of_cov ⟨rfl,rfl,by rw [e2];rfl,rfl,rfl,trivial⟩ ⟨rfl,rfl,rfl,trivial⟩ ⟨rfl,rfl,rfl,rfl⟩)⟩
  ·rw [h6,Bool.or_false] at e2;refine aP ?_;refine ⟨k+1,by omega,by omega,le0 (le_of_cov ⟨rfl,rfl,by rw [e2];rfl,rfl,rfl,trivial⟩ ⟨rfl,rfl,rfl,trivial⟩ ⟨rfl,rfl,rfl,rfl⟩)⟩
 have hkl:k=min n 4:=by omega
 subst hkl;obtain ⟨t,t0,t1,g⟩:=hM.ex;have hpu:=pumpM_ok (stN m (min n 4)).1 hM.ok.su g.gd.us;have hfi:=finM_ok g.pump (by show (stN m (min n 4)).1.clk<=100000;omega) 0 b;have e3:(roundM m n b).1=(finM (pumpM (stN m (min n 4)).1) 0 b).1:=rfl;have e4:(roundM m n b).2=((stN m (min n 4)).2||(finM (pumpM (stN m (min n 4)).1) 0 b).2):=rfl;rw [<-e3] at hfi;obtain ⟨r,hr⟩:∃ r,(finM (pumpM (stN m (min n 4)).1) 0 b).2=r:=⟨_,rfl⟩;rw [hr] at hfi e4;refine aP ?_;refine callH_blk hpu nm3 rfl ⟨rfl,rfl,rfl,trivial⟩ rfl (aP ?_);refine callH_blk hfi nm3 rfl ⟨rfl,rfl,rfl,trivial⟩ rfl (w0 ?_)
 refine bcase_intro (fun h6=>?_) (fun h6=>?_)<;>conv=>whnf
 ·rw [h6,Bool.or_true] at e4;rw [e4];refine aP ?_;exact hret_of rfl rfl rfl ⟨rfl,rfl,rfl,trivial⟩
 ·rw [h6,Bool.or_false] at e4;rw [e4];refine aP ?_;exact hret_of rfl rfl rfl ⟨rfl,rfl,rfl,trivial⟩
structure RunN (m:MS) (n:Nat) (fs:List Bool) (most N:Nat):Prop where
 le:N<=most
 all:∀ i,i<N->leftB (rnds m n fs i) n=true
 stop:N=most\/leftB (rnds m n fs N) n=false
theorem runN_ex (m:MS) (n:Nat) (fs:List Bool):∀ most,∃ N,RunN m n fs most N
 |0=>⟨0,Nat.le_refl 0,fun i h=>absurd h (Nat.not_lt_zero _),.inl rfl⟩
 |k+1=>by
  obtain ⟨N,h1,h2,h3⟩:=runN_ex m n fs k
  cases e:leftB (rnds m n fs N) n with
  |false=>exact ⟨N,by omega,h2,.inr e⟩
  |true=>
   have hN:N=k:=h3.resolve_right (by rw [e];decide);subst hN;refine ⟨N+1,Nat.le_refl _,fun i hi=>?_,.inl rfl⟩
   by_cases q:i=N
   ·rw [q];exact e
   ·exact h2 i (by omega)
set_option maxRecDepth 20000 in
set_option maxHeartbeats 16000000 in
theorem run47_ok {work m} (h:MGE work m) (hw:∀ l∈work,l.length<=1000) (n:Nat) (hn:n<=1000000) (fs:List Bool) (hfs:fs.length<=1000000) (most:Nat) (hmo:m.clk+4*most<=90000) (N:Nat) (hN:RunN m n fs most N):
  HCall Tryz.prog 29 [.ptr 1000000 0 0,.d (.int .i64 n),.d (.lst (fs.map encBl)),.d (.int .i64 most)] (mH m) (mH (rnds m n fs N)) (.int .i64 N):=by
 have hmf:(fs.map encBl).length=fs.length:=List.length_map ..
 have hNm:=hN.le
 have hc0:0<=m.clk:=by obtain ⟨t,_,_,g⟩:=h.ex;have:=g.ev;omega
 refine hcall_of Tryz.func29 4 rfl (by kernel_rfl) (by rfl) (aP ?_);refine aloop (ι:=Nat) (fun i=>[(0,.ptr 1000000 0 0),(1,.d (.int .i64 n)),(2,.d (.lst (fs.map encBl))),(3,.d (.int .i64 most)),(9,.d (.int .i64 i))]) (fun i=>mH (rnds m n fs i))
  (fun i=>i<=N) (fun i=>N-i) 0 (Nat.zero_le _) (le0 (le_of_cov ⟨rfl,rfl,rfl,rfl,rfl,trivial⟩ ⟨rfl,rfl,rfl,trivial⟩ ⟨rfl,rfl,rfl,rfl⟩)) ?_
 intro i hi;have hM:=h.rnds n fs i;have hcl:=(rnds_clk m n fs i).1;have hall:=hN.all i;have hstop:=hN.stop
 by_cases hiN:i<N
 ·have hL:=left104_ok hM hw n hn;rw [hall hiN] at hL;obtain ⟨M,hM2⟩:∃ M,rnds m n fs i=M:=⟨_,rfl⟩;rw [hM2] at hL hM hcl⊢;have hrd:=round105_ok hM hw (by omega) n hn (fbN fs i)
  conv=>whnf
  refine aP ?_;refine callH_blk hL nm3 rfl ⟨rfl,rfl,rfl,trivial⟩ rfl (aP ?_)
  refine bcase_p (fun h6=>?_) (fun h6=>?_)<;>conv=>whnf
  ·have hpos:0<fs.length:=by omega
   have hlt:i%fs.length<fs.length:=Nat.mod_lt _ hpos
   have hb:fbN fs i=fs[i%fs.length]:=by rw [fbN,if_pos hpos,List.getElem?_eq_getElem hlt,Option.getD_some]
   rw [hb] at hrd
   have hz:(fs.map encBl)[i%fs.length]?=some [.bool fs[i%fs.length]]:=by rw [List.getElem?_map,List.getElem?_eq_getElem hlt];rfl
   have hem:((i:Int)%((fs.map encBl).length:Int))=((i%fs.length:Nat):Int):=by rw [hmf];rfl
   refine aP ?_;refine divK_rem (by omega) (by omega) (aP ?_);rw [hem];refine idxK_nat (by omega) (w0 ?_);refine getRow_of hz (aP ?_);refine callH_blk hrd nm3 rfl ⟨rfl,rfl,rfl,trivial⟩ rfl (aP ?_);refine ⟨i+1,by omega,by omega,?_⟩;rw [show rnds m n fs (i+1)=(roundM M n (fs[i%fs.length])).1 by rw [<-hb,<-hM2];rfl];exact (le0 (le_of_cov ⟨rfl,rfl,rfl,rfl,rfl,trivial⟩ ⟨rfl,rfl,rfl,trivial⟩ ⟨rfl,rfl,rfl,rfl⟩))
  ·have hb:fbN fs i=false:=by rw [fbN,if_neg (by omega)]
   rw [hb] at hrd;replace hrd:=hcall_ff hrd;refine aP ?_;refine callH_blk hrd nm3 rfl ⟨rfl,rfl,rfl,trivial⟩ rfl (aP ?_);refine ⟨i+1,by omega,by omega,?_⟩;rw [show rnds m n fs (i+1)=(roundM M n (false)).1 by rw [<-hb,<-hM2];rfl];exact (le0 (le_of_cov ⟨rfl,rfl,rfl,rfl,rfl,trivial⟩ ⟨rfl,rfl,rfl,trivial⟩ ⟨rfl,rfl,rfl,rfl⟩))
 ·have hiN2:i=N:=by omega
  subst hiN2
  by_cases him:i=most
  ·conv=>whnf
   refine aP ?_;exact hret_of rfl rfl rfl ⟨rfl,rfl,rfl,trivial⟩
  ·have hL:=left104_ok hM hw n hn;rw [hstop.resolve_left him] at hL
   conv=>whnf
   refine aP ?_;refine callH_blk hL nm3 rfl ⟨rfl,rfl,rfl,trivial⟩ rfl (aP ?_);exact hret_of rfl rfl rfl ⟨rfl,rfl,rfl,trivial⟩
def trK (s:SA) (k:Nat):Nat:=match s.out.find? (fun f=>f.who==k) with|some f=>f.tr|none=>1
def ph (s:SA) (k:Nat) (w:WA):Nat:=if w.st=4 then 3+trK s k else if w.st=5 then 7 else if w.st=6 then 8 else w.st
def phi (m:MS) (k:Nat):Nat:=match m.ws[k]? with|none=>0|some w=>9*(w.todo.length-w.ended)-ph m.s k w
def Phi (m:MS):Nat:=phi m 0+phi m 1+phi m 2+phi m 3
theorem phi_at {m:MS} {k:Nat} {w:WA} (h:m.ws[k]?=some w):phi m k=9*(w.todo.length-w.ended)-ph m.s k w:=by rw [phi,h]
theorem phi_no {m:MS} {k:Nat} (h:m.ws.length<=k):phi m k=0:=by rw [phi,List.getElem?_eq_none h]
structure Dec (m m':MS) (d:Bool):Prop where
 le:∀ k,phi m' k<=phi m k
 lt:d=true->∃ k,k<4/\phi m' k<phi m k
theorem Dec.Phi {m m':MS} {d:Bool} (h:Dec m m' d):Phi m'<=Phi m/\ (d=true->Phi m'<Phi m):=by
 have h0:=h.le 0;have h1:=h.le 1;have h2:=h.le 2;have h3:=h.le 3;refine ⟨by unfold Go.Lk.Phi;omega,fun hd=>?_⟩;obtain ⟨k,hk,hl⟩:=h.lt hd
 have:k=0\/k=1\/k=2\/k=3:=by omega
 unfold Go.Lk.Phi
 rcases this with rfl|rfl|rfl|rfl<;>omega
theorem Dec.same {m m':MS} (h:∀ k,phi m' k=phi m k):Dec m m' false:=⟨fun k=>by rw [h k];exact Nat.le_refl _,fun q=>by cases q⟩
theorem Dec.trans {a b c:MS} {d e:Bool} (h1:Dec a b d) (h2:Dec b c e):Dec a c (d||e):=by
 refine ⟨fun k=>Nat.le_trans (h2.le k) (h1.le k),fun h=>?_⟩
 rcases Bool.or_eq_true_iff.1 h with h|h
 ·obtain ⟨k,hk,hl⟩:=h1.lt h;exact ⟨k,hk,Nat.lt_of_le_of_lt (h2.le k) hl⟩
 ·obtain ⟨k,hk,hl⟩:=h2.lt h;exact ⟨k,hk,Nat.lt_of_lt_of_le hl (h1.le k)⟩
theorem ph_le {h lat s k w} (v:WOk h lat s k w) (hs:SU s):ph s k w<=8/\ (w.st=4->4<=ph s k w/\ph s k w<=6):=by
 have h6:=v.st6
 have ht:1<=trK s k/\trK s k<=3:=by
  rw [trK]
  cases e:s.out.find? (fun f=>f.who==k) with
  |none=>exact ⟨Nat.le_refl 1,by decide⟩
  |some f=>
   have:=hs.lt f (List.mem_of_find?_eq_some e);exact ⟨this.2.2.2.1,this.2.2.2.2⟩
 rw [ph]
 repeat' split
 all_goals omega
theorem dec_one {m m':MS} {k:Nat} {w w':WA} (hk:m.ws[k]?=some w) (hws:m'.ws=m.ws.set k w') (hs:∀ j,j≠k->trK m'.s j=trK m.s j) (h4:k<4) (hlt:9*(w'.todo.length-w'.ended)-ph m'.s k w'<9*(w.todo.length-w.ended)-ph m.s k w):Dec m m' true:=by
 have hl:=(List.getElem?_eq_some_iff.1 hk).1
 have hk':m'.ws[k]?=some w':=by rw [hws,List.getElem?_set,if_pos rfl,if_pos hl]
 have hself:phi m' k<phi m k:=by rw [phi_at hk',phi_at hk];exact hlt
 refine ⟨fun j=>?_,fun _=>⟨k,h4,hself⟩⟩
 by_cases e:j=k
 ·rw [e];exact Nat.le_of_lt hself
 ·have e2:m'.ws[j]?=m.ws[j]?:=by rw [hws,List.getElem?_set,if_neg (fun q=>e q.symm)]
  rw [phi,phi,e2]
  cases h:m.ws[j]? with
  |none=>exact Nat.le_refl _
  |some v=>simp only [ph,hs j e];exact Nat.le_refl _
theorem tr_none {s:SA} {k:Nat} (h:∀ p,¬WJ s k p):trK s k=1:=by
 rw [trK]
 cases e:s.out.find? (fun f=>f.who==k) with
 |none=>rfl
 |some f=>
  have h1:f.who=k:=by have:=List.find?_some e;simpa using this
  exact absurd (.inr ⟨f,List.mem_of_find?_eq_some e,h1,rfl⟩) (h f.pg)
theorem dec_step {m:MS} (o:MOk m) (k:Int):Dec m (stepM m k).1 (stepM m k).2:=by
 cases hd:(stepM m k).2 with
 |false=>
  obtain ⟨c,e,_⟩:=stepM_no hd;rw [e]
  exact Dec.same fun j=>rfl
 |true=>
  rw [stepM] at hd⊢
  split at hd
  ·cases hd
  rename_i hk0;rw [if_neg hk0]
  cases hk:m.ws[k.toNat]? with
  |none=>rw [hk] at hd;cases hd
  |some w=>
   rw [hk] at hd;have hl:=(List.getElem?_eq_some_iff.1 hk).1
   have h4:k.toNat<4:=by have:=o.n4;omega
   have v:=o.w _ w hk;have hp:=ph_le v o.su;have hbu:=v.bu;simp only [] at hd⊢;unfold stepW at hd⊢
   split
   ·rename_i hs
    split
    ·rename_i hn;rw [hs] at hd;simp only [if_pos hn] at hd
     cases hd
    ·rename_i hn;refine dec_one hk rfl (fun _ _=>rfl) h4 ?_;simp only [ph,hs]
     simp;omega
   ·rename_i hs;have hb:=hbu (by omega)
    split
    ·rename_i hn;rw [hs] at hd;simp only [if_pos hn] at hd
     cases hd
    split
    ·refine dec_one hk rfl (fun _ _=>rfl) h4 ?_;simp only [ph,hs,tellW]
     simp;omega
    ·refine dec_one hk rfl (fun _ _=>rfl) h4 ?_;simp only [ph,hs]
     simp;omega
   ·rename_i hs;have hb:=hbu (by omega)
    split
    ·rename_i hn;rw [hs] at hd;simp only [if_pos hn] at hd
     cases hd
    ·refine dec_one hk rfl (fun _ _=>rfl) h4 ?_;simp only [ph,hs]
     simp;omega
   ·rename_i hs;have hb:=hbu (by omega)
    split
    ·rename_i hn;rw [hs] at hd;simp only [if_pos hn] at hd
     cases hd
    split
    ·refine dec_one hk rfl (fun _ _=>rfl) h4 ?_
     have ht:trK (askS m.s k.toNat w.op.2.1) k.toNat=1:=tr_none (s:=m.s) (k:=k.toNat) fun p hj=>by have:=(v.job p).1 hj;omega
     simp only [ph,hs];simp only [ht]
     simp;omega
    ·refine dec_one hk rfl (fun _ _=>rfl) h4 ?_;simp only [ph,hs]
     simp;omega
   ·rename_i hs;have hb:=hbu (by omega);refine dec_one hk rfl (fun _ _=>rfl) h4 ?_;simp only [ph,hs,tellW]
    simp;omega
   ·rename_i hs;have hb:=hbu (by omega);refine dec_one hk rfl (fun _ _=>rfl) h4 ?_;simp only [ph,hs]
    simp;omega
   ·rename_i n1 n2 n3 n4 n5 n6;exfalso
    revert hd
    split
    all_goals first|contradiction|(intro h;cases h)
theorem tr_app {s:SA} {k:Nat} {f:Fly} (h1:f.tr=1) (s':SA) (ho:s'.out=s.out++[f]):trK s' k=trK s k:=by
 rw [trK,trK,ho,List.find?_append]
 cases e:s.out.find? (fun f=>f.who==k) with
 |some g=>rfl
 |none=>
  simp only [Option.none_or];rw [List.find?_cons]
  split
  ·rename_i g heq
   split at heq
   ·cases heq;exact h1
   ·cases heq
  ·rfl
theorem tr_pump:∀ (n:Nat) (s:SA) (k:Nat),trK (pumpG n s) k=trK s k
 |0,s,k=>rfl
 |n+1,s,k=>by
  rw [pumpG]
  split
  ·split
   ·rfl
   ·rename_i j hj;rw [tr_pump n];exact tr_app rfl _ rfl
  ·rfl
theorem dec_pump (m:MS):Dec m (pumpM m) false:=Dec.same fun k=>by
 rw [phi,phi];show (match m.ws[k]? with|none=>0|some w=>9*(w.todo.length-w.ended)-ph (pumpS m.s) k w)=_
 cases m.ws[k]? with
 |none=>rfl
 |some w=>simp only [ph,show trK (pumpS m.s) k=trK m.s k from tr_pump 5 m.s k]
theorem tr_cut {s:SA} {i:Nat} {j:Fly} {A B:List Fly} (c:Cut s i j A B) {k:Nat} (hk:k≠j.who) {s':SA} {C:List Fly} (ho:s'.out=(A++B)++C) (hC:∀ f∈C,f.who=j.who):trK s' k=trK s k:=by
 have e0:(j.who==k)=false:=by simpa using fun q=>hk q.symm
 have e1:C.find? (fun f=>f.who==k)=none:=by
  rw [List.find?_eq_none];intro f hf
  rw [hC f hf];simpa using fun q=>hk q.symm
 rw [trK,trK,ho,c.o,List.find?_append,e1,List.find?_append,List.find?_append,List.find?_cons,e0,Option.or_none]
theorem tr_self {s:SA} (h:SU s) {i:Nat} {j:Fly} {A B:List Fly} (c:Cut s i j A B):trK s j.who=j.tr:=by
 have e1:A.find? (fun f=>f.who==j.who)=none:=by
  rw [List.find?_eq_none];intro f hf;have:=c.w f (List.mem_append.2 (.inl hf))
  simpa using this
 rw [trK,c.o,List.find?_append,e1,List.find?_cons];simp
theorem tr_again {s:SA} {i:Nat} {j g:Fly} {A B:List Fly} (c:Cut s i j A B) {s':SA} (ho:s'.out=(A++B)++[g]) (hg:g.who=j.who):trK s' j.who=g.tr:=by
 have e1:(A++B).find? (fun f=>f.who==j.who)=none:=by
  rw [List.find?_eq_none];intro f hf;have:=c.w f hf
  simpa using this
 rw [trK,ho,List.find?_append,e1,List.find?_cons];simp [hg]
theorem dec_fin {m:MS} (o:MOk m) (i:Int) (b:Bool):Dec m (finM m i b).1 (finM m i b).2:=by
 rw [finM]
 split
 ·exact Dec.same fun j=>rfl
 ·rename_i hi;obtain ⟨j,hj⟩:∃ j,m.s.out[i.toNat]?=some j:=⟨_,List.getElem?_eq_getElem (by omega)⟩;obtain ⟨A,B,c⟩:=cut_ok o.su hj;have hjo:=(c.mem j).2 (.inl rfl);have hwj:WJ m.s j.who j.pg:=.inr ⟨j,hjo,rfl,rfl⟩
  have hlt:j.who<m.ws.length:=by have:=(o.su.lt j hjo).2.1;rw [o.sj] at this;exact this
  obtain ⟨w,hk⟩:∃ w,m.ws[j.who]?=some w:=⟨_,List.getElem?_eq_getElem hlt⟩;have v:=o.w _ w hk;have h4:=((v.job _).1 hwj).1;have hb:=v.bu (by omega);have htr:=(o.su.lt j hjo).2.2.2;have ht:=tr_self o.su c
  have h4':j.who<4:=by have:=o.n4;omega
  rw [doneS,hj];simp only [];rw [c.e]
  split
  ·rename_i s hd
   split at hd
   ·rename_i hc
    cases hd
    refine dec_one (w:=w) (w':=w) hk ?_ (fun q hq=>tr_cut c hq rfl fun f hf=>by rw [List.mem_singleton.1 hf]) h4' ?_
    ·show m.ws=m.ws.set j.who w;obtain ⟨hx,hy⟩:=List.getElem?_eq_some_iff.1 hk
     rw [<-hy];exact (List.set_getElem_self hx).symm
    ·have ht2:trK {m.s with next:=m.s.next+1,out:=(A++B)++[⟨m.s.next,j.who,j.pg,j.tr+1⟩]} j.who=j.tr+1:=tr_again (g:=⟨m.s.next,j.who,j.pg,j.tr+1⟩) c rfl rfl;simp only [ph,h4,if_pos,ht,ht2];omega
   ·cases hd
  ·rename_i s k bad hd
   split at hd
   ·cases hd
   ·cases hd
    rw [hk];simp only [];rw [if_neg (fun q=>q h4)]
    have hw:∀ bd:Bool,(toldW m w bd).todo=w.todo/\ (toldW m w bd).ended=w.ended/\ ((toldW m w bd).st=5\/ (toldW m w bd).st=6):=fun bd=>by
     unfold toldW;split
     ·exact ⟨rfl,rfl,.inr rfl⟩
     ·exact ⟨rfl,rfl,.inl rfl⟩
    refine dec_one (w:=w) (w':=toldW m w _) hk rfl (fun q hq=>tr_cut (C:=[]) c hq (by rw [List.append_nil]) (fun f hf=>by cases hf)) h4' ?_;rw [(hw _).1,(hw _).2.1]
    have e1:ph m.s j.who w=3+j.tr:=by rw [ph,if_pos h4,ht]
    rw [e1]
    have e2:∀ s bd,7<=ph s j.who (toldW m w bd) /\ph s j.who (toldW m w bd) <=8:=fun s bd=>by
     rw [ph]
     rcases (hw bd).2.2 with e|e<;>rw [e]<;>simp
    show 9*(w.todo.length-w.ended)-ph {m.s with out:=A++B} j.who (toldW m w b)<_;have q1:=(e2 {m.s with out:=A++B} b).1;have q2:=(e2 {m.s with out:=A++B} b).2;generalize ph {m.s with out:=A++B} j.who (toldW m w b)=x at q1 q2⊢;omega
theorem dec_stN {work m} (h:MGE work m):∀ k,Dec m (stN m k).1 (stN m k).2
 |0=>Dec.same fun _=>rfl
 |k+1=>(dec_stN h k).trans (dec_step (h.stN k).ok k)
theorem dec_round {work m} (h:MGE work m) (n:Nat) (b:Bool):Dec m (roundM m n b).1 (roundM m n b).2:=by
 have h1:=dec_stN h (min n 4);have h2:=dec_pump (stN m (min n 4)).1;have h3:=dec_fin ((h.stN (min n 4)).pump).ok 0 b;have:=(h1.trans h2).trans h3;rw [Bool.or_false] at this;exact this
theorem stN_no {m:MS}:∀ {k:Nat},(stN m k).2=false->(∃ c,(stN m k).1={m with clk:=c}) /\ ∀ j,j<k->(stepM m j).2=false
 |0,_=>⟨⟨m.clk,rfl⟩,fun j hj=>absurd hj (Nat.not_lt_zero _)⟩
 |k+1,h=>by
  have h:((stN m k).2||(stepM (stN m k).1 k).2)=false:=h;rw [Bool.or_eq_false_iff] at h;obtain ⟨⟨c,e⟩,hj⟩:=stN_no h.1;have h2:=h.2;obtain ⟨c',e',_⟩:=stepM_no h2;rw [e] at h2 e';refine ⟨⟨c',?_⟩,fun j hjk=>?_⟩
  ·show (stepM (stN m k).1 k).1=_;rw [e,e']
  ·by_cases q:j=k
   ·rw [q,<-stepM_2 m c];exact h2
   ·exact hj j (by omega)
theorem round_2 (m:MS) (n:Nat) (b:Bool):(roundM m n b).2=((stN m (min n 4)).2||(finM (pumpM (stN m (min n 4)).1) 0 b).2):=rfl
theorem round_does {work m} (h:MGE work m) {n:Nat} (hn:m.ws.length<=n) (b:Bool) (hx:m.s.next+4<2147483647):(roundM m n b).2=true↔∃ k,k<m.ws.length/\0<lfV m k:=by
 have o:=h.ok;have n4:=o.n4;rw [<-goes o,round_2]
 constructor
 ·intro hd
  cases hs:(stN m (min n 4)).2 with
  |true=>
   refine Classical.byContradiction fun hz=>?_
   have key:∀ k,k<=min n 4->(stN m k).2=false:=fun k=>by
    induction k with
    |zero=>exact fun _=>rfl
    |succ k ih=>
     intro hk;have i1:=ih (by omega);obtain ⟨⟨c,e⟩,_⟩:=stN_no i1;show ((stN m k).2||(stepM (stN m k).1 k).2)=false;rw [i1,e,Bool.false_or,stepM_2]
     cases q:(stepM m k).2 with
     |false=>rfl
     |true=>
      by_cases hkl:k<m.ws.length
      ·exact absurd ⟨k,hkl,.inl q⟩ hz
      ·rw [stepM,if_neg (by omega),Int.toNat_natCast,List.getElem?_eq_none (by omega)] at q;cases q
   rw [key _ (Nat.le_refl _)] at hs;cases hs
  |false=>
   rw [hs,Bool.false_or] at hd;obtain ⟨⟨c,e⟩,_⟩:=stN_no hs;rw [e] at hd;rw [finM] at hd
   split at hd
   ·cases hd
   ·rename_i hi;have hp:=pumpG_ok 5 o.su
    have hlen:0<(pumpS m.s).out.length:=by
     have hi2:¬((0:Int)<0\/ ((pumpS m.s).out.length:Int) <=0):=hi;omega
    obtain ⟨f,hf⟩:=List.exists_mem_of_length_pos hlen;have hwj:WJ (pumpS m.s) f.who f.pg:=.inr ⟨f,hf,rfl,rfl⟩;have hwj2:=(hp.wj _ _).1 hwj
    have hwho:f.who<m.ws.length:=by
     have:=(hp.su.lt f hf).2.1
     rw [hp.len,o.sj] at this;exact this
    have:=((o.w _ _ (List.getElem?_eq_getElem hwho)).job _).1 hwj2;exact ⟨f.who,hwho,.inr (by rw [stV_at (List.getElem?_eq_getElem hwho),this.1];rfl)⟩
 ·rintro ⟨k,hk,hg⟩
  cases hs:(stN m (min n 4)).2 with
  |true=>rfl
  |false=>
   rw [Bool.false_or];obtain ⟨⟨c,e⟩,hj⟩:=stN_no hs
   rcases hg with hg|hg
   ·rw [hj k (by omega)] at hg;cases hg
   ·rw [e]
    have hw:∃ w,m.ws[k]?=some w/\w.st=4:=by
     rw [stV] at hg
     cases q:m.ws[k]? with
     |none=>rw [q] at hg;exact absurd (show (0:Int)=4 from hg) (by decide)
     |some w=>rw [q] at hg;exact ⟨w,rfl,by have hg:(w.st:Int)=4:=hg;omega⟩
    obtain ⟨w,hw1,hw2⟩:=hw;have hwj:WJ m.s k w.op.2.1:=((o.w k w hw1).job _).2 ⟨hw2,rfl⟩;have hp:=pumpG_ok 5 o.su;have hwj2:WJ (pumpS m.s) k w.op.2.1:=(hp.wj _ _).2 hwj;have hall:=pumpS_all o.su hx k (by rw [o.sj];exact hk)
    rcases hwj2 with hq|⟨f,hf,_⟩
    ·rw [hall] at hq;cases hq
    ·have hlen:0<(pumpS m.s).out.length:=List.length_pos_of_mem hf
     rw [finM,if_neg (by
      show ¬((0:Int)<0\/ ((pumpS m.s).out.length:Int) <=0)
      omega)]
     split
     ·rfl
     ·split
      ·rfl
      ·split<;>rfl
theorem phi_pos {m:MS} (o:MOk m) (k:Nat):0<phi m k↔0<lfV m k:=by
 rw [phi,lfV]
 cases h:m.ws[k]? with
 |none=>exact ⟨fun q=>absurd q (Nat.lt_irrefl _),fun q=>absurd (show (0:Int)<0 from q) (by decide)⟩
 |some w=>
  have v:=o.w k w h;have hp:=(ph_le v o.su).1;have he:=v.en;show 0<9*(w.todo.length-w.ended)-ph m.s k w↔0<(w.todo.length:Int)-w.ended
  by_cases hs:w.st=0
  ·have:ph m.s k w=0:=by simp [ph,hs]
   omega
  ·have:=v.bu hs;omega
theorem Phi_pos {m:MS} (o:MOk m):0<Phi m↔∃ k,k<m.ws.length/\0<lfV m k:=by
 constructor
 ·intro h;unfold Phi at h
  have:0<phi m 0\/0<phi m 1\/0<phi m 2\/0<phi m 3:=by omega
  have key:∀ k,0<phi m k->∃ k,k<m.ws.length/\0<lfV m k:=fun k hk=>by
   refine ⟨k,?_,(phi_pos o k).1 hk⟩
   refine Classical.byContradiction fun hn=>?_
   rw [phi_no (by omega)] at hk;exact absurd hk (Nat.lt_irrefl _)
  rcases this with h|h|h|h
  ·exact key _ h
  ·exact key _ h
  ·exact key _ h
  ·exact key _ h
 ·rintro ⟨k,hk,h⟩;have h1:=(phi_pos o k).2 h;have:=o.n4
  have:k=0\/k=1\/k=2\/k=3:=by omega
  unfold Phi
  rcases this with rfl|rfl|rfl|rfl<;>omega
theorem nx_step (m:MS) (k:Int):(stepM m k).1.s.next=m.s.next:=by
 rw [stepM];repeat' split
 ·rfl
 ·rfl
 ·unfold stepW;repeat' split
  all_goals rfl
theorem nx_stN (m:MS):∀ k,(stN m k).1.s.next=m.s.next
 |0=>rfl
 |k+1=>(nx_step _ _).trans (nx_stN m k)
theorem nx_pump {m:MS} (o:MOk m):(pumpM m).s.next<=m.s.next+4:=by
 have h:=pumpG_ok 5 o.su;have:=h.nx;have:=h.su.fl;show (pumpG 5 m.s).next<=_;omega
theorem nx_fin (m:MS) (i:Int) (b:Bool):(finM m i b).1.s.next<=m.s.next+1:=by
 have key:∀ n,(doneS m.s n b).1.next<=m.s.next+1:=fun n=>by
  rw [doneS]
  split
  ·show m.s.next<=_;omega
  ·split
   ·show m.s.next+1<=_;omega
   ·show m.s.next<=_;omega
 have hk:=key i.toNat;rw [finM]
 split
 ·show m.s.next<=_;omega
 split
 ·rename_i s e;rw [e] at hk;exact hk
 ·rename_i s k bad e;rw [e] at hk
  split
  ·exact hk
  ·split<;>exact hk
theorem nx_round {work m} (h:MGE work m) (n:Nat) (b:Bool):(roundM m n b).1.s.next<=m.s.next+5:=by
 have h1:=nx_stN m (min n 4);have h2:=nx_pump (h.stN (min n 4)).ok;have h3:=nx_fin (pumpM (stN m (min n 4)).1) 0 b;show (finM (pumpM (stN m (min n 4)).1) 0 b).1.s.next<=_;omega
theorem nx_rnds {work m} (h:MGE work m) (n:Nat) (fs:List Bool):∀ i,(rnds m n fs i).s.next<=m.s.next+5*i
 |0=>by show m.s.next<=_;omega
 |i+1=>by
  have h1:=nx_rnds h n fs i;have h2:=nx_round (h.rnds n fs i) n (fbN fs i);show (roundM (rnds m n fs i) n (fbN fs i)).1.s.next<=_;omega
theorem ws_len {work m} (h:MGE work m):m.ws.length=work.length:=by
 obtain ⟨t,_,_,g⟩:=h.ex;rw [<-g.td,List.length_map]
theorem Phi_rnds {work m} (h:MGE work m) {n:Nat} (hn:work.length<=n) (fs:List Bool):∀ i,m.s.next+5*i<=2147483600->Phi (rnds m n fs i) <=Phi m-i
 |0,_=>by show Phi m<=_;omega
 |i+1,hb=>by
  have ih:=Phi_rnds h hn fs i (by omega);have hM:=h.rnds n fs i;have hx:=nx_rnds h n fs i;have hl:=ws_len hM;have hD:=(dec_round hM n (fbN fs i)).Phi;have hr:=round_does hM (n:=n) (by omega) (fbN fs i) (by omega);rw [<-Phi_pos hM.ok] at hr;show Phi (roundM (rnds m n fs i) n (fbN fs i)).1<=_
  by_cases hz:0<Phi (rnds m n fs i)
  ·have:=hD.2 (hr.2 hz);omega
  ·omega
theorem Phi_new {n:Nat} {pages:List Pg} {work:List (List MOp)} (k:Nat):phi (begM n pages work) k=9*((work[k]?).getD []).length:=by
 rw [phi];show (match (work.map newWA)[k]? with|none=>0|some w=>9*(w.todo.length-w.ended)-ph (begM n pages work).s k w)=_;rw [List.getElem?_map]
 cases h:work[k]? with
 |none=>rfl
 |some l=>rfl
theorem rnds_end {work m} (h:MGE work m) {n:Nat} (hn:work.length<=n) (fs:List Bool) {i:Nat} (hi:Phi m<=i) (hb:m.s.next+5*i<=2147483600) (k:Nat):lfV (rnds m n fs i) k=0:=by
 have h1:=Phi_rnds h hn fs i hb;have hM:=h.rnds n fs i
 have h2:¬0<Phi (rnds m n fs i):=by omega
 rw [Phi_pos hM.ok] at h2
 by_cases hk:k<(rnds m n fs i).ws.length
 ·have h3:¬0<lfV (rnds m n fs i) k:=fun q=>h2 ⟨k,hk,q⟩
  have:=(hM.ok.w k _ (List.getElem?_eq_getElem hk)).en;rw [lfV_at (List.getElem?_eq_getElem hk)] at h3⊢;omega
 ·exact lfV_no (by omega)
theorem HI.pump {P0 n work m} (h:HI P0 n work m):HI P0 n work (pumpM m):=by
 have t:Tr m (pumpM m):=.same m.h m.lat _ m.clk (.inl rfl);exact ⟨h.g.pump,h.pg.tr t,h.tg.tr t,h.og.tr t⟩
theorem HI.fin {P0 n work m} (h:HI P0 n work m) (i:Int) (b:Bool):HI P0 n work (finM m i b).1:=by
 have t:=tr_fin h.g.ok i b;exact ⟨h.g.fin i b,h.pg.tr t,h.tg.tr t,h.og.tr t⟩
theorem HI.stN {P0 n work m} (h:HI P0 n work m):∀ k,HI P0 n work (stN m k).1
 |0=>h
 |k+1=>(HI.stN h k).step k
theorem HI.round {P0 n work m} (h:HI P0 n work m) (q:Nat) (b:Bool):HI P0 n work (roundM m q b).1:=((h.stN _).pump).fin _ _
theorem HI.rnds {P0 n work m} (h:HI P0 n work m) (q:Nat) (fs:List Bool):∀ i,HI P0 n work (rnds m q fs i)
 |0=>h
 |i+1=>(HI.rnds h q fs i).round q _
theorem left_end {work m} (h:MGE work m) (fs:List Bool) {i:Nat} (hi:Phi m<=i) (hb:m.s.next+5*i<=2147483600):leftB (rnds m work.length fs i) work.length=false:=
 leftB_f.2 fun k hk=>by rw [rnds_end h (Nat.le_refl _) fs hi hb k];decide
theorem RunN.le_phi {work m} (h:MGE work m) {fs:List Bool} {most N:Nat} (r:RunN m work.length fs most N) (hb:m.s.next+5*Phi m<=2147483600):N<=Phi m:=by
 refine Classical.byContradiction fun hn=>?_
 have:=r.all (Phi m) (by omega);rw [left_end h fs (Nat.le_refl _) hb] at this
 cases this
theorem RunN.stops {work m} (h:MGE work m) {fs:List Bool} {most N:Nat} (r:RunN m work.length fs most N) (hm:Phi m<=most) (hb:m.s.next+5*Phi m<=2147483600):leftB (rnds m work.length fs N) work.length=false:=by
 rcases r.stop with e|e
 ·have:=r.le_phi h hb;rw [show N=Phi m by omega];exact left_end h fs (Nat.le_refl _) hb
 ·exact e
def sumL (work:List (List MOp)):Nat:=(work.map List.length).sum
theorem Phi_sum (n:Nat) (pages:List Pg) (work:List (List MOp)) (h4:work.length<=4):Phi (begM n pages work)=9*sumL work:=by
 rw [Phi,Phi_new,Phi_new,Phi_new,Phi_new,sumL]
 match work,h4 with
 | [],_=>rfl
 | [a],_=>simp
 | [a,b],_=>simp;omega
 | [a,b,c],_=>simp;omega
 | [a,b,c,d],_=>simp;omega
theorem pump_idle {s:SA} (h:∀ j∈s.jobs,j=none):pumpS s=s:=by
 have e:nextL s=none:=lane_none h _ _;rw [pumpS,pumpG]
 split
 ·rw [e]
 ·rfl
theorem fin_idle {m:MS} (h:m.s.out=[]) (i:Int) (b:Bool):finM m i b=(m,false):=by
 rw [finM,if_pos]
 rw [h];simp;omega
theorem quiet_of {work m} (h:MGE work m) (hl:∀ k,lfV m k=0):∀ k,k<4->stV m k≠6:=fun k hk=>by
 rw [stV]
 cases e:m.ws[k]? with
 |none=>decide
 |some w=>
  have hb:=(h.ok.w k w e).bu;have:=hl k;rw [lfV,e] at this;intro hs
  have hs:w.st=6:=by
   have hs:(w.st:Int)=6:=hs;omega
  have:=hb (by omega)
  simp only [] at*
  omega
theorem left_zero {work m} (h:MGE work m) (hl:leftB m work.length=false):∀ k,lfV m k=0:=fun k=>by
 have n4:=h.ok.n4;have hwl:=ws_len h
 by_cases hk:k<work.length
 ·have h1:=leftB_f.1 hl k (by omega);have hw:m.ws[k]?=some (m.ws[k]'(by omega)):=List.getElem?_eq_getElem (by omega);have hen:=(h.ok.w k _ hw).en;rw [lfV,hw] at h1⊢;simp only [] at h1⊢;omega
 ·exact lfV_no (by omega)
theorem st_zero {work m} (h:MGE work m) (hl:∀ k,lfV m k=0):∀ (k:Nat) (w:WA),m.ws[k]?=some w->w.st=0/\w.ended=w.todo.length:=fun k w hw=>by
 have v:=h.ok.w k w hw;have h1:=hl k;rw [lfV,hw] at h1;simp only [] at h1;refine ⟨Classical.byContradiction fun hs=>?_,by omega⟩;have:=v.bu hs;omega
theorem stV_zero {work m} (h:MGE work m) (hl:∀ k,lfV m k=0) (k:Nat):stV m k=0:=by
 rw [stV]
 cases e:m.ws[k]? with
 |none=>rfl
 |some w=>have:=(st_zero h hl k w e).1;simp [this]
theorem out_zero {work m} (h:MGE work m) (hl:∀ k,lfV m k=0):m.s.out=[]:=by
 have o:=h.ok
 refine List.eq_nil_iff_forall_not_mem.2 fun f hf=>?_
 have hlt:=(o.su.lt f hf).2.1;rw [o.sj] at hlt;have hw:=List.getElem?_eq_getElem hlt;have:=((o.w _ _ hw).job f.pg).1 (.inr ⟨f,hf,rfl,rfl⟩);have:=(st_zero h hl _ _ hw).1;omega
theorem hall_zero {work m} (h:MGE work m) (hl:∀ k,lfV m k=0):m.h.cl=[] /\m.h.q=[]:=by
 have o:=h.ok
 have:m.h.all=[]:=by
  refine List.eq_nil_iff_forall_not_mem.2 fun k hk=>?_
  have hw:=List.getElem?_eq_getElem (o.hw k hk);exact ((o.w _ _ hw).hal.1 hk) (st_zero h hl _ _ hw).1
 rw [HA.all,List.append_eq_nil_iff,List.map_eq_nil_iff] at this;exact this
theorem ops_sum:∀ {l:List EvA},(∀ e∈l,e.who<4)->l.length=(opsK l 0).length+(opsK l 1).length+(opsK l 2).length+(opsK l 3).length
 | [],_=>rfl
 |e::l,h=>by
  have ih:=ops_sum (l:=l) fun e he=>h e (.tail _ he)
  have he:=h e (.head _)
  have key:∀ k,(opsK (e::l) k).length=(if e.who=k then 1 else 0)+(opsK l k).length:=fun k=>by
   have:=opsK_app [e] l k;rw [List.singleton_append] at this;rw [this,List.length_append]
   congr 1
   rw [opsK,List.filter_cons]
   by_cases g:e.who=k
   ·rw [if_pos (by simpa using g),if_pos g];rfl
   ·rw [if_neg (by simpa using g),if_neg g];rfl
  rw [key,key,key,key,List.length_cons,ih]
  have:e.who=0\/e.who=1\/e.who=2\/e.who=3:=by omega
  rcases this with g|g|g|g<;>rw [g]<;>simp<;>omega
theorem ev_all {P0 n work m} (h:HI P0 n work m) (hl:∀ k,lfV m k=0):m.ev.length=sumL work:=by
 have n4:=h.tg.n4;have hwl:=h.wl;rw [ops_sum (fun e he=>(h.tg.ev e he).1)]
 have key:∀ k,(opsK m.ev k).length=((work[k]?).getD []).length:=fun k=>by
  by_cases hk:k<work.length
  ·have hw:m.ws[k]?=some (m.ws[k]'(by omega)):=List.getElem?_eq_getElem (by omega)
   rw [h.pg.ops k _ hw,(st_zero h.g hl k _ hw).2,List.take_length,h.todo hw hk,List.getElem?_eq_getElem hk];rfl
  ·rw [List.getElem?_eq_none (by omega)];refine (List.length_eq_zero_iff (l:=opsK m.ev k)).2 ?_;rw [opsK,List.map_eq_nil_iff,List.filter_eq_nil_iff];intro e he;have:=h.pg.who e he
   simp;omega
 rw [key,key,key,key,sumL]
 match work,(show work.length<=4 by omega) with
 | [],_=>rfl
 | [a],_=>simp
 | [a,b],_=>simp
 | [a,b,c],_=>simp;omega
 | [a,b,c,d],_=>simp;omega
theorem sum_succ {work:List (List MOp)} {k:Nat} (hk:k<work.length):sumL (work.take (k+1))=sumL (work.take k)+work[k].length:=by
 rw [sumL,take_snoc hk,List.map_append,List.sum_append];simp [sumL]
theorem sum_bd {B:Nat}:∀ {work:List (List MOp)},(∀ l∈work,l.length<=B)->sumL work<=B*work.length
 | [],_=>Nat.zero_le _
 |x::r,h=>by
  have h1:=h x (.head _)
  have h2:=sum_bd (work:=r) fun l hl=>h l (.tail _ hl)
  have e:sumL (x::r)=x.length+sumL r:=by simp [sumL]
  rw [e,List.length_cons,Nat.mul_add];omega
theorem sum_tk {B k:Nat} {work:List (List MOp)} (h:∀ l∈work,l.length<=B):sumL (work.take k) <=B*k:=by
 have h1:=sum_bd (work:=work.take k) fun l hl=>h l (List.mem_of_mem_take hl)
 have h2:(work.take k).length<=k:=by rw [List.length_take];omega
 exact Nat.le_trans h1 (Nat.mul_le_mul_left _ h2)
def bdN (work:List (List MOp)):Int:=((10*sumL work+1:Nat):Int)
set_option maxHeartbeats 4000000 in
theorem bound30_ok (work:List (List MOp)) (h40:work.length<=40) (h100:∀ l∈work,l.length<=100):ACall Tryz.prog 30 [.lst (work.map encTd)] (.int .i64 (bdN work)):=by
 have hm:(work.map encTd).length=work.length:=List.length_map ..
 refine acall_of Tryz.func30 1 rfl (by kernel_rfl) (aP ?_);refine aloop (ι:=Nat) (fun k=>[(3,.d (.int .i64 (sumL (work.take k)))),(6,.d (.lst (work.map encTd))),(7,.d (.int .i64 (work.map encTd).length)),(8,.d (.int .i64 k))]) (fun _=>[])
  (fun k=>k<=work.length) (fun k=>work.length-k) 0 (Nat.zero_le _) (le0 (le_of_cov ⟨rfl,rfl,rfl,rfl,trivial⟩ trivial ⟨rfl,rfl,rfl,rfl⟩)) ?_
 intro k hk;have hb:=sum_tk (k:=k) h100
 conv=>whnf
 refine bcase_p (fun h5=>?_) (fun h5=>?_)<;>conv=>whnf
 ·have hk2:k<work.length:=by omega
  have hml:(work[k].map encMO).length=work[k].length:=List.length_map ..
  have h1:=h100 _ (List.getElem_mem hk2);have es:=sum_succ hk2;refine idxK_nat (by omega) (w0 ?_);refine getRow_of (x:=encTd work[k]) (by simp [hk2]) (aW ?_);refine aP ?_;rw [show ((sumL (work.take k):Nat):Int)+(((work[k].map encMO).length:Nat):Int)=((sumL (work.take (k+1)):Nat):Int) by omega];exact ⟨k+1,by omega,by omega,(le0 (le_of_cov ⟨rfl,rfl,rfl,rfl,trivial⟩ trivial ⟨rfl,rfl,rfl,rfl⟩))⟩
 ·have hkl:k=work.length:=by omega
  subst hkl;rw [List.take_length] at hb⊢;refine aP ?_;exact ret_of rfl (by rw [bdN];congr 2)
theorem rnd_mA {m m':MS} {p w h l c ev} (hs:(stepM m 0).1=m') (e:m'=mA p w h l c ev):(roundM m 1 false).1=m':=by
 have e1:(stN m (min 1 4)).1=m':=hs
 have e2:pumpM m'=m':=by
  have e3:pumpS m'.s=m'.s:=pump_idle (by rw [e];intro j hj;simpa [mA] using hj);rw [pumpM,e3]
 rw [roundM,e1,e2,fin_idle (by rw [e];rfl)]
noncomputable def avk:Nat->MS:=rnds (newMS (p0 1) 1 wkA) 1 []
theorem avk_s {i:Nat} {m':MS} {p w h l c ev} (hs:(stepM (avk i) 0).1=m') (e:m'=mA p w h l c ev):avk (i+1)=m':=rnd_mA hs e
theorem avk0:avk 0=mA (p0 1) (newWA [oA]) ⟨1,[],[]⟩ noLA 0 []:=aw0 _
theorem avk1:avk 1=mA (p0 1) ⟨[oA],0,1,false,false,0,0,(0,zP)⟩ ⟨1,[(0,false)],[]⟩ noLA 1 []:=avk_s (by rw [avk0,aw1]) rfl
theorem avk2:avk 2=mA (p0 1) ⟨[oA],0,2,true,false,0,0,(0,zP)⟩ ⟨1,[(0,false)],[]⟩ ⟨[0],true,[]⟩ 2 []:=avk_s (by rw [avk1,aw2]) rfl
theorem avk3:avk 3=mA (p0 1) ⟨[oA],0,3,true,false,0,0,(0,zP)⟩ ⟨1,[(0,false)],[]⟩ ⟨[0],true,[]⟩ 3 []:=avk_s (by rw [avk2,aw3]) rfl
theorem avk4:avk 4=mA (p0 1) ⟨[oA],0,5,true,true,0,0,(0,zP)⟩ ⟨1,[(0,true)],[]⟩ ⟨[0],true,[]⟩ 4 []:=avk_s (by rw [avk3,aw4]) rfl
theorem avk5:avk 5=mA (workP (p0 1) oA).1 ⟨[oA],0,6,true,true,0,4,(workP (p0 1) oA).2⟩ ⟨1,[(0,true)],[]⟩ ⟨[0],true,[]⟩ 5 []:=avk_s (by rw [avk4,aw5]) rfl
theorem avk6:avk 6=mA (workP (p0 1) oA).1 ⟨[oA],1,0,false,false,0,0,(0,zP)⟩ ⟨1,[],[]⟩ noLA 6 [⟨0,oA,(workP (p0 1) oA).2,0,4,5⟩]:=avk_s (by rw [avk5,aw6]) rfl
theorem lfA {m:MS} {p h l c ev} {w:WA} (e:m=mA p w h l c ev) (hw:0<(w.todo.length:Int)-w.ended):leftB m 1=true:=leftB_t.2 ⟨0,by decide,by rw [e];exact hw⟩
theorem avk_run:RunN (newMS (p0 1) 1 wkA) 1 [] 50 6:=by
 refine ⟨by decide,fun i hi=>?_,.inr ?_⟩
 ·show leftB (avk i) 1=true
  match i,hi with
  |0,_=>exact lfA avk0 (by decide)
  |1,_=>exact lfA avk1 (by decide)
  |2,_=>exact lfA avk2 (by decide)
  |3,_=>exact lfA avk3 (by decide)
  |4,_=>exact lfA avk4 (by decide)
  |5,_=>exact lfA avk5 (by decide)
  |i+6,h=>exact absurd h (by omega)
 ·show leftB (avk 6) 1=false
  refine leftB_f.2 fun k hk=>?_
  have:k=0:=by omega
  subst this;rw [avk6];exact (by decide:¬0<(0:Int))
theorem avk_no:(roundM (avk 6) 1 false).2=false:=by
 rw [roundM,avk6]
 have e1:stN (mA (workP (p0 1) oA).1 ⟨[oA],1,0,false,false,0,0,(0,zP)⟩ ⟨1,[],[]⟩ noLA 6 [⟨0,oA,(workP (p0 1) oA).2,0,4,5⟩]) (min 1 4)=(mA (workP (p0 1) oA).1 ⟨[oA],1,0,false,false,0,0,(0,zP)⟩ ⟨1,[],[]⟩ noLA 7 [⟨0,oA,(workP (p0 1) oA).2,0,4,5⟩],false):=by
  show ((stepM (mA _ _ _ _ _ _) ((0:Nat):Int)).1,(false||(stepM (mA _ _ _ _ _ _) ((0:Nat):Int)).2))=_
  rw [show ((0:Nat):Int)=0 from rfl,aw7];rfl
 rw [e1,pumpM,pump_idle (by intro j hj;simpa [mA] using hj),fin_idle rfl];rfl
def nm20:List (Nat×Nat):=[(1000000,2000136),(1000001,2000137),(1000004,2000138)]
set_option maxRecDepth 20000 in
set_option maxHeartbeats 16000000 in
theorem awake20_ok:ACall Tryz.prog 39 [] (.bool true):=by
 have hop:openM newDS 1=(p0 1,0):=open_rest new_rest z_new (by decide) (by decide);have hNew:=machNew_ok newDS 1 wkA (p0 1) hop new_rest.us (Nat.le_refl 1) (by decide) wkA_60;have hg:MGE wkA (newMS (p0 1) 1 wkA):=⟨0,Int.le_refl 0,by decide,awk_mg 0⟩
 have hW:∀ l∈wkA,l.length<=1000:=fun l h=>by have:=wkA_60 l h;omega
 have hrun:=run47_ok hg hW 1 (by decide) [] (by decide) 50 (by decide) 6 avk_run;have hg6:MGE wkA (avk 6):=hg.rnds 1 [] 6
 have hc6:(avk 6).clk=6:=by rw [avk6];rfl
 rw [show rnds (newMS (p0 1) 1 wkA) 1 [] 6=avk 6 from rfl] at hrun;have hrd:=hcall_ff (round105_ok hg6 hW (by omega) 1 (by decide) false);rw [avk_no] at hrd;have hh:=history_ok (avk 6) (by rw [avk6];exact (by decide:1<=1000000))
 have hev:((avk 6).ev.map encEvA).length=1:=by rw [avk6];rfl
 have hbd:=bound30_ok wkA (by decide) (fun l h=>by have:=wkA_60 l h;omega);rw [show bdN wkA=11 from rfl] at hbd;refine acall_of Tryz.func39 0 rfl (by kernel_rfl) (aP ?_);refine callX_pure dnew_ok (aW ?_);refine aP ?_;refine callX_ptr hNew (Nat.le_of_ble_eq_true rfl) (aP ?_);refine callH_blk (hcall_nil hrun) nm20 rfl ⟨rfl,rfl,rfl,trivial⟩ rfl (aP ?_);refine callH_blk hh nm20 rfl ⟨rfl,rfl,rfl,trivial⟩ rfl (w0 ?_);rw [hev];refine aP ?_;refine callX_pure hbd (aP ?_);refine callH_blk hrd nm20 rfl ⟨rfl,rfl,rfl,trivial⟩ rfl (aP ?_)
 first|exact ret_of rfl rfl|exact rfl
def nm11R:List (Nat×Nat):=[(1000000,2000216),(1000001,2000217),(1000004,2000218)]
structure Ended (R:MS) (work:List (List MOp)):Prop where
 lf:∀ i:Nat,HCall Tryz.prog 38 [.ptr 1000000 0 0,.d (.int .i64 i)] (mH R) (mH R) (.int .i64 0)
 st:∀ i:Nat,HCall Tryz.prog 35 [.ptr 1000000 0 0,.d (.int .i64 i)] (mH R) (mH R) (.int .i64 0)
 ha:∃ k:Nat,HCall Tryz.prog 42 [.ptr 1000000 0 0] (mH R) (mH R) (.agg [.int .i64 k,.int .i64 1,.lst [],.lst []])
 fl:HCall Tryz.prog 43 [.ptr 1000000 0 0] (mH R) (mH R) (.int .i64 0)
theorem ended_of {work:List (List MOp)} {R:MS} (h:MGE work R) (hw:∀ l∈work,l.length<=1000) (hz:∀ k,lfV R k=0):Ended R work:=by
 refine ⟨fun i=>?_,fun i=>?_,⟨R.h.n,?_⟩,?_⟩
 ·have:=left_any h hw i
  rwa [hz i] at this
 ·have:=stateV_ok R i
  rwa [stV_zero h hz i] at this
 ·have hh:=hall_zero h hz;have:=hall_ok R (by rw [hh.1];exact Nat.zero_le _) (by rw [hh.2];exact Nat.zero_le _)
  have e:encHA R.h=.agg [.int .i64 R.h.n,.int .i64 1,.lst [],.lst []]:=by rw [encHA,HA.cells,hh.1,hh.2];rfl
  rwa [e] at this
 ·have:=flight_ok R
  rwa [out_zero h hz] at this
end Go.Lk
