/-
  What is proved here: what functions of the program compute, and what follows; no condition beyond each theorem's own.
-/
import Derived.Test.YtaofmndhdmkgkaaGreatHAk
import Derived.Scope
set_option linter.unusedSimpArgs false
set_option linter.unusedVariables false
set_option linter.unnecessarySimpa false
set_option linter.unusedSectionVars false
namespace Go.Lk
open Go Go.RowKit
section
variable {own:Nat->Prop} {w0:World} {M0:Mem} {ι0:Inj} {N:Nat}
variable {P:Program} {T:Tab} (hT:TabOk P T)
def CQ (own:Nat->Prop) (w0:World) (M0:Mem) (ι0:Inj) (N:Nat) (Q:AExit->AState->Prop):Exit->Act->World->Prop
 | .normal,a,w=>∃ st,Q .normal st/\ARel own w0 M0 ι0 N st a w
 | .exit i,a,w=>∃ st,Q (.exit i) st/\ARel own w0 M0 ι0 N st a w
 | .ret,a,w=>∃ st,Q .ret st/\ARel own w0 M0 ι0 N st a w
 |_,_,_=>False
def dstL (N:Nat):List Oper->Bool
 | []=>true
 |o::r=>match o.dst with
  |some d=>bif Nat.blt d N then dstL N r else false
  |none=>dstL N r
def dstChk (N:Nat):Code->Bool
 | .region _ ops _=>dstL N ops.toList
 | .seq a b=>bif dstChk N a then dstChk N b else false
 | .cond _ a b=>bif dstChk N a then dstChk N b else false
 | .block _ c=>dstChk N c
 | .loop c=>dstChk N c
 | .rangeFunc _ _ a b=>bif dstChk N a then dstChk N b else false
 | .scope c=>dstChk N c
 |_=>true
theorem dstL_ok {N:Nat}:∀ {l:List Oper},dstL N l=true->∀ o∈l,DstOk N o
 | [],_,o,ho=>by cases ho
 |x::r,h,o,ho=>by
  simp only [dstL] at h
  cases hx:x.dst with
  |none=>
   simp only [hx] at h
   cases ho with
   |head=>intro d hd;rw [hx] at hd;cases hd
   |tail _ ho=>exact dstL_ok h o ho
  |some d=>
   simp only [hx] at h
   cases hb:Nat.blt d N with
   |false=>simp [hb] at h
   |true=>
    simp only [hb,cond_true] at h
    cases ho with
    |head=>intro d' hd;rw [hx] at hd;cases hd;exact Nat.le_of_ble_eq_true hb
    |tail _ ho=>exact dstL_ok h o ho
include hT in
theorem AW_sound (hown:∀ c,w0.heap.size<=c->own c) (hm:P.follows .mixedOrders=true):∀ (c:Code) (Q:AExit->AState->Prop) (st:AState) (a:Act) (w:World),dstChk N c=true->AW T P c st Q->ARel own w0 M0 ι0 N st a w->c.wp P (CQ own w0 M0 ι0 N Q) a w:=by
 intro c
 induction c with
 |skip=>exact fun Q st a w _ h hr=>wp_skip ⟨st,h,hr⟩
 |region id ops draw=>
  intro Q st a w hd h hr
  have hdo:∀ o∈ops,DstOk N o:=fun o ho=>dstL_ok hd o (by simpa using ho)
  rw [AW_region] at h;simp only [regionA] at h
  cases draw with
  |true=>
   obtain ⟨tm,hp⟩:=st;exact AOpsD_sound hT hown (fun st a w k r=>⟨st,k,r⟩) hdo hm id h hr
  |false=>
   refine wp_region ?_;have:=AOps_sound hT hown (Q:=CQ own w0 M0 ι0 N Q) (fun st a w k r=>⟨st,k,r⟩) hdo ops.toList 0 st a w rfl h hr;rw [List.range_eq_range']
   simpa using this
 |seq x y ih1 ih2=>
  intro Q st a w hd h hr;simp only [dstChk] at hd
  cases h1:dstChk N x with
  |false=>simp [h1] at hd
  |true=>
   simp only [h1,cond_true] at hd;rw [AW_seq] at h;refine wp_seq (Code.wp_mono (fun e a' w' hq=>?_) (ih1 _ st a w h1 h hr))
   cases e with
   |normal=>obtain ⟨st',k1,k2⟩:=hq;exact ih2 Q st' a' w' hd k1 k2
   |exit i=>exact hq
   |ret=>exact hq
   |goto l=>exact hq.elim
   |panic ch=>exact hq.elim
   |outgrown=>exact hq.elim
 |cond o x y ih1 ih2=>
  intro Q st a w hd h hr;simp only [dstChk] at hd
  cases h1:dstChk N x with
  |false=>simp [h1] at hd
  |true=>
   simp only [h1,cond_true] at hd;obtain ⟨tm,hp⟩:=st;rw [AW_cond] at h;simp only [condA] at h
   have hden:∃ M ι,DenA M ι (evT tm o) (a.eval o):=by
    obtain ⟨M,ι,g1,g2,g3,g4,g5,g6,g7,g8,g9⟩:=hr;exact ⟨M,ι,evT_den g7 o⟩
   obtain ⟨M,ι,hden⟩:=hden
   split at h
   ·rename_i hx;exact wp_cond_true ((den_guard hden).1 hx) (ih1 Q _ a w h1 h hr)
   ·rename_i hx;exact wp_cond_false ((den_guard hden).2 hx) (ih2 Q _ a w hd h hr)
   ·rename_i b hx
    rcases bcase_out h with ⟨rfl,k⟩|⟨rfl,k⟩
    ·exact wp_cond_true (den_bool (hx▸hden)) (ih1 Q _ a w h1 k hr)
    ·exact wp_cond_false (den_bool (hx▸hden)) (ih2 Q _ a w hd k hr)
   ·exact h.elim
 |block id x ih=>
  intro Q st a w hd h hr;rw [AW_block] at h;refine wp_block (Code.wp_mono (fun e a' w' hq=>?_) (ih _ st a w hd h hr))
  cases e with
  |normal=>exact hq
  |exit i=>
   obtain ⟨st',k1,k2⟩:=hq
   replace k1:bif Nat.beq i id then Q .normal st' else Q (.exit i) st':=k1
   simp only [Exit.inBlock]
   cases hb:Nat.beq i id with
   |true=>
    have:=Nat.eq_of_beq_eq_true hb;subst this;rw [hb] at k1;rw [if_pos rfl];exact ⟨st',k1,k2⟩
   |false=>
    rw [hb] at k1;rw [if_neg (fun e=>by subst e;simp at hb)];exact ⟨st',k1,k2⟩
  |ret=>exact hq
  |goto l=>exact hq.elim
  |panic ch=>exact hq.elim
  |outgrown=>exact hq.elim
 |loop x ih=>
  intro Q st a w hd h hr;rw [AW_loop] at h;replace h:=h.out;obtain ⟨J,S,R,μ,⟨j,hj,hle⟩,hround⟩:=h
  have key:∀ (n:Nat) (j:J) (a:Act) (w:World),R j->μ j<n->ARel own w0 M0 ι0 N (S j) a w->Code.rounds P x (CQ own w0 M0 ι0 N Q) n a w:=by
   intro n
   induction n with
   |zero=>intro j a w _ hn;omega
   |succ n ihn=>
    intro j a w hj hn hrel;rw [rounds_succ];refine Code.wp_mono (fun e a' w' hq=>?_) (ih _ (S j) a w hd (hround j hj) hrel)
    cases e with
    |normal=>
     obtain ⟨st',⟨j',g1,g2,g3⟩,k2⟩:=hq;exact ihn j' a' w' g1 (by omega) (k2.leN g3)
    |exit i=>exact hq
    |ret=>exact hq
    |goto l=>exact hq.elim
    |panic ch=>exact hq.elim
    |outgrown=>exact hq.elim
  exact wp_loop_rounds (μ j+1) (key _ j a w hj (Nat.lt_succ_self _) (hr.leN hle))
 |rangeFunc f ps x y _ _=>exact fun Q st a w _ h=>h.elim
 |exit id=>exact fun Q st a w _ h hr=>wp_exit ⟨st,h,hr⟩
 |scope x ih=>
  intro Q st a w hd h hr;rw [AW_scope] at h;refine wp_scope_straight (Code.wp_mono (fun e a' w' hq=>?_) (ih Q st a w hd h hr))
  cases e with
  |goto l=>exact hq.elim
  |normal=>exact hq
  |exit i=>exact hq
  |ret=>exact hq
  |panic ch=>exact hq
  |outgrown=>exact hq
 |label l=>exact fun Q st a w _ h hr=>wp_label ⟨st,h,hr⟩
 |goto l=>exact fun Q st a w _ h=>h.elim
 |ret=>exact fun Q st a w _ h hr=>wp_ret ⟨st,h,hr⟩
 |refuse y=>exact fun Q st a w _ h=>h.elim
end
section
variable {P:Program} {T:Tab} (hT:TabOk P T)
def resRun (tmps:Array Value):ResultVar->Sem Value
 | .tmp t=>pure (tmps.getD t undef)
 | .cell a t=>do loadVar t (<-asAddr (tmps.getD a undef))
theorem results_eq (fn:Func) (tmps:Array Value) (w:World) {vs:List Value} (h:(fn.results.toList.mapM (resRun tmps)).run P w=.ok vs w):
  (results fn tmps).run P w=.ok (if h:vs.toArray.size=1 then vs.toArray[0] else .tuple vs.toArray) w:=by
 have e:results fn tmps=(do let vs <-fn.results.mapM (resRun tmps);pure (if h:vs.size=1 then vs[0] else .tuple vs)):=by
  unfold results
  congr 1
 rw [e];simp only [Array.mapM_eq_mapM_toList,Sem.run_bind,Sem.run_map,h,Result.andThen_ok,Sem.run_pure]
include hT in
theorem resV_out {own:Nat->Prop} {M:Mem} {ι:Inj} {hp:Nat->Option Blk} {w:World} {tm:Nat->AV} {tmps:Array Value} (ha:Agree M w) (hh:HRel own M ι hp w) (hρ:∀ t,DenA M ι (tm t) (tmps.getD t undef)) (r:ResultVar) (hc:conv hp (resV T tm hp r)≠none):
  ∃ v,(resRun tmps r).run P w=.ok v w/\DenA M ι (resV T tm hp r) v:=by
 cases r with
 |tmp t=>exact ⟨_,rfl,hρ t⟩
 |cell a t=>
  simp only [resV] at hc⊢
  split at hc
  ·rename_i b i j hx
   split at hc
   ·rename_i c fr hb
    cases hk:((T t).k.known&&Nat.beq i 0) with
    |false=>simp [hk,conv] at hc
    |true=>
     simp only [hk,cond_true] at hc⊢;simp only [Bool.and_eq_true] at hk;have hi:=Nat.eq_of_beq_eq_true hk.2;subst hi
     have hl:loadA T t (.ptr b 0 j) hp (fun av=>av=(bif (T t).k.agg then (bif Nat.ble (j+(T t).size) c.length then .agg ((c.drop j).take (T t).size) else .dead) else (match c[j]? with|some x=>x|none=>.dead))):=by
      simp only [loadA,hk.1,cond_true,loadB,hb];refine condK_of (by trivial) ?_;unfold partA
      cases hag:(T t).k.agg with
      |true=>
       simp only [hag,cond_true] at hc⊢
       cases hle:Nat.ble (j+(T t).size) c.length with
       |false=>simp [hle,conv] at hc
       |true=>
        simp only [hle,cond_true] at hc⊢
        have:∀ (l:List AV) (K:List AV->Prop),conv.cells hp l≠none->K l->forceL l K:=by
         intro l
         induction l with
         |nil=>intro K _ hK;exact hK
         |cons x r ih=>
          intro K h1 hK;simp only [conv.cells] at h1
          have h2:conv.one hp x≠none:=by intro e;simp [e] at h1
          have h3:conv.cells hp r≠none:=by intro e;simp [e] at h1
          simp only [forceL]
          have:∀ K':AV->Prop,K' x->force x K':=by
           intro K' hK'
           cases x<;>first|exact hK'|exact absurd rfl h2
          exact this _ (ih _ h3 hK)
        refine this _ _ ?_ rfl;intro e;simp [conv,e] at hc
      |false=>
       simp only [hag,cond_false] at hc⊢;simp only [getC]
       cases hx2:c[j]? with
       |none=>simp [hx2,conv] at hc
       |some x=>
        simp only [hx2] at hc⊢
        cases x<;>first|rfl|exact absurd rfl hc
     obtain ⟨av,hav,hld⟩:=loadA_out hT hl;have hv:=hρ a;rw [hx] at hv;obtain ⟨r,hr,hd⟩:=hld own M ι w _ ha hh hv;refine ⟨r,?_,hav▸hd⟩;generalize hgv:tmps.getD a undef=u at hv hr
     cases hv with
     |ptr _ _ _ L hL=>
      simp only [resRun,hgv]
      simpa [Instr.loadAt,Instr.sureAddr,asAddr] using hr
     |ptrL _ _ _ _ hL=>rw [(hh.dom b).2 hL] at hb;cases hb
   ·exact absurd rfl hc
  ·exact absurd rfl hc
include hT in
theorem resD_out {own:Nat->Prop} {M:Mem} {ι:Inj} {hp:Nat->Option Blk} {w:World} {tm:Nat->AV} {tmps:Array Value} (ha:Agree M w) (hh:HRel own M ι hp w) (hρ:∀ t,DenA M ι (tm t) (tmps.getD t undef)):
  ∀ {rs:List ResultVar} {ds:List D},resD T tm hp rs=some ds->∃ (vs:List Value) (xs:List AV) (ns:List Nat),(rs.mapM (resRun tmps)).run P w=.ok vs w/\vs.length=ds.length/\xs.length=ds.length/\
   ∀ (i:Nat) (x:AV) (d:D) (v:Value),xs[i]?=some x->ds[i]?=some d->vs[i]?=some v->DenA M ι x v/\conv hp x=some d/\ ∀ b∈openNames hp x,b∈ns
 | [],ds,h=>by
  simp only [resD,Option.some.injEq] at h;subst h;exact ⟨[],[],[],rfl,rfl,rfl,fun i x d v h=>by simp at h⟩
 |r::q,ds,h=>by
  simp only [resD] at h
  cases hc:conv hp (resV T tm hp r) with
  |none=>simp [hc] at h
  |some d=>
   cases hq:resD T tm hp q with
   |none=>simp [hc,hq] at h
   |some ds'=>
    simp only [hc,hq,Option.some.injEq] at h;subst h;obtain ⟨v,hv,hdv⟩:=resV_out hT ha hh hρ r (by rw [hc];simp);obtain ⟨vs,xs,ns,hvs,hl1,hl2,hd⟩:=resD_out ha hh hρ hq;refine ⟨v::vs,resV T tm hp r::xs,openNames hp (resV T tm hp r)++ns,?_,by simp [hl1],by simp [hl2],fun i x d' v' h1 h2 h3=>?_⟩
    ·simp [List.mapM_cons,hv,hvs]
    ·cases i with
     |zero=>
      simp only [List.getElem?_cons_zero,Option.some.injEq] at h1 h2 h3;subst h1 h2 h3;exact ⟨hdv,hc,fun b hb=>List.mem_append_left _ hb⟩
     |succ i=>
      obtain ⟨g1,g2,g3⟩:=hd i x d' v' (by simpa using h1) (by simpa using h2) (by simpa using h3);exact ⟨g1,g2,fun b hb=>List.mem_append_right _ (g3 b hb)⟩
def fnChk (fn:Func) (n:Nat):Bool:=
 match fn.body with
 |some c=>dstChk fn.ntmps c&&Nat.ble n fn.ntmps&&!(fn.name== "runtime.NumGoroutine")
 |none=>false
theorem fnChk_out {fn:Func} {n:Nat} (h:fnChk fn n=true):∃ c,fn.body=some c/\dstChk fn.ntmps c=true/\n<=fn.ntmps/\ (fn.name== "runtime.NumGoroutine")=false:=by
 unfold fnChk at h
 split at h
 ·rename_i c hc;simp only [Bool.and_eq_true,Bool.not_eq_true',Nat.ble_eq] at h;exact ⟨c,hc,h.1.1,h.1.2,h.2⟩
 ·cases h
theorem initTm_den {M:Mem} {ι:Inj}:∀ (ds:List D) (n:Nat) (vs:Array Value),(∀ (i:Nat) (d:D) (v:Value),ds[i]?=some d->vs[n+i]?=some v->DenD M d v)->vs.size=n+ds.length->∀ t,DenA M ι (initTm.go n ds t) (vs.getD t undef)
 | [],n,vs,h,hl,t=>.dead _
 |d::r,n,vs,h,hl,t=>by
  simp only [initTm.go]
  by_cases e:t=n
  ·subst e;rw [upd_same]
   have hlt:t<vs.size:=by rw [hl];simp
   have:vs[t]?=some vs[t]:=by simp [hlt]
   have hg:vs.getD t undef=vs[t]:=by simp [Array.getD,hlt]
   rw [hg];exact ofD_den (h 0 d _ (by simp) (by simpa using this))
  ·rw [upd_other _ _ e];exact initTm_den r (n+1) vs (fun i d' v h1 h2=>h (i+1) d' v (by simpa using h1) (by rw [show n+(i+1)=n+1+i by omega];exact h2)) (by rw [hl];simp;omega) t
theorem pad_getD (vs:Array Value) (n t:Nat):(vs++Array.replicate n undef).getD t undef=vs.getD t undef:=by
 rw [Array.getD_eq_getD_getElem?,Array.getD_eq_getD_getElem?]
 by_cases h:t<vs.size
 ·rw [Array.getElem?_append_left h]
 ·rw [Array.getElem?_append_right (by omega),Array.getElem?_eq_none (xs:=vs) (by omega),Array.getElem?_replicate]
  split<;>rfl
theorem init_rel {ds:List D} {w:World} {M:Mem} {vs:Array Value} {n:Nat} (ha:Agree M w) (hds:DenDs M ds vs) (hn:vs.size<=n):
  ARel (fun c=>w.heap.size<=c) w M (fun _=>none) n ⟨initTm ds,fun _=>none⟩ {tmps:=vs++Array.replicate (n-vs.size) undef,defers:=[]} w:=by
 refine ⟨M,fun _=>none,.refl M,ha,.refl _ _,.refl _ _,⟨fun _=>⟨fun _=>rfl,fun _=>rfl⟩,fun b h=>(by cases h),fun b B L h=>(by cases h),fun b b' L L' h=>(by cases h)⟩,fun _ _ _=>rfl,fun t=>?_,by simp;omega,rfl⟩;show DenA M _ (initTm ds t) ((vs++Array.replicate (n-vs.size) undef).getD t undef);rw [pad_getD];exact initTm_den ds 0 vs (fun i d v h1 h2=>hds.2 i d v h1 (by simpa using h2)) (by simpa using hds.1) t
theorem oneD_den {M:Mem} {ds:List D} {vs:List Value} (hl:vs.length=ds.length) (hd:∀ (i:Nat) (d:D) (v:Value),ds[i]?=some d->vs[i]?=some v->DenD M d v):
  DenD M (oneD ds) (if h:vs.toArray.size=1 then vs.toArray[0] else .tuple vs.toArray):=by
 by_cases h1:vs.length=1
 ·rw [dif_pos (by simpa using h1)];obtain ⟨v,rfl⟩:=List.length_eq_one_iff.1 h1;obtain ⟨d,rfl⟩:=List.length_eq_one_iff.1 (hl.symm.trans h1);exact hd 0 d v rfl rfl
 ·rw [dif_neg (by simpa using h1)]
  have:oneD ds=.tup ds:=by
   unfold oneD
   split
   ·rename_i d;rw [hl] at h1;exact absurd rfl h1
   ·rfl
  rw [this]
  exact .tup ds _ (by simpa using hl) fun i d v h1 h2=>hd i d v h1 (by simpa using h2)
include hT in
theorem acall_sound (hm:P.follows .mixedOrders=true) {f:FuncId} {fn:Func} {ds:List D} {d:D} (hf:P.funcs[f]?=some fn) (hc:fnChk fn ds.length=true) (h:AFn T P fn ds d):ACall P f ds d:=by
 obtain ⟨c,hb,hdst,hn,hnm⟩:=fnChk_out hc;refine ⟨⟨fn,hf,by rw [hb];rfl,hnm⟩,fun w M vs ha hds=>calls_of_wp hf hb ?_⟩;simp only [AFn,hb] at h
 have hsz:vs.size<=fn.ntmps:=by rw [hds.1];exact hn
 refine Code.wp_mono (fun e a w' hq=>?_) (AW_sound (w0:=w) (M0:=M) (ι0:=fun _=>none) (own:=fun c=>w.heap.size<=c) hT (fun _ h=>h) hm c _ _ _ w hdst h (init_rel ha hds hsz))
 have fin:∀ st:AState,(resD T st.tm st.hp fn.results.toList).map oneD=some d->ARel (fun c=>w.heap.size<=c) w M (fun _=>none) fn.ntmps st a w'->
   a.defers=[] /\ ∃ v,(results fn a.tmps).run P w'=.ok v w'/\ ∃ (v':Value) (M':Mem),Ending.returned v=.returned v'/\Below w.heap.size w w'/\Sub M M'/\Agree M' w'/\Fresh w M M'/\DenD M' d v':=by
  intro st hres hr;obtain ⟨M1,ι,h1,h2,h3,h4,h5,h6,h7,h8,h9⟩:=hr
  cases hrd:resD T st.tm st.hp fn.results.toList with
  |none=>simp [hrd] at hres
  |some rs=>
   simp only [hrd,Option.map_some,Option.some.injEq] at hres;subst hres;obtain ⟨us,xs,ns,e1,e2,e3,e4⟩:=resD_out hT h2 h5 h7 hrd;obtain ⟨M2,s2,a2,n2,g2,l2,f2⟩:=freezeAll (hp0:=st.hp) ns M1 st.hp h2 h5 (.refl _);refine ⟨h9,_,results_eq fn a.tmps w' e1,_,M2,rfl,⟨h4.os,h4.tape,h4.output,h4.size,fun c hc=>h4.block c (by omega)⟩,h1.trans s2,a2,fun b o v hv=>(h3.trans n2) b o v hv,?_⟩
   refine oneD_den e2 fun i d v q1 q2=>?_
   have hx:xs[i]?=some (xs[i]'(by rw [e3];exact (List.getElem?_eq_some_iff.1 q1).1)):=by simp
   obtain ⟨p1,p2,p3⟩:=e4 i _ d v hx q1 q2;exact den_conv g2 (by rw [conv_frz l2];exact p2) (openNames_frz (fun b l sz fr hb he=>f2 b l sz fr (.inl hb) he) l2 _ p3) (p1.mono s2)
 cases e with
 |normal=>obtain ⟨st,k1,k2⟩:=hq;exact fin st k1 k2
 |ret=>obtain ⟨st,k1,k2⟩:=hq;exact fin st k1 k2
 |exit i=>obtain ⟨st,k1,k2⟩:=hq;exact k1.elim
 |goto l=>exact hq.elim
 |panic ch=>exact hq.elim
 |outgrown=>exact hq.elim
include hT in
theorem ocall_sound (hm:P.follows .mixedOrders=true) {f:FuncId} {fn:Func} {ds:List D} {l:List (List D)} {sz:Nat} (hf:P.funcs[f]?=some fn) (hc:fnChk fn ds.length=true) (h:AFnO T P fn ds l sz):OCall P f ds l sz:=by
 obtain ⟨c,hb,hdst,hn,hnm⟩:=fnChk_out hc;refine ⟨⟨fn,hf,by rw [hb];rfl,hnm⟩,fun w M vs ha hds=>calls_of_wp hf hb ?_⟩;simp only [AFnO,hb] at h
 have hsz:vs.size<=fn.ntmps:=by rw [hds.1];exact hn
 refine Code.wp_mono (fun e a w' hq=>?_) (AW_sound (w0:=w) (M0:=M) (ι0:=fun _=>none) (own:=fun c=>w.heap.size<=c) hT (fun _ h=>h) hm c _ _ _ w hdst h (init_rel ha hds hsz))
 have fin:∀ st:AState,(∃ t,fn.results.toList=[.tmp t] /\ ((∃ b,st.tm t=.own b/\st.hp b=some (.row l sz false)) \/ (st.tm t=.nil/\l=[])))->ARel (fun c=>w.heap.size<=c) w M (fun _=>none) fn.ntmps st a w'->
   a.defers=[] /\ ∃ v,(results fn a.tmps).run P w'=.ok v w'/\ ∃ (v':Value) (M':Mem),Ending.returned v=.returned v'/\Below w.heap.size w w'/\Sub M M'/\Agree M' w'/\Fresh w M M'/\
    ((l=[] /\ ∃ a,v'=.slice a 0 0) \/ ∃ (c cap:Nat) (cs:Array Value) (T:TypeId),w.heap.size<=c/\v'=.slice (some ⟨c,0,none⟩) l.length cap/\l.length<=cap/\
    cap*sz<=cs.size/\w'.heap[c]?=some (.cells cs T (0,0)) /\RowAt M' cs l sz/\ ∀ o,M' c o=none):=by
  intro st hres hr;obtain ⟨M1,ι,h1,h2,h3,h4,h5,h6,h7,h8,h9⟩:=hr;obtain ⟨t,ht,hval⟩:=hres
  have hrun:(fn.results.toList.mapM (resRun a.tmps)).run P w'=.ok [a.tmps.getD t undef] w':=by
   rw [ht];simp [List.mapM_cons,resRun]
  refine ⟨h9,_,results_eq fn a.tmps w' hrun,a.tmps.getD t undef,M1,rfl,⟨h4.os,h4.tape,h4.output,h4.size,fun c hc=>h4.block c (by omega)⟩,h1,h2,fun b o v hv=>h3 b o v hv,?_⟩;have hv:=h7 t
  rcases hval with ⟨b,e1,e2⟩|⟨e1,e2⟩
  ·rw [e1] at hv;generalize a.tmps.getD t undef=v at hv
   cases hv with
   |own _ L cap hL hn2 hc2=>
    obtain ⟨q1,cs,Ty,q2,q3,q4,q5,q6,q7,q8⟩:=h5.at_ b _ L e2 hL;exact .inr ⟨L.blk,cap,cs,Ty,q1,by rw [q5],by rw [q5];exact hn2,by rw [q4,q3];exact hc2,q2,q7,q8.2 rfl⟩
   |ownE _ a0 hL=>
    obtain ⟨sz2,fr2,e0⟩:=h5.virt b hL
    rw [e2] at e0;cases e0
    exact .inl ⟨rfl,a0,rfl⟩
   |ownL _ _ hL=>rw [(h5.dom b).2 hL] at e2;cases e2
  ·rw [e1] at hv;generalize a.tmps.getD t undef=v at hv
   cases hv with
   |nil a0=>exact .inl ⟨e2,a0,rfl⟩
 cases e with
 |normal=>obtain ⟨st,k1,k2⟩:=hq;exact fin st k1 k2
 |ret=>obtain ⟨st,k1,k2⟩:=hq;exact fin st k1 k2
 |exit i=>obtain ⟨st,k1,k2⟩:=hq;exact k1.elim
 |goto l=>exact hq.elim
 |panic ch=>exact hq.elim
 |outgrown=>exact hq.elim
omit hT in
theorem matchS_conv {hp:Nat->Option Blk}:∀ {c:List AV} {cs:List SC} {seen:List Nat},matchS hp seen c cs->conv.cells hp c≠none
 | [],[],_,_=>by simp [conv.cells]
 |x::c,.d d::s,seen,h=>by
  simp only [matchS] at h;have:=matchS_conv h.2
  have h1:conv.one hp x≠none:=by
   cases x<;>simp [conv.pure1] at h<;>simp [conv.one]
  simp only [conv.cells]
  cases h2:conv.one hp x with
  |none=>exact absurd h2 h1
  |some y=>
   cases h3:conv.cells hp c with
   |none=>exact absurd h3 this
   |some z=>simp
 |x::c,.row l sz::s,seen,h=>by
  simp only [matchS] at h
  have hc:conv.cells hp c≠none:=by
   rcases h with ⟨b,_,_,_,h⟩|⟨_,_,h⟩
   ·exact matchS_conv h
   ·exact matchS_conv h
  have h1:conv.one hp x≠none:=by
   rcases h with ⟨b,rfl,h,_⟩|⟨rfl,_,_⟩
   ·simp [conv.one,h]
   ·simp [conv.one]
  simp only [conv.cells]
  cases h2:conv.one hp x with
  |none=>exact absurd h2 h1
  |some y=>
   cases h3:conv.cells hp c with
   |none=>exact absurd h3 hc
   |some z=>simp
 | [],_::_,_,h=>by simp [matchS] at h
 |_::_,[],_,h=>by simp [matchS] at h
omit hT in
theorem matchS_get {hp:Nat->Option Blk}:∀ {c:List AV} {cs:List SC} {seen:List Nat},matchS hp seen c cs->c.length=cs.length/\
  (∀ (i:Nat) (s:SC),cs[i]?=some s->∃ x,c[i]?=some x/\match s with
   | .d d=>conv.pure1 x=some d
   | .row l sz=>(∃ b,x=.own b/\hp b=some (.row l sz false) /\b∉seen) \/ (x=.nil/\l=[])) /\
  ∀ (i j:Nat) (b l l':_) (sz sz':Nat),cs[i]?=some (.row l sz)->cs[j]?=some (.row l' sz')->c[i]?=some (.own b)->c[j]?=some (.own b)->i=j
 | [],[],_,_=>⟨rfl,fun i s h=>by simp at h,fun i j b l l' sz sz' h=>by simp at h⟩
 |x::c,.d d::s,seen,h=>by
  simp only [matchS] at h;obtain ⟨g1,g2,g3⟩:=matchS_get h.2;refine ⟨by simp [g1],fun i s' hs=>?_,fun i j b l l' sz sz' h1 h2 h3 h4=>?_⟩
  ·cases i with
   |zero=>
    simp only [List.getElem?_cons_zero,Option.some.injEq] at hs;subst hs;exact ⟨x,rfl,h.1⟩
   |succ i=>exact g2 i s' (by simpa using hs)
  ·cases i with
   |zero=>simp at h1
   |succ i=>
    cases j with
    |zero=>simp at h2
    |succ j=>exact congrArg (·+1) (g3 i j b l l' sz sz' (by simpa using h1) (by simpa using h2) (by simpa using h3) (by simpa using h4))
 |x::c,.row l0 sz0::s,seen,h=>by
  simp only [matchS] at h
  rcases h with ⟨b0,rfl,e1,e2,h⟩|⟨rfl,rfl,h⟩
  ·obtain ⟨g1,g2,g3⟩:=matchS_get h
   have hns:b0∉seen:=fun hm=>by rw [memN_iff.2 hm] at e2;cases e2
   have hne:∀ (j:Nat) (l':_) (sz':Nat),s[j]?=some (.row l' sz')->c[j]?=some (.own b0)->False:=fun j l' sz' h2 h4=>by
    obtain ⟨y,hy,q⟩:=g2 j _ h2
    rw [h4] at hy;cases hy
    rcases q with ⟨b1,e,_,q⟩|⟨e,_⟩
    ·cases e;exact q (List.mem_cons_self ..)
    ·cases e
   refine ⟨by simp [g1],fun i s' hs=>?_,fun i j b l l' sz sz' h1 h2 h3 h4=>?_⟩
   ·cases i with
    |zero=>
     simp only [List.getElem?_cons_zero,Option.some.injEq] at hs;subst hs;exact ⟨_,rfl,.inl ⟨b0,rfl,e1,hns⟩⟩
    |succ i=>
     obtain ⟨y,hy,q⟩:=g2 i s' (by simpa using hs);refine ⟨y,by simpa using hy,?_⟩
     cases s' with
     |d d=>exact q
     |row l sz=>
      rcases q with ⟨b1,q1,q2,q3⟩|q
      ·exact .inl ⟨b1,q1,q2,fun hm=>q3 (List.mem_cons_of_mem _ hm)⟩
      ·exact .inr q
   ·cases i with
    |zero=>
     simp only [List.getElem?_cons_zero,Option.some.injEq] at h3
     cases h3
     cases j with
     |zero=>rfl
     |succ j=>exact (hne j l' sz' (by simpa using h2) (by simpa using h4)).elim
    |succ i=>
     cases j with
     |zero=>
      simp only [List.getElem?_cons_zero,Option.some.injEq] at h4
      cases h4
      exact (hne i l sz (by simpa using h1) (by simpa using h3)).elim
     |succ j=>exact congrArg (·+1) (g3 i j b l l' sz sz' (by simpa using h1) (by simpa using h2) (by simpa using h3) (by simpa using h4))
  ·obtain ⟨g1,g2,g3⟩:=matchS_get h;refine ⟨by simp [g1],fun i s' hs=>?_,fun i j b l l' sz sz' h1 h2 h3 h4=>?_⟩
   ·cases i with
    |zero=>
     simp only [List.getElem?_cons_zero,Option.some.injEq] at hs;subst hs;exact ⟨_,rfl,.inr ⟨rfl,rfl⟩⟩
    |succ i=>exact g2 i s' (by simpa using hs)
   ·cases i with
    |zero=>simp at h3
    |succ i=>
     cases j with
     |zero=>simp at h4
     |succ j=>exact congrArg (·+1) (g3 i j b l l' sz sz' (by simpa using h1) (by simpa using h2) (by simpa using h3) (by simpa using h4))
 | [],_::_,_,h=>by simp [matchS] at h
 |_::_,[],_,h=>by simp [matchS] at h
omit hT in
theorem pure1_den {M:Mem} {ι:Inj} {x:AV} {d:D} {v:Value} (h:DenA M ι x v) (hp:conv.pure1 x=some d):DenD M d v:=by
 cases h<;>simp only [conv.pure1,Option.some.injEq,reduceCtorEq] at hp<;>subst hp
 case d h=>exact h
 case tt=>exact .bool true
 case ff=>exact .bool false
 case nil a=>exact .emp a 0
include hT in
theorem scall_sound (hm:P.follows .mixedOrders=true) {f:FuncId} {fn:Func} {ds:List D} {cs:List SC} (hf:P.funcs[f]?=some fn) (hc:fnChk fn ds.length=true) (h:AFnS T P fn ds cs):SCall P f ds cs:=by
 obtain ⟨c,hb,hdst,hn,hnm⟩:=fnChk_out hc;refine ⟨⟨fn,hf,by rw [hb];rfl,hnm⟩,fun w M vs ha hds=>calls_of_wp hf hb ?_⟩;simp only [AFnS,hb] at h
 have hsz:vs.size<=fn.ntmps:=by rw [hds.1];exact hn
 refine Code.wp_mono (fun e a w' hq=>?_) (AW_sound (w0:=w) (M0:=M) (ι0:=fun _=>none) (own:=fun c=>w.heap.size<=c) hT (fun _ h=>h) hm c _ _ _ w hdst h (init_rel ha hds hsz))
 have fin:∀ st:AState,(∃ r c,fn.results.toList=[r] /\resV T st.tm st.hp r=.agg c/\matchS st.hp [] c cs)->ARel (fun c=>w.heap.size<=c) w M (fun _=>none) fn.ntmps st a w'->
   a.defers=[] /\ ∃ v,(results fn a.tmps).run P w'=.ok v w'/\ ∃ (us:Array Value) (M':Mem) (bl:Nat->Option Loc),Ending.returned v=.returned (.agg us) /\Below w.heap.size w w'/\Sub M M'/\Agree M' w'/\Fresh w M M'/\us.size=cs.length/\
    (∀ (i:Nat) (c:SC),cs[i]?=some c->∃ u,us[i]?=some u/\match c with
     | .d x=>DenD M' x u
     | .row l sz=>RowOk w w' M' l sz (bl i) u) /\
    ∀ (i j:Nat) (L L':Loc),bl i=some L->bl j=some L'->L.blk=L'.blk->i=j:=by
  intro st hres hr;obtain ⟨M1,ι,h1,h2,h3,h4,h5,h6,h7,h8,h9⟩:=hr;obtain ⟨r,c,hr1,hr2,hr3⟩:=hres
  obtain ⟨v,hv,hdv⟩:=resV_out hT h2 h5 h7 r (by
   rw [hr2];simp only [conv]
   cases hcc:conv.cells st.hp c with
   |none=>exact absurd hcc (matchS_conv hr3)
   |some y=>simp)
  have hrun:(fn.results.toList.mapM (resRun a.tmps)).run P w'=.ok [v] w':=by
   rw [hr1];simp [List.mapM_cons,hv]
  rw [hr2] at hdv
  cases hdv with
  |agg _ us hl hd=>
   obtain ⟨m1,m2,m3⟩:=matchS_get hr3
   let bl:Nat->Option Loc:=fun i=>match cs[i]? with
    |some (.row _ _)=>match c[i]? with
     |some (.own b)=>match ι b with
      |some (some L)=>some L
      |_=>none
     |_=>none
    |_=>none
   have hbl:∀ i L,bl i=some L->∃ l sz b,cs[i]?=some (.row l sz) /\c[i]?=some (.own b) /\ι b=some (some L):=by
    intro i L hL;simp only [bl] at hL
    split at hL
    ·rename_i l sz e1
     split at hL
     ·rename_i b e2
      split at hL
      ·rename_i L' e3
       cases hL
       exact ⟨l,sz,b,e1,e2,e3⟩
      ·cases hL
     ·cases hL
    ·cases hL
   refine ⟨h9,_,results_eq fn a.tmps w' hrun,us,M1,bl,rfl,⟨h4.os,h4.tape,h4.output,h4.size,fun c hc=>h4.block c (by omega)⟩,h1,h2,fun b o v hv=>h3 b o v hv,by omega,fun i s hs=>?_,fun i j L L' hL hL' he=>?_⟩
   ·obtain ⟨x,hx,hm2⟩:=m2 i s hs
    have hi:i<us.size:=by rw [hl];exact (List.getElem?_eq_some_iff.1 hx).1
    have hu:us[i]?=some us[i]:=by simp [hi]
    have hdx:=hd i x _ hx hu;refine ⟨us[i],hu,?_⟩
    cases s with
    |d d=>exact pure1_den hdx hm2
    |row l sz=>
     rcases hm2 with ⟨b,rfl,e2,_⟩|⟨rfl,rfl⟩
     ·show RowOk w w' M1 l sz (bl i) us[i];generalize us[i]=u at hdx
      cases hdx with
      |own _ L cap hL hn2 hc2=>
       have:bl i=some L:=by simp only [bl,hs,hx,hL]
       rw [this];obtain ⟨q1,cs',Ty,q2,q3,q4,q5,q6,q7,q8⟩:=h5.at_ b _ L e2 hL;exact ⟨q1,cap,cs',Ty,by rw [q5],q5.symm,q4.symm,q3.symm,by rw [q5];exact hn2,by rw [q4,q3];exact hc2,q2,q7,q8.2 rfl⟩
      |ownE _ a0 hL=>
       have:bl i=none:=by simp only [bl,hs,hx,hL]
       rw [this];obtain ⟨sz2,fr2,e0⟩:=h5.virt b hL
       rw [e2] at e0;cases e0
       exact ⟨rfl,a0,rfl⟩
      |ownL _ _ hL=>rw [(h5.dom b).2 hL] at e2;cases e2
     ·show RowOk w w' M1 [] sz (bl i) us[i]
      have:bl i=none:=by simp only [bl,hs,hx]
      rw [this];generalize us[i]=u at hdx
      cases hdx with
      |nil a0=>exact ⟨rfl,a0,rfl⟩
   ·obtain ⟨l,sz,b,g1,g2,g3⟩:=hbl i L hL;obtain ⟨l',sz',b',g1',g2',g3'⟩:=hbl j L' hL';have:=h5.inj b b' L L' g3 g3' he;subst this;exact m3 i j b l l' sz sz' g1 g1' g2 g2'
 cases e with
 |normal=>obtain ⟨st,k1,k2⟩:=hq;exact fin st k1 k2
 |ret=>obtain ⟨st,k1,k2⟩:=hq;exact fin st k1 k2
 |exit i=>obtain ⟨st,k1,k2⟩:=hq;exact k1.elim
 |goto l=>exact hq.elim
 |panic ch=>exact hq.elim
 |outgrown=>exact hq.elim
end
def nmGet:List (Nat×Nat)->Nat->Option Nat
 | [],_=>none
 |(a,b)::r,n=>bif Nat.beq n a then some b else nmGet r n
def rn1 (s:List (Nat×Nat)):AV->AV
 | .own n=>match nmGet s n with
  |some b=>.own b
  |none=>.dead
 | .ptr n i j=>match nmGet s n with
  |some b=>.ptr b i j
  |none=>.dead
 | .win n lo m c=>match nmGet s n with
  |some b=>.win b lo m c
  |none=>.dead
 | .d x=>.d x
 | .tt=>.tt
 | .ff=>.ff
 | .nil=>.nil
 | .agg _=>.dead
 | .tup _=>.dead
 | .fn _ _=>.dead
 | .dead=>.dead
def rnL (s:List (Nat×Nat)):List AV->List AV
 | []=>[]
 |x::r=>rn1 s x::rnL s r
def rnV (s:List (Nat×Nat)):AV->AV
 | .agg c=>.agg (rnL s c)
 | .own n=>rn1 s (.own n)
 | .ptr n i j=>rn1 s (.ptr n i j)
 | .win n lo m c=>rn1 s (.win n lo m c)
 | .d x=>.d x
 | .tt=>.tt
 | .ff=>.ff
 | .nil=>.nil
 | .tup _=>.dead
 | .fn _ _=>.dead
 | .dead=>.dead
def rnVs (s:List (Nat×Nat)):List AV->List AV
 | []=>[]
 |x::r=>rnV s x::rnVs s r
def rnB (s:List (Nat×Nat)):Blk->Blk
 | .row l sz fr=>.row l sz fr
 | .box c fr=>.box (rnL s c) fr
def rnH (s:List (Nat×Nat)):List (Nat×Blk)->List (Nat×Blk)
 | []=>[]
 |(n,B)::r=>match nmGet s n with
  |some b=>(b,rnB s B)::rnH s r
  |none=>rnH s r
def plain1:AV->Bool
 | .agg _=>false
 | .tup _=>false
 | .fn _ _=>false
 |_=>true
def plainL:List AV->Bool
 | []=>true
 |x::r=>bif plain1 x then plainL r else false
def plainV:AV->Bool
 | .agg c=>plainL c
 |x=>plain1 x
def plainVs:List AV->Bool
 | []=>true
 |x::r=>bif plainV x then plainVs r else false
def plainB:Blk->Bool
 | .row _ _ _=>true
 | .box c _=>plainL c
def plainH:List (Nat×Blk)->Bool
 | []=>true
 |(n,B)::r=>bif plainB B&&(Nat.ble 1000000 n&&Nat.ble n 1000004) then plainH r else false
def sameN:List (Nat×Blk)->List (Nat×Blk)->Bool
 | [],[]=>true
 |(n,_)::r,(m,_)::q=>bif Nat.beq n m then sameN r q else false
 |_,_=>false
def initA (args:List AV):Nat->AV:=go 0 args
 where
 go (n:Nat):List AV->Nat->AV
  | []=>fun _=>.dead
  |x::r=>upd (go (n+1) r) n x
def openR (T:Tab) (tm:Nat->AV) (hp:Nat->Option Blk):List ResultVar->List Nat
 | []=>[]
 |r::q=>openNames hp (resV T tm hp r)++openR T tm hp q
def nearN:List Nat->Bool
 | []=>true
 |b::r=>bif Nat.ble 1000000 b&&Nat.ble b 1000004 then false else nearN r
structure HRet (T:Tab) (tm:Nat->AV) (hp:Nat->Option Blk) (rs:List ResultVar) (post:List (Nat×Blk)) (d:D):Prop where
 res:(resD T tm hp rs).map oneD=some d
 far:nearN (openR T tm hp rs)=true
 post:covH hp post
def AFnH (T:Tab) (P:Program) (fn:Func) (args:List AV) (pre post:List (Nat×Blk)) (d:D):Prop:=
 match fn.body with
 |some c=>AW T P c ⟨initA args,stL.hpL pre⟩ fun e st=>match e with
  | .exit _=>False
  |_=>HRet T st.tm st.hp fn.results.toList post d
 |none=>False
structure NmOk (s:List (Nat×Nat)) (pre:List (Nat×Blk)):Prop where
 inj:∀ n n' b,nmGet s n=some b->nmGet s n'=some b->n=n'
 dom:∀ n,nmGet s n=none↔stL.hpL pre n=none
def HCall (P:Program) (f:FuncId) (args:List AV) (pre post:List (Nat×Blk)) (d:D):Prop:=
 FnOk P f/\ ∀ (s:List (Nat×Nat)) (hp:Nat->Option Blk),NmOk s pre->(∀ n B b,stL.hpL pre n=some B->nmGet s n=some b->hp b=some (rnB s B))->
  ECall P f (rnVs s args) hp ⟨ofD d,rnH s post,nmGet s 1000004⟩
theorem rnL_get (s:List (Nat×Nat)):∀ (c:List AV) (i:Nat),(rnL s c)[i]?=(c[i]?).map (rn1 s)
 | [],i=>by simp [rnL]
 |x::r,0=>by simp [rnL]
 |x::r,i+1=>by simpa [rnL] using rnL_get s r i
theorem rnL_len (s:List (Nat×Nat)):∀ (c:List AV),(rnL s c).length=c.length
 | []=>rfl
 |x::r=>by simp [rnL,rnL_len s r]
theorem rnVs_get (s:List (Nat×Nat)):∀ (c:List AV) (i:Nat),(rnVs s c)[i]?=(c[i]?).map (rnV s)
 | [],i=>by simp [rnVs]
 |x::r,0=>by simp [rnVs]
 |x::r,i+1=>by simpa [rnVs] using rnVs_get s r i
theorem rnVs_len (s:List (Nat×Nat)):∀ (c:List AV),(rnVs s c).length=c.length
 | []=>rfl
 |x::r=>by simp [rnVs,rnVs_len s r]
theorem plainL_get:∀ {c:List AV},plainL c=true->∀ x∈c,plain1 x=true
 | [],_,x,hx=>by cases hx
 |y::r,h,x,hx=>by
  simp only [plainL] at h
  cases hy:plain1 y with
  |false=>simp [hy] at h
  |true=>
   simp only [hy,cond_true] at h
   cases hx with
   |head=>exact hy
   |tail _ hx=>exact plainL_get h x hx
theorem plainVs_get:∀ {c:List AV},plainVs c=true->∀ x∈c,plainV x=true
 | [],_,x,hx=>by cases hx
 |y::r,h,x,hx=>by
  simp only [plainVs] at h
  cases hy:plainV y with
  |false=>simp [hy] at h
  |true=>
   simp only [hy,cond_true] at h
   cases hx with
   |head=>exact hy
   |tail _ hx=>exact plainVs_get h x hx
section
variable {M:Mem} {ι ι0:Inj} {s:List (Nat×Nat)}
theorem un1 (h0:∀ n,ι0 n=match nmGet s n with|some b=>ι b|none=>none) {x:AV} {v:Value} (hp:plain1 x=true) (h:DenA M ι (rn1 s x) v):DenA M ι0 x v:=by
 cases x with
 |own n=>
  have hn:=h0 n;simp only [rn1] at h
  cases hg:nmGet s n with
  |none=>rw [hg] at hn;exact .ownL _ _ hn
  |some b=>
   rw [hg] at hn h;simp only at hn h
   cases h with
   |own _ L cap hL h1 h2=>exact .own n L cap (hn.trans hL) h1 h2
   |ownE _ a hL=>exact .ownE n a (hn.trans hL)
   |ownL _ _ hL=>exact .ownL n _ (hn.trans hL)
 |ptr n i j=>
  have hn:=h0 n;simp only [rn1] at h
  cases hg:nmGet s n with
  |none=>rw [hg] at hn;exact .ptrL _ _ _ _ hn
  |some b=>
   rw [hg] at hn h;simp only at hn h
   cases h with
   |ptr _ _ _ L hL=>exact .ptr n i j L (hn.trans hL)
   |ptrL _ _ _ _ hL=>exact .ptrL n i j _ (hn.trans hL)
 |win n lo m c=>
  have hn:=h0 n;simp only [rn1] at h
  cases hg:nmGet s n with
  |none=>rw [hg] at hn;exact .winL _ _ _ _ _ hn
  |some b=>
   rw [hg] at hn h;simp only at hn h
   cases h with
   |win _ _ _ _ L k base hL q1 q2 q3 q4=>exact .win n lo m c L k base (hn.trans hL) q1 q2 q3 q4
   |winL _ _ _ _ _ hL=>exact .winL n lo m c _ (hn.trans hL)
 |d x=>cases h with|d _ _ h=>exact .d _ _ h
 |tt=>cases h;exact .tt
 |ff=>cases h;exact .ff
 |nil=>cases h with|nil a=>exact .nil a
 |dead=>exact .dead _
 |agg c=>cases hp
 |tup c=>cases hp
 |fn f c=>cases hp
theorem unV (h0:∀ n,ι0 n=match nmGet s n with|some b=>ι b|none=>none) {x:AV} {v:Value} (hp:plainV x=true) (h:DenA M ι (rnV s x) v):DenA M ι0 x v:=by
 cases x with
 |agg c=>
  simp only [rnV] at h
  cases h with
  |agg _ vs hl hd=>
   refine .agg c vs (by rw [hl,rnL_len]) fun i x v h1 h2=>un1 h0 (plainL_get hp x (List.mem_of_getElem? h1)) (hd i _ v ?_ h2)
   rw [rnL_get,h1];rfl
 |own n=>exact un1 h0 rfl h
 |ptr n i j=>exact un1 h0 rfl h
 |win n lo m c=>exact un1 h0 rfl h
 |d x=>exact un1 h0 (x:=.d x) rfl h
 |tt=>exact un1 h0 (x:=.tt) rfl h
 |ff=>exact un1 h0 (x:=.ff) rfl h
 |nil=>exact un1 h0 (x:=.nil) rfl h
 |dead=>exact .dead _
 |tup c=>cases hp
 |fn f c=>cases hp
theorem re1 (h0:∀ n b,nmGet s n=some b->ι b=ι0 n) {x:AV} {v:Value} (h:DenA M ι0 x v):DenA M ι (rn1 s x) v:=by
 cases x with
 |own n=>
  simp only [rn1]
  cases hg:nmGet s n with
  |none=>exact .dead _
  |some b=>
   have hn:=h0 n b hg
   cases h with
   |own _ L cap hL h1 h2=>exact .own b L cap (hn.trans hL) h1 h2
   |ownE _ a hL=>exact .ownE b a (hn.trans hL)
   |ownL _ _ hL=>exact .ownL b _ (hn.trans hL)
 |ptr n i j=>
  simp only [rn1]
  cases hg:nmGet s n with
  |none=>exact .dead _
  |some b=>
   have hn:=h0 n b hg
   cases h with
   |ptr _ _ _ L hL=>exact .ptr b i j L (hn.trans hL)
   |ptrL _ _ _ _ hL=>exact .ptrL b i j _ (hn.trans hL)
 |win n lo m c=>
  simp only [rn1]
  cases hg:nmGet s n with
  |none=>exact .dead _
  |some b=>
   have hn:=h0 n b hg
   cases h with
   |win _ _ _ _ L k base hL q1 q2 q3 q4=>exact .win b lo m c L k base (hn.trans hL) q1 q2 q3 q4
   |winL _ _ _ _ _ hL=>exact .winL b lo m c _ (hn.trans hL)
 |d x=>cases h with|d _ _ h=>exact .d _ _ h
 |tt=>cases h;exact .tt
 |ff=>cases h;exact .ff
 |nil=>cases h with|nil a=>exact .nil a
 |dead=>exact .dead _
 |agg c=>exact .dead _
 |tup c=>exact .dead _
 |fn f c=>exact .dead _
theorem unB (h0:∀ n,ι0 n=match nmGet s n with|some b=>ι b|none=>none) {w:World} {B:Blk} {L:Loc} (hp:plainB B=true) (h:BlkAt M ι w (rnB s B) L):BlkAt M ι0 w B L:=by
 obtain ⟨cs,Ty,g2,g3,g4⟩:=h;refine ⟨cs,Ty,g2,g3,?_⟩
 cases B with
 |row l sz fr=>exact g4
 |box c fr=>
  obtain ⟨a1,a2,a3,a5⟩:=g4;rw [rnL_len] at a1 a2 a5;refine ⟨a1,a2,⟨by rw [a3.size,rnL_len],fun j x hx=>?_⟩,a5⟩;obtain ⟨v,y1,y2⟩:=a3.den j (rn1 s x) (by rw [rnL_get,hx];rfl);exact ⟨v,y1,un1 h0 (plainL_get hp x (List.mem_of_getElem? hx)) y2⟩
theorem reB (h0:∀ n b,nmGet s n=some b->ι b=ι0 n) {w:World} {B:Blk} {L:Loc} (h:BlkAt M ι0 w B L):BlkAt M ι w (rnB s B) L:=by
 obtain ⟨cs,Ty,g2,g3,g4⟩:=h;refine ⟨cs,Ty,g2,g3,?_⟩
 cases B with
 |row l sz fr=>exact g4
 |box c fr=>
  obtain ⟨a1,a2,a3,a5⟩:=g4;refine ⟨by rw [rnL_len];exact a1,by rw [rnL_len];exact a2,⟨by rw [rnL_len];exact a3.size,fun j x hx=>?_⟩,by rw [rnL_len];exact a5⟩;rw [rnL_get] at hx
  cases hc:c[j]? with
  |none=>rw [hc] at hx;cases hx
  |some y=>
   rw [hc] at hx;simp only [Option.map_some,Option.some.injEq] at hx;subst hx;obtain ⟨v,y1,y2⟩:=a3.den j y hc;exact ⟨v,y1,re1 h0 y2⟩
end
theorem initA_den {M:Mem} {ι:Inj}:∀ (xs:List AV) (n:Nat) (vs:Array Value),(∀ (i:Nat) (x:AV) (v:Value),xs[i]?=some x->vs[n+i]?=some v->DenA M ι x v)->vs.size=n+xs.length->∀ t,DenA M ι (initA.go n xs t) (vs.getD t undef)
 | [],n,vs,h,hl,t=>.dead _
 |d::r,n,vs,h,hl,t=>by
  simp only [initA.go]
  by_cases e:t=n
  ·subst e;rw [upd_same]
   have hlt:t<vs.size:=by rw [hl];simp
   have:vs[t]?=some vs[t]:=by simp [hlt]
   have hg:vs.getD t undef=vs[t]:=by simp [Array.getD,hlt]
   rw [hg];exact h 0 d _ (by simp) (by simpa using this)
  ·rw [upd_other _ _ e];exact initA_den r (n+1) vs (fun i d' v h1 h2=>h (i+1) d' v (by simpa using h1) (by rw [show n+(i+1)=n+1+i by omega];exact h2)) (by rw [hl];simp;omega) t
theorem covH_get {hp:Nat->Option Blk}:∀ {l:List (Nat×Blk)},covH hp l->∀ n B,stL.hpL l n=some B->hp n=some B
 | [],_,n,B,h=>by cases h
 |(t,v)::r,hc,n,B,h=>by
  simp only [stL.hpL] at h
  cases hb:Nat.beq n t with
  |true=>
   simp only [hb,cond_true,Option.some.injEq] at h;subst h
   rw [Nat.eq_of_beq_eq_true hb];exact hc.1
  |false=>
   simp only [hb,cond_false] at h;exact covH_get hc.2 n B h
theorem sameN_out:∀ {a b:List (Nat×Blk)},sameN a b=true->∀ n,stL.hpL a n=none↔stL.hpL b n=none
 | [],[],_,n=>Iff.rfl
 | [],_::_,h,_=>by simp [sameN] at h
 |_::_,[],h,_=>by simp [sameN] at h
 |(m,B)::r,(m',B')::q,h,n=>by
  simp only [sameN] at h
  cases hb:Nat.beq m m' with
  |false=>simp [hb] at h
  |true=>
   simp only [hb,cond_true] at h;have:=Nat.eq_of_beq_eq_true hb;subst this;simp only [stL.hpL]
   cases Nat.beq n m with
   |true=>simp
   |false=>exact sameN_out h n
theorem plainH_get:∀ {l:List (Nat×Blk)},plainH l=true->∀ n B,stL.hpL l n=some B->plainB B=true/\1000000<=n/\n<1000005
 | [],_,n,B,h=>by cases h
 |(t,v)::r,hp,n,B,h=>by
  simp only [plainH] at hp
  cases hc:(plainB v&&(Nat.ble 1000000 t&&Nat.ble t 1000004)) with
  |false=>simp [hc] at hp
  |true=>
   simp only [hc,cond_true] at hp;simp only [Bool.and_eq_true] at hc;simp only [stL.hpL] at h
   cases hb:Nat.beq n t with
   |true=>
    simp only [hb,cond_true,Option.some.injEq] at h;subst h;rw [Nat.eq_of_beq_eq_true hb];exact ⟨hc.1,Nat.le_of_ble_eq_true hc.2.1,by have:=Nat.le_of_ble_eq_true hc.2.2;omega⟩
   |false=>
    simp only [hb,cond_false] at h;exact plainH_get hp n B h
theorem rnH_some {s:List (Nat×Nat)} (hinj:∀ n n' b,nmGet s n=some b->nmGet s n'=some b->n=n'):∀ {l:List (Nat×Blk)} {n b:Nat} {B:Blk},l.Pairwise (fun p q=>p.1≠q.1)->nmGet s n=some b->stL.hpL l n=some B->wrGet (rnH s l) b=some (rnB s B)
 | [],_,_,_,_,_,h=>by cases h
 |(t,v)::r,n,b,B,hp,hn,h=>by
  rw [List.pairwise_cons] at hp;simp only [stL.hpL] at h
  have none_of:∀ {l:List (Nat×Blk)} {b:Nat},(∀ p∈l,∀ b',nmGet s p.1=some b'->b'≠b)->wrGet (rnH s l) b=none:=by
   intro l
   induction l with
   |nil=>intro b _;rfl
   |cons p q ih=>
    intro b hq;obtain ⟨m,C⟩:=p;simp only [rnH]
    cases hg:nmGet s m with
    |none=>exact ih fun p hp=>hq p (List.mem_cons_of_mem _ hp)
    |some b'=>
     simp only [wrGet];rw [ih fun p hp=>hq p (List.mem_cons_of_mem _ hp)];have hne:=hq (m,C) (List.mem_cons_self ..) b' hg
     have:Nat.beq b b'=false:=by
      cases hb:Nat.beq b b' with
      |false=>rfl
      |true=>exact absurd (Nat.eq_of_beq_eq_true hb).symm hne
     simp [this]
  cases hb:Nat.beq n t with
  |true=>
   simp only [hb,cond_true,Option.some.injEq] at h;subst h;have:=Nat.eq_of_beq_eq_true hb;subst this;simp only [rnH,hn,wrGet];rw [none_of fun p hp' b' hb' e=>hp.1 p hp' (hinj n p.1 b hn (by rw [hb',e]))];simp
  |false=>
   simp only [hb,cond_false] at h;have ih:=rnH_some hinj hp.2 hn h;simp only [rnH]
   cases hg:nmGet s t with
   |none=>exact ih
   |some b'=>simp only [wrGet];rw [ih]
theorem rnH_none {s:List (Nat×Nat)} {b:Nat} (hb:∀ n,nmGet s n≠some b):∀ {l:List (Nat×Blk)},wrGet (rnH s l) b=none
 | []=>rfl
 |(t,v)::r=>by
  simp only [rnH]
  cases hg:nmGet s t with
  |none=>exact rnH_none hb
  |some b'=>
   simp only [wrGet];rw [rnH_none hb]
   have:Nat.beq b b'=false:=by
    cases h:Nat.beq b b' with
    |false=>rfl
    |true=>exact absurd (by rw [hg,Nat.eq_of_beq_eq_true h]) (hb t)
   simp [this]
def nodupN:List (Nat×Blk)->Bool
 | []=>true
 |(n,_)::r=>bif r.all fun p=>!Nat.beq n p.1 then nodupN r else false
theorem nodupN_out:∀ {l:List (Nat×Blk)},nodupN l=true->l.Pairwise (fun p q=>p.1≠q.1)
 | [],_=>.nil
 |(n,B)::r,h=>by
  simp only [nodupN] at h
  cases hc:(r.all fun p=>!Nat.beq n p.1) with
  |false=>simp [hc] at h
  |true=>
   simp only [hc,cond_true] at h;rw [List.pairwise_cons];refine ⟨fun p hp e=>?_,nodupN_out h⟩;have:=(List.all_eq_true.1 hc) p hp;have e:n=p.1:=e;rw [e] at this;simp at this
theorem nearN_out:∀ {l:List Nat},nearN l=true->∀ b∈l,¬(1000000<=b/\b<1000005)
 | [],_,b,h=>by cases h
 |x::r,h,b,hb=>by
  simp only [nearN] at h
  cases hc:(Nat.ble 1000000 x&&Nat.ble x 1000004) with
  |true=>simp [hc] at h
  |false=>
   simp only [hc,cond_false] at h
   cases hb with
   |head=>
    rintro ⟨h1,h2⟩;rw [Nat.ble_eq_true_of_le h1,Nat.ble_eq_true_of_le (Nat.lt_succ_iff.1 h2)] at hc
    cases hc
   |tail _ hb=>exact nearN_out h b hb
section
variable {P:Program} {T:Tab} (hT:TabOk P T)
include hT
theorem resD_out2 {own:Nat->Prop} {M:Mem} {ι:Inj} {hp:Nat->Option Blk} {w:World} {tm:Nat->AV} {tmps:Array Value} (ha:Agree M w) (hh:HRel own M ι hp w) (hρ:∀ t,DenA M ι (tm t) (tmps.getD t undef)):
  ∀ {rs:List ResultVar} {ds:List D},resD T tm hp rs=some ds->∃ (vs:List Value) (xs:List AV),(rs.mapM (resRun tmps)).run P w=.ok vs w/\vs.length=ds.length/\xs.length=ds.length/\
   ∀ (i:Nat) (x:AV) (d:D) (v:Value),xs[i]?=some x->ds[i]?=some d->vs[i]?=some v->DenA M ι x v/\conv hp x=some d/\ ∀ b∈openNames hp x,b∈openR T tm hp rs
 | [],ds,h=>by
  simp only [resD,Option.some.injEq] at h;subst h;exact ⟨[],[],rfl,rfl,rfl,fun i x d v h=>by simp at h⟩
 |r::q,ds,h=>by
  simp only [resD] at h
  cases hc:conv hp (resV T tm hp r) with
  |none=>simp [hc] at h
  |some d=>
   cases hq:resD T tm hp q with
   |none=>simp [hc,hq] at h
   |some ds'=>
    simp only [hc,hq,Option.some.injEq] at h;subst h;obtain ⟨v,hv,hdv⟩:=resV_out hT ha hh hρ r (by rw [hc];simp);obtain ⟨vs,xs,hvs,hl1,hl2,hd⟩:=resD_out2 ha hh hρ hq;refine ⟨v::vs,resV T tm hp r::xs,?_,by simp [hl1],by simp [hl2],fun i x d' v' h1 h2 h3=>?_⟩
    ·simp [List.mapM_cons,hv,hvs]
    ·cases i with
     |zero=>
      simp only [List.getElem?_cons_zero,Option.some.injEq] at h1 h2 h3;subst h1 h2 h3;exact ⟨hdv,hc,fun b hb=>List.mem_append_left _ hb⟩
     |succ i=>
      obtain ⟨g1,g2,g3⟩:=hd i x d' v' (by simpa using h1) (by simpa using h2) (by simpa using h3);exact ⟨g1,g2,fun b hb=>List.mem_append_right _ (g3 b hb)⟩
omit hT in
theorem frz_get {hp:Nat->Option Blk} {n:Nat}:∀ {ns:List Nat},n∉ns->wrGet (frz hp ns) n=none
 | [],_=>rfl
 |b::r,h=>by
  have hb:n≠b:=fun e=>h (by simp [e])
  have hr:n∉r:=fun e=>h (List.mem_cons_of_mem _ e)
  simp only [frz]
  split
  ·simp only [wrGet];rw [frz_get hr]
   have:Nat.beq n b=false:=by
    cases hq:Nat.beq n b with
    |false=>rfl
    |true=>exact absurd (Nat.eq_of_beq_eq_true hq) hb
   simp [this]
  ·exact frz_get hr
open Classical in
theorem hcall_sound (hm:P.follows .mixedOrders=true) {f:FuncId} {fn:Func} {args:List AV} {pre post:List (Nat×Blk)} {d:D} (hf:P.funcs[f]?=some fn) (hc:fnChk fn args.length=true)
  (hpl:(plainVs args&&(plainH pre&&(sameN pre post&&nodupN post)))=true) (h:AFnH T P fn args pre post d):HCall P f args pre post d:=by
 simp only [Bool.and_eq_true] at hpl;obtain ⟨hpa,hph,hsn,hnd⟩:=hpl;obtain ⟨c,hb,hdst,hn,hnm⟩:=fnChk_out hc;have hok:FnOk P f:=⟨fn,hf,by rw [hb];rfl,hnm⟩;refine ⟨hok,fun s hp hs hpre=>⟨hok,fun own M ι w vs hown ha hh hxs=>calls_of_wp hf hb ?_⟩⟩;simp only [AFnH,hb] at h
 have hvl:vs.size=args.length:=by rw [hxs.1,rnVs_len]
 have hsz:vs.size<=fn.ntmps:=by rw [hvl];exact hn
 let S:Nat->Prop:=fun b=>∃ n,nmGet s n=some b
 let ι0:Inj:=fun n=>match nmGet s n with|some b=>ι b|none=>none
 let own0:Nat->Prop:=fun c=>own c/\ ∀ b L,¬S b->ι b=some (some L)->L.blk≠c
 have hι0:∀ n,ι0 n=match nmGet s n with|some b=>ι b|none=>none:=fun n=>rfl
 have hι0s:∀ n b,nmGet s n=some b->ι0 n=ι b:=fun n b e=>by rw [hι0,e]
 have hι0n:∀ n,nmGet s n=none->ι0 n=none:=fun n e=>by rw [hι0,e]
 have hpr:∀ n b,nmGet s n=some b->∃ B,stL.hpL pre n=some B/\hp b=some (rnB s B):=fun n b e=>by
  cases hx:stL.hpL pre n with
  |none=>rw [(hs.dom n).2 hx] at e;cases e
  |some B=>exact ⟨B,rfl,hpre n B b hx e⟩
 have hh0:HRel own0 M ι0 (stL.hpL pre) w:=by
  refine ⟨fun n=>?_,fun n hv=>?_,fun n B L hB hL=>?_,fun n n' L L' h1 h2 he=>?_⟩
  ·rw [<-hs.dom n]
   constructor
   ·exact hι0n n
   ·intro e
    cases hg:nmGet s n with
    |none=>rfl
    |some b=>
     rw [hι0s n b hg] at e;obtain ⟨B,_,e2⟩:=hpr n b hg
     rw [(hh.dom b).2 e] at e2;cases e2
  ·cases hg:nmGet s n with
   |none=>rw [hι0n n hg] at hv;cases hv
   |some b=>
    rw [hι0s n b hg] at hv;obtain ⟨sz,fr,e⟩:=hh.virt b hv;obtain ⟨B,e1,e2⟩:=hpr n b hg;rw [e2] at e
    cases B with
    |row l sz' fr'=>simp only [rnB,Option.some.injEq,Blk.row.injEq] at e;obtain ⟨rfl,rfl,rfl⟩:=e;exact ⟨_,_,e1⟩
    |box c fr'=>simp [rnB] at e
  ·cases hg:nmGet s n with
   |none=>rw [hι0n n hg] at hL;cases hL
   |some b=>
    rw [hι0s n b hg] at hL;obtain ⟨q1,q2⟩:=hh.at_ b (rnB s B) L (hpre n B b hB hg) hL;refine ⟨⟨q1,fun b' L' hb' hL' e=>?_⟩,unB hι0 (plainH_get hph n B hB).1 q2⟩;have:=hh.inj b' b L' L hL' hL e;exact hb' (this▸⟨n,hg⟩)
  ·cases hg:nmGet s n with
   |none=>rw [hι0n n hg] at h1;cases h1
   |some b=>
    cases hg':nmGet s n' with
    |none=>rw [hι0n n' hg'] at h2;cases h2
    |some b'=>
     rw [hι0s n b hg] at h1;rw [hι0s n' b' hg'] at h2;have:=hh.inj b b' L L' h1 h2 he;subst this;exact hs.inj n n' b hg hg'
 have hown0:∀ c,w.heap.size<=c->own0 c:=fun c hc=>⟨hown c hc,fun b L _ hL e=>by have:=hh.lt hL;omega⟩
 have hinit:ARel own0 w M ι0 fn.ntmps ⟨initA args,stL.hpL pre⟩ {tmps:=vs++Array.replicate (fn.ntmps-vs.size) undef,defers:=[]} w:=by
  refine ⟨M,ι0,.refl M,ha,.refl _ _,.refl _ _,hh0,fun _ _ _=>rfl,fun t=>?_,by simp;omega,rfl⟩;show DenA M ι0 (initA args t) ((vs++Array.replicate (fn.ntmps-vs.size) undef).getD t undef);rw [pad_getD];refine initA_den args 0 vs (fun i x v h1 h2=>unV hι0 (plainVs_get hpa x (List.mem_of_getElem? h1)) (hxs.2 i _ v ?_ (by simpa using h2))) (by rw [hvl];simp) t
  rw [rnVs_get,h1];rfl
 refine Code.wp_mono (fun e a w' hq=>?_) (AW_sound (w0:=w) (M0:=M) (ι0:=ι0) (own:=own0) hT hown0 hm c _ _ _ w hdst h hinit)
 have fin:∀ st:AState,HRet T st.tm st.hp fn.results.toList post d->ARel own0 w M ι0 fn.ntmps st a w'->
   a.defers=[] /\ ∃ v,(results fn a.tmps).run P w'=.ok v w'/\ ∃ (v':Value) (M':Mem) (ι':Inj),Ending.returned v=.returned v'/\FrameOwn own w w'/\Sub M M'/\Agree M' w'/\NewDom own M M'/\
    HRel own M' ι' (Eff.hp ⟨ofD d,rnH s post,nmGet s 1000004⟩ hp) w'/\ (∀ b,Kp (nmGet s 1000004) b->ι' b=ι b) /\DenA M' ι' (ofD d) v':=by
  intro st hret hr;obtain ⟨hres,hfar,hpost⟩:=hret;obtain ⟨M1,ι1,h1,h2,h3,h4,h5,h6,h7,h8,h9⟩:=hr
  cases hrd:resD T st.tm st.hp fn.results.toList with
  |none=>simp [hrd] at hres
  |some rs=>
   simp only [hrd,Option.map_some,Option.some.injEq] at hres;subst hres;obtain ⟨us,xs,e1,e2,e3,e4⟩:=resD_out2 hT h2 h5 h7 hrd;obtain ⟨M2,s2,a2,n2,g2,l2,f2⟩:=freezeAll (hp0:=st.hp) (openR T st.tm st.hp fn.results.toList) M1 st.hp h2 h5 (.refl _)
   have hnear:∀ n b,nmGet s n=some b->1000000<=n/\n<1000005:=fun n b e=>by
    obtain ⟨B,q,_⟩:=hpr n b e;exact (plainH_get hph n B q).2
   have hpo:∀ n b,nmGet s n=some b->∃ B,stL.hpL post n=some B/\writes st.hp (frz st.hp (openR T st.tm st.hp fn.results.toList)) n=some B:=fun n b e=>by
    cases hx:stL.hpL post n with
    |none=>
     obtain ⟨B,q,_⟩:=hpr n b e
     rw [(sameN_out hsn n).2 hx] at q;cases q
    |some B=>
     refine ⟨B,rfl,?_⟩;rw [writes_get,frz_get fun hm=>nearN_out hfar n hm (hnear n b e)];exact covH_get hpost n B hx
   let ι':Inj:=fun b=>if hb:S b then ι1 (Classical.choose hb) else ι b
   have hιs:∀ n b,nmGet s n=some b->ι' b=ι1 n:=fun n b e=>by
    have hb:S b:=⟨n,e⟩;show (if hb:S b then ι1 (Classical.choose hb) else ι b)=_;rw [dif_pos hb,hs.inj _ n b (Classical.choose_spec hb) e]
   have hιn:∀ b,¬S b->ι' b=ι b:=fun b hb=>dif_neg hb
   have hkeep:∀ b,Kp (nmGet s 1000004) b->ι' b=ι b:=fun b hb=>by
    by_cases hS:S b
    ·obtain ⟨n,e⟩:=hS;have hr:=hnear n b e
     have hne:n≠1000004:=fun e2=>by
      subst e2;rw [e] at hb;exact Kp_ne hb rfl
     rw [hιs n b e,h6 n hr.1 (by omega),hι0s n b e]
    ·exact hιn b hS
   have hpS:∀ n b B,nmGet s n=some b->stL.hpL post n=some B->Eff.hp ⟨ofD (oneD rs),rnH s post,nmGet s 1000004⟩ hp b=some (rnB s B):=fun n b B e hB=>by
    rw [eff_hp_get];simp only [rnH_some hs.inj (nodupN_out hnd) e hB]
   have hpN:∀ b,¬S b->Eff.hp ⟨ofD (oneD rs),rnH s post,nmGet s 1000004⟩ hp b=killO (nmGet s 1000004) (hp b):=fun b hb=>by
    rw [eff_hp_get];simp only [rnH_none fun n e=>hb ⟨n,e⟩]
   have hs12:=h1.trans s2;have hn12:=h3.trans n2
   have hkey:∀ b B L,Eff.hp ⟨ofD (oneD rs),rnH s post,nmGet s 1000004⟩ hp b=some B->ι' b=some (some L)->own L.blk/\BlkAt M2 ι' w' B L/\ (S b->own0 L.blk) /\ (¬S b->¬own0 L.blk):=by
    intro b B L hB hL
    by_cases hb:S b
    ·obtain ⟨n,e⟩:=hb;obtain ⟨B0,q1,q2⟩:=hpo n b e;rw [hpS n b B0 e q1,Option.some.injEq] at hB;subst hB;rw [hιs n b e] at hL;obtain ⟨k1,k2⟩:=g2.at_ n B0 L q2 hL;exact ⟨k1.1,reB (fun n b e=>hιs n b e) k2,fun _=>k1,fun h=>absurd ⟨n,e⟩ h⟩
    ·rw [hpN b hb] at hB;rw [hιn b hb] at hL
     have hno:¬own0 L.blk:=fun h=>h.2 b L hb hL rfl
     cases hx2:hp b with
     |none=>rw [hx2] at hB;unfold killO at hB;split at hB<;>cases hB
     |some B0=>
      obtain ⟨q1,q2⟩:=hh.at_ b B0 L hx2 hL
      have q3:BlkAt M2 ι w' B0 L:=q2.keep hs12 (h4.block _ hno) fun hfr o=>by
       cases hv:M2 L.blk o with
       |none=>rfl
       |some u=>
        rcases hn12 _ _ _ hv with h|h
        ·rw [hh.closed hL B0 hx2 hfr o] at h;cases h
        ·exact absurd h hno
      refine ⟨q1,?_,fun h=>absurd h hb,fun _=>hno⟩;rw [hx2] at hB;unfold killO at hB
      split at hB
      ·rename_i hk;simp only [Option.some.injEq] at hB;subst hB
       have:ι'=ι:=funext fun b=>hkeep b (by rw [hk];trivial)
       rw [this];exact q3
      ·rename_i k hk;simp only [Option.map_some,Option.some.injEq] at hB;subst hB
       exact q3.kill fun b' hb'=>hkeep b' (by rw [hk];exact hb')
   refine ⟨h9,_,results_eq fn a.tmps w' e1,_,M2,ι',rfl,⟨h4.os,h4.tape,h4.output,h4.size,fun c hc=>h4.block c fun h=>hc h.1⟩,hs12,a2,fun b o v hv=>orR (hn12 b o v hv) fun h=>h.1,
    ⟨fun b=>?_,fun b hv=>?_,fun b B L hB hL=>⟨(hkey b B L hB hL).1,(hkey b B L hB hL).2.1⟩,fun b b' L L' hL hL' heq=>?_⟩,hkeep,?_⟩
   ·by_cases hb:S b
    ·obtain ⟨n,e⟩:=hb;obtain ⟨B0,q1,q2⟩:=hpo n b e;rw [hpS n b B0 e q1,hιs n b e]
     constructor
     ·intro h;cases h
     ·intro h;rw [(g2.dom n).2 h] at q2;cases q2
    ·rw [hpN b hb,hιn b hb,<-hh.dom b];unfold killO
     split
     ·rfl
     ·cases hp b<;>simp
   ·by_cases hb:S b
    ·obtain ⟨n,e⟩:=hb;obtain ⟨B0,q1,q2⟩:=hpo n b e;rw [hιs n b e] at hv;obtain ⟨sz,fr,e0⟩:=g2.virt n hv;rw [q2,Option.some.injEq] at e0;subst e0;exact ⟨sz,fr,hpS n b _ e q1⟩
    ·rw [hιn b hb] at hv;obtain ⟨sz,fr,e0⟩:=hh.virt b hv;rw [hpN b hb,e0];refine ⟨sz,fr,?_⟩;unfold killO
     split<;>rfl
   ·have get:∀ b L,ι' b=some (some L)->∃ B,Eff.hp ⟨ofD (oneD rs),rnH s post,nmGet s 1000004⟩ hp b=some B:=fun b L hL=>by
     by_cases hb:S b
     ·obtain ⟨n,e⟩:=hb;obtain ⟨B0,q1,_⟩:=hpo n b e;exact ⟨_,hpS n b B0 e q1⟩
     ·rw [hιn b hb] at hL
      cases hx:hp b with
      |none=>rw [(hh.dom b).1 hx] at hL;cases hL
      |some B=>
       rw [hpN b hb,hx];unfold killO
       split<;>exact ⟨_,rfl⟩
    obtain ⟨B,hB⟩:=get b L hL;obtain ⟨B',hB'⟩:=get b' L' hL';have q:=(hkey b B L hB hL).2.2;have q':=(hkey b' B' L' hB' hL').2.2
    by_cases hb:S b
    ·by_cases hb':S b'
     ·obtain ⟨n,e⟩:=hb;obtain ⟨n',e'⟩:=hb';rw [hιs n b e] at hL;rw [hιs n' b' e'] at hL';have:=g2.inj n n' L L' hL hL' heq;subst this
      rw [e] at e';exact Option.some.inj e'
     ·exact absurd (heq▸q.1 hb) (q'.2 hb')
    ·by_cases hb':S b'
     ·exact absurd (heq▸q'.1 hb') (q.2 hb)
     ·rw [hιn b hb] at hL;rw [hιn b' hb'] at hL';exact hh.inj b b' L L' hL hL' heq
   ·refine ofD_den (oneD_den e2 fun i d v q1 q2=>?_)
    have hx:xs[i]?=some (xs[i]'(by rw [e3];exact (List.getElem?_eq_some_iff.1 q1).1)):=by simp
    obtain ⟨p1,p2,p3⟩:=e4 i _ d v hx q1 q2;exact den_conv g2 (by rw [conv_frz l2];exact p2) (openNames_frz (fun b l sz fr hb he=>f2 b l sz fr (.inl hb) he) l2 _ p3) (p1.mono s2)
 cases e with
 |normal=>obtain ⟨st,k1,k2⟩:=hq;exact fin st k1 k2
 |ret=>obtain ⟨st,k1,k2⟩:=hq;exact fin st k1 k2
 |exit i=>obtain ⟨st,k1,k2⟩:=hq;exact k1.elim
 |goto l=>exact hq.elim
 |panic ch=>exact hq.elim
 |outgrown=>exact hq.elim
end
def keysN:List (Nat×Nat)->List (Nat×Blk)->Bool
 | [],[]=>true
 |(n,_)::r,(m,_)::q=>bif Nat.beq n m then keysN r q else false
 |_,_=>false
def valsN:List (Nat×Nat)->Bool
 | []=>true
 |(_,b)::r=>bif r.all fun p=>!Nat.beq b p.2 then valsN r else false
theorem nmGet_mem:∀ {s:List (Nat×Nat)} {n b:Nat},nmGet s n=some b->(n,b)∈s
 | [],_,_,h=>by cases h
 |(a,c)::r,n,b,h=>by
  simp only [nmGet] at h
  cases hb:Nat.beq n a with
  |true=>
   simp only [hb,cond_true,Option.some.injEq] at h
   rw [Nat.eq_of_beq_eq_true hb,h];exact List.mem_cons_self ..
  |false=>
   simp only [hb,cond_false] at h;exact List.mem_cons_of_mem _ (nmGet_mem h)
theorem nmOk_of {s:List (Nat×Nat)} {pre:List (Nat×Blk)} (h:(keysN s pre&&valsN s)=true):NmOk s pre:=by
 simp only [Bool.and_eq_true] at h;obtain ⟨hk,hv⟩:=h
 constructor
 ·clear hk
  induction s with
  |nil=>intro n n' b h;cases h
  |cons p r ih=>
   obtain ⟨a,c⟩:=p;simp only [valsN] at hv
   cases hc:(r.all fun p=>!Nat.beq c p.2) with
   |false=>simp [hc] at hv
   |true=>
    simp only [hc,cond_true] at hv
    have hno:∀ {m b:Nat},nmGet r m=some b->b≠c:=fun {m b} hm e=>by
     have:=(List.all_eq_true.1 hc) _ (nmGet_mem hm);subst e;simp at this
    intro n n' b h1 h2;simp only [nmGet] at h1 h2
    cases q1:Nat.beq n a with
    |true=>
     simp only [q1,cond_true,Option.some.injEq] at h1
     cases q2:Nat.beq n' a with
     |true=>rw [Nat.eq_of_beq_eq_true q1,Nat.eq_of_beq_eq_true q2]
     |false=>
      simp only [q2,cond_false] at h2;exact absurd h1.symm (hno h2)
    |false=>
     simp only [q1,cond_false] at h1
     cases q2:Nat.beq n' a with
     |true=>
      simp only [q2,cond_true,Option.some.injEq] at h2;exact absurd h2.symm (hno h1)
     |false=>
      simp only [q2,cond_false] at h2;exact ih hv n n' b h1 h2
 ·clear hv
  induction s generalizing pre with
  |nil=>cases pre with
   |nil=>intro n;simp [nmGet,stL.hpL]
   |cons _ _=>simp [keysN] at hk
  |cons p r ih=>
   cases pre with
   |nil=>obtain ⟨a,c⟩:=p;simp [keysN] at hk
   |cons q t=>
    obtain ⟨a,c⟩:=p;obtain ⟨m,B⟩:=q;simp only [keysN] at hk
    cases hb:Nat.beq a m with
    |false=>simp [hb] at hk
    |true=>
     simp only [hb,cond_true] at hk;have:=Nat.eq_of_beq_eq_true hb;subst this;intro n;simp only [nmGet,stL.hpL]
     cases Nat.beq n a with
     |true=>simp
     |false=>exact ih hk n
theorem pre_cov {s:List (Nat×Nat)} {hp:Nat->Option Blk}:∀ {pre:List (Nat×Blk)},covH hp (rnH s pre)->∀ n B b,stL.hpL pre n=some B->nmGet s n=some b->hp b=some (rnB s B)
 | [],_,n,B,b,h,_=>by cases h
 |(m,C)::r,hc,n,B,b,h,hg=>by
  simp only [stL.hpL] at h;simp only [rnH] at hc
  cases hb:Nat.beq n m with
  |true=>
   simp only [hb,cond_true,Option.some.injEq] at h;subst h;rw [<-Nat.eq_of_beq_eq_true hb,hg] at hc;exact hc.1
  |false=>
   simp only [hb,cond_false] at h
   cases hq:nmGet s m with
   |none=>rw [hq] at hc;exact pre_cov hc n B b h hg
   |some b'=>rw [hq] at hc;exact pre_cov hc.2 n B b h hg
theorem callX_blk {P:Program} {f:FuncId} {args xs:List AV} {pre post:List (Nat×Blk)} {d:D} {hp:Nat->Option Blk} {dst:Option Tmp} {ds:List D} {ns:List Nat} {K:Eff->Prop} (H:HCall P f args pre post d) (s:List (Nat×Nat))
  (hs:(keysN s pre&&valsN s)=true) (hc:covH hp (rnH s pre)) (hx:rnVs s args=xs) (k:K ⟨ofD d,rnH s post,nmGet s 1000004⟩):callX P f true xs hp dst ds ns K:=
 callX_heap (hx▸H.2 s hp (nmOk_of hs) (pre_cov hc)) k
theorem callH_blk {P:Program} {f:FuncId} {args xs:List AV} {pre post:List (Nat×Blk)} {d:D} {hp:Nat->Option Blk} {K:Eff->Prop} (H:HCall P f args pre post d) (s:List (Nat×Nat))
  (hs:(keysN s pre&&valsN s)=true) (hc:covH hp (rnH s pre)) (hx:rnVs s args=xs) (k:K ⟨ofD d,rnH s post,nmGet s 1000004⟩):callH P f xs hp K:=
 callH_of (hx▸H.2 s hp (nmOk_of hs) (pre_cov hc)) k
theorem hret_of {T:Tab} {tm:Nat->AV} {hp:Nat->Option Blk} {rs:List ResultVar} {post:List (Nat×Blk)} {d d':D} (h:(resD T tm hp rs).map oneD=some d') (e:d'=d) (f:nearN (openR T tm hp rs)=true) (p:covH hp post):HRet T tm hp rs post d:=⟨by rw [h,e],f,p⟩
end Go.Lk
