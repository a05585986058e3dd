/-
  What is proved here: what functions of the program compute, and what follows; no condition beyond each theorem's own.
-/
import Derived.Test.YtaofmndhdmkgkaaGreatGAg
import Derived.Scope
set_option linter.unusedSimpArgs false
set_option linter.unusedVariables false
set_option linter.unnecessarySimpa false
set_option linter.unusedSectionVars false
namespace Go.Lk
open Go Go.RowKit
section
variable {own:Nat->Prop} {w0:World} {M0:Mem} {ι0:Inj} {N:Nat}
variable {P:Program} {T:Tab} (hT:zFo P T)
def CQ (own:Nat->Prop) (w0:World) (M0:Mem) (ι0:Inj) (N:Nat) (Q:zHy->zAo->Prop):Exit->Act->World->Prop
 | .normal,a,w=>∃ st,Q .normal st/\ARel own w0 M0 ι0 N st a w
 | .exit i,a,w=>∃ st,Q (.exit i) st/\ARel own w0 M0 ι0 N st a w
 | .ret,a,w=>∃ st,Q .ret st/\ARel own w0 M0 ι0 N st a w
 |_,_,_=>False
def dstL (N:Nat):List Oper->Bool
 | []=>true
 |o::r=>match o.dst with
  |some d=>bif Nat.blt d N then dstL N r else false
  |none=>dstL N r
def zGs (N:Nat):Code->Bool
 | .region _ ops _=>dstL N ops.toList
 | .seq a b=>bif zGs N a then zGs N b else false
 | .cond _ a b=>bif zGs N a then zGs N b else false
 | .block _ c=>zGs N c
 | .loop c=>zGs N c
 | .rangeFunc _ _ a b=>bif zGs N a then zGs N b else false
 | .scope c=>zGs N c
 |_=>true
theorem z8q {N:Nat}:∀ {l:List Oper},dstL N l=true->∀ o∈l,z7s N o
 | [],_,o,ho=>by cases ho
 |x::r,h,o,ho=>by
  simp only [dstL] at h
  cases hx:x.dst with
  |none=>
   simp only [hx] at h
   cases ho with
   |head=>intro d hd;rw [hx] at hd;cases hd
   |tail _ ho=>exact z8q h o ho
  |some d=>
   simp only [hx] at h
   cases hb:Nat.blt d N with
   |false=>simp [hb] at h
   |true=>
    simp only [hb,cond_true] at h
    cases ho with
    |head=>intro d' hd;rw [hx] at hd;cases hd;exact Nat.le_of_ble_eq_true hb
    |tail _ ho=>exact z8q h o ho
include hT in
theorem zJw (hown:∀ c,w0.heap.size<=c->own c) (hm:P.follows .mixedOrders=true):∀ (c:Code) (Q:zHy->zAo->Prop) (st:zAo) (a:Act) (w:World),zGs N c=true->AW T P c st Q->ARel own w0 M0 ι0 N st a w->c.wp P (CQ own w0 M0 ι0 N Q) a w:=by
 intro c
 induction c with
 |skip=>exact fun Q st a w _ h hr=>wp_skip ⟨st,h,hr⟩
 |region id ops draw=>
  intro Q st a w hd h hr
  have hdo:∀ o∈ops,z7s N o:=fun o ho=>z8q hd o (by simpa using ho)
  rw [yIf] at h;simp only [yAn] at h
  cases draw with
  |true=>
   obtain ⟨tm,hp⟩:=st;exact z7q hT hown (fun st a w k r=>⟨st,k,r⟩) hdo hm id h hr
  |false=>
   refine wp_region ?_;have:=zQt hT hown (Q:=CQ own w0 M0 ι0 N Q) (fun st a w k r=>⟨st,k,r⟩) hdo ops.toList 0 st a w rfl h hr;rw [List.range_eq_range']
   simpa using this
 |seq x y ih1 ih2=>
  intro Q st a w hd h hr;simp only [zGs] at hd
  cases h1:zGs N x with
  |false=>simp [h1] at hd
  |true=>
   simp only [h1,cond_true] at hd;rw [AW_seq] at h;refine wp_seq (Code.wp_mono (fun e a' w' hq=>?_) (ih1 _ st a w h1 h hr))
   cases e with
   |normal=>obtain ⟨st',k1,k2⟩:=hq;exact ih2 Q st' a' w' hd k1 k2
   |exit i=>exact hq
   |ret=>exact hq
   |goto l=>exact hq.elim
   |panic ch=>exact hq.elim
   |outgrown=>exact hq.elim
 |cond o x y ih1 ih2=>
  intro Q st a w hd h hr;simp only [zGs] at hd
  cases h1:zGs N x with
  |false=>simp [h1] at hd
  |true=>
   simp only [h1,cond_true] at hd;obtain ⟨tm,hp⟩:=st;rw [yVb] at h;simp only [yVv] at h
   have hden:∃ M ι,DenA M ι (evT tm o) (a.eval o):=by
    obtain ⟨M,ι,g1,g2,g3,g4,g5,g6,g7,g8,g9⟩:=hr;exact ⟨M,ι,zVe g7 o⟩
   obtain ⟨M,ι,hden⟩:=hden
   split at h
   ·rename_i hx;exact wp_cond_true ((zIz hden).1 hx) (ih1 Q _ a w h1 h hr)
   ·rename_i hx;exact wp_cond_false ((zIz hden).2 hx) (ih2 Q _ a w hd h hr)
   ·rename_i b hx
    rcases bcase_out h with ⟨rfl,k⟩|⟨rfl,k⟩
    ·exact wp_cond_true (den_bool (hx▸hden)) (ih1 Q _ a w h1 k hr)
    ·exact wp_cond_false (den_bool (hx▸hden)) (ih2 Q _ a w hd k hr)
   ·exact h.elim
 |block id x ih=>
  intro Q st a w hd h hr;rw [yPd] at h;refine wp_block (Code.wp_mono (fun e a' w' hq=>?_) (ih _ st a w hd h hr))
  cases e with
  |normal=>exact hq
  |exit i=>
   obtain ⟨st',k1,k2⟩:=hq
   replace k1:bif Nat.beq i id then Q .normal st' else Q (.exit i) st':=k1
   simp only [Exit.inBlock]
   cases hb:Nat.beq i id with
   |true=>
    have:=Nat.eq_of_beq_eq_true hb;subst this;rw [hb] at k1;rw [if_pos rfl];exact ⟨st',k1,k2⟩
   |false=>
    rw [hb] at k1;rw [if_neg (fun e=>by subst e;simp at hb)];exact ⟨st',k1,k2⟩
  |ret=>exact hq
  |goto l=>exact hq.elim
  |panic ch=>exact hq.elim
  |outgrown=>exact hq.elim
 |loop x ih=>
  intro Q st a w hd h hr;rw [AW_loop] at h;replace h:=h.out;obtain ⟨J,S,R,μ,⟨j,hj,hle⟩,hround⟩:=h
  have key:∀ (n:Nat) (j:J) (a:Act) (w:World),R j->μ j<n->ARel own w0 M0 ι0 N (S j) a w->Code.rounds P x (CQ own w0 M0 ι0 N Q) n a w:=by
   intro n
   induction n with
   |zero=>intro j a w _ hn;omega
   |succ n ihn=>
    intro j a w hj hn hrel;rw [rounds_succ];refine Code.wp_mono (fun e a' w' hq=>?_) (ih _ (S j) a w hd (hround j hj) hrel)
    cases e with
    |normal=>
     obtain ⟨st',⟨j',g1,g2,g3⟩,k2⟩:=hq;exact ihn j' a' w' g1 (by omega) (k2.leN g3)
    |exit i=>exact hq
    |ret=>exact hq
    |goto l=>exact hq.elim
    |panic ch=>exact hq.elim
    |outgrown=>exact hq.elim
  exact wp_loop_rounds (μ j+1) (key _ j a w hj (Nat.lt_succ_self _) (hr.leN hle))
 |rangeFunc f ps x y _ _=>exact fun Q st a w _ h=>h.elim
 |exit id=>exact fun Q st a w _ h hr=>wp_exit ⟨st,h,hr⟩
 |scope x ih=>
  intro Q st a w hd h hr;rw [yPe] at h;refine wp_scope_straight (Code.wp_mono (fun e a' w' hq=>?_) (ih Q st a w hd h hr))
  cases e with
  |goto l=>exact hq.elim
  |normal=>exact hq
  |exit i=>exact hq
  |ret=>exact hq
  |panic ch=>exact hq
  |outgrown=>exact hq
 |label l=>exact fun Q st a w _ h hr=>wp_label ⟨st,h,hr⟩
 |goto l=>exact fun Q st a w _ h=>h.elim
 |ret=>exact fun Q st a w _ h hr=>wp_ret ⟨st,h,hr⟩
 |refuse y=>exact fun Q st a w _ h=>h.elim
end
section
variable {P:Program} {T:Tab} (hT:zFo P T)
def resRun (tmps:Array Value):ResultVar->Sem Value
 | .tmp t=>pure (tmps.getD t undef)
 | .cell a t=>do loadVar t (<-asAddr (tmps.getD a undef))
theorem zFz (fn:Func) (tmps:Array Value) (w:World) {vs:List Value} (h:(fn.results.toList.mapM (resRun tmps)).run P w=.ok vs w):
  (results fn tmps).run P w=.ok (if h:vs.toArray.size=1 then vs.toArray[0] else .tuple vs.toArray) w:=by
 have e:results fn tmps=(do let vs <-fn.results.mapM (resRun tmps);pure (if h:vs.size=1 then vs[0] else .tuple vs)):=by
  unfold results
  congr 1
 rw [e];simp only [Array.mapM_eq_mapM_toList,Sem.run_bind,Sem.run_map,h,Result.andThen_ok,Sem.run_pure]
include hT in
theorem z2n {own:Nat->Prop} {M:Mem} {ι:Inj} {hp:Nat->Option Blk} {w:World} {tm:Nat->AV} {tmps:Array Value} (ha:zBj M w) (hh:HRel own M ι hp w) (hρ:∀ t,DenA M ι (tm t) (tmps.getD t undef)) (r:ResultVar) (hc:conv hp (resV T tm hp r)≠none):
  ∃ v,(resRun tmps r).run P w=.ok v w/\DenA M ι (resV T tm hp r) v:=by
 cases r with
 |tmp t=>exact ⟨_,rfl,hρ t⟩
 |cell a t=>
  simp only [resV] at hc⊢
  split at hc
  ·rename_i b i j hx
   split at hc
   ·rename_i c fr hb
    cases hk:((T t).k.known&&Nat.beq i 0) with
    |false=>simp [hk,conv] at hc
    |true=>
     simp only [hk,cond_true] at hc⊢;simp only [Bool.and_eq_true] at hk;have hi:=Nat.eq_of_beq_eq_true hk.2;subst hi
     have hl:yLz T t (.ptr b 0 j) hp (fun av=>av=(bif (T t).k.agg then (bif Nat.ble (j+(T t).size) c.length then .agg ((c.drop j).take (T t).size) else .dead) else (match c[j]? with|some x=>x|none=>.dead))):=by
      simp only [yLz,hk.1,cond_true,yXa,hb];refine zAh (by trivial) ?_;unfold z6o
      cases hag:(T t).k.agg with
      |true=>
       simp only [hag,cond_true] at hc⊢
       cases hle:Nat.ble (j+(T t).size) c.length with
       |false=>simp [hle,conv] at hc
       |true=>
        simp only [hle,cond_true] at hc⊢
        have:∀ (l:List AV) (K:List AV->Prop),conv.cells hp l≠none->K l->forceL l K:=by
         intro l
         induction l with
         |nil=>intro K _ hK;exact hK
         |cons x r ih=>
          intro K h1 hK;simp only [conv.cells] at h1
          have h2:conv.one hp x≠none:=by intro e;simp [e] at h1
          have h3:conv.cells hp r≠none:=by intro e;simp [e] at h1
          simp only [forceL]
          have:∀ K':AV->Prop,K' x->force x K':=by
           intro K' hK'
           cases x<;>first|exact hK'|exact absurd rfl h2
          exact this _ (ih _ h3 hK)
        refine this _ _ ?_ rfl;intro e;simp [conv,e] at hc
      |false=>
       simp only [hag,cond_false] at hc⊢;simp only [getC]
       cases hx2:c[j]? with
       |none=>simp [hx2,conv] at hc
       |some x=>
        simp only [hx2] at hc⊢
        cases x<;>first|rfl|exact absurd rfl hc
     obtain ⟨av,hav,hld⟩:=z5x hT hl;have hv:=hρ a;rw [hx] at hv;obtain ⟨r,hr,hd⟩:=hld own M ι w _ ha hh hv;refine ⟨r,?_,hav▸hd⟩;generalize hgv:tmps.getD a undef=u at hv hr
     cases hv with
     |ptr _ _ _ L hL=>
      simp only [resRun,hgv]
      simpa [Instr.loadAt,Instr.sureAddr,asAddr] using hr
     |ptrL _ _ _ _ hL=>rw [(hh.dom b).2 hL] at hb;cases hb
   ·exact absurd rfl hc
  ·exact absurd rfl hc
include hT in
theorem yEq {own:Nat->Prop} {M:Mem} {ι:Inj} {hp:Nat->Option Blk} {w:World} {tm:Nat->AV} {tmps:Array Value} (ha:zBj M w) (hh:HRel own M ι hp w) (hρ:∀ t,DenA M ι (tm t) (tmps.getD t undef)):
  ∀ {rs:List ResultVar} {ds:List D},resD T tm hp rs=some ds->∃ (vs:List Value) (xs:List AV) (ns:List Nat),(rs.mapM (resRun tmps)).run P w=.ok vs w/\vs.length=ds.length/\xs.length=ds.length/\
   ∀ (i:Nat) (x:AV) (d:D) (v:Value),xs[i]?=some x->ds[i]?=some d->vs[i]?=some v->DenA M ι x v/\conv hp x=some d/\ ∀ b∈zAp hp x,b∈ns
 | [],ds,h=>by
  simp only [resD,Option.some.injEq] at h;subst h;exact ⟨[],[],[],rfl,rfl,rfl,fun i x d v h=>by simp at h⟩
 |r::q,ds,h=>by
  simp only [resD] at h
  cases hc:conv hp (resV T tm hp r) with
  |none=>simp [hc] at h
  |some d=>
   cases hq:resD T tm hp q with
   |none=>simp [hc,hq] at h
   |some ds'=>
    simp only [hc,hq,Option.some.injEq] at h;subst h;obtain ⟨v,hv,hdv⟩:=z2n hT ha hh hρ r (by rw [hc];simp);obtain ⟨vs,xs,ns,hvs,hl1,hl2,hd⟩:=yEq ha hh hρ hq;refine ⟨v::vs,resV T tm hp r::xs,zAp hp (resV T tm hp r)++ns,?_,by simp [hl1],by simp [hl2],fun i x d' v' h1 h2 h3=>?_⟩
    ·simp [List.mapM_cons,hv,hvs]
    ·cases i with
     |zero=>
      simp only [List.getElem?_cons_zero,Option.some.injEq] at h1 h2 h3;subst h1 h2 h3;exact ⟨hdv,hc,fun b hb=>List.mem_append_left _ hb⟩
     |succ i=>
      obtain ⟨g1,g2,g3⟩:=hd i x d' v' (by simpa using h1) (by simpa using h2) (by simpa using h3);exact ⟨g1,g2,fun b hb=>List.mem_append_right _ (g3 b hb)⟩
def zNe (fn:Func) (n:Nat):Bool:=
 match fn.body with
 |some c=>zGs fn.ntmps c&&Nat.ble n fn.ntmps&&!(fn.name== "runtime.NumGoroutine")
 |none=>false
theorem zHk {fn:Func} {n:Nat} (h:zNe fn n=true):∃ c,fn.body=some c/\zGs fn.ntmps c=true/\n<=fn.ntmps/\ (fn.name== "runtime.NumGoroutine")=false:=by
 unfold zNe at h
 split at h
 ·rename_i c hc;simp only [Bool.and_eq_true,Bool.not_eq_true',Nat.ble_eq] at h;exact ⟨c,hc,h.1.1,h.1.2,h.2⟩
 ·cases h
theorem zZd {M:Mem} {ι:Inj}:∀ (ds:List D) (n:Nat) (vs:Array Value),(∀ (i:Nat) (d:D) (v:Value),ds[i]?=some d->vs[n+i]?=some v->DenD M d v)->vs.size=n+ds.length->∀ t,DenA M ι (zSt.go n ds t) (vs.getD t undef)
 | [],n,vs,h,hl,t=>.dead _
 |d::r,n,vs,h,hl,t=>by
  simp only [zSt.go]
  by_cases e:t=n
  ·subst e;rw [upd_same]
   have hlt:t<vs.size:=by rw [hl];simp
   have:vs[t]?=some vs[t]:=by simp [hlt]
   have hg:vs.getD t undef=vs[t]:=by simp [Array.getD,hlt]
   rw [hg];exact z1y (h 0 d _ (by simp) (by simpa using this))
  ·rw [zAl _ _ e];exact zZd r (n+1) vs (fun i d' v h1 h2=>h (i+1) d' v (by simpa using h1) (by rw [show n+(i+1)=n+1+i by omega];exact h2)) (by rw [hl];simp;omega) t
theorem zU (vs:Array Value) (n t:Nat):(vs++Array.replicate n undef).getD t undef=vs.getD t undef:=by
 rw [Array.getD_eq_getD_getElem?,Array.getD_eq_getD_getElem?]
 by_cases h:t<vs.size
 ·rw [Array.getElem?_append_left h]
 ·rw [Array.getElem?_append_right (by omega),Array.getElem?_eq_none (xs:=vs) (by omega),Array.getElem?_replicate]
  split<;>rfl
theorem zTv {ds:List D} {w:World} {M:Mem} {vs:Array Value} {n:Nat} (ha:zBj M w) (hds:zUj M ds vs) (hn:vs.size<=n):
  ARel (fun c=>w.heap.size<=c) w M (fun _=>none) n ⟨zSt ds,fun _=>none⟩ {tmps:=vs++Array.replicate (n-vs.size) undef,defers:=[]} w:=by
 refine ⟨M,fun _=>none,.refl M,ha,.refl _ _,.refl _ _,⟨fun _=>⟨fun _=>rfl,fun _=>rfl⟩,fun b h=>(by cases h),fun b B L h=>(by cases h),fun b b' L L' h=>(by cases h)⟩,fun _ _ _=>rfl,fun t=>?_,by simp;omega,rfl⟩;show DenA M _ (zSt ds t) ((vs++Array.replicate (n-vs.size) undef).getD t undef);rw [zU];exact zZd ds 0 vs (fun i d v h1 h2=>hds.2 i d v h1 (by simpa using h2)) (by simpa using hds.1) t
theorem yDz {M:Mem} {ds:List D} {vs:List Value} (hl:vs.length=ds.length) (hd:∀ (i:Nat) (d:D) (v:Value),ds[i]?=some d->vs[i]?=some v->DenD M d v):
  DenD M (oneD ds) (if h:vs.toArray.size=1 then vs.toArray[0] else .tuple vs.toArray):=by
 by_cases h1:vs.length=1
 ·rw [dif_pos (by simpa using h1)];obtain ⟨v,rfl⟩:=List.length_eq_one_iff.1 h1;obtain ⟨d,rfl⟩:=List.length_eq_one_iff.1 (hl.symm.trans h1);exact hd 0 d v rfl rfl
 ·rw [dif_neg (by simpa using h1)]
  have:oneD ds=.tup ds:=by
   unfold oneD
   split
   ·rename_i d;rw [hl] at h1;exact absurd rfl h1
   ·rfl
  rw [this]
  exact .tup ds _ (by simpa using hl) fun i d v h1 h2=>hd i d v h1 (by simpa using h2)
include hT in
theorem z7t (hm:P.follows .mixedOrders=true) {f:FuncId} {fn:Func} {ds:List D} {d:D} (hf:P.funcs[f]?=some fn) (hc:zNe fn ds.length=true) (h:AFn T P fn ds d):zAj P f ds d:=by
 obtain ⟨c,hb,hdst,hn,hnm⟩:=zHk hc;refine ⟨⟨fn,hf,by rw [hb];rfl,hnm⟩,fun w M vs ha hds=>calls_of_wp hf hb ?_⟩;simp only [AFn,hb] at h
 have hsz:vs.size<=fn.ntmps:=by rw [hds.1];exact hn
 refine Code.wp_mono (fun e a w' hq=>?_) (zJw (w0:=w) (M0:=M) (ι0:=fun _=>none) (own:=fun c=>w.heap.size<=c) hT (fun _ h=>h) hm c _ _ _ w hdst h (zTv ha hds hsz))
 have fin:∀ st:zAo,(resD T st.tm st.hp fn.results.toList).map oneD=some d->ARel (fun c=>w.heap.size<=c) w M (fun _=>none) fn.ntmps st a w'->
   a.defers=[] /\ ∃ v,(results fn a.tmps).run P w'=.ok v w'/\ ∃ (v':Value) (M':Mem),Ending.returned v=.returned v'/\Below w.heap.size w w'/\Sub M M'/\zBj M' w'/\zTf w M M'/\DenD M' d v':=by
  intro st hres hr;obtain ⟨M1,ι,h1,h2,h3,h4,h5,h6,h7,h8,h9⟩:=hr
  cases hrd:resD T st.tm st.hp fn.results.toList with
  |none=>simp [hrd] at hres
  |some rs=>
   simp only [hrd,Option.map_some,Option.some.injEq] at hres;subst hres;obtain ⟨us,xs,ns,e1,e2,e3,e4⟩:=yEq hT h2 h5 h7 hrd;obtain ⟨M2,s2,a2,n2,g2,l2,f2⟩:=zHm (hp0:=st.hp) ns M1 st.hp h2 h5 (.refl _);refine ⟨h9,_,zFz fn a.tmps w' e1,_,M2,rfl,⟨h4.os,h4.tape,h4.output,h4.size,fun c hc=>h4.block c (by omega)⟩,h1.trans s2,a2,fun b o v hv=>(h3.trans n2) b o v hv,?_⟩
   refine yDz e2 fun i d v q1 q2=>?_
   have hx:xs[i]?=some (xs[i]'(by rw [e3];exact (List.getElem?_eq_some_iff.1 q1).1)):=by simp
   obtain ⟨p1,p2,p3⟩:=e4 i _ d v hx q1 q2;exact zTq g2 (by rw [zTo l2];exact p2) (zEa (fun b l sz fr hb he=>f2 b l sz fr (.inl hb) he) l2 _ p3) (p1.mono s2)
 cases e with
 |normal=>obtain ⟨st,k1,k2⟩:=hq;exact fin st k1 k2
 |ret=>obtain ⟨st,k1,k2⟩:=hq;exact fin st k1 k2
 |exit i=>obtain ⟨st,k1,k2⟩:=hq;exact k1.elim
 |goto l=>exact hq.elim
 |panic ch=>exact hq.elim
 |outgrown=>exact hq.elim
include hT in
theorem yAe (hm:P.follows .mixedOrders=true) {f:FuncId} {fn:Func} {ds:List D} {l:List (List D)} {sz:Nat} (hf:P.funcs[f]?=some fn) (hc:zNe fn ds.length=true) (h:AFnO T P fn ds l sz):zDt P f ds l sz:=by
 obtain ⟨c,hb,hdst,hn,hnm⟩:=zHk hc;refine ⟨⟨fn,hf,by rw [hb];rfl,hnm⟩,fun w M vs ha hds=>calls_of_wp hf hb ?_⟩;simp only [AFnO,hb] at h
 have hsz:vs.size<=fn.ntmps:=by rw [hds.1];exact hn
 refine Code.wp_mono (fun e a w' hq=>?_) (zJw (w0:=w) (M0:=M) (ι0:=fun _=>none) (own:=fun c=>w.heap.size<=c) hT (fun _ h=>h) hm c _ _ _ w hdst h (zTv ha hds hsz))
 have fin:∀ st:zAo,(∃ t,fn.results.toList=[.tmp t] /\ ((∃ b,st.tm t=.own b/\st.hp b=some (.row l sz false)) \/ (st.tm t=.nil/\l=[])))->ARel (fun c=>w.heap.size<=c) w M (fun _=>none) fn.ntmps st a w'->
   a.defers=[] /\ ∃ v,(results fn a.tmps).run P w'=.ok v w'/\ ∃ (v':Value) (M':Mem),Ending.returned v=.returned v'/\Below w.heap.size w w'/\Sub M M'/\zBj M' w'/\zTf w M M'/\
    ((l=[] /\ ∃ a,v'=.slice a 0 0) \/ ∃ (c cap:Nat) (cs:Array Value) (T:TypeId),w.heap.size<=c/\v'=.slice (some ⟨c,0,none⟩) l.length cap/\l.length<=cap/\
    cap*sz<=cs.size/\w'.heap[c]?=some (.cells cs T (0,0)) /\zGv M' cs l sz/\ ∀ o,M' c o=none):=by
  intro st hres hr;obtain ⟨M1,ι,h1,h2,h3,h4,h5,h6,h7,h8,h9⟩:=hr;obtain ⟨t,ht,hval⟩:=hres
  have hrun:(fn.results.toList.mapM (resRun a.tmps)).run P w'=.ok [a.tmps.getD t undef] w':=by
   rw [ht];simp [List.mapM_cons,resRun]
  refine ⟨h9,_,zFz fn a.tmps w' hrun,a.tmps.getD t undef,M1,rfl,⟨h4.os,h4.tape,h4.output,h4.size,fun c hc=>h4.block c (by omega)⟩,h1,h2,fun b o v hv=>h3 b o v hv,?_⟩;have hv:=h7 t
  rcases hval with ⟨b,e1,e2⟩|⟨e1,e2⟩
  ·rw [e1] at hv;generalize a.tmps.getD t undef=v at hv
   cases hv with
   |own _ L cap hL hn2 hc2=>
    obtain ⟨q1,cs,Ty,q2,q3,q4,q5,q6,q7,q8⟩:=h5.at_ b _ L e2 hL;exact .inr ⟨L.blk,cap,cs,Ty,q1,by rw [q5],by rw [q5];exact hn2,by rw [q4,q3];exact hc2,q2,q7,q8.2 rfl⟩
   |ownE _ a0 hL=>
    obtain ⟨sz2,fr2,e0⟩:=h5.virt b hL
    rw [e2] at e0;cases e0
    exact .inl ⟨rfl,a0,rfl⟩
   |ownL _ _ hL=>rw [(h5.dom b).2 hL] at e2;cases e2
  ·rw [e1] at hv;generalize a.tmps.getD t undef=v at hv
   cases hv with
   |nil a0=>exact .inl ⟨e2,a0,rfl⟩
 cases e with
 |normal=>obtain ⟨st,k1,k2⟩:=hq;exact fin st k1 k2
 |ret=>obtain ⟨st,k1,k2⟩:=hq;exact fin st k1 k2
 |exit i=>obtain ⟨st,k1,k2⟩:=hq;exact k1.elim
 |goto l=>exact hq.elim
 |panic ch=>exact hq.elim
 |outgrown=>exact hq.elim
omit hT in
theorem zKh {hp:Nat->Option Blk}:∀ {c:List AV} {cs:List SC} {seen:List Nat},zGi hp seen c cs->conv.cells hp c≠none
 | [],[],_,_=>by simp [conv.cells]
 |x::c,.d d::s,seen,h=>by
  simp only [zGi] at h;have:=zKh h.2
  have h1:conv.one hp x≠none:=by
   cases x<;>simp [conv.pure1] at h<;>simp [conv.one]
  simp only [conv.cells]
  cases h2:conv.one hp x with
  |none=>exact absurd h2 h1
  |some y=>
   cases h3:conv.cells hp c with
   |none=>exact absurd h3 this
   |some z=>simp
 |x::c,.row l sz::s,seen,h=>by
  simp only [zGi] at h
  have hc:conv.cells hp c≠none:=by
   rcases h with ⟨b,_,_,_,h⟩|⟨_,_,h⟩
   ·exact zKh h
   ·exact zKh h
  have h1:conv.one hp x≠none:=by
   rcases h with ⟨b,rfl,h,_⟩|⟨rfl,_,_⟩
   ·simp [conv.one,h]
   ·simp [conv.one]
  simp only [conv.cells]
  cases h2:conv.one hp x with
  |none=>exact absurd h2 h1
  |some y=>
   cases h3:conv.cells hp c with
   |none=>exact absurd h3 hc
   |some z=>simp
 | [],_::_,_,h=>by simp [zGi] at h
 |_::_,[],_,h=>by simp [zGi] at h
omit hT in
theorem zJo {hp:Nat->Option Blk}:∀ {c:List AV} {cs:List SC} {seen:List Nat},zGi hp seen c cs->c.length=cs.length/\
  (∀ (i:Nat) (s:SC),cs[i]?=some s->∃ x,c[i]?=some x/\match s with
   | .d d=>conv.pure1 x=some d
   | .row l sz=>(∃ b,x=.own b/\hp b=some (.row l sz false) /\b∉seen) \/ (x=.nil/\l=[])) /\
  ∀ (i j:Nat) (b l l':_) (sz sz':Nat),cs[i]?=some (.row l sz)->cs[j]?=some (.row l' sz')->c[i]?=some (.own b)->c[j]?=some (.own b)->i=j
 | [],[],_,_=>⟨rfl,fun i s h=>by simp at h,fun i j b l l' sz sz' h=>by simp at h⟩
 |x::c,.d d::s,seen,h=>by
  simp only [zGi] at h;obtain ⟨g1,g2,g3⟩:=zJo h.2;refine ⟨by simp [g1],fun i s' hs=>?_,fun i j b l l' sz sz' h1 h2 h3 h4=>?_⟩
  ·cases i with
   |zero=>
    simp only [List.getElem?_cons_zero,Option.some.injEq] at hs;subst hs;exact ⟨x,rfl,h.1⟩
   |succ i=>exact g2 i s' (by simpa using hs)
  ·cases i with
   |zero=>simp at h1
   |succ i=>
    cases j with
    |zero=>simp at h2
    |succ j=>exact congrArg (·+1) (g3 i j b l l' sz sz' (by simpa using h1) (by simpa using h2) (by simpa using h3) (by simpa using h4))
 |x::c,.row l0 sz0::s,seen,h=>by
  simp only [zGi] at h
  rcases h with ⟨b0,rfl,e1,e2,h⟩|⟨rfl,rfl,h⟩
  ·obtain ⟨g1,g2,g3⟩:=zJo h
   have hns:b0∉seen:=fun hm=>by rw [zEn.2 hm] at e2;cases e2
   have hne:∀ (j:Nat) (l':_) (sz':Nat),s[j]?=some (.row l' sz')->c[j]?=some (.own b0)->False:=fun j l' sz' h2 h4=>by
    obtain ⟨y,hy,q⟩:=g2 j _ h2
    rw [h4] at hy;cases hy
    rcases q with ⟨b1,e,_,q⟩|⟨e,_⟩
    ·cases e;exact q (List.mem_cons_self ..)
    ·cases e
   refine ⟨by simp [g1],fun i s' hs=>?_,fun i j b l l' sz sz' h1 h2 h3 h4=>?_⟩
   ·cases i with
    |zero=>
     simp only [List.getElem?_cons_zero,Option.some.injEq] at hs;subst hs;exact ⟨_,rfl,.inl ⟨b0,rfl,e1,hns⟩⟩
    |succ i=>
     obtain ⟨y,hy,q⟩:=g2 i s' (by simpa using hs);refine ⟨y,by simpa using hy,?_⟩
     cases s' with
     |d d=>exact q
     |row l sz=>
      rcases q with ⟨b1,q1,q2,q3⟩|q
      ·exact .inl ⟨b1,q1,q2,fun hm=>q3 (List.mem_cons_of_mem _ hm)⟩
      ·exact .inr q
   ·cases i with
    |zero=>
     simp only [List.getElem?_cons_zero,Option.some.injEq] at h3
     cases h3
     cases j with
     |zero=>rfl
     |succ j=>exact (hne j l' sz' (by simpa using h2) (by simpa using h4)).elim
    |succ i=>
     cases j with
     |zero=>
      simp only [List.getElem?_cons_zero,Option.some.injEq] at h4
      cases h4
      exact (hne i l sz (by simpa using h1) (by simpa using h3)).elim
     |succ j=>exact congrArg (·+1) (g3 i j b l l' sz sz' (by simpa using h1) (by simpa using h2) (by simpa using h3) (by simpa using h4))
  ·obtain ⟨g1,g2,g3⟩:=zJo h;refine ⟨by simp [g1],fun i s' hs=>?_,fun i j b l l' sz sz' h1 h2 h3 h4=>?_⟩
   ·cases i with
    |zero=>
     simp only [List.getElem?_cons_zero,Option.some.injEq] at hs;subst hs;exact ⟨_,rfl,.inr ⟨rfl,rfl⟩⟩
    |succ i=>exact g2 i s' (by simpa using hs)
   ·cases i with
    |zero=>simp at h3
    |succ i=>
     cases j with
     |zero=>simp at h4
     |succ j=>exact congrArg (·+1) (g3 i j b l l' sz sz' (by simpa using h1) (by simpa using h2) (by simpa using h3) (by simpa using h4))
 | [],_::_,_,h=>by simp [zGi] at h
 |_::_,[],_,h=>by simp [zGi] at h
omit hT in
theorem z6x {M:Mem} {ι:Inj} {x:AV} {d:D} {v:Value} (h:DenA M ι x v) (hp:conv.pure1 x=some d):DenD M d v:=by
 cases h<;>simp only [conv.pure1,Option.some.injEq,reduceCtorEq] at hp<;>subst hp
 case d h=>exact h
 case tt=>exact .bool true
 case ff=>exact .bool false
 case nil a=>exact .emp a 0
include hT in
theorem yAt (hm:P.follows .mixedOrders=true) {f:FuncId} {fn:Func} {ds:List D} {cs:List SC} (hf:P.funcs[f]?=some fn) (hc:zNe fn ds.length=true) (h:AFnS T P fn ds cs):yIm P f ds cs:=by
 obtain ⟨c,hb,hdst,hn,hnm⟩:=zHk hc;refine ⟨⟨fn,hf,by rw [hb];rfl,hnm⟩,fun w M vs ha hds=>calls_of_wp hf hb ?_⟩;simp only [AFnS,hb] at h
 have hsz:vs.size<=fn.ntmps:=by rw [hds.1];exact hn
 refine Code.wp_mono (fun e a w' hq=>?_) (zJw (w0:=w) (M0:=M) (ι0:=fun _=>none) (own:=fun c=>w.heap.size<=c) hT (fun _ h=>h) hm c _ _ _ w hdst h (zTv ha hds hsz))
 have fin:∀ st:zAo,(∃ r c,fn.results.toList=[r] /\resV T st.tm st.hp r=.agg c/\zGi st.hp [] c cs)->ARel (fun c=>w.heap.size<=c) w M (fun _=>none) fn.ntmps st a w'->
   a.defers=[] /\ ∃ v,(results fn a.tmps).run P w'=.ok v w'/\ ∃ (us:Array Value) (M':Mem) (bl:Nat->Option Loc),Ending.returned v=.returned (.agg us) /\Below w.heap.size w w'/\Sub M M'/\zBj M' w'/\zTf w M M'/\us.size=cs.length/\
    (∀ (i:Nat) (c:SC),cs[i]?=some c->∃ u,us[i]?=some u/\match c with
     | .d x=>DenD M' x u
     | .row l sz=>z3x w w' M' l sz (bl i) u) /\
    ∀ (i j:Nat) (L L':Loc),bl i=some L->bl j=some L'->L.blk=L'.blk->i=j:=by
  intro st hres hr;obtain ⟨M1,ι,h1,h2,h3,h4,h5,h6,h7,h8,h9⟩:=hr;obtain ⟨r,c,hr1,hr2,hr3⟩:=hres
  obtain ⟨v,hv,hdv⟩:=z2n hT h2 h5 h7 r (by
   rw [hr2];simp only [conv]
   cases hcc:conv.cells st.hp c with
   |none=>exact absurd hcc (zKh hr3)
   |some y=>simp)
  have hrun:(fn.results.toList.mapM (resRun a.tmps)).run P w'=.ok [v] w':=by
   rw [hr1];simp [List.mapM_cons,hv]
  rw [hr2] at hdv
  cases hdv with
  |agg _ us hl hd=>
   obtain ⟨m1,m2,m3⟩:=zJo hr3
   let bl:Nat->Option Loc:=fun i=>match cs[i]? with
    |some (.row _ _)=>match c[i]? with
     |some (.own b)=>match ι b with
      |some (some L)=>some L
      |_=>none
     |_=>none
    |_=>none
   have hbl:∀ i L,bl i=some L->∃ l sz b,cs[i]?=some (.row l sz) /\c[i]?=some (.own b) /\ι b=some (some L):=by
    intro i L hL;simp only [bl] at hL
    split at hL
    ·rename_i l sz e1
     split at hL
     ·rename_i b e2
      split at hL
      ·rename_i L' e3
       cases hL
       exact ⟨l,sz,b,e1,e2,e3⟩
      ·cases hL
     ·cases hL
    ·cases hL
   refine ⟨h9,_,zFz fn a.tmps w' hrun,us,M1,bl,rfl,⟨h4.os,h4.tape,h4.output,h4.size,fun c hc=>h4.block c (by omega)⟩,h1,h2,fun b o v hv=>h3 b o v hv,by omega,fun i s hs=>?_,fun i j L L' hL hL' he=>?_⟩
   ·obtain ⟨x,hx,hm2⟩:=m2 i s hs
    have hi:i<us.size:=by rw [hl];exact (List.getElem?_eq_some_iff.1 hx).1
    have hu:us[i]?=some us[i]:=by simp [hi]
    have hdx:=hd i x _ hx hu;refine ⟨us[i],hu,?_⟩
    cases s with
    |d d=>exact z6x hdx hm2
    |row l sz=>
     rcases hm2 with ⟨b,rfl,e2,_⟩|⟨rfl,rfl⟩
     ·show z3x w w' M1 l sz (bl i) us[i];generalize us[i]=u at hdx
      cases hdx with
      |own _ L cap hL hn2 hc2=>
       have:bl i=some L:=by simp only [bl,hs,hx,hL]
       rw [this];obtain ⟨q1,cs',Ty,q2,q3,q4,q5,q6,q7,q8⟩:=h5.at_ b _ L e2 hL;exact ⟨q1,cap,cs',Ty,by rw [q5],q5.symm,q4.symm,q3.symm,by rw [q5];exact hn2,by rw [q4,q3];exact hc2,q2,q7,q8.2 rfl⟩
      |ownE _ a0 hL=>
       have:bl i=none:=by simp only [bl,hs,hx,hL]
       rw [this];obtain ⟨sz2,fr2,e0⟩:=h5.virt b hL
       rw [e2] at e0;cases e0
       exact ⟨rfl,a0,rfl⟩
      |ownL _ _ hL=>rw [(h5.dom b).2 hL] at e2;cases e2
     ·show z3x w w' M1 [] sz (bl i) us[i]
      have:bl i=none:=by simp only [bl,hs,hx]
      rw [this];generalize us[i]=u at hdx
      cases hdx with
      |nil a0=>exact ⟨rfl,a0,rfl⟩
   ·obtain ⟨l,sz,b,g1,g2,g3⟩:=hbl i L hL;obtain ⟨l',sz',b',g1',g2',g3'⟩:=hbl j L' hL';have:=h5.inj b b' L L' g3 g3' he;subst this;exact m3 i j b l l' sz sz' g1 g1' g2 g2'
 cases e with
 |normal=>obtain ⟨st,k1,k2⟩:=hq;exact fin st k1 k2
 |ret=>obtain ⟨st,k1,k2⟩:=hq;exact fin st k1 k2
 |exit i=>obtain ⟨st,k1,k2⟩:=hq;exact k1.elim
 |goto l=>exact hq.elim
 |panic ch=>exact hq.elim
 |outgrown=>exact hq.elim
end
def nmGet:List (Nat×Nat)->Nat->Option Nat
 | [],_=>none
 |(a,b)::r,n=>bif Nat.beq n a then some b else nmGet r n
def rn1 (s:List (Nat×Nat)):AV->AV
 | .own n=>match nmGet s n with
  |some b=>.own b
  |none=>.dead
 | .ptr n i j=>match nmGet s n with
  |some b=>.ptr b i j
  |none=>.dead
 | .win n lo m c=>match nmGet s n with
  |some b=>.win b lo m c
  |none=>.dead
 | .d x=>.d x
 | .tt=>.tt
 | .ff=>.ff
 | .nil=>.nil
 | .agg _=>.dead
 | .tup _=>.dead
 | .fn _ _=>.dead
 | .dead=>.dead
def rnL (s:List (Nat×Nat)):List AV->List AV
 | []=>[]
 |x::r=>rn1 s x::rnL s r
def rnV (s:List (Nat×Nat)):AV->AV
 | .agg c=>.agg (rnL s c)
 | .own n=>rn1 s (.own n)
 | .ptr n i j=>rn1 s (.ptr n i j)
 | .win n lo m c=>rn1 s (.win n lo m c)
 | .d x=>.d x
 | .tt=>.tt
 | .ff=>.ff
 | .nil=>.nil
 | .tup _=>.dead
 | .fn _ _=>.dead
 | .dead=>.dead
def rnVs (s:List (Nat×Nat)):List AV->List AV
 | []=>[]
 |x::r=>rnV s x::rnVs s r
def rnB (s:List (Nat×Nat)):Blk->Blk
 | .row l sz fr=>.row l sz fr
 | .box c fr=>.box (rnL s c) fr
def rnH (s:List (Nat×Nat)):List (Nat×Blk)->List (Nat×Blk)
 | []=>[]
 |(n,B)::r=>match nmGet s n with
  |some b=>(b,rnB s B)::rnH s r
  |none=>rnH s r
def z6s:AV->Bool
 | .agg _=>false
 | .tup _=>false
 | .fn _ _=>false
 |_=>true
def z6t:List AV->Bool
 | []=>true
 |x::r=>bif z6s x then z6t r else false
def yEi:AV->Bool
 | .agg c=>z6t c
 |x=>z6s x
def zOb:List AV->Bool
 | []=>true
 |x::r=>bif yEi x then zOb r else false
def yEh:Blk->Bool
 | .row _ _ _=>true
 | .box c _=>z6t c
def zQ:List (Nat×Blk)->Bool
 | []=>true
 |(n,B)::r=>bif yEh B&&(Nat.ble 1000000 n&&Nat.ble n 1000004) then zQ r else false
def zXd:List (Nat×Blk)->List (Nat×Blk)->Bool
 | [],[]=>true
 |(n,_)::r,(m,_)::q=>bif Nat.beq n m then zXd r q else false
 |_,_=>false
def zRq (args:List AV):Nat->AV:=go 0 args
 where
 go (n:Nat):List AV->Nat->AV
  | []=>fun _=>.dead
  |x::r=>upd (go (n+1) r) n x
def zWn (T:Tab) (tm:Nat->AV) (hp:Nat->Option Blk):List ResultVar->List Nat
 | []=>[]
 |r::q=>zAp hp (resV T tm hp r)++zWn T tm hp q
def yMk:List Nat->Bool
 | []=>true
 |b::r=>bif Nat.ble 1000000 b&&Nat.ble b 1000004 then false else yMk r
structure HRet (T:Tab) (tm:Nat->AV) (hp:Nat->Option Blk) (rs:List ResultVar) (post:List (Nat×Blk)) (d:D):Prop where
 res:(resD T tm hp rs).map oneD=some d
 far:yMk (zWn T tm hp rs)=true
 post:covH hp post
def AFnH (T:Tab) (P:Program) (fn:Func) (args:List AV) (pre post:List (Nat×Blk)) (d:D):Prop:=
 match fn.body with
 |some c=>AW T P c ⟨zRq args,stL.hpL pre⟩ fun e st=>match e with
  | .exit _=>False
  |_=>HRet T st.tm st.hp fn.results.toList post d
 |none=>False
structure NmOk (s:List (Nat×Nat)) (pre:List (Nat×Blk)):Prop where
 inj:∀ n n' b,nmGet s n=some b->nmGet s n'=some b->n=n'
 dom:∀ n,nmGet s n=none↔stL.hpL pre n=none
def zAx (P:Program) (f:FuncId) (args:List AV) (pre post:List (Nat×Blk)) (d:D):Prop:=
 FnOk P f/\ ∀ (s:List (Nat×Nat)) (hp:Nat->Option Blk),NmOk s pre->(∀ n B b,stL.hpL pre n=some B->nmGet s n=some b->hp b=some (rnB s B))->
  zOj P f (rnVs s args) hp ⟨ofD d,rnH s post,nmGet s 1000004⟩
theorem z2q (s:List (Nat×Nat)):∀ (c:List AV) (i:Nat),(rnL s c)[i]?=(c[i]?).map (rn1 s)
 | [],i=>by simp [rnL]
 |x::r,0=>by simp [rnL]
 |x::r,i+1=>by simpa [rnL] using z2q s r i
theorem zMa (s:List (Nat×Nat)):∀ (c:List AV),(rnL s c).length=c.length
 | []=>rfl
 |x::r=>by simp [rnL,zMa s r]
theorem z2r (s:List (Nat×Nat)):∀ (c:List AV) (i:Nat),(rnVs s c)[i]?=(c[i]?).map (rnV s)
 | [],i=>by simp [rnVs]
 |x::r,0=>by simp [rnVs]
 |x::r,i+1=>by simpa [rnVs] using z2r s r i
theorem z2s (s:List (Nat×Nat)):∀ (c:List AV),(rnVs s c).length=c.length
 | []=>rfl
 |x::r=>by simp [rnVs,z2s s r]
theorem zSa:∀ {c:List AV},z6t c=true->∀ x∈c,z6s x=true
 | [],_,x,hx=>by cases hx
 |y::r,h,x,hx=>by
  simp only [z6t] at h
  cases hy:z6s y with
  |false=>simp [hy] at h
  |true=>
   simp only [hy,cond_true] at h
   cases hx with
   |head=>exact hy
   |tail _ hx=>exact zSa h x hx
theorem zOc:∀ {c:List AV},zOb c=true->∀ x∈c,yEi x=true
 | [],_,x,hx=>by cases hx
 |y::r,h,x,hx=>by
  simp only [zOb] at h
  cases hy:yEi y with
  |false=>simp [hy] at h
  |true=>
   simp only [hy,cond_true] at h
   cases hx with
   |head=>exact hy
   |tail _ hx=>exact zOc h x hx
section
variable {M:Mem} {ι ι0:Inj} {s:List (Nat×Nat)}
theorem un1 (h0:∀ n,ι0 n=match nmGet s n with|some b=>ι b|none=>none) {x:AV} {v:Value} (hp:z6s x=true) (h:DenA M ι (rn1 s x) v):DenA M ι0 x v:=by
 cases x with
 |own n=>
  have hn:=h0 n;simp only [rn1] at h
  cases hg:nmGet s n with
  |none=>rw [hg] at hn;exact .ownL _ _ hn
  |some b=>
   rw [hg] at hn h;simp only at hn h
   cases h with
   |own _ L cap hL h1 h2=>exact .own n L cap (hn.trans hL) h1 h2
   |ownE _ a hL=>exact .ownE n a (hn.trans hL)
   |ownL _ _ hL=>exact .ownL n _ (hn.trans hL)
 |ptr n i j=>
  have hn:=h0 n;simp only [rn1] at h
  cases hg:nmGet s n with
  |none=>rw [hg] at hn;exact .ptrL _ _ _ _ hn
  |some b=>
   rw [hg] at hn h;simp only at hn h
   cases h with
   |ptr _ _ _ L hL=>exact .ptr n i j L (hn.trans hL)
   |ptrL _ _ _ _ hL=>exact .ptrL n i j _ (hn.trans hL)
 |win n lo m c=>
  have hn:=h0 n;simp only [rn1] at h
  cases hg:nmGet s n with
  |none=>rw [hg] at hn;exact .winL _ _ _ _ _ hn
  |some b=>
   rw [hg] at hn h;simp only at hn h
   cases h with
   |win _ _ _ _ L k base hL q1 q2 q3 q4=>exact .win n lo m c L k base (hn.trans hL) q1 q2 q3 q4
   |winL _ _ _ _ _ hL=>exact .winL n lo m c _ (hn.trans hL)
 |d x=>cases h with|d _ _ h=>exact .d _ _ h
 |tt=>cases h;exact .tt
 |ff=>cases h;exact .ff
 |nil=>cases h with|nil a=>exact .nil a
 |dead=>exact .dead _
 |agg c=>cases hp
 |tup c=>cases hp
 |fn f c=>cases hp
theorem unV (h0:∀ n,ι0 n=match nmGet s n with|some b=>ι b|none=>none) {x:AV} {v:Value} (hp:yEi x=true) (h:DenA M ι (rnV s x) v):DenA M ι0 x v:=by
 cases x with
 |agg c=>
  simp only [rnV] at h
  cases h with
  |agg _ vs hl hd=>
   refine .agg c vs (by rw [hl,zMa]) fun i x v h1 h2=>un1 h0 (zSa hp x (List.mem_of_getElem? h1)) (hd i _ v ?_ h2)
   rw [z2q,h1];rfl
 |own n=>exact un1 h0 rfl h
 |ptr n i j=>exact un1 h0 rfl h
 |win n lo m c=>exact un1 h0 rfl h
 |d x=>exact un1 h0 (x:=.d x) rfl h
 |tt=>exact un1 h0 (x:=.tt) rfl h
 |ff=>exact un1 h0 (x:=.ff) rfl h
 |nil=>exact un1 h0 (x:=.nil) rfl h
 |dead=>exact .dead _
 |tup c=>cases hp
 |fn f c=>cases hp
theorem re1 (h0:∀ n b,nmGet s n=some b->ι b=ι0 n) {x:AV} {v:Value} (h:DenA M ι0 x v):DenA M ι (rn1 s x) v:=by
 cases x with
 |own n=>
  simp only [rn1]
  cases hg:nmGet s n with
  |none=>exact .dead _
  |some b=>
   have hn:=h0 n b hg
   cases h with
   |own _ L cap hL h1 h2=>exact .own b L cap (hn.trans hL) h1 h2
   |ownE _ a hL=>exact .ownE b a (hn.trans hL)
   |ownL _ _ hL=>exact .ownL b _ (hn.trans hL)
 |ptr n i j=>
  simp only [rn1]
  cases hg:nmGet s n with
  |none=>exact .dead _
  |some b=>
   have hn:=h0 n b hg
   cases h with
   |ptr _ _ _ L hL=>exact .ptr b i j L (hn.trans hL)
   |ptrL _ _ _ _ hL=>exact .ptrL b i j _ (hn.trans hL)
 |win n lo m c=>
  simp only [rn1]
  cases hg:nmGet s n with
  |none=>exact .dead _
  |some b=>
   have hn:=h0 n b hg
   cases h with
   |win _ _ _ _ L k base hL q1 q2 q3 q4=>exact .win b lo m c L k base (hn.trans hL) q1 q2 q3 q4
   |winL _ _ _ _ _ hL=>exact .winL b lo m c _ (hn.trans hL)
 |d x=>cases h with|d _ _ h=>exact .d _ _ h
 |tt=>cases h;exact .tt
 |ff=>cases h;exact .ff
 |nil=>cases h with|nil a=>exact .nil a
 |dead=>exact .dead _
 |agg c=>exact .dead _
 |tup c=>exact .dead _
 |fn f c=>exact .dead _
theorem unB (h0:∀ n,ι0 n=match nmGet s n with|some b=>ι b|none=>none) {w:World} {B:Blk} {L:Loc} (hp:yEh B=true) (h:zEp M ι w (rnB s B) L):zEp M ι0 w B L:=by
 obtain ⟨cs,Ty,g2,g3,g4⟩:=h;refine ⟨cs,Ty,g2,g3,?_⟩
 cases B with
 |row l sz fr=>exact g4
 |box c fr=>
  obtain ⟨a1,a2,a3,a5⟩:=g4;rw [zMa] at a1 a2 a5;refine ⟨a1,a2,⟨by rw [a3.size,zMa],fun j x hx=>?_⟩,a5⟩;obtain ⟨v,y1,y2⟩:=a3.den j (rn1 s x) (by rw [z2q,hx];rfl);exact ⟨v,y1,un1 h0 (zSa hp x (List.mem_of_getElem? hx)) y2⟩
theorem reB (h0:∀ n b,nmGet s n=some b->ι b=ι0 n) {w:World} {B:Blk} {L:Loc} (h:zEp M ι0 w B L):zEp M ι w (rnB s B) L:=by
 obtain ⟨cs,Ty,g2,g3,g4⟩:=h;refine ⟨cs,Ty,g2,g3,?_⟩
 cases B with
 |row l sz fr=>exact g4
 |box c fr=>
  obtain ⟨a1,a2,a3,a5⟩:=g4;refine ⟨by rw [zMa];exact a1,by rw [zMa];exact a2,⟨by rw [zMa];exact a3.size,fun j x hx=>?_⟩,by rw [zMa];exact a5⟩;rw [z2q] at hx
  cases hc:c[j]? with
  |none=>rw [hc] at hx;cases hx
  |some y=>
   rw [hc] at hx;simp only [Option.map_some,Option.some.injEq] at hx;subst hx;obtain ⟨v,y1,y2⟩:=a3.den j y hc;exact ⟨v,y1,re1 h0 y2⟩
end
theorem zPj {M:Mem} {ι:Inj}:∀ (xs:List AV) (n:Nat) (vs:Array Value),(∀ (i:Nat) (x:AV) (v:Value),xs[i]?=some x->vs[n+i]?=some v->DenA M ι x v)->vs.size=n+xs.length->∀ t,DenA M ι (zRq.go n xs t) (vs.getD t undef)
 | [],n,vs,h,hl,t=>.dead _
 |d::r,n,vs,h,hl,t=>by
  simp only [zRq.go]
  by_cases e:t=n
  ·subst e;rw [upd_same]
   have hlt:t<vs.size:=by rw [hl];simp
   have:vs[t]?=some vs[t]:=by simp [hlt]
   have hg:vs.getD t undef=vs[t]:=by simp [Array.getD,hlt]
   rw [hg];exact h 0 d _ (by simp) (by simpa using this)
  ·rw [zAl _ _ e];exact zPj r (n+1) vs (fun i d' v h1 h2=>h (i+1) d' v (by simpa using h1) (by rw [show n+(i+1)=n+1+i by omega];exact h2)) (by rw [hl];simp;omega) t
theorem z0s {hp:Nat->Option Blk}:∀ {l:List (Nat×Blk)},covH hp l->∀ n B,stL.hpL l n=some B->hp n=some B
 | [],_,n,B,h=>by cases h
 |(t,v)::r,hc,n,B,h=>by
  simp only [stL.hpL] at h
  cases hb:Nat.beq n t with
  |true=>
   simp only [hb,cond_true,Option.some.injEq] at h;subst h
   rw [Nat.eq_of_beq_eq_true hb];exact hc.1
  |false=>
   simp only [hb,cond_false] at h;exact z0s hc.2 n B h
theorem zXe:∀ {a b:List (Nat×Blk)},zXd a b=true->∀ n,stL.hpL a n=none↔stL.hpL b n=none
 | [],[],_,n=>Iff.rfl
 | [],_::_,h,_=>by simp [zXd] at h
 |_::_,[],h,_=>by simp [zXd] at h
 |(m,B)::r,(m',B')::q,h,n=>by
  simp only [zXd] at h
  cases hb:Nat.beq m m' with
  |false=>simp [hb] at h
  |true=>
   simp only [hb,cond_true] at h;have:=Nat.eq_of_beq_eq_true hb;subst this;simp only [stL.hpL]
   cases Nat.beq n m with
   |true=>simp
   |false=>exact zXe h n
theorem zHf:∀ {l:List (Nat×Blk)},zQ l=true->∀ n B,stL.hpL l n=some B->yEh B=true/\1000000<=n/\n<1000005
 | [],_,n,B,h=>by cases h
 |(t,v)::r,hp,n,B,h=>by
  simp only [zQ] at hp
  cases hc:(yEh v&&(Nat.ble 1000000 t&&Nat.ble t 1000004)) with
  |false=>simp [hc] at hp
  |true=>
   simp only [hc,cond_true] at hp;simp only [Bool.and_eq_true] at hc;simp only [stL.hpL] at h
   cases hb:Nat.beq n t with
   |true=>
    simp only [hb,cond_true,Option.some.injEq] at h;subst h;rw [Nat.eq_of_beq_eq_true hb];exact ⟨hc.1,Nat.le_of_ble_eq_true hc.2.1,by have:=Nat.le_of_ble_eq_true hc.2.2;omega⟩
   |false=>
    simp only [hb,cond_false] at h;exact zHf hp n B h
theorem z2p {s:List (Nat×Nat)} (hinj:∀ n n' b,nmGet s n=some b->nmGet s n'=some b->n=n'):∀ {l:List (Nat×Blk)} {n b:Nat} {B:Blk},l.Pairwise (fun p q=>p.1≠q.1)->nmGet s n=some b->stL.hpL l n=some B->zFm (rnH s l) b=some (rnB s B)
 | [],_,_,_,_,_,h=>by cases h
 |(t,v)::r,n,b,B,hp,hn,h=>by
  rw [List.pairwise_cons] at hp;simp only [stL.hpL] at h
  have none_of:∀ {l:List (Nat×Blk)} {b:Nat},(∀ p∈l,∀ b',nmGet s p.1=some b'->b'≠b)->zFm (rnH s l) b=none:=by
   intro l
   induction l with
   |nil=>intro b _;rfl
   |cons p q ih=>
    intro b hq;obtain ⟨m,C⟩:=p;simp only [rnH]
    cases hg:nmGet s m with
    |none=>exact ih fun p hp=>hq p (List.mem_cons_of_mem _ hp)
    |some b'=>
     simp only [zFm];rw [ih fun p hp=>hq p (List.mem_cons_of_mem _ hp)];have hne:=hq (m,C) (List.mem_cons_self ..) b' hg
     have:Nat.beq b b'=false:=by
      cases hb:Nat.beq b b' with
      |false=>rfl
      |true=>exact absurd (Nat.eq_of_beq_eq_true hb).symm hne
     simp [this]
  cases hb:Nat.beq n t with
  |true=>
   simp only [hb,cond_true,Option.some.injEq] at h;subst h;have:=Nat.eq_of_beq_eq_true hb;subst this;simp only [rnH,hn,zFm];rw [none_of fun p hp' b' hb' e=>hp.1 p hp' (hinj n p.1 b hn (by rw [hb',e]))];simp
  |false=>
   simp only [hb,cond_false] at h;have ih:=z2p hinj hp.2 hn h;simp only [rnH]
   cases hg:nmGet s t with
   |none=>exact ih
   |some b'=>simp only [zFm];rw [ih]
theorem zUd {s:List (Nat×Nat)} {b:Nat} (hb:∀ n,nmGet s n≠some b):∀ {l:List (Nat×Blk)},zFm (rnH s l) b=none
 | []=>rfl
 |(t,v)::r=>by
  simp only [rnH]
  cases hg:nmGet s t with
  |none=>exact zUd hb
  |some b'=>
   simp only [zFm];rw [zUd hb]
   have:Nat.beq b b'=false:=by
    cases h:Nat.beq b b' with
    |false=>rfl
    |true=>exact absurd (by rw [hg,Nat.eq_of_beq_eq_true h]) (hb t)
   simp [this]
def zSy:List (Nat×Blk)->Bool
 | []=>true
 |(n,_)::r=>bif r.all fun p=>!Nat.beq n p.1 then zSy r else false
theorem zRw:∀ {l:List (Nat×Blk)},zSy l=true->l.Pairwise (fun p q=>p.1≠q.1)
 | [],_=>.nil
 |(n,B)::r,h=>by
  simp only [zSy] at h
  cases hc:(r.all fun p=>!Nat.beq n p.1) with
  |false=>simp [hc] at h
  |true=>
   simp only [hc,cond_true] at h;rw [List.pairwise_cons];refine ⟨fun p hp e=>?_,zRw h⟩;have:=(List.all_eq_true.1 hc) p hp;have e:n=p.1:=e;rw [e] at this;simp at this
theorem z6e:∀ {l:List Nat},yMk l=true->∀ b∈l,¬(1000000<=b/\b<1000005)
 | [],_,b,h=>by cases h
 |x::r,h,b,hb=>by
  simp only [yMk] at h
  cases hc:(Nat.ble 1000000 x&&Nat.ble x 1000004) with
  |true=>simp [hc] at h
  |false=>
   simp only [hc,cond_false] at h
   cases hb with
   |head=>
    rintro ⟨h1,h2⟩;rw [Nat.ble_eq_true_of_le h1,Nat.ble_eq_true_of_le (Nat.lt_succ_iff.1 h2)] at hc
    cases hc
   |tail _ hb=>exact z6e h b hb
section
variable {P:Program} {T:Tab} (hT:zFo P T)
include hT
theorem zWy {own:Nat->Prop} {M:Mem} {ι:Inj} {hp:Nat->Option Blk} {w:World} {tm:Nat->AV} {tmps:Array Value} (ha:zBj M w) (hh:HRel own M ι hp w) (hρ:∀ t,DenA M ι (tm t) (tmps.getD t undef)):
  ∀ {rs:List ResultVar} {ds:List D},resD T tm hp rs=some ds->∃ (vs:List Value) (xs:List AV),(rs.mapM (resRun tmps)).run P w=.ok vs w/\vs.length=ds.length/\xs.length=ds.length/\
   ∀ (i:Nat) (x:AV) (d:D) (v:Value),xs[i]?=some x->ds[i]?=some d->vs[i]?=some v->DenA M ι x v/\conv hp x=some d/\ ∀ b∈zAp hp x,b∈zWn T tm hp rs
 | [],ds,h=>by
  simp only [resD,Option.some.injEq] at h;subst h;exact ⟨[],[],rfl,rfl,rfl,fun i x d v h=>by simp at h⟩
 |r::q,ds,h=>by
  simp only [resD] at h
  cases hc:conv hp (resV T tm hp r) with
  |none=>simp [hc] at h
  |some d=>
   cases hq:resD T tm hp q with
   |none=>simp [hc,hq] at h
   |some ds'=>
    simp only [hc,hq,Option.some.injEq] at h;subst h;obtain ⟨v,hv,hdv⟩:=z2n hT ha hh hρ r (by rw [hc];simp);obtain ⟨vs,xs,hvs,hl1,hl2,hd⟩:=zWy ha hh hρ hq;refine ⟨v::vs,resV T tm hp r::xs,?_,by simp [hl1],by simp [hl2],fun i x d' v' h1 h2 h3=>?_⟩
    ·simp [List.mapM_cons,hv,hvs]
    ·cases i with
     |zero=>
      simp only [List.getElem?_cons_zero,Option.some.injEq] at h1 h2 h3;subst h1 h2 h3;exact ⟨hdv,hc,fun b hb=>List.mem_append_left _ hb⟩
     |succ i=>
      obtain ⟨g1,g2,g3⟩:=hd i x d' v' (by simpa using h1) (by simpa using h2) (by simpa using h3);exact ⟨g1,g2,fun b hb=>List.mem_append_right _ (g3 b hb)⟩
omit hT in
theorem z9g {hp:Nat->Option Blk} {n:Nat}:∀ {ns:List Nat},n∉ns->zFm (frz hp ns) n=none
 | [],_=>rfl
 |b::r,h=>by
  have hb:n≠b:=fun e=>h (by simp [e])
  have hr:n∉r:=fun e=>h (List.mem_cons_of_mem _ e)
  simp only [frz]
  split
  ·simp only [zFm];rw [z9g hr]
   have:Nat.beq n b=false:=by
    cases hq:Nat.beq n b with
    |false=>rfl
    |true=>exact absurd (Nat.eq_of_beq_eq_true hq) hb
   simp [this]
  ·exact z9g hr
open Classical in
theorem z9j (hm:P.follows .mixedOrders=true) {f:FuncId} {fn:Func} {args:List AV} {pre post:List (Nat×Blk)} {d:D} (hf:P.funcs[f]?=some fn) (hc:zNe fn args.length=true)
  (hpl:(zOb args&&(zQ pre&&(zXd pre post&&zSy post)))=true) (h:AFnH T P fn args pre post d):zAx P f args pre post d:=by
 simp only [Bool.and_eq_true] at hpl;obtain ⟨hpa,hph,hsn,hnd⟩:=hpl;obtain ⟨c,hb,hdst,hn,hnm⟩:=zHk hc;have hok:FnOk P f:=⟨fn,hf,by rw [hb];rfl,hnm⟩;refine ⟨hok,fun s hp hs hpre=>⟨hok,fun own M ι w vs hown ha hh hxs=>calls_of_wp hf hb ?_⟩⟩;simp only [AFnH,hb] at h
 have hvl:vs.size=args.length:=by rw [hxs.1,z2s]
 have hsz:vs.size<=fn.ntmps:=by rw [hvl];exact hn
 let S:Nat->Prop:=fun b=>∃ n,nmGet s n=some b
 let ι0:Inj:=fun n=>match nmGet s n with|some b=>ι b|none=>none
 let own0:Nat->Prop:=fun c=>own c/\ ∀ b L,¬S b->ι b=some (some L)->L.blk≠c
 have hι0:∀ n,ι0 n=match nmGet s n with|some b=>ι b|none=>none:=fun n=>rfl
 have hι0s:∀ n b,nmGet s n=some b->ι0 n=ι b:=fun n b e=>by rw [hι0,e]
 have hι0n:∀ n,nmGet s n=none->ι0 n=none:=fun n e=>by rw [hι0,e]
 have hpr:∀ n b,nmGet s n=some b->∃ B,stL.hpL pre n=some B/\hp b=some (rnB s B):=fun n b e=>by
  cases hx:stL.hpL pre n with
  |none=>rw [(hs.dom n).2 hx] at e;cases e
  |some B=>exact ⟨B,rfl,hpre n B b hx e⟩
 have hh0:HRel own0 M ι0 (stL.hpL pre) w:=by
  refine ⟨fun n=>?_,fun n hv=>?_,fun n B L hB hL=>?_,fun n n' L L' h1 h2 he=>?_⟩
  ·rw [<-hs.dom n]
   constructor
   ·exact hι0n n
   ·intro e
    cases hg:nmGet s n with
    |none=>rfl
    |some b=>
     rw [hι0s n b hg] at e;obtain ⟨B,_,e2⟩:=hpr n b hg
     rw [(hh.dom b).2 e] at e2;cases e2
  ·cases hg:nmGet s n with
   |none=>rw [hι0n n hg] at hv;cases hv
   |some b=>
    rw [hι0s n b hg] at hv;obtain ⟨sz,fr,e⟩:=hh.virt b hv;obtain ⟨B,e1,e2⟩:=hpr n b hg;rw [e2] at e
    cases B with
    |row l sz' fr'=>simp only [rnB,Option.some.injEq,Blk.row.injEq] at e;obtain ⟨rfl,rfl,rfl⟩:=e;exact ⟨_,_,e1⟩
    |box c fr'=>simp [rnB] at e
  ·cases hg:nmGet s n with
   |none=>rw [hι0n n hg] at hL;cases hL
   |some b=>
    rw [hι0s n b hg] at hL;obtain ⟨q1,q2⟩:=hh.at_ b (rnB s B) L (hpre n B b hB hg) hL;refine ⟨⟨q1,fun b' L' hb' hL' e=>?_⟩,unB hι0 (zHf hph n B hB).1 q2⟩;have:=hh.inj b' b L' L hL' hL e;exact hb' (this▸⟨n,hg⟩)
  ·cases hg:nmGet s n with
   |none=>rw [hι0n n hg] at h1;cases h1
   |some b=>
    cases hg':nmGet s n' with
    |none=>rw [hι0n n' hg'] at h2;cases h2
    |some b'=>
     rw [hι0s n b hg] at h1;rw [hι0s n' b' hg'] at h2;have:=hh.inj b b' L L' h1 h2 he;subst this;exact hs.inj n n' b hg hg'
 have hown0:∀ c,w.heap.size<=c->own0 c:=fun c hc=>⟨hown c hc,fun b L _ hL e=>by have:=hh.lt hL;omega⟩
 have hinit:ARel own0 w M ι0 fn.ntmps ⟨zRq args,stL.hpL pre⟩ {tmps:=vs++Array.replicate (fn.ntmps-vs.size) undef,defers:=[]} w:=by
  refine ⟨M,ι0,.refl M,ha,.refl _ _,.refl _ _,hh0,fun _ _ _=>rfl,fun t=>?_,by simp;omega,rfl⟩;show DenA M ι0 (zRq args t) ((vs++Array.replicate (fn.ntmps-vs.size) undef).getD t undef);rw [zU];refine zPj args 0 vs (fun i x v h1 h2=>unV hι0 (zOc hpa x (List.mem_of_getElem? h1)) (hxs.2 i _ v ?_ (by simpa using h2))) (by rw [hvl];simp) t
  rw [z2r,h1];rfl
 refine Code.wp_mono (fun e a w' hq=>?_) (zJw (w0:=w) (M0:=M) (ι0:=ι0) (own:=own0) hT hown0 hm c _ _ _ w hdst h hinit)
 have fin:∀ st:zAo,HRet T st.tm st.hp fn.results.toList post d->ARel own0 w M ι0 fn.ntmps st a w'->
   a.defers=[] /\ ∃ v,(results fn a.tmps).run P w'=.ok v w'/\ ∃ (v':Value) (M':Mem) (ι':Inj),Ending.returned v=.returned v'/\zBu own w w'/\Sub M M'/\zBj M' w'/\zCq own M M'/\
    HRel own M' ι' (Eff.hp ⟨ofD d,rnH s post,nmGet s 1000004⟩ hp) w'/\ (∀ b,Kp (nmGet s 1000004) b->ι' b=ι b) /\DenA M' ι' (ofD d) v':=by
  intro st hret hr;obtain ⟨hres,hfar,hpost⟩:=hret;obtain ⟨M1,ι1,h1,h2,h3,h4,h5,h6,h7,h8,h9⟩:=hr
  cases hrd:resD T st.tm st.hp fn.results.toList with
  |none=>simp [hrd] at hres
  |some rs=>
   simp only [hrd,Option.map_some,Option.some.injEq] at hres;subst hres;obtain ⟨us,xs,e1,e2,e3,e4⟩:=zWy hT h2 h5 h7 hrd;obtain ⟨M2,s2,a2,n2,g2,l2,f2⟩:=zHm (hp0:=st.hp) (zWn T st.tm st.hp fn.results.toList) M1 st.hp h2 h5 (.refl _)
   have hnear:∀ n b,nmGet s n=some b->1000000<=n/\n<1000005:=fun n b e=>by
    obtain ⟨B,q,_⟩:=hpr n b e;exact (zHf hph n B q).2
   have hpo:∀ n b,nmGet s n=some b->∃ B,stL.hpL post n=some B/\zBa st.hp (frz st.hp (zWn T st.tm st.hp fn.results.toList)) n=some B:=fun n b e=>by
    cases hx:stL.hpL post n with
    |none=>
     obtain ⟨B,q,_⟩:=hpr n b e
     rw [(zXe hsn n).2 hx] at q;cases q
    |some B=>
     refine ⟨B,rfl,?_⟩;rw [zSn,z9g fun hm=>z6e hfar n hm (hnear n b e)];exact z0s hpost n B hx
   let ι':Inj:=fun b=>if hb:S b then ι1 (Classical.choose hb) else ι b
   have hιs:∀ n b,nmGet s n=some b->ι' b=ι1 n:=fun n b e=>by
    have hb:S b:=⟨n,e⟩;show (if hb:S b then ι1 (Classical.choose hb) else ι b)=_;rw [dif_pos hb,hs.inj _ n b (Classical.choose_spec hb) e]
   have hιn:∀ b,¬S b->ι' b=ι b:=fun b hb=>dif_neg hb
   have hkeep:∀ b,Kp (nmGet s 1000004) b->ι' b=ι b:=fun b hb=>by
    by_cases hS:S b
    ·obtain ⟨n,e⟩:=hS;have hr:=hnear n b e
     have hne:n≠1000004:=fun e2=>by
      subst e2;rw [e] at hb;exact zTg hb rfl
     rw [hιs n b e,h6 n hr.1 (by omega),hι0s n b e]
    ·exact hιn b hS
   have hpS:∀ n b B,nmGet s n=some b->stL.hpL post n=some B->Eff.hp ⟨ofD (oneD rs),rnH s post,nmGet s 1000004⟩ hp b=some (rnB s B):=fun n b B e hB=>by
    rw [eff_hp_get];simp only [z2p hs.inj (zRw hnd) e hB]
   have hpN:∀ b,¬S b->Eff.hp ⟨ofD (oneD rs),rnH s post,nmGet s 1000004⟩ hp b=zEk (nmGet s 1000004) (hp b):=fun b hb=>by
    rw [eff_hp_get];simp only [zUd fun n e=>hb ⟨n,e⟩]
   have hs12:=h1.trans s2;have hn12:=h3.trans n2
   have hkey:∀ b B L,Eff.hp ⟨ofD (oneD rs),rnH s post,nmGet s 1000004⟩ hp b=some B->ι' b=some (some L)->own L.blk/\zEp M2 ι' w' B L/\ (S b->own0 L.blk) /\ (¬S b->¬own0 L.blk):=by
    intro b B L hB hL
    by_cases hb:S b
    ·obtain ⟨n,e⟩:=hb;obtain ⟨B0,q1,q2⟩:=hpo n b e;rw [hpS n b B0 e q1,Option.some.injEq] at hB;subst hB;rw [hιs n b e] at hL;obtain ⟨k1,k2⟩:=g2.at_ n B0 L q2 hL;exact ⟨k1.1,reB (fun n b e=>hιs n b e) k2,fun _=>k1,fun h=>absurd ⟨n,e⟩ h⟩
    ·rw [hpN b hb] at hB;rw [hιn b hb] at hL
     have hno:¬own0 L.blk:=fun h=>h.2 b L hb hL rfl
     cases hx2:hp b with
     |none=>rw [hx2] at hB;unfold zEk at hB;split at hB<;>cases hB
     |some B0=>
      obtain ⟨q1,q2⟩:=hh.at_ b B0 L hx2 hL
      have q3:zEp M2 ι w' B0 L:=q2.keep hs12 (h4.block _ hno) fun hfr o=>by
       cases hv:M2 L.blk o with
       |none=>rfl
       |some u=>
        rcases hn12 _ _ _ hv with h|h
        ·rw [hh.closed hL B0 hx2 hfr o] at h;cases h
        ·exact absurd h hno
      refine ⟨q1,?_,fun h=>absurd h hb,fun _=>hno⟩;rw [hx2] at hB;unfold zEk at hB
      split at hB
      ·rename_i hk;simp only [Option.some.injEq] at hB;subst hB
       have:ι'=ι:=funext fun b=>hkeep b (by rw [hk];trivial)
       rw [this];exact q3
      ·rename_i k hk;simp only [Option.map_some,Option.some.injEq] at hB;subst hB
       exact q3.kill fun b' hb'=>hkeep b' (by rw [hk];exact hb')
   refine ⟨h9,_,zFz fn a.tmps w' e1,_,M2,ι',rfl,⟨h4.os,h4.tape,h4.output,h4.size,fun c hc=>h4.block c fun h=>hc h.1⟩,hs12,a2,fun b o v hv=>orR (hn12 b o v hv) fun h=>h.1,
    ⟨fun b=>?_,fun b hv=>?_,fun b B L hB hL=>⟨(hkey b B L hB hL).1,(hkey b B L hB hL).2.1⟩,fun b b' L L' hL hL' heq=>?_⟩,hkeep,?_⟩
   ·by_cases hb:S b
    ·obtain ⟨n,e⟩:=hb;obtain ⟨B0,q1,q2⟩:=hpo n b e;rw [hpS n b B0 e q1,hιs n b e]
     constructor
     ·intro h;cases h
     ·intro h;rw [(g2.dom n).2 h] at q2;cases q2
    ·rw [hpN b hb,hιn b hb,<-hh.dom b];unfold zEk
     split
     ·rfl
     ·cases hp b<;>simp
   ·by_cases hb:S b
    ·obtain ⟨n,e⟩:=hb;obtain ⟨B0,q1,q2⟩:=hpo n b e;rw [hιs n b e] at hv;obtain ⟨sz,fr,e0⟩:=g2.virt n hv;rw [q2,Option.some.injEq] at e0;subst e0;exact ⟨sz,fr,hpS n b _ e q1⟩
    ·rw [hιn b hb] at hv;obtain ⟨sz,fr,e0⟩:=hh.virt b hv;rw [hpN b hb,e0];refine ⟨sz,fr,?_⟩;unfold zEk
     split<;>rfl
   ·have get:∀ b L,ι' b=some (some L)->∃ B,Eff.hp ⟨ofD (oneD rs),rnH s post,nmGet s 1000004⟩ hp b=some B:=fun b L hL=>by
     by_cases hb:S b
     ·obtain ⟨n,e⟩:=hb;obtain ⟨B0,q1,_⟩:=hpo n b e;exact ⟨_,hpS n b B0 e q1⟩
     ·rw [hιn b hb] at hL
      cases hx:hp b with
      |none=>rw [(hh.dom b).1 hx] at hL;cases hL
      |some B=>
       rw [hpN b hb,hx];unfold zEk
       split<;>exact ⟨_,rfl⟩
    obtain ⟨B,hB⟩:=get b L hL;obtain ⟨B',hB'⟩:=get b' L' hL';have q:=(hkey b B L hB hL).2.2;have q':=(hkey b' B' L' hB' hL').2.2
    by_cases hb:S b
    ·by_cases hb':S b'
     ·obtain ⟨n,e⟩:=hb;obtain ⟨n',e'⟩:=hb';rw [hιs n b e] at hL;rw [hιs n' b' e'] at hL';have:=g2.inj n n' L L' hL hL' heq;subst this
      rw [e] at e';exact Option.some.inj e'
     ·exact absurd (heq▸q.1 hb) (q'.2 hb')
    ·by_cases hb':S b'
     ·exact absurd (heq▸q'.1 hb') (q.2 hb)
     ·rw [hιn b hb] at hL;rw [hιn b' hb'] at hL';exact hh.inj b b' L L' hL hL' heq
   ·refine z1y (yDz e2 fun i d v q1 q2=>?_)
    have hx:xs[i]?=some (xs[i]'(by rw [e3];exact (List.getElem?_eq_some_iff.1 q1).1)):=by simp
    obtain ⟨p1,p2,p3⟩:=e4 i _ d v hx q1 q2;exact zTq g2 (by rw [zTo l2];exact p2) (zEa (fun b l sz fr hb he=>f2 b l sz fr (.inl hb) he) l2 _ p3) (p1.mono s2)
 cases e with
 |normal=>obtain ⟨st,k1,k2⟩:=hq;exact fin st k1 k2
 |ret=>obtain ⟨st,k1,k2⟩:=hq;exact fin st k1 k2
 |exit i=>obtain ⟨st,k1,k2⟩:=hq;exact k1.elim
 |goto l=>exact hq.elim
 |panic ch=>exact hq.elim
 |outgrown=>exact hq.elim
end
def z1l:List (Nat×Nat)->List (Nat×Blk)->Bool
 | [],[]=>true
 |(n,_)::r,(m,_)::q=>bif Nat.beq n m then z1l r q else false
 |_,_=>false
def yBj:List (Nat×Nat)->Bool
 | []=>true
 |(_,b)::r=>bif r.all fun p=>!Nat.beq b p.2 then yBj r else false
theorem z6h:∀ {s:List (Nat×Nat)} {n b:Nat},nmGet s n=some b->(n,b)∈s
 | [],_,_,h=>by cases h
 |(a,c)::r,n,b,h=>by
  simp only [nmGet] at h
  cases hb:Nat.beq n a with
  |true=>
   simp only [hb,cond_true,Option.some.injEq] at h
   rw [Nat.eq_of_beq_eq_true hb,h];exact List.mem_cons_self ..
  |false=>
   simp only [hb,cond_false] at h;exact List.mem_cons_of_mem _ (z6h h)
theorem z1t {s:List (Nat×Nat)} {pre:List (Nat×Blk)} (h:(z1l s pre&&yBj s)=true):NmOk s pre:=by
 simp only [Bool.and_eq_true] at h;obtain ⟨hk,hv⟩:=h
 constructor
 ·clear hk
  induction s with
  |nil=>intro n n' b h;cases h
  |cons p r ih=>
   obtain ⟨a,c⟩:=p;simp only [yBj] at hv
   cases hc:(r.all fun p=>!Nat.beq c p.2) with
   |false=>simp [hc] at hv
   |true=>
    simp only [hc,cond_true] at hv
    have hno:∀ {m b:Nat},nmGet r m=some b->b≠c:=fun {m b} hm e=>by
     have:=(List.all_eq_true.1 hc) _ (z6h hm);subst e;simp at this
    intro n n' b h1 h2;simp only [nmGet] at h1 h2
    cases q1:Nat.beq n a with
    |true=>
     simp only [q1,cond_true,Option.some.injEq] at h1
     cases q2:Nat.beq n' a with
     |true=>rw [Nat.eq_of_beq_eq_true q1,Nat.eq_of_beq_eq_true q2]
     |false=>
      simp only [q2,cond_false] at h2;exact absurd h1.symm (hno h2)
    |false=>
     simp only [q1,cond_false] at h1
     cases q2:Nat.beq n' a with
     |true=>
      simp only [q2,cond_true,Option.some.injEq] at h2;exact absurd h2.symm (hno h1)
     |false=>
      simp only [q2,cond_false] at h2;exact ih hv n n' b h1 h2
 ·clear hv
  induction s generalizing pre with
  |nil=>cases pre with
   |nil=>intro n;simp [nmGet,stL.hpL]
   |cons _ _=>simp [z1l] at hk
  |cons p r ih=>
   cases pre with
   |nil=>obtain ⟨a,c⟩:=p;simp [z1l] at hk
   |cons q t=>
    obtain ⟨a,c⟩:=p;obtain ⟨m,B⟩:=q;simp only [z1l] at hk
    cases hb:Nat.beq a m with
    |false=>simp [hb] at hk
    |true=>
     simp only [hb,cond_true] at hk;have:=Nat.eq_of_beq_eq_true hb;subst this;intro n;simp only [nmGet,stL.hpL]
     cases Nat.beq n a with
     |true=>simp
     |false=>exact ih hk n
theorem zSb {s:List (Nat×Nat)} {hp:Nat->Option Blk}:∀ {pre:List (Nat×Blk)},covH hp (rnH s pre)->∀ n B b,stL.hpL pre n=some B->nmGet s n=some b->hp b=some (rnB s B)
 | [],_,n,B,b,h,_=>by cases h
 |(m,C)::r,hc,n,B,b,h,hg=>by
  simp only [stL.hpL] at h;simp only [rnH] at hc
  cases hb:Nat.beq n m with
  |true=>
   simp only [hb,cond_true,Option.some.injEq] at h;subst h;rw [<-Nat.eq_of_beq_eq_true hb,hg] at hc;exact hc.1
  |false=>
   simp only [hb,cond_false] at h
   cases hq:nmGet s m with
   |none=>rw [hq] at hc;exact zSb hc n B b h hg
   |some b'=>rw [hq] at hc;exact zSb hc.2 n B b h hg
theorem zAu {P:Program} {f:FuncId} {args xs:List AV} {pre post:List (Nat×Blk)} {d:D} {hp:Nat->Option Blk} {dst:Option Tmp} {ds:List D} {ns:List Nat} {K:Eff->Prop} (H:zAx P f args pre post d) (s:List (Nat×Nat))
  (hs:(z1l s pre&&yBj s)=true) (hc:covH hp (rnH s pre)) (hx:rnVs s args=xs) (k:K ⟨ofD d,rnH s post,nmGet s 1000004⟩):zR P f true xs hp dst ds ns K:=
 zIw (hx▸H.2 s hp (z1t hs) (zSb hc)) k
theorem zAg {P:Program} {f:FuncId} {args xs:List AV} {pre post:List (Nat×Blk)} {d:D} {hp:Nat->Option Blk} {K:Eff->Prop} (H:zAx P f args pre post d) (s:List (Nat×Nat))
  (hs:(z1l s pre&&yBj s)=true) (hc:covH hp (rnH s pre)) (hx:rnVs s args=xs) (k:K ⟨ofD d,rnH s post,nmGet s 1000004⟩):yGi P f xs hp K:=
 yBy (hx▸H.2 s hp (z1t hs) (zSb hc)) k
theorem zAi {T:Tab} {tm:Nat->AV} {hp:Nat->Option Blk} {rs:List ResultVar} {post:List (Nat×Blk)} {d d':D} (h:(resD T tm hp rs).map oneD=some d') (e:d'=d) (f:yMk (zWn T tm hp rs)=true) (p:covH hp post):HRet T tm hp rs post d:=⟨by rw [h,e],f,p⟩
section
variable {P:Program} {T:Tab} (hT:zFo P T)
theorem z6l (T:Tab) (tm:Nat->AV) (hp:Nat->Option Blk):∀ q,z6k T tm hp q=zWn T tm hp q
 | []=>rfl
 |r::q=>by rw [z6k,zWn,z6l T tm hp q]
theorem yDs {b:Nat}:∀ {l:List Nat},b∈l->memN b l=true
 | [],h=>by cases h
 |x::r,h=>by
  simp only [memN]
  cases h with
  |head=>simp
  |tail _ h=>
   cases Nat.beq b x with
   |true=>rfl
   |false=>exact yDs h
theorem yKd {F:List Nat}:∀ {l:List Nat},disN l F=true->∀ b∈l,b∉F
 | [],_,b,hb=>by cases hb
 |x::r,h,b,hb=>by
  simp only [disN] at h
  cases hx:memN x F with
  |true=>rw [hx] at h;cases h
  |false=>
   rw [hx] at h
   cases hb with
   |head=>exact fun hm=>by rw [yDs hm] at hx;cases hx
   |tail _ hb=>exact yKd h b hb
theorem z6n {b:Nat}:∀ {c:List AV},AV.own b∈c->b∈yMx c
 | [],h=>by cases h
 |x::r,h=>by
  cases h with
  |head=>exact .head _
  |tail _ h=>
   have:=z6n h
   cases x<;>first|exact this|exact .tail _ this
theorem yQh {hp0:Nat->Option Blk} {b:Nat} (ns:List Nat) (hp:Nat->Option Blk) (h:b∉ns):zBa hp (frz hp0 ns) b=hp b:=zVm ns hp h
include hT in
theorem yAi (hm:P.follows .mixedOrders=true) {f:FuncId} {fn:Func} {ds rs:List D} {cs:List SC} (hf:P.funcs[f]?=some fn) (hc:zNe fn ds.length=true) (h:AFnP T P fn ds cs rs):yGb P f ds cs rs:=by
 obtain ⟨c,hb,hdst,hn,hnm⟩:=zHk hc;refine ⟨⟨fn,hf,by rw [hb];rfl,hnm⟩,fun w M vs ha hds=>calls_of_wp hf hb ?_⟩;simp only [AFnP,hb] at h
 have hsz:vs.size<=fn.ntmps:=by rw [hds.1];exact hn
 refine Code.wp_mono (fun e a w' hq=>?_) (zJw (w0:=w) (M0:=M) (ι0:=fun _=>none) (own:=fun c=>w.heap.size<=c) hT (fun _ h=>h) hm c _ _ _ w hdst h (zTv ha hds hsz))
 have fin:∀ st:zAo,(∃ t r q b c,fn.results.toList=.tmp t::r::q/\st.tm t=.ptr b 0 0/\st.hp b=some (.box c false) /\zGi st.hp [] c cs/\resD T st.tm st.hp (r::q)=some rs/\disN (yMx c) (z6k T st.tm st.hp (r::q))=true)->ARel (fun c=>w.heap.size<=c) w M (fun _=>none) fn.ntmps st a w'->
   a.defers=[] /\ ∃ v,(results fn a.tmps).run P w'=.ok v w'/\ ∃ (c:Nat) (us rv:Array Value) (Ty:TypeId) (M':Mem) (bl:Nat->Option Loc),Ending.returned v=.returned (.tuple (#[.pointer (some ⟨c,0,none⟩)]++rv)) /\w.heap.size<=c/\w'.heap[c]?=some (.cells us Ty (0,0)) /\ (∀ o,M' c o=none) /\
    Below w.heap.size w w'/\Sub M M'/\zBj M' w'/\zTf w M M'/\us.size=cs.length/\zUj M' rs rv/\
    (∀ (i:Nat) (c:SC),cs[i]?=some c->∃ u,us[i]?=some u/\match c with
     | .d x=>DenD M' x u
     | .row l sz=>z3x w w' M' l sz (bl i) u) /\
    (∀ (i j:Nat) (L L':Loc),bl i=some L->bl j=some L'->L.blk=L'.blk->i=j) /\ ∀ (i:Nat) (L:Loc),bl i=some L->L.blk≠c:=by
  intro st hres hr;obtain ⟨M1,ι,h1,h2,h3,h4,h5,h6,h7,h8,h9⟩:=hr;obtain ⟨t,r,q,b,c,hr1,hr2,hr3,hr4,hr5,hr6⟩:=hres;rw [z6l] at hr6;obtain ⟨us0,xs,e1,e2,e3,e4⟩:=zWy hT h2 h5 h7 hr5;obtain ⟨M2,s2,a2,n2,g2,l2,f2⟩:=zHm (hp0:=st.hp) (zWn T st.tm st.hp (r::q)) M1 st.hp h2 h5 (.refl _);have hpt:=h7 t;rw [hr2] at hpt;generalize hpv:a.tmps.getD t undef=pv at hpt
  have hkeep:∀ b' l sz,AV.own b'∈c->st.hp b'=some (.row l sz false)->zBa st.hp (frz st.hp (zWn T st.tm st.hp (r::q))) b'=some (.row l sz false):=fun b' l sz hm hb'=>by
   rw [yQh _ _ (yKd hr6 b' (z6n hm))];exact hb'
  have hbb:zBa st.hp (frz st.hp (zWn T st.tm st.hp (r::q))) b=some (.box c false):=by
   rcases l2 b with e|⟨l,sz,fr,e5,e6⟩
   ·rw [e];exact hr3
   ·rw [hr3] at e5;cases e5
  obtain ⟨L,hL,hpe⟩:∃ L,ι b=some (some L) /\pv=.pointer (some ⟨L.blk,0*L.sz+0,none⟩):=by
   cases hpt with
   |ptr _ _ _ L hL=>exact ⟨L,hL,rfl⟩
   |ptrL _ _ _ _ hL=>rw [(h5.dom b).2 hL] at hr3;cases hr3
  obtain ⟨w1,cs1,Ty,w2,w3,w4,w5,w6,w7⟩:=g2.at_ b _ L hbb hL;obtain ⟨m1,m2,m3⟩:=zJo hr4
  have hrun:(fn.results.toList.mapM (resRun a.tmps)).run P w'=.ok (pv::us0) w':=by
   rw [hr1,List.mapM_cons];simp only [Sem.run_bind,resRun,Sem.run_pure,Result.andThen_ok,hpv,e1]
  let bl:Nat->Option Loc:=fun i=>match cs[i]? with
   |some (.row _ _)=>match c[i]? with
    |some (.own b)=>match ι b with
     |some (some L)=>some L
     |_=>none
    |_=>none
   |_=>none
  have hbl:∀ i L,bl i=some L->∃ l sz b,cs[i]?=some (.row l sz) /\c[i]?=some (.own b) /\ι b=some (some L):=by
   intro i L hL;simp only [bl] at hL
   split at hL
   ·rename_i l sz e1
    split at hL
    ·rename_i b e2
     split at hL
     ·rename_i L' e3
      cases hL
      exact ⟨l,sz,b,e1,e2,e3⟩
     ·cases hL
    ·cases hL
   ·cases hL
  have hlen:us0.length=rs.length:=e2
  have hrl:0<rs.length:=by
   cases rs with
   |nil=>
    simp only [resD] at hr5
    split at hr5
    ·split at hr5<;>cases hr5
    ·cases hr5
   |cons=>simp
  have hval:(if h:(Value.pointer (some ⟨L.blk,0*L.sz+0,none⟩)::us0).toArray.size=1 then (Value.pointer (some ⟨L.blk,0*L.sz+0,none⟩)::us0).toArray[0] else .tuple (Value.pointer (some ⟨L.blk,0*L.sz+0,none⟩)::us0).toArray)=Value.tuple (#[.pointer (some ⟨L.blk,0,none⟩)]++us0.toArray):=by
   rw [dif_neg (by simp only [List.size_toArray,List.length_cons];omega)];simp
  refine ⟨h9,_,zFz fn a.tmps w' (hpe▸hrun),L.blk,cs1,us0.toArray,Ty,M2,bl,by rw [hval],w1,w2,w7.2 rfl,⟨h4.os,h4.tape,h4.output,h4.size,fun c hc=>h4.block c (by omega)⟩,h1.trans s2,a2,fun b o v hv=>(h3.trans n2) b o v hv,?_,⟨by simp [hlen],fun i d v q1 q2=>?_⟩,fun i s hs=>?_,fun i j L1 L2 hL1 hL2 he=>?_,fun i L1 hL1 he=>?_⟩
  ·rw [w3,w5];first|exact m1|exact m1.symm
  ·have hx:xs[i]?=some (xs[i]'(by rw [e3];exact (List.getElem?_eq_some_iff.1 q1).1)):=by simp
   obtain ⟨p1,p2,p3⟩:=e4 i _ d v hx q1 (by simpa using q2);exact zTq g2 (by rw [zTo l2];exact p2) (zEa (fun b l sz fr hb he=>f2 b l sz fr (.inl hb) he) l2 _ p3) (p1.mono s2)
  ·obtain ⟨x,hx,hm2⟩:=m2 i s hs;obtain ⟨u,hu,hdx⟩:=w6.den i x hx;refine ⟨u,hu,?_⟩
   cases s with
   |d d=>exact z6x hdx hm2
   |row l sz=>
    rcases hm2 with ⟨b',rfl,e5,_⟩|⟨rfl,rfl⟩
    ·have e6:=hkeep b' l sz (List.mem_of_getElem? hx) e5;show z3x w w' M2 l sz (bl i) u
     cases hdx with
     |own _ L' cap hL' hn2 hc2=>
      have:bl i=some L':=by simp only [bl,hs,hx,hL']
      rw [this];obtain ⟨q1,cs',Ty',q2,q3,q4,q5,q6,q7,q8⟩:=g2.at_ b' _ L' e6 hL';exact ⟨q1,cap,cs',Ty',by rw [q5],q5.symm,q4.symm,q3.symm,by rw [q5];exact hn2,by rw [q4,q3];exact hc2,q2,q7,q8.2 rfl⟩
     |ownE _ a0 hL'=>
      have:bl i=none:=by simp only [bl,hs,hx,hL']
      rw [this];obtain ⟨sz2,fr2,e0⟩:=g2.virt b' hL'
      rw [e6] at e0;cases e0
      exact ⟨rfl,a0,rfl⟩
     |ownL _ _ hL'=>rw [(g2.dom b').2 hL'] at e6;cases e6
    ·show z3x w w' M2 [] sz (bl i) u
     have:bl i=none:=by simp only [bl,hs,hx]
     rw [this]
     cases hdx with
     |nil a0=>exact ⟨rfl,a0,rfl⟩
  ·obtain ⟨l,sz,b1,g1,g3,g4⟩:=hbl i L1 hL1;obtain ⟨l',sz',b2,g1',g3',g4'⟩:=hbl j L2 hL2;have:=g2.inj b1 b2 L1 L2 g4 g4' he;subst this;exact m3 i j b1 l l' sz sz' g1 g1' g3 g3'
  ·obtain ⟨l,sz,b1,g1,g3,g4⟩:=hbl i L1 hL1;have:=g2.inj b1 b L1 L g4 hL he;subst this;obtain ⟨x,hx,hm2⟩:=m2 i _ g1;rw [g3] at hx
   cases hx
   rcases hm2 with ⟨b',e7,e5,_⟩|⟨e7,_⟩
   ·cases e7
    rw [hr3] at e5;cases e5
   ·cases e7
 cases e with
 |normal=>obtain ⟨st,k1,k2⟩:=hq;exact fin st k1 k2
 |ret=>obtain ⟨st,k1,k2⟩:=hq;exact fin st k1 k2
 |exit i=>obtain ⟨st,k1,k2⟩:=hq;exact k1.elim
 |goto l=>exact hq.elim
 |panic ch=>exact hq.elim
 |outgrown=>exact hq.elim
end
def yGy:Blk->Bool
 | .row _ _ _=>true
 | .box _ _=>false
def yAq:List (Nat×Blk)->Bool
 | []=>true
 |(_,B)::r=>bif yGy B then yAq r else false
theorem zXa:∀ {l:List (Nat×Blk)},yAq l=true->∀ n B,stL.hpL l n=some B->yGy B=true
 | [],_,n,B,h=>by cases h
 |(t,v)::r,hp,n,B,h=>by
  simp only [yAq] at hp
  cases hc:yGy v with
  |false=>simp [hc] at hp
  |true=>
   simp only [hc,cond_true] at hp;simp only [stL.hpL] at h
   cases hb:Nat.beq n t with
   |true=>
    simp only [hb,cond_true,Option.some.injEq] at h
    subst h;exact hc
   |false=>
    simp only [hb,cond_false] at h;exact zXa hp n B h
def farB (b:Nat):Bool:=bif Nat.ble 1000000 b&&Nat.ble b 1000003 then false else true
theorem yQb {b:Nat} (h:farB b=true):¬(1000000<=b/\b<1000004):=by
 rintro ⟨h1,h2⟩;unfold farB at h;rw [Nat.ble_eq_true_of_le h1,Nat.ble_eq_true_of_le (Nat.lt_succ_iff.1 h2)] at h
 cases h
inductive WEnd (hp:Nat->Option Blk) (l:List (List D)) (sz:Nat):AV->Prop
 |win (b n:Nat) (c:Option Nat) (r:List (List D)) (h:hp b=some (.row r sz false)) (hn:n<=r.length) (hl:r.take n=l) (hb:farB b=true):WEnd hp l sz (.win b 0 n c)
 |own (b:Nat) (h:hp b=some (.row l sz false)) (hb:farB b=true):WEnd hp l sz (.own b)
 |nil (h:l=[]):WEnd hp l sz .nil
structure WRet (tm:Nat->AV) (hp:Nat->Option Blk) (rs:List ResultVar) (l:List (List D)) (sz:Nat) (post:List (Nat×Blk)):Prop where
 res:∃ t,rs=[.tmp t] /\WEnd hp l sz (tm t)
 post:covH hp post
def AFnW (T:Tab) (P:Program) (fn:Func) (l:List (List D)) (sz:Nat) (rest:List AV) (pre post:List (Nat×Blk)) (l':List (List D)):Prop:=
 match fn.body with
 |some c=>(∀ cap,l.length<=cap->AW T P c ⟨zRq (.win 1000004 0 l.length (some cap)::rest),stL.hpL ((1000004,.row (l++List.replicate (cap-l.length) (List.replicate sz .unk)) sz false)::pre)⟩ fun e st=>match e with
   | .exit _=>False
   |_=>WRet st.tm st.hp fn.results.toList l' sz post) /\
  (l=[]->AW T P c ⟨zRq (.nil::rest),stL.hpL ((1000004,.row [] sz false)::pre)⟩ fun e st=>match e with
   | .exit _=>False
   |_=>WRet st.tm st.hp fn.results.toList l' sz post)
 |none=>False
def zXw (P:Program) (f:FuncId) (l:List (List D)) (sz:Nat) (rest:List AV) (pre post:List (Nat×Blk)) (l':List (List D)):Prop:=
 FnOk P f/\ ∀ (s:List (Nat×Nat)) (hp:Nat->Option Blk) (b0:Nat),NmOk ((1000004,b0)::s) ((1000004,.row l sz false)::pre)->(∀ n B b,stL.hpL ((1000004,.row l sz false)::pre) n=some B->nmGet ((1000004,b0)::s) n=some b->hp b=some (rnB ((1000004,b0)::s) B))->
  zOj P f (.own b0::rnVs ((1000004,b0)::s) rest) hp ⟨.own b0,rnH ((1000004,b0)::s) ((1000004,.row l' sz false)::post),some b0⟩
theorem z8e {M:Mem} {ι ι':Inj} {w:World} {B:Blk} {L:Loc} (hB:yGy B=true) (h:zEp M ι w B L):zEp M ι' w B L:=by
 obtain ⟨cs,Ty,g2,g3,g4⟩:=h;refine ⟨cs,Ty,g2,g3,?_⟩
 cases B with
 |row l sz fr=>exact g4
 |box c fr=>cases hB
theorem HRel.widen {own:Nat->Prop} {M:Mem} {ι:Inj} {hp:Nat->Option Blk} {w:World} (h:HRel own M ι hp w) (hrows:∀ b B,hp b=some B->yGy B=true) {n:Nat} {l:List (List D)} {sz:Nat} (hb:hp n=some (.row l sz false)) {L:Loc} (hL:ι n=some (some L)) {cap:Nat} (hc:l.length<=cap) (hs:cap*sz<=L.size):
  HRel own M (upd ι n (some (some ⟨L.blk,L.sz,L.size,cap⟩))) (upd hp n (some (.row (l++List.replicate (cap-l.length) (List.replicate sz .unk)) sz false))) w:=by
 have hne:∀ b,b≠n->upd ι n (some (some ⟨L.blk,L.sz,L.size,cap⟩)) b=ι b:=fun b hb=>zAl _ _ hb
 have hblk:∀ b L',upd ι n (some (some ⟨L.blk,L.sz,L.size,cap⟩)) b=some (some L')->∃ L0,ι b=some (some L0) /\L0.blk=L'.blk:=by
  intro b L' e
  by_cases hb:b=n
  ·subst hb;rw [upd_same] at e;cases e;exact ⟨L,hL,rfl⟩
  ·rw [hne b hb] at e;exact ⟨L',e,rfl⟩
 refine ⟨fun b=>?_,fun b hv=>?_,fun b B L' hB hL'=>?_,fun b b' L1 L2 h1 h2 he=>?_⟩
 ·by_cases hb':b=n
  ·subst hb';simp [upd_same]
  ·rw [hne b hb',zAl _ _ hb'];exact h.dom b
 ·by_cases hb':b=n
  ·subst hb';rw [upd_same] at hv;cases hv
  ·rw [hne b hb'] at hv;rw [zAl _ _ hb'];exact h.virt b hv
 ·by_cases hb':b=n
  ·subst hb';rw [upd_same] at hL' hB
   cases hL';cases hB
   obtain ⟨ho,cs,Ty,q0,q1,q2,q3,q4,q5,q6⟩:=h.at_ b _ L hb hL
   have hll:(l++List.replicate (cap-l.length) (List.replicate sz D.unk)).length=cap:=by simp;omega
   refine ⟨ho,cs,Ty,q0,q1,q2,hll,by rw [hll];exact hs,⟨fun i e he=>?_,fun i j e d he hj=>?_⟩,(by intro e;cases e),fun _=>q6.2 rfl⟩
   ·by_cases hi:i<l.length
    ·rw [List.getElem?_append_left hi] at he;exact q5.len i e he
    ·rw [List.getElem?_append_right (by omega),List.getElem?_replicate] at he
     split at he
     ·cases he;simp
     ·cases he
   ·by_cases hi:i<l.length
    ·rw [List.getElem?_append_left hi] at he;exact q5.den i j e d he hj
    ·have hic:=(List.getElem?_eq_some_iff.1 he).1;rw [hll] at hic;rw [List.getElem?_append_right (by omega),List.getElem?_replicate] at he
     split at he
     ·cases he
      have hjl:=(List.getElem?_eq_some_iff.1 hj).1;rw [List.getElem?_replicate] at hj
      split at hj
      ·cases hj
       have hlt:i*sz+j<cs.size:=by
        rw [q1];exact Nat.lt_of_lt_of_le (zVr hic (by simpa using hjl)) hs
       exact ⟨cs[i*sz+j],by simp [hlt],.unk _⟩
      ·cases hj
     ·cases he
  ·rw [hne b hb'] at hL';rw [zAl _ _ hb'] at hB;obtain ⟨q1,q2⟩:=h.at_ b B L' hB hL';exact ⟨q1,z8e (hrows b B hB) q2⟩
 ·obtain ⟨L3,e3,e4⟩:=hblk b L1 h1;obtain ⟨L5,e5,e6⟩:=hblk b' L2 h2;exact h.inj b b' L3 L5 e3 e5 (by rw [e4,e6];exact he)
def ιOf (s:List (Nat×Nat)) (ι:Inj):Inj:=fun n=>match nmGet s n with|some b=>ι b|none=>none
def zRz (own:Nat->Prop) (s:List (Nat×Nat)) (ι:Inj):Nat->Prop:=fun c=>own c/\ ∀ b L,¬(∃ n,nmGet s n=some b)->ι b=some (some L)->L.blk≠c
theorem enterH {own:Nat->Prop} {M:Mem} {ι:Inj} {hp:Nat->Option Blk} {w:World} {s:List (Nat×Nat)} {pre:List (Nat×Blk)} (hs:NmOk s pre) (hpre:∀ n B b,stL.hpL pre n=some B->nmGet s n=some b->hp b=some (rnB s B)) (hph:zQ pre=true) (hh:HRel own M ι hp w):
  HRel (zRz own s ι) M (ιOf s ι) (stL.hpL pre) w:=by
 let S:Nat->Prop:=fun b=>∃ n,nmGet s n=some b
 let ι0:Inj:=ιOf s ι
 let own0:Nat->Prop:=zRz own s ι
 have hι0:∀ n,ι0 n=match nmGet s n with|some b=>ι b|none=>none:=fun n=>rfl
 have hι0s:∀ n b,nmGet s n=some b->ι0 n=ι b:=fun n b e=>by rw [hι0,e]
 have hι0n:∀ n,nmGet s n=none->ι0 n=none:=fun n e=>by rw [hι0,e]
 have hpr:∀ n b,nmGet s n=some b->∃ B,stL.hpL pre n=some B/\hp b=some (rnB s B):=fun n b e=>by
  cases hx:stL.hpL pre n with
  |none=>rw [(hs.dom n).2 hx] at e;cases e
  |some B=>exact ⟨B,rfl,hpre n B b hx e⟩
 have hh0:HRel own0 M ι0 (stL.hpL pre) w:=by
  refine ⟨fun n=>?_,fun n hv=>?_,fun n B L hB hL=>?_,fun n n' L L' h1 h2 he=>?_⟩
  ·rw [<-hs.dom n]
   constructor
   ·exact hι0n n
   ·intro e
    cases hg:nmGet s n with
    |none=>rfl
    |some b=>
     rw [hι0s n b hg] at e;obtain ⟨B,_,e2⟩:=hpr n b hg
     rw [(hh.dom b).2 e] at e2;cases e2
  ·cases hg:nmGet s n with
   |none=>rw [hι0n n hg] at hv;cases hv
   |some b=>
    rw [hι0s n b hg] at hv;obtain ⟨sz,fr,e⟩:=hh.virt b hv;obtain ⟨B,e1,e2⟩:=hpr n b hg;rw [e2] at e
    cases B with
    |row l sz' fr'=>simp only [rnB,Option.some.injEq,Blk.row.injEq] at e;obtain ⟨rfl,rfl,rfl⟩:=e;exact ⟨_,_,e1⟩
    |box c fr'=>simp [rnB] at e
  ·cases hg:nmGet s n with
   |none=>rw [hι0n n hg] at hL;cases hL
   |some b=>
    rw [hι0s n b hg] at hL;obtain ⟨q1,q2⟩:=hh.at_ b (rnB s B) L (hpre n B b hB hg) hL;refine ⟨⟨q1,fun b' L' hb' hL' e=>?_⟩,unB hι0 (zHf hph n B hB).1 q2⟩;have:=hh.inj b' b L' L hL' hL e;exact hb' (this▸⟨n,hg⟩)
  ·cases hg:nmGet s n with
   |none=>rw [hι0n n hg] at h1;cases h1
   |some b=>
    cases hg':nmGet s n' with
    |none=>rw [hι0n n' hg'] at h2;cases h2
    |some b'=>
     rw [hι0s n b hg] at h1;rw [hι0s n' b' hg'] at h2;have:=hh.inj b b' L L' h1 h2 he;subst this;exact hs.inj n n' b hg hg'
 exact hh0
open Classical in
theorem leaveH {own:Nat->Prop} {M M2:Mem} {ι ιx:Inj} {hp hpx:Nat->Option Blk} {w w':World} {s:List (Nat×Nat)} {pre post:List (Nat×Blk)} (hs:NmOk s pre) (hpre:∀ n B b,stL.hpL pre n=some B->nmGet s n=some b->hp b=some (rnB s B)) (hph:zQ pre=true) (hh:HRel own M ι hp w)
  (hsn:zXd pre post=true) (hnd:zSy post=true) (hs12:Sub M M2) (hn12:zCq (zRz own s ι) M M2) (h4:zBu (zRz own s ι) w w') (g2:HRel (zRz own s ι) M2 ιx hpx w')
  (hpo:∀ n b,nmGet s n=some b->∃ B,stL.hpL post n=some B/\hpx n=some B) (h6:∀ n b,nmGet s n=some b->n≠1000004->ιx n=ιOf s ι n) (av:AV):
  ∃ ι':Inj,HRel own M2 ι' (Eff.hp ⟨av,rnH s post,nmGet s 1000004⟩ hp) w'/\ (∀ b,Kp (nmGet s 1000004) b->ι' b=ι b) /\ (∀ n b,nmGet s n=some b->ι' b=ιx n) /\zBu own w w'/\zCq own M M2:=by
 let S:Nat->Prop:=fun b=>∃ n,nmGet s n=some b
 let ι0:Inj:=ιOf s ι
 let own0:Nat->Prop:=zRz own s ι
 have hι0:∀ n,ι0 n=match nmGet s n with|some b=>ι b|none=>none:=fun n=>rfl
 have hι0s:∀ n b,nmGet s n=some b->ι0 n=ι b:=fun n b e=>by rw [hι0,e]
 have hι0n:∀ n,nmGet s n=none->ι0 n=none:=fun n e=>by rw [hι0,e]
 have hpr:∀ n b,nmGet s n=some b->∃ B,stL.hpL pre n=some B/\hp b=some (rnB s B):=fun n b e=>by
  cases hx:stL.hpL pre n with
  |none=>rw [(hs.dom n).2 hx] at e;cases e
  |some B=>exact ⟨B,rfl,hpre n B b hx e⟩
 have hnear:∀ n b,nmGet s n=some b->1000000<=n/\n<1000005:=fun n b e=>by
  obtain ⟨B,q,_⟩:=hpr n b e;exact (zHf hph n B q).2
 let ι':Inj:=fun b=>if hb:S b then ιx (Classical.choose hb) else ι b
 have hιs:∀ n b,nmGet s n=some b->ι' b=ιx n:=fun n b e=>by
  have hb:S b:=⟨n,e⟩;show (if hb:S b then ιx (Classical.choose hb) else ι b)=_;rw [dif_pos hb,hs.inj _ n b (Classical.choose_spec hb) e]
 have hιn:∀ b,¬S b->ι' b=ι b:=fun b hb=>dif_neg hb
 have hkeep:∀ b,Kp (nmGet s 1000004) b->ι' b=ι b:=fun b hb=>by
  by_cases hS:S b
  ·obtain ⟨n,e⟩:=hS;have hr:=hnear n b e
   have hne:n≠1000004:=fun e2=>by
    subst e2;rw [e] at hb;exact zTg hb rfl
   rw [hιs n b e,h6 n b e hne];exact hι0s n b e
  ·exact hιn b hS
 have hpS:∀ n b B,nmGet s n=some b->stL.hpL post n=some B->Eff.hp ⟨av,rnH s post,nmGet s 1000004⟩ hp b=some (rnB s B):=fun n b B e hB=>by
  rw [eff_hp_get];simp only [z2p hs.inj (zRw hnd) e hB]
 have hpN:∀ b,¬S b->Eff.hp ⟨av,rnH s post,nmGet s 1000004⟩ hp b=zEk (nmGet s 1000004) (hp b):=fun b hb=>by
  rw [eff_hp_get];simp only [zUd fun n e=>hb ⟨n,e⟩]
 have hkey:∀ b B L,Eff.hp ⟨av,rnH s post,nmGet s 1000004⟩ hp b=some B->ι' b=some (some L)->own L.blk/\zEp M2 ι' w' B L/\ (S b->own0 L.blk) /\ (¬S b->¬own0 L.blk):=by
  intro b B L hB hL
  by_cases hb:S b
  ·obtain ⟨n,e⟩:=hb;obtain ⟨B0,q1,q2⟩:=hpo n b e;rw [hpS n b B0 e q1,Option.some.injEq] at hB;subst hB;rw [hιs n b e] at hL;obtain ⟨k1,k2⟩:=g2.at_ n B0 L q2 hL;exact ⟨k1.1,reB (fun n b e=>hιs n b e) k2,fun _=>k1,fun h=>absurd ⟨n,e⟩ h⟩
  ·rw [hpN b hb] at hB;rw [hιn b hb] at hL
   have hno:¬own0 L.blk:=fun h=>h.2 b L hb hL rfl
   cases hx2:hp b with
   |none=>rw [hx2] at hB;unfold zEk at hB;split at hB<;>cases hB
   |some B0=>
    obtain ⟨q1,q2⟩:=hh.at_ b B0 L hx2 hL
    have q3:zEp M2 ι w' B0 L:=q2.keep hs12 (h4.block _ hno) fun hfr o=>by
     cases hv:M2 L.blk o with
     |none=>rfl
     |some u=>
      rcases hn12 _ _ _ hv with h|h
      ·rw [hh.closed hL B0 hx2 hfr o] at h;cases h
      ·exact absurd h hno
    refine ⟨q1,?_,fun h=>absurd h hb,fun _=>hno⟩;rw [hx2] at hB;unfold zEk at hB
    split at hB
    ·rename_i hk;simp only [Option.some.injEq] at hB;subst hB
     have:ι'=ι:=funext fun b=>hkeep b (by rw [hk];trivial)
     rw [this];exact q3
    ·rename_i k hk;simp only [Option.map_some,Option.some.injEq] at hB;subst hB
     exact q3.kill fun b' hb'=>hkeep b' (by rw [hk];exact hb')
 refine ⟨ι',⟨fun b=>?_,fun b hv=>?_,fun b B L hB hL=>⟨(hkey b B L hB hL).1,(hkey b B L hB hL).2.1⟩,fun b b' L L' hL hL' heq=>?_⟩,hkeep,hιs,⟨h4.os,h4.tape,h4.output,h4.size,fun c hc=>h4.block c fun h=>hc h.1⟩,fun b o v hv=>orR (hn12 b o v hv) fun h=>h.1⟩
 ·by_cases hb:S b
  ·obtain ⟨n,e⟩:=hb;obtain ⟨B0,q1,q2⟩:=hpo n b e;rw [hpS n b B0 e q1,hιs n b e]
   constructor
   ·intro h;cases h
   ·intro h;rw [(g2.dom n).2 h] at q2;cases q2
  ·rw [hpN b hb,hιn b hb,<-hh.dom b];unfold zEk
   split
   ·rfl
   ·cases hp b<;>simp
 ·by_cases hb:S b
  ·obtain ⟨n,e⟩:=hb;obtain ⟨B0,q1,q2⟩:=hpo n b e;rw [hιs n b e] at hv;obtain ⟨sz,fr,e0⟩:=g2.virt n hv;rw [q2,Option.some.injEq] at e0;subst e0;exact ⟨sz,fr,hpS n b _ e q1⟩
  ·rw [hιn b hb] at hv;obtain ⟨sz,fr,e0⟩:=hh.virt b hv;rw [hpN b hb,e0];refine ⟨sz,fr,?_⟩;unfold zEk
   split<;>rfl
 ·have get:∀ b L,ι' b=some (some L)->∃ B,Eff.hp ⟨av,rnH s post,nmGet s 1000004⟩ hp b=some B:=fun b L hL=>by
   by_cases hb:S b
   ·obtain ⟨n,e⟩:=hb;obtain ⟨B0,q1,_⟩:=hpo n b e;exact ⟨_,hpS n b B0 e q1⟩
   ·rw [hιn b hb] at hL
    cases hx:hp b with
    |none=>rw [(hh.dom b).1 hx] at hL;cases hL
    |some B=>
     rw [hpN b hb,hx];unfold zEk
     split<;>exact ⟨_,rfl⟩
  obtain ⟨B,hB⟩:=get b L hL;obtain ⟨B',hB'⟩:=get b' L' hL';have q:=(hkey b B L hB hL).2.2;have q':=(hkey b' B' L' hB' hL').2.2
  by_cases hb:S b
  ·by_cases hb':S b'
   ·obtain ⟨n,e⟩:=hb;obtain ⟨n',e'⟩:=hb';rw [hιs n b e] at hL;rw [hιs n' b' e'] at hL';have:=g2.inj n n' L L' hL hL' heq;subst this
    rw [e] at e';exact Option.some.inj e'
   ·exact absurd (heq▸q.1 hb) (q'.2 hb')
  ·by_cases hb':S b'
   ·exact absurd (heq▸q'.1 hb') (q.2 hb)
   ·rw [hιn b hb] at hL;rw [hιn b' hb'] at hL';exact hh.inj b b' L L' hL hL' heq
section
variable {P:Program} {T:Tab} (hT:zFo P T)
include hT
open Classical in
theorem yBk (hm:P.follows .mixedOrders=true) {f:FuncId} {fn:Func} {l l':List (List D)} {sz:Nat} {rest:List AV} {pre post:List (Nat×Blk)} (hf:P.funcs[f]?=some fn) (hc:zNe fn (rest.length+1)=true)
  (hpl:(zOb rest&&(!killV.parts 1000004 rest&&(zQ ((1000004,.row l sz false)::pre)&&(zXd pre post&&(zSy ((1000004,.row l' sz false)::post)&&(yAq pre&&yAq post))))))=true) (h:AFnW T P fn l sz rest pre post l'):zXw P f l sz rest pre post l':=by
 simp only [Bool.and_eq_true] at hpl;obtain ⟨hpa,hfr0,hph,hsn,hnd,hrp,hrq⟩:=hpl
 have hfr:∀ x∈rest,Free 1000004 x:=fun x hx=>zKe (by simpa using hfr0) x hx 1000004 (Fm_self _)
 obtain ⟨c,hb,hdst,hn,hnm⟩:=zHk hc;have hok:FnOk P f:=⟨fn,hf,by rw [hb];rfl,hnm⟩;refine ⟨hok,fun s0 hp b0 hs hpre=>⟨hok,fun own M ι w vs hown ha hh hxs=>calls_of_wp hf hb ?_⟩⟩;simp only [AFnW,hb] at h;obtain ⟨hA,hB⟩:=h
 have hvl:vs.size=rest.length+1:=by rw [hxs.1];simp [z2s]
 have hszv:vs.size<=fn.ntmps:=by rw [hvl];exact hn
 have hg0:nmGet ((1000004,b0)::s0) 1000004=some b0:=rfl;have hsn1:zXd ((1000004,.row l sz false)::pre) ((1000004,.row l' sz false)::post)=true:=hsn;have hh0:=enterH hs hpre hph hh
 have hown0:∀ c,w.heap.size<=c->zRz own ((1000004,b0)::s0) ι c:=fun c hc=>⟨hown c hc,fun b L _ hL e=>by have:=hh.lt hL;omega⟩
 have hb0:hp b0=some (.row l sz false):=hpre 1000004 (.row l sz false) b0 rfl hg0;have hrows:∀ n B,stL.hpL ((1000004,.row l sz false)::pre) n=some B->yGy B=true:=zXa (l:=(1000004,.row l sz false)::pre) hrp
 have hv0:∃ v0,vs[0]?=some v0/\DenA M ι (.own b0) v0:=by
  have hlt:0<vs.size:=by omega
  exact ⟨vs[0],by simp [hlt],hxs.2 0 (.own b0) _ rfl (by simp [hlt])⟩
 obtain ⟨v0,hv0,hd0⟩:=hv0
 have hargs:∀ (ι1:Inj),(∀ n,n≠1000004->ι1 n=ιOf ((1000004,b0)::s0) ι n)->∀ (i:Nat) (x:AV) (v:Value),rest[i]?=some x->vs[i+1]?=some v->DenA M ι1 x v:=by
  intro ι1 h1 i x v hx hv
  have hx1:DenA M (ιOf ((1000004,b0)::s0) ι) x v:=unV (s:=(1000004,b0)::s0) (fun n=>rfl) (zOc hpa x (List.mem_of_getElem? hx)) (hxs.2 (i+1) _ v (by
   show (rnVs ((1000004,b0)::s0) rest)[i]?=some (rnV ((1000004,b0)::s0) x)
   rw [z2r,hx];rfl) hv)
  exact hx1.turnS (S:=fun b=>b≠1000004) (fun b hb=>h1 b hb) fun b hb=>by
   have:b=1000004:=Classical.byContradiction hb
   subst this;exact hfr x (List.mem_of_getElem? hx)
 suffices H:∃ (ι1:Inj) (hp1:Nat->Option Blk) (a0:AV),HRel (zRz own ((1000004,b0)::s0) ι) M ι1 hp1 w/\DenA M ι1 a0 v0/\ (∀ n,n≠1000004->ι1 n=ιOf ((1000004,b0)::s0) ι n) /\
   AW T P c ⟨zRq (a0::rest),hp1⟩ fun e st=>match e with
    | .exit _=>False
    |_=>WRet st.tm st.hp fn.results.toList l' sz post by
  obtain ⟨ι1,hp1,a0,k1,k2,k3,k4⟩:=H
  have hinit:ARel (zRz own ((1000004,b0)::s0) ι) w M ι1 fn.ntmps ⟨zRq (a0::rest),hp1⟩ {tmps:=vs++Array.replicate (fn.ntmps-vs.size) undef,defers:=[]} w:=by
   refine ⟨M,ι1,.refl M,ha,.refl _ _,.refl _ _,k1,fun _ _ _=>rfl,fun t=>?_,by simp;omega,rfl⟩;show DenA M ι1 (zRq (a0::rest) t) ((vs++Array.replicate (fn.ntmps-vs.size) undef).getD t undef);rw [zU];refine zPj (a0::rest) 0 vs (fun i x v h1 h2=>?_) (by rw [hvl];simp) t
   cases i with
   |zero=>
    simp only [List.getElem?_cons_zero,Option.some.injEq] at h1;subst h1
    rw [Nat.zero_add,hv0] at h2;cases h2
    exact k2
   |succ i=>exact hargs ι1 k3 i x v (by simpa using h1) (by simpa using h2)
  refine Code.wp_mono (fun e a w' hq=>?_) (zJw (w0:=w) (M0:=M) (ι0:=ι1) (own:=zRz own ((1000004,b0)::s0) ι) hT hown0 hm c _ _ _ w hdst k4 hinit)
  have fin:∀ st:zAo,WRet st.tm st.hp fn.results.toList l' sz post->ARel (zRz own ((1000004,b0)::s0) ι) w M ι1 fn.ntmps st a w'->
    a.defers=[] /\ ∃ v,(results fn a.tmps).run P w'=.ok v w'/\ ∃ (v':Value) (M':Mem) (ι':Inj),Ending.returned v=.returned v'/\zBu own w w'/\Sub M M'/\zBj M' w'/\zCq own M M'/\
     HRel own M' ι' (Eff.hp ⟨.own b0,rnH ((1000004,b0)::s0) ((1000004,.row l' sz false)::post),some b0⟩ hp) w'/\ (∀ b,Kp (some b0) b->ι' b=ι b) /\DenA M' ι' (.own b0) v':=by
   intro st hret hr;obtain ⟨⟨t,ht,hw⟩,hpost⟩:=hret;obtain ⟨M1,ι2,h1,h2,h3,h4,h5,h6,h7,h8,h9⟩:=hr
   have hrun:(fn.results.toList.mapM (resRun a.tmps)).run P w'=.ok [a.tmps.getD t undef] w':=by
    rw [ht];simp [List.mapM_cons,resRun]
   have hv:=h7 t;generalize a.tmps.getD t undef=v at hv hrun
   have hX:∃ X:Option Loc,(∀ L1,X=some L1->(zRz own ((1000004,b0)::s0) ι L1.blk/\ (∀ ιy,zEp M1 ιy w' (.row l' sz false) L1) /\ (∃ b L2,farB b=true/\ι2 b=some (some L2) /\L2.blk=L1.blk) /\
     ∃ cap,v=.slice (some ⟨L1.blk,0,none⟩) L1.len cap/\L1.len<=cap/\cap*L1.sz<=L1.size)) /\ (X=none->l'=[] /\ ∃ a,v=.slice a 0 0):=by
    generalize st.tm t=x at hv hw
    cases hw with
    |nil he=>
     cases hv with
     |nil a0=>exact ⟨none,(fun L1 e=>by cases e),fun _=>⟨he,a0,rfl⟩⟩
    |own b hb hfb=>
     cases hv with
     |own _ L cap hL hn2 hc2=>
      obtain ⟨q1,q2⟩:=h5.at_ b _ L hb hL;refine ⟨some L,fun L1 e=>?_,fun e=>by cases e⟩
      cases e
      exact ⟨q1,fun ιy=>z8e rfl q2,⟨b,L,hfb,hL,rfl⟩,cap,rfl,hn2,hc2⟩
     |ownE _ a0 hL=>
      obtain ⟨sz2,fr2,e0⟩:=h5.virt b hL
      rw [hb] at e0;cases e0
      exact ⟨none,(fun L1 e=>by cases e),fun _=>⟨rfl,a0,rfl⟩⟩
     |ownL _ _ hL=>rw [(h5.dom b).2 hL] at hb;cases hb
    |win b n cc r hb hnr hl hfb=>
     cases hv with
     |winL _ _ _ _ _ hL=>rw [(h5.dom b).2 hL] at hb;cases hb
     |win _ _ _ _ L k base hL hnk hcc hkk hbb=>
      obtain ⟨q0,cs,Ty,q1,q2,q3,q4,q5,q6,q7⟩:=h5.at_ b _ L hb hL
      have hbase:base=0:=by
       rcases hbb with e|e
       ·simpa using e
       ·omega
      subst hbase
      have hl':l'.length=n:=by rw [<-hl];simp;omega
      refine ⟨some ⟨L.blk,L.sz,L.size,n⟩,fun L1 e=>?_,fun e=>by cases e⟩
      cases e
      refine ⟨q0,fun ιy=>⟨cs,Ty,q1,q2,q3,hl',?_,⟨fun i e he=>?_,fun i j e d he hj=>?_⟩,(by intro e;cases e),q7.2⟩,⟨b,L,hfb,hL,rfl⟩,k,rfl,hnk,by simpa using hkk⟩
      ·exact Nat.le_trans (Nat.mul_le_mul_right _ (by omega)) q5
      ·refine q6.len i e ?_;rw [<-hl,List.getElem?_take] at he
       split at he
       ·exact he
       ·cases he
      ·refine q6.den i j e d ?_ hj;rw [<-hl,List.getElem?_take] at he
       split at he
       ·exact he
       ·cases he
   obtain ⟨X,hX1,hX2⟩:=hX
   let ιx:Inj:=fun n=>match nmGet ((1000004,b0)::s0) n with
    |none=>none
    |some _=>if n=1000004 then some X else ι2 n
   let hpx:Nat->Option Blk:=fun n=>match nmGet ((1000004,b0)::s0) n with
    |none=>none
    |some _=>stL.hpL ((1000004,.row l' sz false)::post) n
   have hx0:∀ n,nmGet ((1000004,b0)::s0) n=none->ιx n=none/\hpx n=none:=fun n e=>by
    constructor
    ·show (match nmGet ((1000004,b0)::s0) n with|none=>none|some _=>if n=1000004 then some X else ι2 n)=none;rw [e]
    ·show (match nmGet ((1000004,b0)::s0) n with|none=>none|some _=>stL.hpL ((1000004,.row l' sz false)::post) n)=none;rw [e]
   have hx4:ιx 1000004=some X/\hpx 1000004=some (.row l' sz false):=⟨rfl,rfl⟩
   have hx1:∀ n b,nmGet ((1000004,b0)::s0) n=some b->n≠1000004->ιx n=ι2 n/\hpx n=stL.hpL ((1000004,.row l' sz false)::post) n:=fun n b e hne=>by
    constructor
    ·show (match nmGet ((1000004,b0)::s0) n with|none=>none|some _=>if n=1000004 then some X else ι2 n)=_
     rw [e];simp [hne]
    ·show (match nmGet ((1000004,b0)::s0) n with|none=>none|some _=>stL.hpL ((1000004,.row l' sz false)::post) n)=_;rw [e]
   have hnear:∀ n b,nmGet ((1000004,b0)::s0) n=some b->1000000<=n/\n<1000005:=fun n b e=>by
    cases hx:stL.hpL ((1000004,.row l sz false)::pre) n with
    |none=>rw [(hs.dom n).2 hx] at e;cases e
    |some B=>exact (zHf hph n B hx).2
   have hpo:∀ n b,nmGet ((1000004,b0)::s0) n=some b->∃ B,stL.hpL ((1000004,.row l' sz false)::post) n=some B/\hpx n=some B:=fun n b e=>by
    by_cases h4:n=1000004
    ·subst h4;exact ⟨_,rfl,rfl⟩
    ·cases hx:stL.hpL ((1000004,.row l' sz false)::post) n with
     |none=>
      rw [(hs.dom n).2 ((zXe hsn1 n).2 hx)] at e;cases e
     |some B=>exact ⟨B,rfl,by rw [(hx1 n b e h4).2,hx]⟩
   have hst:∀ n b B,nmGet ((1000004,b0)::s0) n=some b->n≠1000004->stL.hpL ((1000004,.row l' sz false)::post) n=some B->st.hp n=some B:=fun n b B e h4 hx=>by
    refine z0s hpost n B ?_;simp only [stL.hpL] at hx
    have:Nat.beq n 1000004=false:=by
     cases hq:Nat.beq n 1000004 with
     |false=>rfl
     |true=>exact absurd (Nat.eq_of_beq_eq_true hq) h4
    rwa [this] at hx
   have hfar:∀ n b b2 L L2,nmGet ((1000004,b0)::s0) n=some b->n≠1000004->farB b2=true->ι2 b2=some (some L2)->ι2 n=some (some L)->L2.blk≠L.blk:=by
    intro n b b2 L L2 e h4 hf hL2 hL he;have:=h5.inj b2 n L2 L hL2 hL he;subst this;have:=hnear b2 b e;exact yQb hf ⟨this.1,by omega⟩
   have g2:HRel (zRz own ((1000004,b0)::s0) ι) M1 ιx hpx w':=by
    refine ⟨fun n=>?_,fun n hv2=>?_,fun n B L hB2 hL=>?_,fun n n' L L' e1 e2 he=>?_⟩
    ·cases hg:nmGet ((1000004,b0)::s0) n with
     |none=>obtain ⟨q1,q2⟩:=hx0 n hg;rw [q1,q2];simp
     |some b=>
      obtain ⟨B,q1,q2⟩:=hpo n b hg;rw [q2]
      by_cases h4:n=1000004
      ·subst h4;rw [hx4.1];simp
      ·rw [(hx1 n b hg h4).1]
       constructor
       ·intro e;cases e
       ·intro e;have:=hst n b B hg h4 q1
        rw [(h5.dom n).2 e] at this;cases this
    ·cases hg:nmGet ((1000004,b0)::s0) n with
     |none=>rw [(hx0 n hg).1] at hv2;cases hv2
     |some b=>
      by_cases h4:n=1000004
      ·subst h4;rw [hx4.1,Option.some.injEq] at hv2;obtain ⟨q,_⟩:=hX2 hv2;exact ⟨sz,false,by rw [hx4.2,q]⟩
      ·obtain ⟨B,q1,q2⟩:=hpo n b hg;rw [(hx1 n b hg h4).1] at hv2;obtain ⟨sz2,fr2,q⟩:=h5.virt n hv2;rw [hst n b B hg h4 q1] at q;exact ⟨sz2,fr2,by rw [q2,q]⟩
    ·cases hg:nmGet ((1000004,b0)::s0) n with
     |none=>rw [(hx0 n hg).1] at hL;cases hL
     |some b=>
      by_cases h4:n=1000004
      ·subst h4;rw [hx4.1,Option.some.injEq] at hL;rw [hx4.2,Option.some.injEq] at hB2;subst hB2;obtain ⟨q1,q2,_⟩:=hX1 L hL;exact ⟨q1,q2 _⟩
      ·obtain ⟨B',q1,q2⟩:=hpo n b hg;rw [q2,Option.some.injEq] at hB2;subst hB2;rw [(hx1 n b hg h4).1] at hL;obtain ⟨k1,k2⟩:=h5.at_ n B' L (hst n b B' hg h4 q1) hL;exact ⟨k1,z8e (zXa (l:=(1000004,.row l' sz false)::post) hrq n B' q1) k2⟩
    ·cases hg:nmGet ((1000004,b0)::s0) n with
     |none=>rw [(hx0 n hg).1] at e1;cases e1
     |some b=>
      cases hg':nmGet ((1000004,b0)::s0) n' with
      |none=>rw [(hx0 n' hg').1] at e2;cases e2
      |some b'=>
       by_cases h4:n=1000004
       ·by_cases h4':n'=1000004
        ·rw [h4,h4']
        ·subst h4;rw [hx4.1,Option.some.injEq] at e1;rw [(hx1 n' b' hg' h4').1] at e2;obtain ⟨_,_,⟨b2,L2,f1,f2,f3⟩,_⟩:=hX1 L e1;exact absurd (f3.trans he) (hfar n' b' b2 L' L2 hg' h4' f1 f2 e2)
       ·rw [(hx1 n b hg h4).1] at e1
        by_cases h4':n'=1000004
        ·subst h4';rw [hx4.1,Option.some.injEq] at e2;obtain ⟨_,_,⟨b2,L2,f1,f2,f3⟩,_⟩:=hX1 L' e2;exact absurd (f3.trans he.symm) (hfar n b b2 L L2 hg h4 f1 f2 e1)
        ·rw [(hx1 n' b' hg' h4').1] at e2;exact h5.inj n n' L L' e1 e2 he
   obtain ⟨ι',z1,z2,z3,z4,z5⟩:=leaveH hs hpre hph hh hsn1 hnd h1 h3 h4 g2 hpo (fun n b e hne=>by
    rw [(hx1 n b e hne).1,h6 n (hnear n b e).1 (by have:=(hnear n b e).2;omega)]
    exact k3 n hne) (.own b0)
   refine ⟨h9,_,zFz fn a.tmps w' hrun,v,M1,ι',rfl,z4,h1,h2,z5,z1,z2,?_⟩;have hb0':=z3 1000004 b0 hg0;rw [hx4.1] at hb0'
   cases X with
   |none=>
    obtain ⟨_,a0,rfl⟩:=hX2 rfl;exact .ownE b0 a0 hb0'
   |some L1=>
    obtain ⟨_,_,_,cap,rfl,c1,c2⟩:=hX1 L1 rfl;exact .own b0 L1 cap hb0' c1 c2
  cases e with
  |normal=>obtain ⟨st,k1,k2⟩:=hq;exact fin st k1 k2
  |ret=>obtain ⟨st,k1,k2⟩:=hq;exact fin st k1 k2
  |exit i=>obtain ⟨st,k1,k2⟩:=hq;exact k1.elim
  |goto l=>exact hq.elim
  |panic ch=>exact hq.elim
  |outgrown=>exact hq.elim
 have hι4:ιOf ((1000004,b0)::s0) ι 1000004=ι b0:=rfl
 cases hd0 with
 |ownL _ _ hL=>rw [(hh.dom b0).2 hL] at hb0;cases hb0
 |ownE _ a0 hL=>
  obtain ⟨sz2,fr2,e0⟩:=hh.virt b0 hL
  rw [hb0] at e0;cases e0
  exact ⟨_,_,.nil,hh0,.nil a0,fun n _=>rfl,hB rfl⟩
 |own _ L cap hL hn2 hc2=>
  obtain ⟨_,cs,Ty,_,_,q1,q2,_⟩:=hh.at_ b0 _ L hb0 hL;have hw:=hh0.widen hrows (n:=1000004) (l:=l) (sz:=sz) rfl (hι4.trans hL) (cap:=cap) (by omega) (by rw [q1];exact hc2);refine ⟨_,_,.win 1000004 0 l.length (some cap),hw,?_,fun n hne=>zAl _ _ hne,?_⟩
  ·rw [<-q2];exact .win 1000004 0 _ _ ⟨L.blk,L.sz,L.size,cap⟩ cap 0 (upd_same _ _ _) (by omega) (fun m h=>by cases h;rfl) (by simpa using hc2) (.inl (by simp))
  ·have:=hA cap (by omega)
   have e:upd (stL.hpL ((1000004,.row l sz false)::pre)) 1000004 (some (.row (l++List.replicate (cap-l.length) (List.replicate sz .unk)) sz false))=stL.hpL ((1000004,.row (l++List.replicate (cap-l.length) (List.replicate sz .unk)) sz false)::pre):=by
    funext n
    by_cases h4:n=1000004
    ·subst h4;rw [upd_same];rfl
    ·rw [zAl _ _ h4]
     have:Nat.beq n 1000004=false:=by
      cases hq:Nat.beq n 1000004 with
      |false=>rfl
      |true=>exact absurd (Nat.eq_of_beq_eq_true hq) h4
     simp only [stL.hpL,this,cond_false]
   rw [e];exact this
end
theorem zFa {P:Program} {f:FuncId} {rest xs:List AV} {pre post:List (Nat×Blk)} {l l':List (List D)} {sz b0:Nat} {hp:Nat->Option Blk} {dst:Option Tmp} {ds:List D} {ns:List Nat} {K:Eff->Prop} (H:zXw P f l sz rest pre post l') (s:List (Nat×Nat))
  (hs:(z1l ((1000004,b0)::s) ((1000004,.row l sz false)::pre)&&yBj ((1000004,b0)::s))=true) (hc:covH hp (rnH ((1000004,b0)::s) ((1000004,.row l sz false)::pre))) (hx:.own b0::rnVs ((1000004,b0)::s) rest=xs)
  (k:K ⟨.own b0,rnH ((1000004,b0)::s) ((1000004,.row l' sz false)::post),some b0⟩):zR P f true xs hp dst ds ns K:=
 zIw (hx▸H.2 s hp b0 (z1t hs) (zSb hc)) k
theorem zCw {tm:Nat->AV} {hp:Nat->Option Blk} {rs:List ResultVar} {l:List (List D)} {sz:Nat} {post:List (Nat×Blk)} {t b n:Nat} {c:Option Nat} {r:List (List D)} (h1:rs=[.tmp t]) (h2:tm t=.win b 0 n c) (h3:hp b=some (.row r sz false)) (h4:n<=r.length) (h5:r.take n=l) (h6:farB b=true) (h7:covH hp post):WRet tm hp rs l sz post:=
 ⟨⟨t,h1,h2▸.win b n c r h3 h4 h5 h6⟩,h7⟩
theorem yFx {tm:Nat->AV} {hp:Nat->Option Blk} {rs:List ResultVar} {l:List (List D)} {sz:Nat} {post:List (Nat×Blk)} {t b:Nat} (h1:rs=[.tmp t]) (h2:tm t=.own b) (h3:hp b=some (.row l sz false)) (h6:farB b=true) (h7:covH hp post):WRet tm hp rs l sz post:=
 ⟨⟨t,h1,h2▸.own b h3 h6⟩,h7⟩
theorem zUh {tm:Nat->AV} {hp:Nat->Option Blk} {rs:List ResultVar} {l:List (List D)} {sz:Nat} {post:List (Nat×Blk)} {t:Nat} (h1:rs=[.tmp t]) (h2:tm t=.nil) (h3:l=[]) (h7:covH hp post):WRet tm hp rs l sz post:=
 ⟨⟨t,h1,h2▸.nil h3⟩,h7⟩
def AFnN (T:Tab) (P:Program) (fn:Func) (args:List AV) (l:List (List D)) (sz:Nat):Prop:=
 match fn.body with
 |some c=>AW T P c ⟨zRq args,fun _=>none⟩ fun e st=>match e with
  | .exit _=>False
  |_=>∃ t,fn.results.toList=[.tmp t] /\ ((∃ b r n cp,st.tm t=.win b 0 n cp/\st.hp b=some (.row r sz false) /\n<=r.length/\r.take n=l) \/ (st.tm t=.nil/\l=[]))
 |none=>False
def yQd:AV->Bool
 | .d _=>true
 | .nil=>true
 |_=>false
def z5j:List AV->Bool
 | []=>true
 |x::r=>bif yQd x then z5j r else false
theorem zYw:∀ {l:List AV},z5j l=true->∀ x∈l,yQd x=true
 | [],_,x,h=>by cases h
 |y::r,h,x,hx=>by
  simp only [z5j] at h
  cases hy:yQd y with
  |false=>rw [hy] at h;cases h
  |true=>
   rw [hy] at h
   cases hx with
   |head=>exact hy
   |tail _ hx=>exact zYw h x hx
theorem yQe {M:Mem} {ι ι':Inj} {x:AV} {v:Value} (hf:yQd x=true) (h:DenA M ι x v):DenA M ι' x v:=by
 cases x with
 |d x=>cases h with|d _ _ h=>exact .d _ _ h
 |nil=>cases h with|nil a=>exact .nil a
 |tt=>cases hf
 |ff=>cases hf
 |agg c=>cases hf
 |tup c=>cases hf
 |own b=>cases hf
 |ptr b i j=>cases hf
 |win b lo n c=>cases hf
 |fn f c=>cases hf
 |dead=>cases hf
section
variable {P:Program} {T:Tab} (hT:zFo P T)
include hT in
theorem yA (hm:P.follows .mixedOrders=true) {f:FuncId} {fn:Func} {args:List AV} {l:List (List D)} {sz:Nat} (hf:P.funcs[f]?=some fn) (hc:zNe fn args.length=true) (hfl:z5j args=true) (h:AFnN T P fn args l sz)
  (hp:Nat->Option Blk) (t:Nat):zOj P f args hp ⟨.own t,[(t,.row l sz false)],some t⟩:=by
 obtain ⟨c,hb,hdst,hn,hnm⟩:=zHk hc;refine ⟨⟨fn,hf,by rw [hb];rfl,hnm⟩,fun own M ι w vs ho ha hh hxs=>calls_of_wp hf hb ?_⟩;simp only [AFnN,hb] at h
 have hsz:vs.size<=fn.ntmps:=by rw [hxs.1];exact hn
 have hinit:ARel (fun c=>w.heap.size<=c) w M (fun _=>none) fn.ntmps ⟨zRq args,fun _=>none⟩ {tmps:=vs++Array.replicate (fn.ntmps-vs.size) undef,defers:=[]} w:=by
  refine ⟨M,fun _=>none,.refl M,ha,.refl _ _,.refl _ _,⟨fun _=>⟨fun _=>rfl,fun _=>rfl⟩,fun b h=>(by cases h),fun b B L h=>(by cases h),fun b b' L L' h=>(by cases h)⟩,fun _ _ _=>rfl,fun t=>?_,by simp;omega,rfl⟩;show DenA M _ (zRq args t) ((vs++Array.replicate (fn.ntmps-vs.size) undef).getD t undef);rw [zU];exact zPj args 0 vs (fun i x v h1 h2=>yQe (zYw hfl x (List.mem_of_getElem? h1)) (hxs.2 i x v h1 (by simpa using h2))) (by rw [hxs.1];simp) t
 refine Code.wp_mono (fun e a w' hq=>?_) (zJw (w0:=w) (M0:=M) (ι0:=fun _=>none) (own:=fun c=>w.heap.size<=c) hT (fun _ h=>h) hm c _ _ _ w hdst h hinit)
 have fin:∀ st:zAo,(∃ t,fn.results.toList=[.tmp t] /\ ((∃ b r n cp,st.tm t=.win b 0 n cp/\st.hp b=some (.row r sz false) /\n<=r.length/\r.take n=l) \/ (st.tm t=.nil/\l=[])))->ARel (fun c=>w.heap.size<=c) w M (fun _=>none) fn.ntmps st a w'->
   a.defers=[] /\ ∃ v,(results fn a.tmps).run P w'=.ok v w'/\ ∃ (v':Value) (M':Mem) (ι':Inj),Ending.returned v=.returned v'/\zBu own w w'/\Sub M M'/\zBj M' w'/\zCq own M M'/\
    HRel own M' ι' ((⟨.own t,[(t,.row l sz false)],some t⟩:Eff).hp hp) w'/\ (∀ b,Kp (some t) b->ι' b=ι b) /\DenA M' ι' (.own t) v':=by
  intro st hres hr;obtain ⟨M1,ι1,h1,h2,h3,h4,h5,h6,h7,h8,h9⟩:=hr;obtain ⟨q,hq,hval⟩:=hres
  have hrun:(fn.results.toList.mapM (resRun a.tmps)).run P w'=.ok [a.tmps.getD q undef] w':=by
   rw [hq];simp [List.mapM_cons,resRun]
  have hbel:Below w.heap.size w w':=⟨h4.os,h4.tape,h4.output,h4.size,fun c hc=>h4.block c (by omega)⟩
  have hfr:zTf w M M1:=fun b o v hv=>h3 b o v hv
  have hh2:=hh.behind hbel h1 hfr;have ehp:(⟨.own t,[(t,.row l sz false)],some t⟩:Eff).hp hp=upd (zD (some t) hp) t (some (.row l sz false)):=rfl;refine ⟨h9,_,zFz fn a.tmps w' hrun,a.tmps.getD q undef,M1,?_⟩;have hv:=h7 q
  have virt:l=[]->(∃ a0,a.tmps.getD q undef=.slice a0 0 0)->∃ ι':Inj,Ending.returned (if h:([a.tmps.getD q undef].toArray.size)=1 then [a.tmps.getD q undef].toArray[0] else .tuple [a.tmps.getD q undef].toArray)=.returned (a.tmps.getD q undef) /\zBu own w w'/\Sub M M1/\zBj M1 w'/\zCq own M M1/\
    HRel own M1 ι' ((⟨.own t,[(t,.row l sz false)],some t⟩:Eff).hp hp) w'/\ (∀ b,Kp (some t) b->ι' b=ι b) /\DenA M1 ι' (.own t) (a.tmps.getD q undef):=by
   rintro rfl ⟨a0,e0⟩;refine ⟨upd ι t (some none),rfl,zDv hbel ho,h1,h2,zHn hfr ho,?_,fun b hb=>zAl _ _ fun e=>zTg hb e,by rw [e0];exact .ownE t a0 (upd_same _ _ _)⟩;rw [ehp];exact hh2.virtual t sz false
  rcases hval with ⟨b,r,n,cp,e1,e2,e3,e4⟩|⟨e1,e2⟩
  ·rw [e1] at hv;generalize hgv:a.tmps.getD q undef=v at hv virt⊢
   cases hv with
   |winL _ _ _ _ _ hL=>rw [(h5.dom b).2 hL] at e2;cases e2
   |win _ _ _ _ L k base hL q1 q2 q3 q4=>
    obtain ⟨p1,cs,Ty,p2,p3,p4,p5,p6,p7,p8⟩:=h5.at_ b _ L e2 hL
    have hll:l.length=n:=by rw [<-e4,List.length_take];omega
    have hbase:base=0:=by rcases q4 with e|⟨_,e⟩<;>omega
    subst hbase
    let L2:Loc:=⟨L.blk,sz,cs.size,l.length⟩
    have hrow:zGv M1 cs l sz:=⟨fun i e he=>p7.len i e (by rw [<-e4] at he;rw [List.getElem?_take] at he;split at he<;>first|exact he|cases he),fun i j e d he hd=>p7.den i j e d (by rw [<-e4] at he;rw [List.getElem?_take] at he;split at he<;>first|exact he|cases he) hd⟩;refine ⟨upd ι t (some (some L2)),rfl,zDv hbel ho,h1,h2,zHn hfr ho,?_,fun b hb=>zAl _ _ fun e=>zTg hb e,?_⟩
    ·rw [ehp]
     refine hh2.new t (.row l sz false) L2 (.refl _) (ho _ p1) ⟨cs,Ty,p2,rfl,rfl,rfl,?_,hrow,(by intro e;cases e),fun _=>p8.2 rfl⟩ fun b' L' hne hL'=>⟨?_,rfl,hh2.closed hL'⟩
     ·show l.length*sz<=cs.size;rw [hll,p3];exact Nat.le_trans (Nat.mul_le_mul_right _ e3) p6
     ·have:=hh.lt hL';show L'.blk≠L.blk;omega
    ·have:=DenA.own (M:=M1) (ι:=upd ι t (some (some L2))) t L2 k (upd_same _ _ _) (by show l.length<=k;omega) (by show k*sz<=cs.size;rw [p3,p4];rw [Nat.zero_add] at q3;exact q3);rw [show L2.len=n from hll] at this;exact this
  ·rw [e1] at hv;generalize hgv:a.tmps.getD q undef=v at hv virt⊢
   cases hv with
   |nil a0=>
    obtain ⟨ι',hr⟩:=virt e2 ⟨a0,rfl⟩;exact ⟨ι',hr⟩
 cases e with
 |normal=>obtain ⟨st,k1,k2⟩:=hq;exact fin st k1 k2
 |ret=>obtain ⟨st,k1,k2⟩:=hq;exact fin st k1 k2
 |exit i=>obtain ⟨st,k1,k2⟩:=hq;exact k1.elim
 |goto l=>exact hq.elim
 |panic ch=>exact hq.elim
 |outgrown=>exact hq.elim
end
end Go.Lk
