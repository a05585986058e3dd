/-
  What is proved here: what functions of the program compute, and what follows; no condition beyond each theorem's own.
-/
import Derived.Test.YtaofmndhdmkgkaaGreatHAl
set_option linter.unusedSimpArgs false
set_option linter.unusedVariables false
set_option linter.unnecessarySimpa false
set_option linter.unusedSectionVars false
namespace Go.Lk
open Go Go.RowKit
section
variable {P:Program} {T:Tab} (hT:TabOk P T)
theorem openR0_eq (T:Tab) (tm:Nat->AV) (hp:Nat->Option Blk):∀ q,openR0 T tm hp q=openR T tm hp q
 | []=>rfl
 |r::q=>by rw [openR0,openR,openR0_eq T tm hp q]
theorem memN_mem {b:Nat}:∀ {l:List Nat},b∈l->memN b l=true
 | [],h=>by cases h
 |x::r,h=>by
  simp only [memN]
  cases h with
  |head=>simp
  |tail _ h=>
   cases Nat.beq b x with
   |true=>rfl
   |false=>exact memN_mem h
theorem disN_no {F:List Nat}:∀ {l:List Nat},disN l F=true->∀ b∈l,b∉F
 | [],_,b,hb=>by cases hb
 |x::r,h,b,hb=>by
  simp only [disN] at h
  cases hx:memN x F with
  |true=>rw [hx] at h;cases h
  |false=>
   rw [hx] at h
   cases hb with
   |head=>exact fun hm=>by rw [memN_mem hm] at hx;cases hx
   |tail _ hb=>exact disN_no h b hb
theorem ownsN_mem {b:Nat}:∀ {c:List AV},AV.own b∈c->b∈ownsN c
 | [],h=>by cases h
 |x::r,h=>by
  cases h with
  |head=>exact .head _
  |tail _ h=>
   have:=ownsN_mem h
   cases x<;>first|exact this|exact .tail _ this
theorem frz_keep {hp0:Nat->Option Blk} {b:Nat} (ns:List Nat) (hp:Nat->Option Blk) (h:b∉ns):writes hp (frz hp0 ns) b=hp b:=frz_not ns hp h
include hT in
theorem pcall_sound (hm:P.follows .mixedOrders=true) {f:FuncId} {fn:Func} {ds rs:List D} {cs:List SC} (hf:P.funcs[f]?=some fn) (hc:fnChk fn ds.length=true) (h:AFnP T P fn ds cs rs):PCall P f ds cs rs:=by
 obtain ⟨c,hb,hdst,hn,hnm⟩:=fnChk_out hc;refine ⟨⟨fn,hf,by rw [hb];rfl,hnm⟩,fun w M vs ha hds=>calls_of_wp hf hb ?_⟩;simp only [AFnP,hb] at h
 have hsz:vs.size<=fn.ntmps:=by rw [hds.1];exact hn
 refine Code.wp_mono (fun e a w' hq=>?_) (AW_sound (w0:=w) (M0:=M) (ι0:=fun _=>none) (own:=fun c=>w.heap.size<=c) hT (fun _ h=>h) hm c _ _ _ w hdst h (init_rel ha hds hsz))
 have fin:∀ st:AState,(∃ t r q b c,fn.results.toList=.tmp t::r::q/\st.tm t=.ptr b 0 0/\st.hp b=some (.box c false) /\matchS st.hp [] c cs/\resD T st.tm st.hp (r::q)=some rs/\disN (ownsN c) (openR0 T st.tm st.hp (r::q))=true)->ARel (fun c=>w.heap.size<=c) w M (fun _=>none) fn.ntmps st a w'->
   a.defers=[] /\ ∃ v,(results fn a.tmps).run P w'=.ok v w'/\ ∃ (c:Nat) (us rv:Array Value) (Ty:TypeId) (M':Mem) (bl:Nat->Option Loc),Ending.returned v=.returned (.tuple (#[.pointer (some ⟨c,0,none⟩)]++rv)) /\w.heap.size<=c/\w'.heap[c]?=some (.cells us Ty (0,0)) /\ (∀ o,M' c o=none) /\
    Below w.heap.size w w'/\Sub M M'/\Agree M' w'/\Fresh w M M'/\us.size=cs.length/\DenDs M' rs rv/\
    (∀ (i:Nat) (c:SC),cs[i]?=some c->∃ u,us[i]?=some u/\match c with
     | .d x=>DenD M' x u
     | .row l sz=>RowOk w w' M' l sz (bl i) u) /\
    (∀ (i j:Nat) (L L':Loc),bl i=some L->bl j=some L'->L.blk=L'.blk->i=j) /\ ∀ (i:Nat) (L:Loc),bl i=some L->L.blk≠c:=by
  intro st hres hr;obtain ⟨M1,ι,h1,h2,h3,h4,h5,h6,h7,h8,h9⟩:=hr;obtain ⟨t,r,q,b,c,hr1,hr2,hr3,hr4,hr5,hr6⟩:=hres;rw [openR0_eq] at hr6;obtain ⟨us0,xs,e1,e2,e3,e4⟩:=resD_out2 hT h2 h5 h7 hr5;obtain ⟨M2,s2,a2,n2,g2,l2,f2⟩:=freezeAll (hp0:=st.hp) (openR T st.tm st.hp (r::q)) M1 st.hp h2 h5 (.refl _);have hpt:=h7 t;rw [hr2] at hpt;generalize hpv:a.tmps.getD t undef=pv at hpt
  have hkeep:∀ b' l sz,AV.own b'∈c->st.hp b'=some (.row l sz false)->writes st.hp (frz st.hp (openR T st.tm st.hp (r::q))) b'=some (.row l sz false):=fun b' l sz hm hb'=>by
   rw [frz_keep _ _ (disN_no hr6 b' (ownsN_mem hm))];exact hb'
  have hbb:writes st.hp (frz st.hp (openR T st.tm st.hp (r::q))) b=some (.box c false):=by
   rcases l2 b with e|⟨l,sz,fr,e5,e6⟩
   ·rw [e];exact hr3
   ·rw [hr3] at e5;cases e5
  obtain ⟨L,hL,hpe⟩:∃ L,ι b=some (some L) /\pv=.pointer (some ⟨L.blk,0*L.sz+0,none⟩):=by
   cases hpt with
   |ptr _ _ _ L hL=>exact ⟨L,hL,rfl⟩
   |ptrL _ _ _ _ hL=>rw [(h5.dom b).2 hL] at hr3;cases hr3
  obtain ⟨w1,cs1,Ty,w2,w3,w4,w5,w6,w7⟩:=g2.at_ b _ L hbb hL;obtain ⟨m1,m2,m3⟩:=matchS_get hr4
  have hrun:(fn.results.toList.mapM (resRun a.tmps)).run P w'=.ok (pv::us0) w':=by
   rw [hr1,List.mapM_cons];simp only [Sem.run_bind,resRun,Sem.run_pure,Result.andThen_ok,hpv,e1]
  let bl:Nat->Option Loc:=fun i=>match cs[i]? with
   |some (.row _ _)=>match c[i]? with
    |some (.own b)=>match ι b with
     |some (some L)=>some L
     |_=>none
    |_=>none
   |_=>none
  have hbl:∀ i L,bl i=some L->∃ l sz b,cs[i]?=some (.row l sz) /\c[i]?=some (.own b) /\ι b=some (some L):=by
   intro i L hL;simp only [bl] at hL
   split at hL
   ·rename_i l sz e1
    split at hL
    ·rename_i b e2
     split at hL
     ·rename_i L' e3
      cases hL
      exact ⟨l,sz,b,e1,e2,e3⟩
     ·cases hL
    ·cases hL
   ·cases hL
  have hlen:us0.length=rs.length:=e2
  have hrl:0<rs.length:=by
   cases rs with
   |nil=>
    simp only [resD] at hr5
    split at hr5
    ·split at hr5<;>cases hr5
    ·cases hr5
   |cons=>simp
  have hval:(if h:(Value.pointer (some ⟨L.blk,0*L.sz+0,none⟩)::us0).toArray.size=1 then (Value.pointer (some ⟨L.blk,0*L.sz+0,none⟩)::us0).toArray[0] else .tuple (Value.pointer (some ⟨L.blk,0*L.sz+0,none⟩)::us0).toArray)=Value.tuple (#[.pointer (some ⟨L.blk,0,none⟩)]++us0.toArray):=by
   rw [dif_neg (by simp only [List.size_toArray,List.length_cons];omega)];simp
  refine ⟨h9,_,results_eq fn a.tmps w' (hpe▸hrun),L.blk,cs1,us0.toArray,Ty,M2,bl,by rw [hval],w1,w2,w7.2 rfl,⟨h4.os,h4.tape,h4.output,h4.size,fun c hc=>h4.block c (by omega)⟩,h1.trans s2,a2,fun b o v hv=>(h3.trans n2) b o v hv,?_,⟨by simp [hlen],fun i d v q1 q2=>?_⟩,fun i s hs=>?_,fun i j L1 L2 hL1 hL2 he=>?_,fun i L1 hL1 he=>?_⟩
  ·rw [w3,w5];first|exact m1|exact m1.symm
  ·have hx:xs[i]?=some (xs[i]'(by rw [e3];exact (List.getElem?_eq_some_iff.1 q1).1)):=by simp
   obtain ⟨p1,p2,p3⟩:=e4 i _ d v hx q1 (by simpa using q2);exact den_conv g2 (by rw [conv_frz l2];exact p2) (openNames_frz (fun b l sz fr hb he=>f2 b l sz fr (.inl hb) he) l2 _ p3) (p1.mono s2)
  ·obtain ⟨x,hx,hm2⟩:=m2 i s hs;obtain ⟨u,hu,hdx⟩:=w6.den i x hx;refine ⟨u,hu,?_⟩
   cases s with
   |d d=>exact pure1_den hdx hm2
   |row l sz=>
    rcases hm2 with ⟨b',rfl,e5,_⟩|⟨rfl,rfl⟩
    ·have e6:=hkeep b' l sz (List.mem_of_getElem? hx) e5;show RowOk w w' M2 l sz (bl i) u
     cases hdx with
     |own _ L' cap hL' hn2 hc2=>
      have:bl i=some L':=by simp only [bl,hs,hx,hL']
      rw [this];obtain ⟨q1,cs',Ty',q2,q3,q4,q5,q6,q7,q8⟩:=g2.at_ b' _ L' e6 hL';exact ⟨q1,cap,cs',Ty',by rw [q5],q5.symm,q4.symm,q3.symm,by rw [q5];exact hn2,by rw [q4,q3];exact hc2,q2,q7,q8.2 rfl⟩
     |ownE _ a0 hL'=>
      have:bl i=none:=by simp only [bl,hs,hx,hL']
      rw [this];obtain ⟨sz2,fr2,e0⟩:=g2.virt b' hL'
      rw [e6] at e0;cases e0
      exact ⟨rfl,a0,rfl⟩
     |ownL _ _ hL'=>rw [(g2.dom b').2 hL'] at e6;cases e6
    ·show RowOk w w' M2 [] sz (bl i) u
     have:bl i=none:=by simp only [bl,hs,hx]
     rw [this]
     cases hdx with
     |nil a0=>exact ⟨rfl,a0,rfl⟩
  ·obtain ⟨l,sz,b1,g1,g3,g4⟩:=hbl i L1 hL1;obtain ⟨l',sz',b2,g1',g3',g4'⟩:=hbl j L2 hL2;have:=g2.inj b1 b2 L1 L2 g4 g4' he;subst this;exact m3 i j b1 l l' sz sz' g1 g1' g3 g3'
  ·obtain ⟨l,sz,b1,g1,g3,g4⟩:=hbl i L1 hL1;have:=g2.inj b1 b L1 L g4 hL he;subst this;obtain ⟨x,hx,hm2⟩:=m2 i _ g1;rw [g3] at hx
   cases hx
   rcases hm2 with ⟨b',e7,e5,_⟩|⟨e7,_⟩
   ·cases e7
    rw [hr3] at e5;cases e5
   ·cases e7
 cases e with
 |normal=>obtain ⟨st,k1,k2⟩:=hq;exact fin st k1 k2
 |ret=>obtain ⟨st,k1,k2⟩:=hq;exact fin st k1 k2
 |exit i=>obtain ⟨st,k1,k2⟩:=hq;exact k1.elim
 |goto l=>exact hq.elim
 |panic ch=>exact hq.elim
 |outgrown=>exact hq.elim
end
def isRow:Blk->Bool
 | .row _ _ _=>true
 | .box _ _=>false
def rowsH:List (Nat×Blk)->Bool
 | []=>true
 |(_,B)::r=>bif isRow B then rowsH r else false
theorem rowsH_get:∀ {l:List (Nat×Blk)},rowsH l=true->∀ n B,stL.hpL l n=some B->isRow B=true
 | [],_,n,B,h=>by cases h
 |(t,v)::r,hp,n,B,h=>by
  simp only [rowsH] at hp
  cases hc:isRow v with
  |false=>simp [hc] at hp
  |true=>
   simp only [hc,cond_true] at hp;simp only [stL.hpL] at h
   cases hb:Nat.beq n t with
   |true=>
    simp only [hb,cond_true,Option.some.injEq] at h
    subst h;exact hc
   |false=>
    simp only [hb,cond_false] at h;exact rowsH_get hp n B h
def farB (b:Nat):Bool:=bif Nat.ble 1000000 b&&Nat.ble b 1000003 then false else true
theorem farB_out {b:Nat} (h:farB b=true):¬(1000000<=b/\b<1000004):=by
 rintro ⟨h1,h2⟩;unfold farB at h;rw [Nat.ble_eq_true_of_le h1,Nat.ble_eq_true_of_le (Nat.lt_succ_iff.1 h2)] at h
 cases h
inductive WEnd (hp:Nat->Option Blk) (l:List (List D)) (sz:Nat):AV->Prop
 |win (b n:Nat) (c:Option Nat) (r:List (List D)) (h:hp b=some (.row r sz false)) (hn:n<=r.length) (hl:r.take n=l) (hb:farB b=true):WEnd hp l sz (.win b 0 n c)
 |own (b:Nat) (h:hp b=some (.row l sz false)) (hb:farB b=true):WEnd hp l sz (.own b)
 |nil (h:l=[]):WEnd hp l sz .nil
structure WRet (tm:Nat->AV) (hp:Nat->Option Blk) (rs:List ResultVar) (l:List (List D)) (sz:Nat) (post:List (Nat×Blk)):Prop where
 res:∃ t,rs=[.tmp t] /\WEnd hp l sz (tm t)
 post:covH hp post
def AFnW (T:Tab) (P:Program) (fn:Func) (l:List (List D)) (sz:Nat) (rest:List AV) (pre post:List (Nat×Blk)) (l':List (List D)):Prop:=
 match fn.body with
 |some c=>(∀ cap,l.length<=cap->AW T P c ⟨initA (.win 1000004 0 l.length (some cap)::rest),stL.hpL ((1000004,.row (l++List.replicate (cap-l.length) (List.replicate sz .unk)) sz false)::pre)⟩ fun e st=>match e with
   | .exit _=>False
   |_=>WRet st.tm st.hp fn.results.toList l' sz post) /\
  (l=[]->AW T P c ⟨initA (.nil::rest),stL.hpL ((1000004,.row [] sz false)::pre)⟩ fun e st=>match e with
   | .exit _=>False
   |_=>WRet st.tm st.hp fn.results.toList l' sz post)
 |none=>False
def WCall (P:Program) (f:FuncId) (l:List (List D)) (sz:Nat) (rest:List AV) (pre post:List (Nat×Blk)) (l':List (List D)):Prop:=
 FnOk P f/\ ∀ (s:List (Nat×Nat)) (hp:Nat->Option Blk) (b0:Nat),NmOk ((1000004,b0)::s) ((1000004,.row l sz false)::pre)->(∀ n B b,stL.hpL ((1000004,.row l sz false)::pre) n=some B->nmGet ((1000004,b0)::s) n=some b->hp b=some (rnB ((1000004,b0)::s) B))->
  ECall P f (.own b0::rnVs ((1000004,b0)::s) rest) hp ⟨.own b0,rnH ((1000004,b0)::s) ((1000004,.row l' sz false)::post),some b0⟩
theorem blk_row {M:Mem} {ι ι':Inj} {w:World} {B:Blk} {L:Loc} (hB:isRow B=true) (h:BlkAt M ι w B L):BlkAt M ι' w B L:=by
 obtain ⟨cs,Ty,g2,g3,g4⟩:=h;refine ⟨cs,Ty,g2,g3,?_⟩
 cases B with
 |row l sz fr=>exact g4
 |box c fr=>cases hB
theorem HRel.widen {own:Nat->Prop} {M:Mem} {ι:Inj} {hp:Nat->Option Blk} {w:World} (h:HRel own M ι hp w) (hrows:∀ b B,hp b=some B->isRow B=true) {n:Nat} {l:List (List D)} {sz:Nat} (hb:hp n=some (.row l sz false)) {L:Loc} (hL:ι n=some (some L)) {cap:Nat} (hc:l.length<=cap) (hs:cap*sz<=L.size):
  HRel own M (upd ι n (some (some ⟨L.blk,L.sz,L.size,cap⟩))) (upd hp n (some (.row (l++List.replicate (cap-l.length) (List.replicate sz .unk)) sz false))) w:=by
 have hne:∀ b,b≠n->upd ι n (some (some ⟨L.blk,L.sz,L.size,cap⟩)) b=ι b:=fun b hb=>upd_other _ _ hb
 have hblk:∀ b L',upd ι n (some (some ⟨L.blk,L.sz,L.size,cap⟩)) b=some (some L')->∃ L0,ι b=some (some L0) /\L0.blk=L'.blk:=by
  intro b L' e
  by_cases hb:b=n
  ·subst hb;rw [upd_same] at e;cases e;exact ⟨L,hL,rfl⟩
  ·rw [hne b hb] at e;exact ⟨L',e,rfl⟩
 refine ⟨fun b=>?_,fun b hv=>?_,fun b B L' hB hL'=>?_,fun b b' L1 L2 h1 h2 he=>?_⟩
 ·by_cases hb':b=n
  ·subst hb';simp [upd_same]
  ·rw [hne b hb',upd_other _ _ hb'];exact h.dom b
 ·by_cases hb':b=n
  ·subst hb';rw [upd_same] at hv;cases hv
  ·rw [hne b hb'] at hv;rw [upd_other _ _ hb'];exact h.virt b hv
 ·by_cases hb':b=n
  ·subst hb';rw [upd_same] at hL' hB
   cases hL';cases hB
   obtain ⟨ho,cs,Ty,q0,q1,q2,q3,q4,q5,q6⟩:=h.at_ b _ L hb hL
   have hll:(l++List.replicate (cap-l.length) (List.replicate sz D.unk)).length=cap:=by simp;omega
   refine ⟨ho,cs,Ty,q0,q1,q2,hll,by rw [hll];exact hs,⟨fun i e he=>?_,fun i j e d he hj=>?_⟩,(by intro e;cases e),fun _=>q6.2 rfl⟩
   ·by_cases hi:i<l.length
    ·rw [List.getElem?_append_left hi] at he;exact q5.len i e he
    ·rw [List.getElem?_append_right (by omega),List.getElem?_replicate] at he
     split at he
     ·cases he;simp
     ·cases he
   ·by_cases hi:i<l.length
    ·rw [List.getElem?_append_left hi] at he;exact q5.den i j e d he hj
    ·have hic:=(List.getElem?_eq_some_iff.1 he).1;rw [hll] at hic;rw [List.getElem?_append_right (by omega),List.getElem?_replicate] at he
     split at he
     ·cases he
      have hjl:=(List.getElem?_eq_some_iff.1 hj).1;rw [List.getElem?_replicate] at hj
      split at hj
      ·cases hj
       have hlt:i*sz+j<cs.size:=by
        rw [q1];exact Nat.lt_of_lt_of_le (idx_lt hic (by simpa using hjl)) hs
       exact ⟨cs[i*sz+j],by simp [hlt],.unk _⟩
      ·cases hj
     ·cases he
  ·rw [hne b hb'] at hL';rw [upd_other _ _ hb'] at hB;obtain ⟨q1,q2⟩:=h.at_ b B L' hB hL';exact ⟨q1,blk_row (hrows b B hB) q2⟩
 ·obtain ⟨L3,e3,e4⟩:=hblk b L1 h1;obtain ⟨L5,e5,e6⟩:=hblk b' L2 h2;exact h.inj b b' L3 L5 e3 e5 (by rw [e4,e6];exact he)
def ιOf (s:List (Nat×Nat)) (ι:Inj):Inj:=fun n=>match nmGet s n with|some b=>ι b|none=>none
def ownOf (own:Nat->Prop) (s:List (Nat×Nat)) (ι:Inj):Nat->Prop:=fun c=>own c/\ ∀ b L,¬(∃ n,nmGet s n=some b)->ι b=some (some L)->L.blk≠c
theorem enterH {own:Nat->Prop} {M:Mem} {ι:Inj} {hp:Nat->Option Blk} {w:World} {s:List (Nat×Nat)} {pre:List (Nat×Blk)} (hs:NmOk s pre) (hpre:∀ n B b,stL.hpL pre n=some B->nmGet s n=some b->hp b=some (rnB s B)) (hph:plainH pre=true) (hh:HRel own M ι hp w):
  HRel (ownOf own s ι) M (ιOf s ι) (stL.hpL pre) w:=by
 let S:Nat->Prop:=fun b=>∃ n,nmGet s n=some b
 let ι0:Inj:=ιOf s ι
 let own0:Nat->Prop:=ownOf own s ι
 have hι0:∀ n,ι0 n=match nmGet s n with|some b=>ι b|none=>none:=fun n=>rfl
 have hι0s:∀ n b,nmGet s n=some b->ι0 n=ι b:=fun n b e=>by rw [hι0,e]
 have hι0n:∀ n,nmGet s n=none->ι0 n=none:=fun n e=>by rw [hι0,e]
 have hpr:∀ n b,nmGet s n=some b->∃ B,stL.hpL pre n=some B/\hp b=some (rnB s B):=fun n b e=>by
  cases hx:stL.hpL pre n with
  |none=>rw [(hs.dom n).2 hx] at e;cases e
  |some B=>exact ⟨B,rfl,hpre n B b hx e⟩
 have hh0:HRel own0 M ι0 (stL.hpL pre) w:=by
  refine ⟨fun n=>?_,fun n hv=>?_,fun n B L hB hL=>?_,fun n n' L L' h1 h2 he=>?_⟩
  ·rw [<-hs.dom n]
   constructor
   ·exact hι0n n
   ·intro e
    cases hg:nmGet s n with
    |none=>rfl
    |some b=>
     rw [hι0s n b hg] at e;obtain ⟨B,_,e2⟩:=hpr n b hg
     rw [(hh.dom b).2 e] at e2;cases e2
  ·cases hg:nmGet s n with
   |none=>rw [hι0n n hg] at hv;cases hv
   |some b=>
    rw [hι0s n b hg] at hv;obtain ⟨sz,fr,e⟩:=hh.virt b hv;obtain ⟨B,e1,e2⟩:=hpr n b hg;rw [e2] at e
    cases B with
    |row l sz' fr'=>simp only [rnB,Option.some.injEq,Blk.row.injEq] at e;obtain ⟨rfl,rfl,rfl⟩:=e;exact ⟨_,_,e1⟩
    |box c fr'=>simp [rnB] at e
  ·cases hg:nmGet s n with
   |none=>rw [hι0n n hg] at hL;cases hL
   |some b=>
    rw [hι0s n b hg] at hL;obtain ⟨q1,q2⟩:=hh.at_ b (rnB s B) L (hpre n B b hB hg) hL;refine ⟨⟨q1,fun b' L' hb' hL' e=>?_⟩,unB hι0 (plainH_get hph n B hB).1 q2⟩;have:=hh.inj b' b L' L hL' hL e;exact hb' (this▸⟨n,hg⟩)
  ·cases hg:nmGet s n with
   |none=>rw [hι0n n hg] at h1;cases h1
   |some b=>
    cases hg':nmGet s n' with
    |none=>rw [hι0n n' hg'] at h2;cases h2
    |some b'=>
     rw [hι0s n b hg] at h1;rw [hι0s n' b' hg'] at h2;have:=hh.inj b b' L L' h1 h2 he;subst this;exact hs.inj n n' b hg hg'
 exact hh0
open Classical in
theorem leaveH {own:Nat->Prop} {M M2:Mem} {ι ιx:Inj} {hp hpx:Nat->Option Blk} {w w':World} {s:List (Nat×Nat)} {pre post:List (Nat×Blk)} (hs:NmOk s pre) (hpre:∀ n B b,stL.hpL pre n=some B->nmGet s n=some b->hp b=some (rnB s B)) (hph:plainH pre=true) (hh:HRel own M ι hp w)
  (hsn:sameN pre post=true) (hnd:nodupN post=true) (hs12:Sub M M2) (hn12:NewDom (ownOf own s ι) M M2) (h4:FrameOwn (ownOf own s ι) w w') (g2:HRel (ownOf own s ι) M2 ιx hpx w')
  (hpo:∀ n b,nmGet s n=some b->∃ B,stL.hpL post n=some B/\hpx n=some B) (h6:∀ n b,nmGet s n=some b->n≠1000004->ιx n=ιOf s ι n) (av:AV):
  ∃ ι':Inj,HRel own M2 ι' (Eff.hp ⟨av,rnH s post,nmGet s 1000004⟩ hp) w'/\ (∀ b,Kp (nmGet s 1000004) b->ι' b=ι b) /\ (∀ n b,nmGet s n=some b->ι' b=ιx n) /\FrameOwn own w w'/\NewDom own M M2:=by
 let S:Nat->Prop:=fun b=>∃ n,nmGet s n=some b
 let ι0:Inj:=ιOf s ι
 let own0:Nat->Prop:=ownOf own s ι
 have hι0:∀ n,ι0 n=match nmGet s n with|some b=>ι b|none=>none:=fun n=>rfl
 have hι0s:∀ n b,nmGet s n=some b->ι0 n=ι b:=fun n b e=>by rw [hι0,e]
 have hι0n:∀ n,nmGet s n=none->ι0 n=none:=fun n e=>by rw [hι0,e]
 have hpr:∀ n b,nmGet s n=some b->∃ B,stL.hpL pre n=some B/\hp b=some (rnB s B):=fun n b e=>by
  cases hx:stL.hpL pre n with
  |none=>rw [(hs.dom n).2 hx] at e;cases e
  |some B=>exact ⟨B,rfl,hpre n B b hx e⟩
 have hnear:∀ n b,nmGet s n=some b->1000000<=n/\n<1000005:=fun n b e=>by
  obtain ⟨B,q,_⟩:=hpr n b e;exact (plainH_get hph n B q).2
 let ι':Inj:=fun b=>if hb:S b then ιx (Classical.choose hb) else ι b
 have hιs:∀ n b,nmGet s n=some b->ι' b=ιx n:=fun n b e=>by
  have hb:S b:=⟨n,e⟩;show (if hb:S b then ιx (Classical.choose hb) else ι b)=_;rw [dif_pos hb,hs.inj _ n b (Classical.choose_spec hb) e]
 have hιn:∀ b,¬S b->ι' b=ι b:=fun b hb=>dif_neg hb
 have hkeep:∀ b,Kp (nmGet s 1000004) b->ι' b=ι b:=fun b hb=>by
  by_cases hS:S b
  ·obtain ⟨n,e⟩:=hS;have hr:=hnear n b e
   have hne:n≠1000004:=fun e2=>by
    subst e2;rw [e] at hb;exact Kp_ne hb rfl
   rw [hιs n b e,h6 n b e hne];exact hι0s n b e
  ·exact hιn b hS
 have hpS:∀ n b B,nmGet s n=some b->stL.hpL post n=some B->Eff.hp ⟨av,rnH s post,nmGet s 1000004⟩ hp b=some (rnB s B):=fun n b B e hB=>by
  rw [eff_hp_get];simp only [rnH_some hs.inj (nodupN_out hnd) e hB]
 have hpN:∀ b,¬S b->Eff.hp ⟨av,rnH s post,nmGet s 1000004⟩ hp b=killO (nmGet s 1000004) (hp b):=fun b hb=>by
  rw [eff_hp_get];simp only [rnH_none fun n e=>hb ⟨n,e⟩]
 have hkey:∀ b B L,Eff.hp ⟨av,rnH s post,nmGet s 1000004⟩ hp b=some B->ι' b=some (some L)->own L.blk/\BlkAt M2 ι' w' B L/\ (S b->own0 L.blk) /\ (¬S b->¬own0 L.blk):=by
  intro b B L hB hL
  by_cases hb:S b
  ·obtain ⟨n,e⟩:=hb;obtain ⟨B0,q1,q2⟩:=hpo n b e;rw [hpS n b B0 e q1,Option.some.injEq] at hB;subst hB;rw [hιs n b e] at hL;obtain ⟨k1,k2⟩:=g2.at_ n B0 L q2 hL;exact ⟨k1.1,reB (fun n b e=>hιs n b e) k2,fun _=>k1,fun h=>absurd ⟨n,e⟩ h⟩
  ·rw [hpN b hb] at hB;rw [hιn b hb] at hL
   have hno:¬own0 L.blk:=fun h=>h.2 b L hb hL rfl
   cases hx2:hp b with
   |none=>rw [hx2] at hB;unfold killO at hB;split at hB<;>cases hB
   |some B0=>
    obtain ⟨q1,q2⟩:=hh.at_ b B0 L hx2 hL
    have q3:BlkAt M2 ι w' B0 L:=q2.keep hs12 (h4.block _ hno) fun hfr o=>by
     cases hv:M2 L.blk o with
     |none=>rfl
     |some u=>
      rcases hn12 _ _ _ hv with h|h
      ·rw [hh.closed hL B0 hx2 hfr o] at h;cases h
      ·exact absurd h hno
    refine ⟨q1,?_,fun h=>absurd h hb,fun _=>hno⟩;rw [hx2] at hB;unfold killO at hB
    split at hB
    ·rename_i hk;simp only [Option.some.injEq] at hB;subst hB
     have:ι'=ι:=funext fun b=>hkeep b (by rw [hk];trivial)
     rw [this];exact q3
    ·rename_i k hk;simp only [Option.map_some,Option.some.injEq] at hB;subst hB
     exact q3.kill fun b' hb'=>hkeep b' (by rw [hk];exact hb')
 refine ⟨ι',⟨fun b=>?_,fun b hv=>?_,fun b B L hB hL=>⟨(hkey b B L hB hL).1,(hkey b B L hB hL).2.1⟩,fun b b' L L' hL hL' heq=>?_⟩,hkeep,hιs,⟨h4.os,h4.tape,h4.output,h4.size,fun c hc=>h4.block c fun h=>hc h.1⟩,fun b o v hv=>orR (hn12 b o v hv) fun h=>h.1⟩
 ·by_cases hb:S b
  ·obtain ⟨n,e⟩:=hb;obtain ⟨B0,q1,q2⟩:=hpo n b e;rw [hpS n b B0 e q1,hιs n b e]
   constructor
   ·intro h;cases h
   ·intro h;rw [(g2.dom n).2 h] at q2;cases q2
  ·rw [hpN b hb,hιn b hb,<-hh.dom b];unfold killO
   split
   ·rfl
   ·cases hp b<;>simp
 ·by_cases hb:S b
  ·obtain ⟨n,e⟩:=hb;obtain ⟨B0,q1,q2⟩:=hpo n b e;rw [hιs n b e] at hv;obtain ⟨sz,fr,e0⟩:=g2.virt n hv;rw [q2,Option.some.injEq] at e0;subst e0;exact ⟨sz,fr,hpS n b _ e q1⟩
  ·rw [hιn b hb] at hv;obtain ⟨sz,fr,e0⟩:=hh.virt b hv;rw [hpN b hb,e0];refine ⟨sz,fr,?_⟩;unfold killO
   split<;>rfl
 ·have get:∀ b L,ι' b=some (some L)->∃ B,Eff.hp ⟨av,rnH s post,nmGet s 1000004⟩ hp b=some B:=fun b L hL=>by
   by_cases hb:S b
   ·obtain ⟨n,e⟩:=hb;obtain ⟨B0,q1,_⟩:=hpo n b e;exact ⟨_,hpS n b B0 e q1⟩
   ·rw [hιn b hb] at hL
    cases hx:hp b with
    |none=>rw [(hh.dom b).1 hx] at hL;cases hL
    |some B=>
     rw [hpN b hb,hx];unfold killO
     split<;>exact ⟨_,rfl⟩
  obtain ⟨B,hB⟩:=get b L hL;obtain ⟨B',hB'⟩:=get b' L' hL';have q:=(hkey b B L hB hL).2.2;have q':=(hkey b' B' L' hB' hL').2.2
  by_cases hb:S b
  ·by_cases hb':S b'
   ·obtain ⟨n,e⟩:=hb;obtain ⟨n',e'⟩:=hb';rw [hιs n b e] at hL;rw [hιs n' b' e'] at hL';have:=g2.inj n n' L L' hL hL' heq;subst this
    rw [e] at e';exact Option.some.inj e'
   ·exact absurd (heq▸q.1 hb) (q'.2 hb')
  ·by_cases hb':S b'
   ·exact absurd (heq▸q'.1 hb') (q.2 hb)
   ·rw [hιn b hb] at hL;rw [hιn b' hb'] at hL';exact hh.inj b b' L L' hL hL' heq
section
variable {P:Program} {T:Tab} (hT:TabOk P T)
include hT
open Classical in
theorem wcall_sound (hm:P.follows .mixedOrders=true) {f:FuncId} {fn:Func} {l l':List (List D)} {sz:Nat} {rest:List AV} {pre post:List (Nat×Blk)} (hf:P.funcs[f]?=some fn) (hc:fnChk fn (rest.length+1)=true)
  (hpl:(plainVs rest&&(!killV.parts 1000004 rest&&(plainH ((1000004,.row l sz false)::pre)&&(sameN pre post&&(nodupN ((1000004,.row l' sz false)::post)&&(rowsH pre&&rowsH post))))))=true) (h:AFnW T P fn l sz rest pre post l'):WCall P f l sz rest pre post l':=by
 simp only [Bool.and_eq_true] at hpl;obtain ⟨hpa,hfr0,hph,hsn,hnd,hrp,hrq⟩:=hpl
 have hfr:∀ x∈rest,Free 1000004 x:=fun x hx=>free_of_parts (by simpa using hfr0) x hx 1000004 (Fm_self _)
 obtain ⟨c,hb,hdst,hn,hnm⟩:=fnChk_out hc;have hok:FnOk P f:=⟨fn,hf,by rw [hb];rfl,hnm⟩;refine ⟨hok,fun s0 hp b0 hs hpre=>⟨hok,fun own M ι w vs hown ha hh hxs=>calls_of_wp hf hb ?_⟩⟩;simp only [AFnW,hb] at h;obtain ⟨hA,hB⟩:=h
 have hvl:vs.size=rest.length+1:=by rw [hxs.1];simp [rnVs_len]
 have hszv:vs.size<=fn.ntmps:=by rw [hvl];exact hn
 have hg0:nmGet ((1000004,b0)::s0) 1000004=some b0:=rfl;have hsn1:sameN ((1000004,.row l sz false)::pre) ((1000004,.row l' sz false)::post)=true:=hsn;have hh0:=enterH hs hpre hph hh
 have hown0:∀ c,w.heap.size<=c->ownOf own ((1000004,b0)::s0) ι c:=fun c hc=>⟨hown c hc,fun b L _ hL e=>by have:=hh.lt hL;omega⟩
 have hb0:hp b0=some (.row l sz false):=hpre 1000004 (.row l sz false) b0 rfl hg0;have hrows:∀ n B,stL.hpL ((1000004,.row l sz false)::pre) n=some B->isRow B=true:=rowsH_get (l:=(1000004,.row l sz false)::pre) hrp
 have hv0:∃ v0,vs[0]?=some v0/\DenA M ι (.own b0) v0:=by
  have hlt:0<vs.size:=by omega
  exact ⟨vs[0],by simp [hlt],hxs.2 0 (.own b0) _ rfl (by simp [hlt])⟩
 obtain ⟨v0,hv0,hd0⟩:=hv0
 have hargs:∀ (ι1:Inj),(∀ n,n≠1000004->ι1 n=ιOf ((1000004,b0)::s0) ι n)->∀ (i:Nat) (x:AV) (v:Value),rest[i]?=some x->vs[i+1]?=some v->DenA M ι1 x v:=by
  intro ι1 h1 i x v hx hv
  have hx1:DenA M (ιOf ((1000004,b0)::s0) ι) x v:=unV (s:=(1000004,b0)::s0) (fun n=>rfl) (plainVs_get hpa x (List.mem_of_getElem? hx)) (hxs.2 (i+1) _ v (by
   show (rnVs ((1000004,b0)::s0) rest)[i]?=some (rnV ((1000004,b0)::s0) x)
   rw [rnVs_get,hx];rfl) hv)
  exact hx1.turnS (S:=fun b=>b≠1000004) (fun b hb=>h1 b hb) fun b hb=>by
   have:b=1000004:=Classical.byContradiction hb
   subst this;exact hfr x (List.mem_of_getElem? hx)
 suffices H:∃ (ι1:Inj) (hp1:Nat->Option Blk) (a0:AV),HRel (ownOf own ((1000004,b0)::s0) ι) M ι1 hp1 w/\DenA M ι1 a0 v0/\ (∀ n,n≠1000004->ι1 n=ιOf ((1000004,b0)::s0) ι n) /\
   AW T P c ⟨initA (a0::rest),hp1⟩ fun e st=>match e with
    | .exit _=>False
    |_=>WRet st.tm st.hp fn.results.toList l' sz post by
  obtain ⟨ι1,hp1,a0,k1,k2,k3,k4⟩:=H
  have hinit:ARel (ownOf own ((1000004,b0)::s0) ι) w M ι1 fn.ntmps ⟨initA (a0::rest),hp1⟩ {tmps:=vs++Array.replicate (fn.ntmps-vs.size) undef,defers:=[]} w:=by
   refine ⟨M,ι1,.refl M,ha,.refl _ _,.refl _ _,k1,fun _ _ _=>rfl,fun t=>?_,by simp;omega,rfl⟩;show DenA M ι1 (initA (a0::rest) t) ((vs++Array.replicate (fn.ntmps-vs.size) undef).getD t undef);rw [pad_getD];refine initA_den (a0::rest) 0 vs (fun i x v h1 h2=>?_) (by rw [hvl];simp) t
   cases i with
   |zero=>
    simp only [List.getElem?_cons_zero,Option.some.injEq] at h1;subst h1
    rw [Nat.zero_add,hv0] at h2;cases h2
    exact k2
   |succ i=>exact hargs ι1 k3 i x v (by simpa using h1) (by simpa using h2)
  refine Code.wp_mono (fun e a w' hq=>?_) (AW_sound (w0:=w) (M0:=M) (ι0:=ι1) (own:=ownOf own ((1000004,b0)::s0) ι) hT hown0 hm c _ _ _ w hdst k4 hinit)
  have fin:∀ st:AState,WRet st.tm st.hp fn.results.toList l' sz post->ARel (ownOf own ((1000004,b0)::s0) ι) w M ι1 fn.ntmps st a w'->
    a.defers=[] /\ ∃ v,(results fn a.tmps).run P w'=.ok v w'/\ ∃ (v':Value) (M':Mem) (ι':Inj),Ending.returned v=.returned v'/\FrameOwn own w w'/\Sub M M'/\Agree M' w'/\NewDom own M M'/\
     HRel own M' ι' (Eff.hp ⟨.own b0,rnH ((1000004,b0)::s0) ((1000004,.row l' sz false)::post),some b0⟩ hp) w'/\ (∀ b,Kp (some b0) b->ι' b=ι b) /\DenA M' ι' (.own b0) v':=by
   intro st hret hr;obtain ⟨⟨t,ht,hw⟩,hpost⟩:=hret;obtain ⟨M1,ι2,h1,h2,h3,h4,h5,h6,h7,h8,h9⟩:=hr
   have hrun:(fn.results.toList.mapM (resRun a.tmps)).run P w'=.ok [a.tmps.getD t undef] w':=by
    rw [ht];simp [List.mapM_cons,resRun]
   have hv:=h7 t;generalize a.tmps.getD t undef=v at hv hrun
   have hX:∃ X:Option Loc,(∀ L1,X=some L1->(ownOf own ((1000004,b0)::s0) ι L1.blk/\ (∀ ιy,BlkAt M1 ιy w' (.row l' sz false) L1) /\ (∃ b L2,farB b=true/\ι2 b=some (some L2) /\L2.blk=L1.blk) /\
     ∃ cap,v=.slice (some ⟨L1.blk,0,none⟩) L1.len cap/\L1.len<=cap/\cap*L1.sz<=L1.size)) /\ (X=none->l'=[] /\ ∃ a,v=.slice a 0 0):=by
    generalize st.tm t=x at hv hw
    cases hw with
    |nil he=>
     cases hv with
     |nil a0=>exact ⟨none,(fun L1 e=>by cases e),fun _=>⟨he,a0,rfl⟩⟩
    |own b hb hfb=>
     cases hv with
     |own _ L cap hL hn2 hc2=>
      obtain ⟨q1,q2⟩:=h5.at_ b _ L hb hL;refine ⟨some L,fun L1 e=>?_,fun e=>by cases e⟩
      cases e
      exact ⟨q1,fun ιy=>blk_row rfl q2,⟨b,L,hfb,hL,rfl⟩,cap,rfl,hn2,hc2⟩
     |ownE _ a0 hL=>
      obtain ⟨sz2,fr2,e0⟩:=h5.virt b hL
      rw [hb] at e0;cases e0
      exact ⟨none,(fun L1 e=>by cases e),fun _=>⟨rfl,a0,rfl⟩⟩
     |ownL _ _ hL=>rw [(h5.dom b).2 hL] at hb;cases hb
    |win b n cc r hb hnr hl hfb=>
     cases hv with
     |winL _ _ _ _ _ hL=>rw [(h5.dom b).2 hL] at hb;cases hb
     |win _ _ _ _ L k base hL hnk hcc hkk hbb=>
      obtain ⟨q0,cs,Ty,q1,q2,q3,q4,q5,q6,q7⟩:=h5.at_ b _ L hb hL
      have hbase:base=0:=by
       rcases hbb with e|e
       ·simpa using e
       ·omega
      subst hbase
      have hl':l'.length=n:=by rw [<-hl];simp;omega
      refine ⟨some ⟨L.blk,L.sz,L.size,n⟩,fun L1 e=>?_,fun e=>by cases e⟩
      cases e
      refine ⟨q0,fun ιy=>⟨cs,Ty,q1,q2,q3,hl',?_,⟨fun i e he=>?_,fun i j e d he hj=>?_⟩,(by intro e;cases e),q7.2⟩,⟨b,L,hfb,hL,rfl⟩,k,rfl,hnk,by simpa using hkk⟩
      ·exact Nat.le_trans (Nat.mul_le_mul_right _ (by omega)) q5
      ·refine q6.len i e ?_;rw [<-hl,List.getElem?_take] at he
       split at he
       ·exact he
       ·cases he
      ·refine q6.den i j e d ?_ hj;rw [<-hl,List.getElem?_take] at he
       split at he
       ·exact he
       ·cases he
   obtain ⟨X,hX1,hX2⟩:=hX
   let ιx:Inj:=fun n=>match nmGet ((1000004,b0)::s0) n with
    |none=>none
    |some _=>if n=1000004 then some X else ι2 n
   let hpx:Nat->Option Blk:=fun n=>match nmGet ((1000004,b0)::s0) n with
    |none=>none
    |some _=>stL.hpL ((1000004,.row l' sz false)::post) n
   have hx0:∀ n,nmGet ((1000004,b0)::s0) n=none->ιx n=none/\hpx n=none:=fun n e=>by
    constructor
    ·show (match nmGet ((1000004,b0)::s0) n with|none=>none|some _=>if n=1000004 then some X else ι2 n)=none;rw [e]
    ·show (match nmGet ((1000004,b0)::s0) n with|none=>none|some _=>stL.hpL ((1000004,.row l' sz false)::post) n)=none;rw [e]
   have hx4:ιx 1000004=some X/\hpx 1000004=some (.row l' sz false):=⟨rfl,rfl⟩
   have hx1:∀ n b,nmGet ((1000004,b0)::s0) n=some b->n≠1000004->ιx n=ι2 n/\hpx n=stL.hpL ((1000004,.row l' sz false)::post) n:=fun n b e hne=>by
    constructor
    ·show (match nmGet ((1000004,b0)::s0) n with|none=>none|some _=>if n=1000004 then some X else ι2 n)=_
     rw [e];simp [hne]
    ·show (match nmGet ((1000004,b0)::s0) n with|none=>none|some _=>stL.hpL ((1000004,.row l' sz false)::post) n)=_;rw [e]
   have hnear:∀ n b,nmGet ((1000004,b0)::s0) n=some b->1000000<=n/\n<1000005:=fun n b e=>by
    cases hx:stL.hpL ((1000004,.row l sz false)::pre) n with
    |none=>rw [(hs.dom n).2 hx] at e;cases e
    |some B=>exact (plainH_get hph n B hx).2
   have hpo:∀ n b,nmGet ((1000004,b0)::s0) n=some b->∃ B,stL.hpL ((1000004,.row l' sz false)::post) n=some B/\hpx n=some B:=fun n b e=>by
    by_cases h4:n=1000004
    ·subst h4;exact ⟨_,rfl,rfl⟩
    ·cases hx:stL.hpL ((1000004,.row l' sz false)::post) n with
     |none=>
      rw [(hs.dom n).2 ((sameN_out hsn1 n).2 hx)] at e;cases e
     |some B=>exact ⟨B,rfl,by rw [(hx1 n b e h4).2,hx]⟩
   have hst:∀ n b B,nmGet ((1000004,b0)::s0) n=some b->n≠1000004->stL.hpL ((1000004,.row l' sz false)::post) n=some B->st.hp n=some B:=fun n b B e h4 hx=>by
    refine covH_get hpost n B ?_;simp only [stL.hpL] at hx
    have:Nat.beq n 1000004=false:=by
     cases hq:Nat.beq n 1000004 with
     |false=>rfl
     |true=>exact absurd (Nat.eq_of_beq_eq_true hq) h4
    rwa [this] at hx
   have hfar:∀ n b b2 L L2,nmGet ((1000004,b0)::s0) n=some b->n≠1000004->farB b2=true->ι2 b2=some (some L2)->ι2 n=some (some L)->L2.blk≠L.blk:=by
    intro n b b2 L L2 e h4 hf hL2 hL he;have:=h5.inj b2 n L2 L hL2 hL he;subst this;have:=hnear b2 b e;exact farB_out hf ⟨this.1,by omega⟩
   have g2:HRel (ownOf own ((1000004,b0)::s0) ι) M1 ιx hpx w':=by
    refine ⟨fun n=>?_,fun n hv2=>?_,fun n B L hB2 hL=>?_,fun n n' L L' e1 e2 he=>?_⟩
    ·cases hg:nmGet ((1000004,b0)::s0) n with
     |none=>obtain ⟨q1,q2⟩:=hx0 n hg;rw [q1,q2];simp
     |some b=>
      obtain ⟨B,q1,q2⟩:=hpo n b hg;rw [q2]
      by_cases h4:n=1000004
      ·subst h4;rw [hx4.1];simp
      ·rw [(hx1 n b hg h4).1]
       constructor
       ·intro e;cases e
       ·intro e;have:=hst n b B hg h4 q1
        rw [(h5.dom n).2 e] at this;cases this
    ·cases hg:nmGet ((1000004,b0)::s0) n with
     |none=>rw [(hx0 n hg).1] at hv2;cases hv2
     |some b=>
      by_cases h4:n=1000004
      ·subst h4;rw [hx4.1,Option.some.injEq] at hv2;obtain ⟨q,_⟩:=hX2 hv2;exact ⟨sz,false,by rw [hx4.2,q]⟩
      ·obtain ⟨B,q1,q2⟩:=hpo n b hg;rw [(hx1 n b hg h4).1] at hv2;obtain ⟨sz2,fr2,q⟩:=h5.virt n hv2;rw [hst n b B hg h4 q1] at q;exact ⟨sz2,fr2,by rw [q2,q]⟩
    ·cases hg:nmGet ((1000004,b0)::s0) n with
     |none=>rw [(hx0 n hg).1] at hL;cases hL
     |some b=>
      by_cases h4:n=1000004
      ·subst h4;rw [hx4.1,Option.some.injEq] at hL;rw [hx4.2,Option.some.injEq] at hB2;subst hB2;obtain ⟨q1,q2,_⟩:=hX1 L hL;exact ⟨q1,q2 _⟩
      ·obtain ⟨B',q1,q2⟩:=hpo n b hg;rw [q2,Option.some.injEq] at hB2;subst hB2;rw [(hx1 n b hg h4).1] at hL;obtain ⟨k1,k2⟩:=h5.at_ n B' L (hst n b B' hg h4 q1) hL;exact ⟨k1,blk_row (rowsH_get (l:=(1000004,.row l' sz false)::post) hrq n B' q1) k2⟩
    ·cases hg:nmGet ((1000004,b0)::s0) n with
     |none=>rw [(hx0 n hg).1] at e1;cases e1
     |some b=>
      cases hg':nmGet ((1000004,b0)::s0) n' with
      |none=>rw [(hx0 n' hg').1] at e2;cases e2
      |some b'=>
       by_cases h4:n=1000004
       ·by_cases h4':n'=1000004
        ·rw [h4,h4']
        ·subst h4;rw [hx4.1,Option.some.injEq] at e1;rw [(hx1 n' b' hg' h4').1] at e2;obtain ⟨_,_,⟨b2,L2,f1,f2,f3⟩,_⟩:=hX1 L e1;exact absurd (f3.trans he) (hfar n' b' b2 L' L2 hg' h4' f1 f2 e2)
       ·rw [(hx1 n b hg h4).1] at e1
        by_cases h4':n'=1000004
        ·subst h4';rw [hx4.1,Option.some.injEq] at e2;obtain ⟨_,_,⟨b2,L2,f1,f2,f3⟩,_⟩:=hX1 L' e2;exact absurd (f3.trans he.symm) (hfar n b b2 L L2 hg h4 f1 f2 e1)
        ·rw [(hx1 n' b' hg' h4').1] at e2;exact h5.inj n n' L L' e1 e2 he
   obtain ⟨ι',z1,z2,z3,z4,z5⟩:=leaveH hs hpre hph hh hsn1 hnd h1 h3 h4 g2 hpo (fun n b e hne=>by
    rw [(hx1 n b e hne).1,h6 n (hnear n b e).1 (by have:=(hnear n b e).2;omega)]
    exact k3 n hne) (.own b0)
   refine ⟨h9,_,results_eq fn a.tmps w' hrun,v,M1,ι',rfl,z4,h1,h2,z5,z1,z2,?_⟩;have hb0':=z3 1000004 b0 hg0;rw [hx4.1] at hb0'
   cases X with
   |none=>
    obtain ⟨_,a0,rfl⟩:=hX2 rfl;exact .ownE b0 a0 hb0'
   |some L1=>
    obtain ⟨_,_,_,cap,rfl,c1,c2⟩:=hX1 L1 rfl;exact .own b0 L1 cap hb0' c1 c2
  cases e with
  |normal=>obtain ⟨st,k1,k2⟩:=hq;exact fin st k1 k2
  |ret=>obtain ⟨st,k1,k2⟩:=hq;exact fin st k1 k2
  |exit i=>obtain ⟨st,k1,k2⟩:=hq;exact k1.elim
  |goto l=>exact hq.elim
  |panic ch=>exact hq.elim
  |outgrown=>exact hq.elim
 have hι4:ιOf ((1000004,b0)::s0) ι 1000004=ι b0:=rfl
 cases hd0 with
 |ownL _ _ hL=>rw [(hh.dom b0).2 hL] at hb0;cases hb0
 |ownE _ a0 hL=>
  obtain ⟨sz2,fr2,e0⟩:=hh.virt b0 hL
  rw [hb0] at e0;cases e0
  exact ⟨_,_,.nil,hh0,.nil a0,fun n _=>rfl,hB rfl⟩
 |own _ L cap hL hn2 hc2=>
  obtain ⟨_,cs,Ty,_,_,q1,q2,_⟩:=hh.at_ b0 _ L hb0 hL;have hw:=hh0.widen hrows (n:=1000004) (l:=l) (sz:=sz) rfl (hι4.trans hL) (cap:=cap) (by omega) (by rw [q1];exact hc2);refine ⟨_,_,.win 1000004 0 l.length (some cap),hw,?_,fun n hne=>upd_other _ _ hne,?_⟩
  ·rw [<-q2];exact .win 1000004 0 _ _ ⟨L.blk,L.sz,L.size,cap⟩ cap 0 (upd_same _ _ _) (by omega) (fun m h=>by cases h;rfl) (by simpa using hc2) (.inl (by simp))
  ·have:=hA cap (by omega)
   have e:upd (stL.hpL ((1000004,.row l sz false)::pre)) 1000004 (some (.row (l++List.replicate (cap-l.length) (List.replicate sz .unk)) sz false))=stL.hpL ((1000004,.row (l++List.replicate (cap-l.length) (List.replicate sz .unk)) sz false)::pre):=by
    funext n
    by_cases h4:n=1000004
    ·subst h4;rw [upd_same];rfl
    ·rw [upd_other _ _ h4]
     have:Nat.beq n 1000004=false:=by
      cases hq:Nat.beq n 1000004 with
      |false=>rfl
      |true=>exact absurd (Nat.eq_of_beq_eq_true hq) h4
     simp only [stL.hpL,this,cond_false]
   rw [e];exact this
end
theorem callX_win {P:Program} {f:FuncId} {rest xs:List AV} {pre post:List (Nat×Blk)} {l l':List (List D)} {sz b0:Nat} {hp:Nat->Option Blk} {dst:Option Tmp} {ds:List D} {ns:List Nat} {K:Eff->Prop} (H:WCall P f l sz rest pre post l') (s:List (Nat×Nat))
  (hs:(keysN ((1000004,b0)::s) ((1000004,.row l sz false)::pre)&&valsN ((1000004,b0)::s))=true) (hc:covH hp (rnH ((1000004,b0)::s) ((1000004,.row l sz false)::pre))) (hx:.own b0::rnVs ((1000004,b0)::s) rest=xs)
  (k:K ⟨.own b0,rnH ((1000004,b0)::s) ((1000004,.row l' sz false)::post),some b0⟩):callX P f true xs hp dst ds ns K:=
 callX_heap (hx▸H.2 s hp b0 (nmOk_of hs) (pre_cov hc)) k
theorem wret_win {tm:Nat->AV} {hp:Nat->Option Blk} {rs:List ResultVar} {l:List (List D)} {sz:Nat} {post:List (Nat×Blk)} {t b n:Nat} {c:Option Nat} {r:List (List D)} (h1:rs=[.tmp t]) (h2:tm t=.win b 0 n c) (h3:hp b=some (.row r sz false)) (h4:n<=r.length) (h5:r.take n=l) (h6:farB b=true) (h7:covH hp post):WRet tm hp rs l sz post:=
 ⟨⟨t,h1,h2▸.win b n c r h3 h4 h5 h6⟩,h7⟩
theorem wret_own {tm:Nat->AV} {hp:Nat->Option Blk} {rs:List ResultVar} {l:List (List D)} {sz:Nat} {post:List (Nat×Blk)} {t b:Nat} (h1:rs=[.tmp t]) (h2:tm t=.own b) (h3:hp b=some (.row l sz false)) (h6:farB b=true) (h7:covH hp post):WRet tm hp rs l sz post:=
 ⟨⟨t,h1,h2▸.own b h3 h6⟩,h7⟩
theorem wret_nil {tm:Nat->AV} {hp:Nat->Option Blk} {rs:List ResultVar} {l:List (List D)} {sz:Nat} {post:List (Nat×Blk)} {t:Nat} (h1:rs=[.tmp t]) (h2:tm t=.nil) (h3:l=[]) (h7:covH hp post):WRet tm hp rs l sz post:=
 ⟨⟨t,h1,h2▸.nil h3⟩,h7⟩
def AFnN (T:Tab) (P:Program) (fn:Func) (args:List AV) (l:List (List D)) (sz:Nat):Prop:=
 match fn.body with
 |some c=>AW T P c ⟨initA args,fun _=>none⟩ fun e st=>match e with
  | .exit _=>False
  |_=>∃ t,fn.results.toList=[.tmp t] /\ ((∃ b r n cp,st.tm t=.win b 0 n cp/\st.hp b=some (.row r sz false) /\n<=r.length/\r.take n=l) \/ (st.tm t=.nil/\l=[]))
 |none=>False
def flatA:AV->Bool
 | .d _=>true
 | .nil=>true
 |_=>false
def flatAs:List AV->Bool
 | []=>true
 |x::r=>bif flatA x then flatAs r else false
theorem flatAs_get:∀ {l:List AV},flatAs l=true->∀ x∈l,flatA x=true
 | [],_,x,h=>by cases h
 |y::r,h,x,hx=>by
  simp only [flatAs] at h
  cases hy:flatA y with
  |false=>rw [hy] at h;cases h
  |true=>
   rw [hy] at h
   cases hx with
   |head=>exact hy
   |tail _ hx=>exact flatAs_get h x hx
theorem flat_den {M:Mem} {ι ι':Inj} {x:AV} {v:Value} (hf:flatA x=true) (h:DenA M ι x v):DenA M ι' x v:=by
 cases x with
 |d x=>cases h with|d _ _ h=>exact .d _ _ h
 |nil=>cases h with|nil a=>exact .nil a
 |tt=>cases hf
 |ff=>cases hf
 |agg c=>cases hf
 |tup c=>cases hf
 |own b=>cases hf
 |ptr b i j=>cases hf
 |win b lo n c=>cases hf
 |fn f c=>cases hf
 |dead=>cases hf
section
variable {P:Program} {T:Tab} (hT:TabOk P T)
include hT in
theorem ncall_sound (hm:P.follows .mixedOrders=true) {f:FuncId} {fn:Func} {args:List AV} {l:List (List D)} {sz:Nat} (hf:P.funcs[f]?=some fn) (hc:fnChk fn args.length=true) (hfl:flatAs args=true) (h:AFnN T P fn args l sz)
  (hp:Nat->Option Blk) (t:Nat):ECall P f args hp ⟨.own t,[(t,.row l sz false)],some t⟩:=by
 obtain ⟨c,hb,hdst,hn,hnm⟩:=fnChk_out hc;refine ⟨⟨fn,hf,by rw [hb];rfl,hnm⟩,fun own M ι w vs ho ha hh hxs=>calls_of_wp hf hb ?_⟩;simp only [AFnN,hb] at h
 have hsz:vs.size<=fn.ntmps:=by rw [hxs.1];exact hn
 have hinit:ARel (fun c=>w.heap.size<=c) w M (fun _=>none) fn.ntmps ⟨initA args,fun _=>none⟩ {tmps:=vs++Array.replicate (fn.ntmps-vs.size) undef,defers:=[]} w:=by
  refine ⟨M,fun _=>none,.refl M,ha,.refl _ _,.refl _ _,⟨fun _=>⟨fun _=>rfl,fun _=>rfl⟩,fun b h=>(by cases h),fun b B L h=>(by cases h),fun b b' L L' h=>(by cases h)⟩,fun _ _ _=>rfl,fun t=>?_,by simp;omega,rfl⟩;show DenA M _ (initA args t) ((vs++Array.replicate (fn.ntmps-vs.size) undef).getD t undef);rw [pad_getD];exact initA_den args 0 vs (fun i x v h1 h2=>flat_den (flatAs_get hfl x (List.mem_of_getElem? h1)) (hxs.2 i x v h1 (by simpa using h2))) (by rw [hxs.1];simp) t
 refine Code.wp_mono (fun e a w' hq=>?_) (AW_sound (w0:=w) (M0:=M) (ι0:=fun _=>none) (own:=fun c=>w.heap.size<=c) hT (fun _ h=>h) hm c _ _ _ w hdst h hinit)
 have fin:∀ st:AState,(∃ t,fn.results.toList=[.tmp t] /\ ((∃ b r n cp,st.tm t=.win b 0 n cp/\st.hp b=some (.row r sz false) /\n<=r.length/\r.take n=l) \/ (st.tm t=.nil/\l=[])))->ARel (fun c=>w.heap.size<=c) w M (fun _=>none) fn.ntmps st a w'->
   a.defers=[] /\ ∃ v,(results fn a.tmps).run P w'=.ok v w'/\ ∃ (v':Value) (M':Mem) (ι':Inj),Ending.returned v=.returned v'/\FrameOwn own w w'/\Sub M M'/\Agree M' w'/\NewDom own M M'/\
    HRel own M' ι' ((⟨.own t,[(t,.row l sz false)],some t⟩:Eff).hp hp) w'/\ (∀ b,Kp (some t) b->ι' b=ι b) /\DenA M' ι' (.own t) v':=by
  intro st hres hr;obtain ⟨M1,ι1,h1,h2,h3,h4,h5,h6,h7,h8,h9⟩:=hr;obtain ⟨q,hq,hval⟩:=hres
  have hrun:(fn.results.toList.mapM (resRun a.tmps)).run P w'=.ok [a.tmps.getD q undef] w':=by
   rw [hq];simp [List.mapM_cons,resRun]
  have hbel:Below w.heap.size w w':=⟨h4.os,h4.tape,h4.output,h4.size,fun c hc=>h4.block c (by omega)⟩
  have hfr:Fresh w M M1:=fun b o v hv=>h3 b o v hv
  have hh2:=hh.behind hbel h1 hfr;have ehp:(⟨.own t,[(t,.row l sz false)],some t⟩:Eff).hp hp=upd (killH (some t) hp) t (some (.row l sz false)):=rfl;refine ⟨h9,_,results_eq fn a.tmps w' hrun,a.tmps.getD q undef,M1,?_⟩;have hv:=h7 q
  have virt:l=[]->(∃ a0,a.tmps.getD q undef=.slice a0 0 0)->∃ ι':Inj,Ending.returned (if h:([a.tmps.getD q undef].toArray.size)=1 then [a.tmps.getD q undef].toArray[0] else .tuple [a.tmps.getD q undef].toArray)=.returned (a.tmps.getD q undef) /\FrameOwn own w w'/\Sub M M1/\Agree M1 w'/\NewDom own M M1/\
    HRel own M1 ι' ((⟨.own t,[(t,.row l sz false)],some t⟩:Eff).hp hp) w'/\ (∀ b,Kp (some t) b->ι' b=ι b) /\DenA M1 ι' (.own t) (a.tmps.getD q undef):=by
   rintro rfl ⟨a0,e0⟩;refine ⟨upd ι t (some none),rfl,below_frame hbel ho,h1,h2,fresh_dom hfr ho,?_,fun b hb=>upd_other _ _ fun e=>Kp_ne hb e,by rw [e0];exact .ownE t a0 (upd_same _ _ _)⟩;rw [ehp];exact hh2.virtual t sz false
  rcases hval with ⟨b,r,n,cp,e1,e2,e3,e4⟩|⟨e1,e2⟩
  ·rw [e1] at hv;generalize hgv:a.tmps.getD q undef=v at hv virt⊢
   cases hv with
   |winL _ _ _ _ _ hL=>rw [(h5.dom b).2 hL] at e2;cases e2
   |win _ _ _ _ L k base hL q1 q2 q3 q4=>
    obtain ⟨p1,cs,Ty,p2,p3,p4,p5,p6,p7,p8⟩:=h5.at_ b _ L e2 hL
    have hll:l.length=n:=by rw [<-e4,List.length_take];omega
    have hbase:base=0:=by rcases q4 with e|⟨_,e⟩<;>omega
    subst hbase
    let L2:Loc:=⟨L.blk,sz,cs.size,l.length⟩
    have hrow:RowAt M1 cs l sz:=⟨fun i e he=>p7.len i e (by rw [<-e4] at he;rw [List.getElem?_take] at he;split at he<;>first|exact he|cases he),fun i j e d he hd=>p7.den i j e d (by rw [<-e4] at he;rw [List.getElem?_take] at he;split at he<;>first|exact he|cases he) hd⟩;refine ⟨upd ι t (some (some L2)),rfl,below_frame hbel ho,h1,h2,fresh_dom hfr ho,?_,fun b hb=>upd_other _ _ fun e=>Kp_ne hb e,?_⟩
    ·rw [ehp]
     refine hh2.new t (.row l sz false) L2 (.refl _) (ho _ p1) ⟨cs,Ty,p2,rfl,rfl,rfl,?_,hrow,(by intro e;cases e),fun _=>p8.2 rfl⟩ fun b' L' hne hL'=>⟨?_,rfl,hh2.closed hL'⟩
     ·show l.length*sz<=cs.size;rw [hll,p3];exact Nat.le_trans (Nat.mul_le_mul_right _ e3) p6
     ·have:=hh.lt hL';show L'.blk≠L.blk;omega
    ·have:=DenA.own (M:=M1) (ι:=upd ι t (some (some L2))) t L2 k (upd_same _ _ _) (by show l.length<=k;omega) (by show k*sz<=cs.size;rw [p3,p4];rw [Nat.zero_add] at q3;exact q3);rw [show L2.len=n from hll] at this;exact this
  ·rw [e1] at hv;generalize hgv:a.tmps.getD q undef=v at hv virt⊢
   cases hv with
   |nil a0=>
    obtain ⟨ι',hr⟩:=virt e2 ⟨a0,rfl⟩;exact ⟨ι',hr⟩
 cases e with
 |normal=>obtain ⟨st,k1,k2⟩:=hq;exact fin st k1 k2
 |ret=>obtain ⟨st,k1,k2⟩:=hq;exact fin st k1 k2
 |exit i=>obtain ⟨st,k1,k2⟩:=hq;exact k1.elim
 |goto l=>exact hq.elim
 |panic ch=>exact hq.elim
 |outgrown=>exact hq.elim
end
end Go.Lk
