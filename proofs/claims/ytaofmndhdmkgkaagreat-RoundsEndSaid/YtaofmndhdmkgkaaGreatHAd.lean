/-
  What is proved here: what functions of the program compute, and what follows; no condition beyond each theorem's own.
-/
import Derived.Test.YtaofmndhdmkgkaaGreatHAc
set_option linter.unusedSimpArgs false
set_option linter.unusedVariables false
set_option linter.unnecessarySimpa false
set_option linter.unusedSectionVars false
namespace Go.Lk
open Go Go.RowKit
def FrzLe (hp hp':Nat->Option Blk):Prop:=∀ b,hp' b=hp b\/ ∃ l sz fr,hp b=some (.row l sz fr) /\hp' b=some (.row l sz true)
theorem FrzLe.refl (hp:Nat->Option Blk):FrzLe hp hp:=fun _=>.inl rfl
theorem FrzLe.step {hp0 hp:Nat->Option Blk} (h:FrzLe hp0 hp) {b:Nat} {l:List (List D)} {sz:Nat} {fr:Bool} (hb:hp0 b=some (.row l sz fr)):FrzLe hp0 (upd hp b (some (.row l sz true))):=by
 intro b'
 by_cases e:b'=b
 ·subst e;rw [upd_same];exact .inr ⟨l,sz,fr,hb,rfl⟩
 ·rw [upd_other _ _ e];exact h b'
theorem freezeAll {own:Nat->Prop} {ι:Inj} {w:World} {hp0:Nat->Option Blk}:∀ (ns:List Nat) (M:Mem) (hp:Nat->Option Blk),Agree M w->HRel own M ι hp w->FrzLe hp0 hp->
  ∃ M',Sub M M'/\Agree M' w/\NewDom own M M'/\HRel own M' ι (writes hp (frz hp0 ns)) w/\FrzLe hp0 (writes hp (frz hp0 ns)) /\
   (∀ b l sz fr,(b∈ns\/hp b=some (.row l sz true))->hp0 b=some (.row l sz fr)->writes hp (frz hp0 ns) b=some (.row l sz true))
 | [],M,hp,ha,hh,hl=>⟨M,.refl M,ha,.refl _ _,hh,hl,fun b l sz fr h _=>by
   rcases h with h|h
   ·cases h
   ·exact h⟩
 |b::ns,M,hp,ha,hh,hl=>by
  have go:∀ (hp1:Nat->Option Blk) (M1:Mem),Sub M M1->Agree M1 w->NewDom own M M1->HRel own M1 ι hp1 w->FrzLe hp0 hp1->(∀ b l sz,hp b=some (.row l sz true)->hp1 b=some (.row l sz true))->
    (∀ l sz fr,hp0 b=some (.row l sz fr)->hp1 b=some (.row l sz true))->writes hp (frz hp0 (b::ns))=writes hp1 (frz hp0 ns)->
    ∃ M',Sub M M'/\Agree M' w/\NewDom own M M'/\HRel own M' ι (writes hp (frz hp0 (b::ns))) w/\FrzLe hp0 (writes hp (frz hp0 (b::ns))) /\
     (∀ c l sz fr,(c∈b::ns\/hp c=some (.row l sz true))->hp0 c=some (.row l sz fr)->writes hp (frz hp0 (b::ns)) c=some (.row l sz true)):=by
   intro hp1 M1 s1 a1 n1 h1 l1 k1 k2 e;obtain ⟨M',s2,a2,n2,h2,l2,f2⟩:=freezeAll (hp0:=hp0) ns M1 hp1 a1 h1 l1;rw [e];refine ⟨M',s1.trans s2,a2,n1.trans n2,h2,l2,fun c l sz fr hc hc0=>?_⟩
   rcases hc with hc|hc
   ·cases hc with
    |head=>exact f2 _ l sz fr (.inr (k2 l sz fr hc0)) hc0
    |tail _ hc=>exact f2 _ l sz fr (.inl hc) hc0
   ·exact f2 _ l sz fr (.inr (k1 _ _ _ hc)) hc0
  cases h0:hp0 b with
  |none=>exact go hp M (.refl M) ha (.refl _ _) hh hl (fun _ _ _ h=>h) (fun l sz fr e=>by rw [h0] at e;cases e) (by simp [frz,h0])
  |some B=>
   cases B with
   |box c fr=>exact go hp M (.refl M) ha (.refl _ _) hh hl (fun _ _ _ h=>h) (fun l sz fr e=>by rw [h0] at e;cases e) (by simp [frz,h0])
   |row l sz fr=>
    have hb:∃ fr',hp b=some (.row l sz fr'):=by
     rcases hl b with e|⟨l',sz',fr',e1,e2⟩
     ·exact ⟨fr,e.trans h0⟩
     ·rw [h0] at e1;cases e1;exact ⟨true,e2⟩
    obtain ⟨fr',hb⟩:=hb;obtain ⟨M1,s1,a1,n1,h1⟩:=freeze ha hh hb (B':=.row l sz true) (.inl ⟨_,_,_,rfl,rfl⟩);refine go (upd hp b (some (.row l sz true))) M1 s1 a1 n1 h1 (hl.step h0) (fun c l' sz' e=>?_) (fun l' sz' fr' e=>by rw [h0] at e;cases e;exact upd_same _ _ _) (by simp [frz,h0,writes])
    by_cases hc:c=b
    ·subst hc;rw [hb] at e;cases e;exact upd_same _ _ _
    ·rw [upd_other _ _ hc];exact e
theorem conv_one_frz {hp hp':Nat->Option Blk} (h:FrzLe hp hp') (x:AV):conv.one hp' x=conv.one hp x:=by
 cases x with
 |own b=>
  simp only [conv.one]
  rcases h b with e|⟨l,sz,fr,e1,e2⟩
  ·rw [e]
  ·rw [e1,e2]
 |_=>rfl
theorem conv_cells_frz {hp hp':Nat->Option Blk} (h:FrzLe hp hp'):∀ c:List AV,conv.cells hp' c=conv.cells hp c
 | []=>rfl
 |x::r=>by simp only [conv.cells,conv_one_frz h,conv_cells_frz h r]
theorem conv_cap_frz {hp hp':Nat->Option Blk} (h:FrzLe hp hp') (x:AV):conv.cap1 hp' x=conv.cap1 hp x:=by
 cases x with
 |ptr b i j=>
  simp only [conv.cap1]
  rcases h b with e|⟨l,sz,fr,e1,e2⟩
  ·rw [e]
  ·rw [e1,e2]
 |_=>rfl
theorem conv_caps_frz {hp hp':Nat->Option Blk} (h:FrzLe hp hp'):∀ c:List AV,conv.caps hp' c=conv.caps hp c
 | []=>rfl
 |x::r=>by simp only [conv.caps,conv_cap_frz h,conv_caps_frz h r]
theorem conv_frz {hp hp':Nat->Option Blk} (h:FrzLe hp hp') (x:AV):conv hp' x=conv hp x:=by
 cases x with
 |own b=>
  simp only [conv]
  rcases h b with e|⟨l,sz,fr,e1,e2⟩
  ·rw [e]
  ·rw [e1,e2]
 |agg c=>simp only [conv,conv_cells_frz h]
 |fn f c=>simp only [conv,conv_caps_frz h]
 |_=>rfl
theorem den_own {own:Nat->Prop} {M:Mem} {ι:Inj} {hp:Nat->Option Blk} {w:World} (hh:HRel own M ι hp w) {b:Nat} {l:List (List D)} {sz:Nat} {v:Value} (hb:hp b=some (.row l sz true)) (hd:DenA M ι (.own b) v):DenD M (.lst l) v:=by
 cases hd with
 |own _ L cap hL hn hc=>
  obtain ⟨_,cs,Ty,hheap,hsz,a1,a2,a3,a4,a5⟩:=hh.at_ b _ L hb hL;rw [<-a2]
  refine .lst l L.blk 0 cap sz (fun i j=>(cs[i*sz+j]?).getD undef) (by omega) a4.len (fun i j e d h1 h2=>?_) fun i j e d h1 h2=>?_
  ·obtain ⟨v,e1,e2⟩:=a4.den i j e d h1 h2
   have hlt:i*sz+j<l.length*sz:=by
    have hi:=(List.getElem?_eq_some_iff.1 h1).1;have hj:=(List.getElem?_eq_some_iff.1 h2).1;rw [a4.len i e h1] at hj
    calc i*sz+j<i*sz+sz:=by omega
     _=(i+1)*sz:=by rw [Nat.add_mul,Nat.one_mul]
     _<=l.length*sz:=Nat.mul_le_mul_right _ hi
   simp only [Nat.zero_add,e1,Option.getD_some];exact a5.1 rfl _ _ hlt e1
  ·obtain ⟨v,e1,e2⟩:=a4.den i j e d h1 h2
   simpa [e1] using e2
 |ownE _ a hL=>
  obtain ⟨sz',fr',e⟩:=hh.virt b hL
  rw [hb] at e;cases e
  exact .emp _ _
 |ownL _ _ hL=>rw [(hh.dom b).2 hL] at hb;cases hb
theorem den_pure1 {M:Mem} {ι:Inj} {x:AV} {d:D} {v:Value} (h:conv.pure1 x=some d) (hd:DenA M ι x v):DenD M d v:=by
 cases x<;>simp only [conv.pure1,Option.some.injEq] at h<;>first|(subst h;cases hd)|cases h
 case d hd=>exact hd
 case tt=>exact .bool _
 case ff=>exact .bool _
 case nil a=>exact .emp _ _
theorem pures_get {c:List AV} {ds:List D} (h:conv.pures c=some ds):ds.length=c.length/\ ∀ (i:Nat) (d:D),ds[i]?=some d->∃ x,c[i]?=some x/\conv.pure1 x=some d:=by
 induction c generalizing ds with
 |nil=>simp only [conv.pures,Option.some.injEq] at h;subst h;simp
 |cons x r ih=>
  simp only [conv.pures] at h
  cases h1:conv.pure1 x with
  |none=>simp [h1] at h
  |some d0=>
   cases h2:conv.pures r with
   |none=>simp [h1,h2] at h
   |some ds0=>
    simp only [h1,h2,Option.bind_some,Option.map_some,Option.some.injEq] at h;subst h;obtain ⟨e1,e2⟩:=ih h2;refine ⟨by simp [e1],fun i d hi=>?_⟩
    cases i with
    |zero=>simp only [List.getElem?_cons_zero,Option.some.injEq] at hi⊢;subst hi;exact ⟨x,rfl,h1⟩
    |succ i=>simpa using e2 i d (by simpa using hi)
section
variable {own:Nat->Prop} {M:Mem} {ι:Inj} {hp:Nat->Option Blk} {w:World} (hh:HRel own M ι hp w)
include hh
theorem den_conv_one {x:AV} {d:D} {v:Value} (h:conv.one hp x=some d) (ho:openNames.one hp x=[]) (hd:DenA M ι x v):DenD M d v:=by
 cases x with
 |own b=>
  simp only [conv.one] at h
  cases hb:hp b with
  |none=>simp [hb] at h
  |some B=>
   cases B with
   |box c fr=>simp [hb] at h
   |row l sz fr=>
    simp only [hb,Option.some.injEq] at h;subst h
    cases fr with
    |false=>simp [openNames.one,hb] at ho
    |true=>exact den_own hh hb hd
 |d x=>simp only [conv.one,Option.some.injEq] at h;subst h;cases hd with|d _ _ hd=>exact hd
 |tt=>simp only [conv.one,Option.some.injEq] at h;subst h;cases hd;exact .bool _
 |ff=>simp only [conv.one,Option.some.injEq] at h;subst h;cases hd;exact .bool _
 |nil=>simp only [conv.one,Option.some.injEq] at h;subst h;cases hd;exact .emp _ _
 |agg c=>simp [conv.one] at h
 |tup c=>simp [conv.one] at h
 |ptr b i j=>simp [conv.one] at h
 |win b lo n c=>simp [conv.one] at h
 |fn f c=>simp [conv.one] at h
 |dead=>simp [conv.one] at h
omit hh in
theorem conv_cells_get {c:List AV} {ds:List D} (h:conv.cells hp c=some ds):ds.length=c.length/\ ∀ (i:Nat) (d:D),ds[i]?=some d->∃ x,c[i]?=some x/\conv.one hp x=some d/\ (openNames.cells hp c=[]->openNames.one hp x=[]):=by
 induction c generalizing ds with
 |nil=>simp only [conv.cells,Option.some.injEq] at h;subst h;simp
 |cons x r ih=>
  simp only [conv.cells] at h
  cases h1:conv.one hp x with
  |none=>simp [h1] at h
  |some d0=>
   cases h2:conv.cells hp r with
   |none=>simp [h1,h2] at h
   |some ds0=>
    simp only [h1,h2,Option.bind_some,Option.map_some,Option.some.injEq] at h;subst h;obtain ⟨e1,e2⟩:=ih h2;refine ⟨by simp [e1],fun i d hi=>?_⟩
    cases i with
    |zero=>
     simp only [List.getElem?_cons_zero,Option.some.injEq] at hi⊢;subst hi;exact ⟨x,rfl,h1,fun ho=>by simp only [openNames.cells,List.append_eq_nil_iff] at ho;exact ho.1⟩
    |succ i=>
     obtain ⟨y,g1,g2,g3⟩:=e2 i d (by simpa using hi);exact ⟨y,by simpa using g1,g2,fun ho=>by simp only [openNames.cells,List.append_eq_nil_iff] at ho;exact g3 ho.2⟩
theorem den_cap1 {x:AV} {d:D} {v:Value} (h:conv.cap1 hp x=some d) (hd:DenA M ι x v):DenD M d v:=by
 cases x with
 |ptr b i j=>
  simp only [conv.cap1] at h
  cases hb:hp b with
  |none=>simp [hb] at h
  |some B=>
   cases B with
   |row l sz fr=>simp [hb] at h
   |box c fr=>
    cases fr with
    |false=>simp [hb] at h
    |true=>
     simp only [hb] at h
     cases hi:Nat.beq i 0 with
     |false=>simp [hi] at h
     |true=>
      have:=Nat.eq_of_beq_eq_true hi;subst this
      cases hp1:conv.pures c with
      |none=>simp [hp1] at h
      |some ds=>
       simp only [hi,hp1,cond_true,Option.map_some,Option.some.injEq] at h;subst h
       cases hd with
       |ptr _ _ _ L hL=>
        obtain ⟨_,cs,Ty,hheap,hsz,a1,a2,a3,a5⟩:=hh.at_ b _ L hb hL;obtain ⟨g1,g2⟩:=pures_get hp1;rw [show 0*L.sz+j=0+j by omega]
        refine .dp _ _ _ _ (fun k=>(cs[k]?).getD undef) (fun k d hk=>?_) fun k d hk=>?_
        ·obtain ⟨x,h1,h2⟩:=g2 k d hk;obtain ⟨v,e1,e2⟩:=a3.den k x h1;simp only [Nat.zero_add,e1,Option.getD_some];exact a5.1 rfl _ _ (List.getElem?_eq_some_iff.1 h1).1 e1
        ·obtain ⟨x,h1,h2⟩:=g2 k d hk;obtain ⟨v,e1,e2⟩:=a3.den k x h1
         simpa [e1] using den_pure1 h2 e2
       |ptrL _ _ _ _ hL=>rw [(hh.dom b).2 hL] at hb;cases hb
 |d x=>simp only [conv.cap1,Option.some.injEq] at h;subst h;cases hd with|d _ _ hd=>exact hd
 |tt=>simp only [conv.cap1,Option.some.injEq] at h;subst h;cases hd;exact .bool _
 |ff=>simp only [conv.cap1,Option.some.injEq] at h;subst h;cases hd;exact .bool _
 |nil=>simp [conv.cap1] at h
 |win b lo n c=>simp [conv.cap1] at h
 |agg c=>simp [conv.cap1] at h
 |tup c=>simp [conv.cap1] at h
 |own b=>simp [conv.cap1] at h
 |fn f c=>simp [conv.cap1] at h
 |dead=>simp [conv.cap1] at h
theorem den_caps {c:List AV} {ds:List D} (h:conv.caps hp c=some ds):ds.length=c.length/\ ∀ (i:Nat) (d:D),ds[i]?=some d->∃ x,c[i]?=some x/\ ∀ v,DenA M ι x v->DenD M d v:=by
 induction c generalizing ds with
 |nil=>simp only [conv.caps,Option.some.injEq] at h;subst h;simp
 |cons x r ih=>
  simp only [conv.caps] at h
  cases h1:conv.cap1 hp x with
  |none=>simp [h1] at h
  |some d0=>
   cases h2:conv.caps hp r with
   |none=>simp [h1,h2] at h
   |some ds0=>
    simp only [h1,h2,Option.bind_some,Option.map_some,Option.some.injEq] at h;subst h;obtain ⟨e1,e2⟩:=ih h2;refine ⟨by simp [e1],fun i d hi=>?_⟩
    cases i with
    |zero=>simp only [List.getElem?_cons_zero,Option.some.injEq] at hi⊢;subst hi;exact ⟨x,rfl,fun v hv=>den_cap1 hh h1 hv⟩
    |succ i=>simpa using e2 i d (by simpa using hi)
theorem den_conv {x:AV} {d:D} {v:Value} (h:conv hp x=some d) (ho:openNames hp x=[]) (hd:DenA M ι x v):DenD M d v:=by
 cases x with
 |own b=>exact den_conv_one hh (x:=.own b) h (by simpa [openNames] using ho) hd
 |d x=>exact den_conv_one hh (x:=.d x) h rfl hd
 |tt=>exact den_conv_one hh (x:=.tt) h rfl hd
 |ff=>exact den_conv_one hh (x:=.ff) h rfl hd
 |nil=>exact den_conv_one hh (x:=.nil) h rfl hd
 |agg c=>
  simp only [conv] at h
  cases hc:conv.cells hp c with
  |none=>simp [hc] at h
  |some ds=>
   simp only [hc,Option.map_some,Option.some.injEq] at h;subst h;obtain ⟨vs,rfl,hs,hdv⟩:=den_agg_inv hd;obtain ⟨e1,e2⟩:=conv_cells_get hc
   refine .agg _ _ (by omega) fun i d v h1 h2=>?_
   obtain ⟨x,g1,g2,g3⟩:=e2 i d h1;exact den_conv_one hh g2 (g3 (by simpa [openNames] using ho)) (hdv i x v g1 h2)
 |fn f c=>
  simp only [conv] at h
  cases hc:conv.caps hp c with
  |none=>simp [hc] at h
  |some ds=>
   simp only [hc,Option.map_some,Option.some.injEq] at h;subst h;obtain ⟨e1,e2⟩:=den_caps hh hc
   cases hd with
   |fn _ _ vs hl hdv=>
    refine .fn _ _ _ (by omega) fun i d v h1 h2=>?_
    obtain ⟨x,g1,g2⟩:=e2 i d h1;exact g2 v (hdv i x v g1 h2)
 |tup c=>simp [conv] at h
 |ptr b i j=>simp [conv] at h
 |win b lo n c=>simp [conv] at h
 |dead=>simp [conv] at h
end
theorem map_d_den {M:Mem} {ι:Inj} {c:List D} {vs:Array Value} (hd:∀ (i:Nat) (d:D) (v:Value),c[i]?=some d->vs[i]?=some v->DenD M d v):
  ∀ (i:Nat) (x:AV) (v:Value),(c.map .d)[i]?=some x->vs[i]?=some v->DenA M ι x v:=by
 intro i x v h1 h2;rw [List.getElem?_map] at h1
 cases hc:c[i]? with
 |none=>simp [hc] at h1
 |some d=>
  simp only [hc,Option.map_some,Option.some.injEq] at h1;subst h1;exact .d _ _ (hd i d v hc h2)
theorem ofD_one_den {M:Mem} {ι:Inj} {d:D} {v:Value} (h:DenD M d v):DenA M ι (ofD.one d) v:=by
 cases d with
 |agg c=>
  cases h with
  |agg _ vs hl hd=>exact .agg _ _ (by simpa using hl) (map_d_den hd)
 |int k n=>exact .d _ _ h
 |bool b=>exact .d _ _ h
 |str s=>exact .d _ _ h
 |lst l=>exact .d _ _ h
 |dp c j=>exact .d _ _ h
 |fn f c=>exact .d _ _ h
 |nilp=>exact .d _ _ h
 |unk=>exact .d _ _ h
 |tup c=>exact .d _ _ h
theorem ofD_den {M:Mem} {ι:Inj} {d:D} {v:Value} (h:DenD M d v):DenA M ι (ofD d) v:=by
 cases d with
 |agg c=>
  cases h with
  |agg _ vs hl hd=>exact .agg _ _ (by simpa using hl) (map_d_den hd)
 |tup c=>
  cases h with
  |tup _ vs hl hd=>
   refine .tup _ _ (by simpa using hl) fun i x v h1 h2=>?_
   rw [List.getElem?_map] at h1
   cases hc:c[i]? with
   |none=>simp [hc] at h1
   |some d=>
    simp only [hc,Option.map_some,Option.some.injEq] at h1;subst h1;exact ofD_one_den (hd i d v hc h2)
 |int k n=>exact .d _ _ h
 |bool b=>exact .d _ _ h
 |str s=>exact .d _ _ h
 |lst l=>exact .d _ _ h
 |dp c j=>exact .d _ _ h
 |fn f c=>exact .d _ _ h
 |nilp=>exact .d _ _ h
 |unk=>exact .d _ _ h
theorem scalar_den {M M':Mem} {d:D} {v:Value} (hs:scalar d=true) (h:DenD M d v):DenD M' d v:=by
 have one:∀ (d:D) (v:Value),scalar.one d=true->DenD M d v->DenD M' d v:=by
  intro d v hs h
  cases h<;>simp [scalar.one] at hs
  ·exact .int _ _
  ·exact .bool _
  ·exact .str _
 have all:∀ (c:List D),scalar.all c=true->∀ d∈c,scalar.one d=true:=by
  intro c
  induction c with
  |nil=>intro _ d hd;cases hd
  |cons x r ih=>
   intro h d hd;simp only [scalar.all] at h
   cases hx:scalar.one x with
   |false=>simp [hx] at h
   |true=>
    simp only [hx,cond_true] at h
    cases hd with
    |head=>exact hx
    |tail _ hd=>exact ih h d hd
 cases h with
 |int k n=>exact .int _ _
 |bool b=>exact .bool _
 |str s=>exact .str _
 |agg c vs hl hd=>exact .agg c vs hl fun i d v h1 h2=>one d v (all c hs d (List.mem_of_getElem? h1)) (hd i d v h1 h2)
 |tup c vs hl hd=>exact .tup c vs hl fun i d v h1 h2=>one d v (all c hs d (List.mem_of_getElem? h1)) (hd i d v h1 h2)
 |emp a c=>simp [scalar] at hs
 |lst l b off cap sz val hl h1 h2 h3=>simp [scalar] at hs
 |dp c j b off val h1 h2=>simp [scalar] at hs
 |fn f c vs hl hd=>simp [scalar] at hs
 |nilp=>simp [scalar] at hs
 |unk v=>simp [scalar] at hs
section
variable {P:Program}
theorem run_callFuncOk {f:FuncId} (h:FnOk P f) (vs:Array Value) (w:World):(callFunc f vs).run P w=.ok (.enter f vs) w:=by
 obtain ⟨fn,h1,h2,h3⟩:=h
 have h4:fn.body≠none:=by cases hb:fn.body<;>simp_all
 have h5:fn.name≠ "runtime.NumGoroutine":=by simpa using h3
 simp [callFunc,h1,h4,h5]
theorem exec_static {o:Oper} {c:Call} {f:FuncId} (ho:o.op=.call c) (hc:c.callee=.value (.func f)) (h:FnOk P f) (a:Act) (w:World):
  (execOp a.eval o).run P w=.ok (.enter f (c.args.map a.eval)) w:=by
 simp [execOp,ho,resolve,hc,Act.eval,Deferred.ofValue,invoke,run_callFuncOk h]
theorem exec_closure {o:Oper} {c:Call} {f:FuncId} {t:Tmp} {vs:Array Value} (ho:o.op=.call c) (hc:c.callee=.value (.tmp t)) (h:FnOk P f) (a:Act) (w:World) (ht:a.eval (.tmp t)=.func (.func f) #[] vs):
  (execOp a.eval o).run P w=.ok (.enter f (c.args.map a.eval++vs)) w:=by
 simp [execOp,ho,resolve,hc,ht,Deferred.ofValue,invoke,run_callFuncOk h]
theorem convsK_out {hp:Nat->Option Blk} {ρ:Operand->AV}:∀ {l:List Operand} {K:List D->List Nat->Prop},convsK hp ρ l K->
  ∃ ds ns,K ds ns/\ds.length=l.length/\ (∀ (i:Nat) (x:Operand) (d:D),l[i]?=some x->ds[i]?=some d->conv hp (ρ x)=some d/\ ∀ b∈openNames hp (ρ x),b∈ns)
 | [],K,h=>⟨[],[],h,rfl,fun i x d h1=>by simp at h1⟩
 |x::r,K,h=>by
  simp only [convsK] at h
  cases hc:conv hp (ρ x) with
  |none=>simp [hc] at h
  |some d=>
   simp only [hc] at h;obtain ⟨ds,ns,hK,hl,hd⟩:=convsK_out h;refine ⟨d::ds,_,hK,by simp [hl],fun i y d' h1 h2=>?_⟩
   cases i with
   |zero=>
    simp only [List.getElem?_cons_zero,Option.some.injEq] at h1 h2;subst h1 h2;exact ⟨hc,fun b hb=>List.mem_append_left _ hb⟩
   |succ i=>
    obtain ⟨e1,e2⟩:=hd i y d' (by simpa using h1) (by simpa using h2);exact ⟨e1,fun b hb=>List.mem_append_right _ (e2 b hb)⟩
theorem openNames_frz {hp0 hp1:Nat->Option Blk} {ns:List Nat} (hf:∀ b l sz fr,b∈ns->hp0 b=some (.row l sz fr)->hp1 b=some (.row l sz true)) (hl:FrzLe hp0 hp1) (x:AV) (hx:∀ b∈openNames hp0 x,b∈ns):openNames hp1 x=[]:=by
 have one:∀ y:AV,(∀ b∈openNames.one hp0 y,b∈ns)->openNames.one hp1 y=[]:=by
  intro y hy
  cases y with
  |own b=>
   simp only [openNames.one] at hy⊢
   cases hb:hp0 b with
   |none=>
    rcases hl b with e|⟨l,sz,fr,e1,e2⟩
    ·rw [e,hb]
    ·rw [hb] at e1;cases e1
   |some B=>
    cases B with
    |box c fr=>
     rcases hl b with e|⟨l,sz,fr,e1,e2⟩
     ·rw [e,hb]
     ·rw [hb] at e1;cases e1
    |row l sz fr=>
     cases fr with
     |true=>
      rcases hl b with e|⟨l,sz,fr,e1,e2⟩
      ·rw [e,hb]
      ·rw [e2]
     |false=>rw [hf b l sz false (hy b (by simp [hb])) hb]
  |_=>rfl
 have cells:∀ c:List AV,(∀ b∈openNames.cells hp0 c,b∈ns)->openNames.cells hp1 c=[]:=by
  intro c
  induction c with
  |nil=>intro _;rfl
  |cons y r ih=>
   intro h;simp only [openNames.cells,List.mem_append] at h⊢;rw [one y fun b hb=>h b (.inl hb),ih fun b hb=>h b (.inr hb)];rfl
 cases x with
 |own b=>exact one (.own b) hx
 |agg c=>exact cells c hx
 |_=>rfl
theorem args_den {own:Nat->Prop} {M M1:Mem} {ι:Inj} {hp hp1:Nat->Option Blk} {w:World} {ρ:Operand->AV} {a:Act} {l:List Operand} {ds:List D} {ns:List Nat}
  (hs:Sub M M1) (h1:HRel own M1 ι hp1 w) (hl:FrzLe hp hp1) (hf:∀ b l sz fr,b∈ns->hp b=some (.row l sz fr)->hp1 b=some (.row l sz true)) (hρ:∀ x,DenA M ι (ρ x) (a.eval x))
  (hlen:ds.length=l.length) (hd:∀ (i:Nat) (x:Operand) (d:D),l[i]?=some x->ds[i]?=some d->conv hp (ρ x)=some d/\ ∀ b∈openNames hp (ρ x),b∈ns):
  DenDs M1 ds ((l.map a.eval).toArray):=by
 refine ⟨by simp [hlen],fun i d v e1 e2=>?_⟩;simp only [List.getElem?_toArray,List.getElem?_map] at e2
 cases hx:l[i]? with
 |none=>simp [hx] at e2
 |some x=>
  simp only [hx,Option.map_some,Option.some.injEq] at e2;subst e2;obtain ⟨g1,g2⟩:=hd i x d hx e1;exact den_conv h1 (by rw [conv_frz hl];exact g1) (openNames_frz hf hl _ g2) ((hρ x).mono hs)
theorem below_frame {own:Nat->Prop} {w w':World} (h:Below w.heap.size w w') (ho:∀ c,w.heap.size<=c->own c):FrameOwn own w w':=
 ⟨h.os,h.tape,h.output,h.size,fun c hc=>h.block c (by
  rcases Nat.lt_or_ge c w.heap.size with h'|h'
  ·exact h'
  ·exact absurd (ho c h') hc)⟩
theorem fresh_dom {own:Nat->Prop} {w:World} {M M':Mem} (h:Fresh w M M') (ho:∀ c,w.heap.size<=c->own c):NewDom own M M':=
 fun b o v hv=>orR (h b o v hv) (ho b)
theorem HRel.behind {own:Nat->Prop} {M M':Mem} {ι:Inj} {hp:Nat->Option Blk} {w w':World} (h:HRel own M ι hp w) (hb:Below w.heap.size w w') (hs:Sub M M') (hf:Fresh w M M'):HRel own M' ι hp w':=
 h.keep hs fun b' L' hL'=>⟨hb.block _ (h.lt hL'),fun B' hB' hfr o=>by
  cases hv:M' L'.blk o with
  |none=>rfl
  |some v=>
   rcases hf _ _ _ hv with e|e
   ·rw [h.closed hL' B' hB' hfr o] at e;cases e
   ·have:=h.lt hL';omega⟩
theorem frz_row {hp:Nat->Option Blk} (ns:List Nat):∀ p∈frz hp ns,∃ l sz fr,p.2=.row l sz fr:=by
 induction ns with
 |nil=>intro p hp;cases hp
 |cons b r ih=>
  intro p hp1;simp only [frz] at hp1
  cases hb:hp b with
  |none=>simp only [hb] at hp1;exact ih p hp1
  |some B=>
   cases B with
   |box c fr=>simp only [hb] at hp1;exact ih p hp1
   |row l sz fr=>
    simp only [hb] at hp1
    cases hp1 with
    |head=>exact ⟨_,_,_,rfl⟩
    |tail _ hp1=>exact ih p hp1
theorem writes_kill (k:Option Nat):∀ (ws:List (Nat×Blk)) (hp:Nat->Option Blk),(∀ p∈ws,∃ l sz fr,p.2=.row l sz fr)->writes (killH k hp) ws=killH k (writes hp ws)
 | [],_,_=>rfl
 |(b,B)::r,hp,h=>by
  obtain ⟨l,sz,fr,e⟩:=h (b,B) (List.mem_cons_self ..);have e:B=.row l sz fr:=e;subst e;simp only [writes];rw [<-writes_kill k r _ fun p hp=>h p (List.mem_cons_of_mem _ hp)]
  congr 1
  cases k with
  |none=>rfl
  |some k=>
   funext c
   by_cases hc:c=b
   ·subst hc;simp [killH,upd_same,killB]
   ·rw [upd_other _ _ hc];simp only [killH];rw [upd_other _ _ hc]
theorem writes_append (hp:Nat->Option Blk):∀ (x y:List (Nat×Blk)),writes hp (x++y)=writes (writes hp x) y
 | [],_=>rfl
 |(b,B)::r,y=>by simp only [List.cons_append,writes];exact writes_append _ r y
theorem Fm_fam {k b:Nat} (hk:2000000<=k) (hk8:k%8=0) (hb:b/8=k/8) {c:Nat} (h:Fm b c=true):Fm k c=true:=by
 unfold Fm at h⊢;rw [Nat.ble_eq_true_of_le hk,hk8]
 cases hq:Nat.ble 2000000 b&&Nat.beq (b%8) 0 with
 |true=>
  rw [hq] at h;simp only [cond_true] at h;rw [<-hb];exact h
 |false=>
  rw [hq] at h;simp only [cond_false] at h;have:=Nat.eq_of_beq_eq_true h;subst this;simp [hb]
theorem one_fam {k b:Nat} (hF:∀ c,Fm b c=true->Fm k c=true) {x:AV} (h:killV.one k x=false):killV.one b x=false:=by
 have key:∀ c,Fm k c=false->Fm b c=false:=fun c hc=>by
  cases hq:Fm b c with
  |false=>rfl
  |true=>rw [hF c hq] at hc;cases hc
 cases x<;>simp only [killV.one] at h⊢<;>first|exact key _ h|exact h
theorem names_fam {k b:Nat} (hF:∀ c,Fm b c=true->Fm k c=true):∀ {c:List AV},killV.names k c=false->killV.names b c=false
 | [],_=>rfl
 |x::r,h=>by
  simp only [killV.names] at h⊢
  cases h1:killV.one k x with
  |true=>rw [h1] at h;cases h
  |false=>
   rw [h1] at h;rw [one_fam hF h1];exact names_fam hF h
theorem parts_fam {k b:Nat} (hF:∀ c,Fm b c=true->Fm k c=true):∀ {c:List AV},killV.parts k c=false->killV.parts b c=false
 | [],_=>rfl
 |x::r,h=>by
  simp only [killV.parts] at h⊢
  cases h1:killV.part k x with
  |true=>rw [h1] at h;cases h
  |false=>
   rw [h1] at h
   have:killV.part b x=false:=by
    cases x<;>simp only [killV.part] at h1⊢<;>first|exact names_fam hF h1|exact one_fam hF h1
   rw [this];exact parts_fam hF h
theorem killV_fam {k b:Nat} (hF:∀ c,Fm b c=true->Fm k c=true) (x:AV):killV b (killV k x)=killV k x:=by
 have key:∀ c,Fm k c=false->Fm b c=false:=fun c hc=>by
  cases hq:Fm b c with
  |false=>rfl
  |true=>rw [hF c hq] at hc;cases hc
 cases x with
 |own c=>simp only [killV];cases h:Fm k c<;>simp [killV,key,h]
 |ptr c i j=>simp only [killV];cases h:Fm k c<;>simp [killV,key,h]
 |win c lo n q=>simp only [killV];cases h:Fm k c<;>simp [killV,key,h]
 |agg c=>simp only [killV];cases h:killV.names k c<;>simp [killV,names_fam hF,h]
 |tup c=>simp only [killV];cases h:killV.parts k c<;>simp [killV,parts_fam hF,h]
 |fn f c=>simp only [killV];cases h:killV.names k c<;>simp [killV,names_fam hF,h]
 |_=>rfl
theorem killB_idem {k b:Nat} (hk:2000000<=k) (hk8:k%8=0) (hb:b/8=k/8) (B:Blk):killB b (killB k B)=killB k B:=by
 cases B with
 |row l sz fr=>rfl
 |box c fr=>
  simp only [killB]
  congr 1
  induction c with
  |nil=>rfl
  |cons x r ih=>simp only [killB.cells,ih,killV_fam (fun c=>Fm_fam hk hk8 hb)]
theorem HRel.killed {own:Nat->Prop} {M:Mem} {ι:Inj} {hp:Nat->Option Blk} {w:World} (h:HRel own M ι hp w) (k:Nat):HRel own M ι (killH (some k) hp) w:=by
 refine ⟨fun b=>by rw [killH_none_iff];exact h.dom b,fun b hb=>?_,fun b B L hB hL=>?_,h.inj⟩
 ·obtain ⟨sz,fr,e⟩:=h.virt b hb;exact ⟨sz,fr,by simp [killH,e,killB]⟩
 ·obtain ⟨B0,e0,rfl⟩:=killH_some hB;exact ⟨(h.at_ b B0 L e0 hL).1,BlkAt.kill (fun _ _=>rfl) (h.at_ b B0 L e0 hL).2⟩
def wrN (rows:List (Nat×Blk)):List Nat:=rows.map (·.1)
theorem mem_wrN {b c:Nat} {B:Blk} {r:List (Nat×Blk)}:c∈wrN ((b,B)::r)↔c=b\/c∈wrN r:=by simp [wrN]
theorem mem_wrN' {c:Nat} {r:List (Nat×Blk)}:c∈wrN r↔∃ B,(c,B)∈r:=by simp [wrN]
theorem HRel.addRows {own:Nat->Prop} {M:Mem} {w:World} {k:Nat} (hk:2000000<=k) (lc:Nat->Option Loc):∀ (rows:List (Nat×Blk)) (ι:Inj) (hp:Nat->Option Blk),HRel own M ι hp w->
  (∀ b B,hp b=some B->∀ b',b'/8=k/8->killB b' B=B)->
  (∀ p∈rows,p.1/8=k/8)->(wrN rows).Nodup->
  (∀ p∈rows,∃ l sz,p.2=.row l sz false/\match lc p.1 with
   |none=>l=[]
   |some L=>own L.blk/\BlkAt M ι w p.2 L)->
  (∀ p∈rows,∀ L,lc p.1=some L->∀ b' L',ι b'=some (some L')->L'.blk=L.blk->b'=p.1)->
  (∀ p∈rows,∀ q∈rows,∀ L L',lc p.1=some L->lc q.1=some L'->L.blk=L'.blk->p.1=q.1)->
  HRel own M (fun b=>if b∈wrN rows then some (lc b) else ι b) (writes hp rows) w
 | [],ι,hp,h,_,_,_,_,_,_=>by
  have:(fun b=>if b∈wrN ([]:List (Nat×Blk)) then some (lc b) else ι b)=ι:=by funext b;simp [wrN]
  rw [this];exact h
 |(b,B)::r,ι,hp,h,hst,hfam,hnd,hB,hdis,hinj=>by
  have hfb:=hfam (b,B) (List.mem_cons_self ..);obtain ⟨l,sz,e1,e2⟩:=hB (b,B) (List.mem_cons_self ..);have e1:B=.row l sz false:=e1;subst e1;simp only [wrN,List.map_cons,List.nodup_cons] at hnd
  have hkill:killH (some b) hp=hp:=by
   funext c
   simp only [killH]
   cases hc:hp c with
   |none=>rfl
   |some C=>simp only [hst c C hc b hfb]
  have h1:HRel own M (upd ι b (some (lc b))) (upd hp b (some (.row l sz false))) w:=by
   cases hl:lc b with
   |none=>
    simp only [hl] at e2;subst e2;have:=h.virtual b sz false
    rwa [hkill] at this
   |some L=>
    simp only [hl] at e2
    have:=h.new b (.row l sz false) L (.refl M) e2.1 (by
      obtain ⟨cs,Ty,q1,q2,q3⟩:=e2.2
      exact ⟨cs,Ty,q1,q2,q3⟩) fun b' L' hne hL'=>⟨fun he=>hne (hdis _ (List.mem_cons_self ..) L hl b' L' hL' he),rfl,h.closed hL'⟩
    rwa [hkill] at this
  have ih:=HRel.addRows hk lc r _ _ h1 (fun c C hC b' hb'=>?_) (fun p hp=>hfam p (List.mem_cons_of_mem _ hp)) hnd.2 (fun p hp=>?_) (fun p hp L hL b' L' hL' he=>?_)
   fun p hp q hq=>hinj p (List.mem_cons_of_mem _ hp) q (List.mem_cons_of_mem _ hq)
  ·have e:(fun c=>if c∈wrN ((b,Blk.row l sz false)::r) then some (lc c) else ι c)=fun c=>if c∈wrN r then some (lc c) else upd ι b (some (lc b)) c:=by
    funext c
    by_cases hc:c∈wrN r
    ·rw [if_pos (mem_wrN.2 (.inr hc)),if_pos hc]
    ·by_cases hcb:c=b
     ·subst hcb;rw [if_pos (mem_wrN.2 (.inl rfl)),if_neg hc,upd_same]
     ·rw [if_neg (fun h=>(mem_wrN.1 h).elim hcb hc),if_neg hc,upd_other _ _ hcb]
   rw [e];exact ih
  ·by_cases hcb:c=b
   ·subst hcb;rw [upd_same] at hC;cases hC;rfl
   ·rw [upd_other _ _ hcb] at hC;exact hst c C hC b' hb'
  ·obtain ⟨l',sz',q1,q2⟩:=hB p (List.mem_cons_of_mem _ hp);refine ⟨l',sz',q1,?_⟩
   cases hl:lc p.1 with
   |none=>simp only [hl] at q2;exact q2
   |some L=>
    simp only [hl] at q2;refine ⟨q2.1,?_⟩;rw [q1] at q2⊢;obtain ⟨cs,Ty,g1,g2,g3⟩:=q2.2;exact ⟨cs,Ty,g1,g2,g3⟩
  ·by_cases hcb:b'=b
   ·subst hcb;rw [upd_same] at hL';simp only [Option.some.injEq] at hL';exact hinj _ (List.mem_cons_self ..) p (List.mem_cons_of_mem _ hp) L' L hL' hL he
   ·rw [upd_other _ _ hcb] at hL';exact hdis p (List.mem_cons_of_mem _ hp) L hL b' L' hL' he
theorem sWr_len (cs:List SC) (a b:Nat):(sWr a cs).length=(sWr b cs).length:=by
 induction cs generalizing a b with
 |nil=>rfl
 |cons c r ih=>cases c with
  |d x=>exact ih a b
  |row l sz=>simp only [sWr,List.length_cons,ih (a+1) (b+1)]
def sLc (bl:Nat->Option Loc) (i k:Nat):List SC->Nat->Option Loc
 | []=>fun _=>none
 | .d _::r=>sLc bl (i+1) k r
 | .row _ _::r=>fun b=>if b=k then bl i else sLc bl (i+1) (k+1) r b
def rk (cs:List SC) (j:Nat):Nat:=(sWr 0 (cs.take j)).length
theorem sWr_get (bl:Nat->Option Loc):∀ (cs:List SC) (i k:Nat) (p:Nat×Blk),p∈sWr k cs->k<=p.1/\p.1<k+(sWr 0 cs).length/\
  ∃ j l sz,cs[j]?=some (.row l sz) /\p.2=.row l sz false/\sLc bl i k cs p.1=bl (i+j) /\p.1=k+rk cs j
 | [],i,k,p,h=>by cases h
 | .d x::r,i,k,p,h=>by
  obtain ⟨h1,h2,j,l,sz,h3,h4,h5,h6⟩:=sWr_get bl r (i+1) k p h;exact ⟨h1,h2,j+1,l,sz,by simpa using h3,h4,by rw [show i+(j+1)=i+1+j by omega];exact h5,h6⟩
 | .row l0 sz0::r,i,k,p,h=>by
  simp only [sWr,List.mem_cons] at h
  have hl:(sWr 0 (.row l0 sz0::r)).length=(sWr 0 r).length+1:=by simp only [sWr,List.length_cons,sWr_len r (0+1) 0]
  rcases h with rfl|h
  ·exact ⟨Nat.le_refl _,by rw [hl];simp,0,l0,sz0,rfl,rfl,by simp [sLc],by simp [rk,sWr]⟩
  ·obtain ⟨h1,h2,j,l,sz,h3,h4,h5,h6⟩:=sWr_get bl r (i+1) (k+1) p h;refine ⟨by omega,by rw [hl];omega,j+1,l,sz,by simpa using h3,h4,?_,?_⟩
   ·simp only [sLc]
    rw [if_neg (by omega),h5];congr 1;omega
   ·have:rk (.row l0 sz0::r) (j+1)=rk r j+1:=by simp only [rk,List.take_succ_cons,sWr,List.length_cons,sWr_len _ (0+1) 0]
    omega
theorem sWr_nodup:∀ (cs:List SC) (k:Nat),(wrN (sWr k cs)).Nodup
 | [],k=>by simp [sWr,wrN]
 | .d x::r,k=>sWr_nodup r k
 | .row l0 sz0::r,k=>by
  simp only [sWr,wrN,List.map_cons,List.nodup_cons];refine ⟨fun h=>?_,sWr_nodup r (k+1)⟩;obtain ⟨p,hp,e⟩:=List.mem_map.1 h;have:=(sWr_get (fun _=>none) r 0 (k+1) p hp).1;omega
theorem sAv_get (bl:Nat->Option Loc):∀ (cs:List SC) (i k j:Nat) (x:AV),(sAv k cs)[j]?=some x->(∃ d,cs[j]?=some (.d d) /\x=.d d) \/
  ∃ l sz b,cs[j]?=some (.row l sz) /\x=.own b/\ (b,Blk.row l sz false)∈sWr k cs/\sLc bl i k cs b=bl (i+j)
 | [],i,k,j,x,h=>by simp [sAv] at h
 | .d y::r,i,k,0,x,h=>by
  simp only [sAv,List.getElem?_cons_zero,Option.some.injEq] at h;exact .inl ⟨y,rfl,h.symm⟩
 | .d y::r,i,k,j+1,x,h=>by
  simp only [sAv,List.getElem?_cons_succ] at h
  rcases sAv_get bl r (i+1) k j x h with ⟨d,h1,h2⟩|⟨l,sz,b,h1,h2,h3,h4⟩
  ·exact .inl ⟨d,by simpa using h1,h2⟩
  ·exact .inr ⟨l,sz,b,by simpa using h1,h2,h3,by rw [show i+(j+1)=i+1+j by omega];exact h4⟩
 | .row l0 sz0::r,i,k,0,x,h=>by
  simp only [sAv,List.getElem?_cons_zero,Option.some.injEq] at h;exact .inr ⟨l0,sz0,k,rfl,h.symm,by simp [sWr],by simp [sLc]⟩
 | .row l0 sz0::r,i,k,j+1,x,h=>by
  simp only [sAv,List.getElem?_cons_succ] at h
  rcases sAv_get bl r (i+1) (k+1) j x h with ⟨d,h1,h2⟩|⟨l,sz,b,h1,h2,h3,h4⟩
  ·exact .inl ⟨d,by simpa using h1,h2⟩
  ·have hb:=(sWr_get bl r (i+1) (k+1) _ h3).1;refine .inr ⟨l,sz,b,by simpa using h1,h2,List.mem_cons_of_mem _ h3,?_⟩;simp only [sLc]
   rw [if_neg (by simp at hb;omega),h4];congr 1;omega
theorem sAv_len (k:Nat) (cs:List SC):(sAv k cs).length=cs.length:=by
 induction cs generalizing k with
 |nil=>rfl
 |cons c r ih=>cases c<;>simp [sAv,ih]
theorem writes_still {k:Nat}:∀ (rows:List (Nat×Blk)) (hp:Nat->Option Blk),(∀ b B,hp b=some B->killB k B=B)->(∀ p∈rows,killB k p.2=p.2)->∀ b B,writes hp rows b=some B->killB k B=B
 | [],hp,h,_,b,B,hB=>h b B hB
 |(c,C)::r,hp,h,hr,b,B,hB=>by
  refine writes_still r (upd hp c (some C)) (fun b' B' hB'=>?_) (fun p hp=>hr p (.tail _ hp)) b B hB
  by_cases e:b'=c
  ·subst e;rw [upd_same] at hB'
   cases hB'
   exact hr _ (List.mem_cons_self ..)
  ·rw [upd_other _ _ e] at hB';exact h b' B' hB'
theorem callX_sem {f:FuncId} {st:Bool} {xs:List AV} {hp:Nat->Option Blk} {dst:Option Tmp} {l:List Operand} {ds cs:List D} {ns:List Nat} {ρ:Operand->AV} {K:Eff->Prop}
  (h:callX P f st xs hp dst (ds++cs) ns K) (hlen:ds.length=l.length) (hd:∀ (i:Nat) (x:Operand) (d:D),l[i]?=some x->ds[i]?=some d->conv hp (ρ x)=some d/\ ∀ b∈openNames hp (ρ x),b∈ns)
  (hxs:st=true->xs=evs ρ l/\cs=[]):
  ∃ e,K e/\FnOk P f/\ ∀ (own:Nat->Prop) (M:Mem) (ι:Inj) (a:Act) (w:World) (vs:Array Value),(∀ c,w.heap.size<=c->own c)->Agree M w->HRel own M ι hp w->(∀ x,DenA M ι (ρ x) (a.eval x))->DenDs M cs vs->
   Calls P f ((l.map a.eval).toArray++vs) w fun en w'=>∃ v,en=.returned v/\Post own M ι hp w e v w':=by
 have prep:∀ (own:Nat->Prop) (M:Mem) (ι:Inj) (a:Act) (w:World) (vs:Array Value),Agree M w->HRel own M ι hp w->(∀ x,DenA M ι (ρ x) (a.eval x))->DenDs M cs vs->
   ∃ M1,Sub M M1/\Agree M1 w/\NewDom own M M1/\HRel own M1 ι (writes hp (frz hp ns)) w/\DenDs M1 (ds++cs) ((l.map a.eval).toArray++vs):=by
  intro own M ι a w vs ha hh hρ hvs;obtain ⟨M1,s1,a1,n1,h1,l1,f1⟩:=freezeAll (hp0:=hp) ns M hp ha hh (.refl hp);have hden:=args_den (a:=a) s1 h1 l1 (fun b l sz fr hb e=>f1 b l sz fr (.inl hb) e) hρ hlen hd;refine ⟨M1,s1,a1,n1,h1,by simp [hden.1,hvs.1],fun i d v e1 e2=>?_⟩
  by_cases hi:i<ds.length
  ·rw [List.getElem?_append_left hi] at e1;rw [Array.getElem?_append_left (by simpa [hlen] using hi)] at e2;exact hden.2 i d v e1 e2
  ·rw [List.getElem?_append_right (by omega)] at e1;rw [Array.getElem?_append_right (by simp;omega)] at e2;exact (hvs.2 _ d v e1 (by simpa [hlen] using e2)).mono s1
 replace h:=h.out
 rcases h with ⟨d,hA,hK⟩|⟨l',sz,t,hO,hdst,hK⟩|⟨hst,e,hE,hK⟩|⟨cs',t,hS,hdst,hn8,hK⟩|⟨cs',rs',t,hS,hdst,hn8,hK⟩
 ·cases hsc:scalar d with
  |true=>
   simp only [hsc,cond_true] at hK;refine ⟨_,hK,hA.1,fun own M ι a w vs ho ha hh hρ hvs=>?_⟩;obtain ⟨M1,s1,a1,n1,h1,hden⟩:=prep own M ι a w vs ha hh hρ hvs
   refine (hA.2 w M1 _ a1 hden).mono fun en w' hq=>?_
   obtain ⟨v,M',e,hb,s2,a2,f2,d2⟩:=hq;exact ⟨v,e,M,ι,below_frame hb ho,.refl M,fun b o v h=>a2 _ _ _ (s2 _ _ _ (s1 _ _ _ h)),.refl _ _,hh.behind hb (.refl M) (fun _ _ _ h=>.inl h),fun _ _=>rfl,ofD_den (scalar_den hsc d2)⟩
  |false=>
   simp only [hsc,cond_false] at hK;refine ⟨_,hK,hA.1,fun own M ι a w vs ho ha hh hρ hvs=>?_⟩;obtain ⟨M1,s1,a1,n1,h1,hden⟩:=prep own M ι a w vs ha hh hρ hvs
   refine (hA.2 w M1 _ a1 hden).mono fun en w' hq=>?_
   obtain ⟨v,M',e,hb,s2,a2,f2,d2⟩:=hq;exact ⟨v,e,M',ι,below_frame hb ho,s1.trans s2,a2,n1.trans (fresh_dom f2 ho),h1.behind hb s2 f2,fun _ _=>rfl,ofD_den d2⟩
 ·refine ⟨_,hK,hO.1,fun own M ι a w vs ho ha hh hρ hvs=>?_⟩;obtain ⟨M1,s1,a1,n1,h1,hden⟩:=prep own M ι a w vs ha hh hρ hvs
  refine (hO.2 w M1 _ a1 hden).mono fun en w' hq=>?_
  obtain ⟨v,M',e,hb,s2,a2,f2,hrow⟩:=hq;have h2:=h1.behind hb s2 f2
  have ehp:(⟨.own t,frz hp ns++[(t,.row l' sz false)],some t⟩:Eff).hp hp=upd (killH (some t) (writes hp (frz hp ns))) t (some (.row l' sz false)):=by
   simp only [Eff.hp,writes_append,writes,writes_kill (some t) _ hp (frz_row ns)]
  rcases hrow with ⟨rfl,ad,rfl⟩|⟨c,cap,cells,Ty,g1,rfl,g2,g3,g4,g5,g6⟩
  ·refine ⟨_,e,M',upd ι t (some none),below_frame hb ho,s1.trans s2,a2,n1.trans (fresh_dom f2 ho),?_,fun b hb=>upd_other _ _ fun e=>Kp_ne hb e,.ownE t ad (upd_same _ _ _)⟩;rw [ehp];exact h2.virtual t sz false
  ·let L:Loc:=⟨c,sz,cells.size,l'.length⟩
   refine ⟨_,e,M',upd ι t (some (some L)),below_frame hb ho,s1.trans s2,a2,n1.trans (fresh_dom f2 ho),?_,fun b hb=>upd_other _ _ fun e=>Kp_ne hb e,.own t L cap (upd_same _ _ _) g2 g3⟩;rw [ehp]
   refine h2.new t (.row l' sz false) L (.refl _) (ho c g1) ⟨cells,Ty,g4,rfl,rfl,rfl,Nat.le_trans (Nat.mul_le_mul_right _ g2) g3,g5,(by intro e;cases e),fun _=>g6⟩ fun b' L' hne hL'=>⟨?_,rfl,h2.closed hL'⟩
   have:=h1.lt hL';show L'.blk≠c;omega
 ·obtain ⟨rfl,rfl⟩:=hxs hst;refine ⟨e,hK,hE.1,fun own M ι a w vs ho ha hh hρ hvs=>?_⟩
  have hvs0:vs=#[]:=by
   have:=hvs.1
   simpa using this
  subst hvs0
  have hda:DenAs M ι (evs ρ l) ((l.map a.eval).toArray++#[]):=by
   have key:∀ l:List Operand,(evs ρ l).length=l.length/\ ∀ (i:Nat) (x:AV) (v:Value),(evs ρ l)[i]?=some x->(l.map a.eval)[i]?=some v->DenA M ι x v:=by
    intro l
    induction l with
    |nil=>exact ⟨rfl,fun i x v h=>by simp [evs] at h⟩
    |cons y r ih=>
     refine ⟨by simp [evs,ih.1],fun i x v e1 e2=>?_⟩
     cases i with
     |zero=>
      simp only [evs,List.map_cons,List.getElem?_cons_zero,Option.some.injEq] at e1 e2;subst e1 e2;exact hρ y
     |succ i=>exact ih.2 i x v (by simpa [evs] using e1) (by simpa using e2)
   exact ⟨by simp [(key l).1],fun i x v e1 e2=>(key l).2 i x v e1 (by simpa using e2)⟩
  refine (hE.2 own M ι w _ ho ha hh hda).mono fun en w' hq=>?_
  obtain ⟨v,M',ι',e1,e2,e3,e4,e5,e6,e7,e8⟩:=hq;exact ⟨v,e1,M',ι',e2,e3,e4,e5,e6,e7,e8⟩
 ·have key:∀ n:Nat,∃ k:Nat,k=2000000+8*n/\k%8=0/\2000000<=k:=fun n=>⟨_,rfl,by omega,by omega⟩
  obtain ⟨k,hkd,hk8,hk⟩:=key t
  have hK:K ⟨.agg (sAv k cs'),frz hp ns++sWr k cs',some k⟩:=by rw [hkd];exact hK
  refine ⟨_,hK,hS.1,fun own M ι a w vs ho ha hh hρ hvs=>?_⟩;obtain ⟨M1,s1,a1,n1,h1,hden⟩:=prep own M ι a w vs ha hh hρ hvs
  refine (hS.2 w M1 _ a1 hden).mono fun en w' hq=>?_
  obtain ⟨us,M',bl,e,hb,s2,a2,f2,hus,hcell,hbl⟩:=hq;have h2:=h1.behind hb s2 f2
  have hfam:∀ b,k<=b->b<k+8->b/8=k/8:=fun b q1 q2=>by omega
  have ehp:(⟨.agg (sAv k cs'),frz hp ns++sWr k cs',some k⟩:Eff).hp hp=writes (killH (some k) (writes hp (frz hp ns))) (sWr k cs'):=by
   simp only [Eff.hp,writes_append,writes_kill (some k) _ hp (frz_row ns)]
  have hst:∀ b B,killH (some k) (writes hp (frz hp ns)) b=some B->∀ b',b'/8=k/8->killB b' B=B:=fun b B hB b' hb'=>by
   obtain ⟨B0,_,rfl⟩:=killH_some hB;exact killB_idem hk hk8 hb' B0
  have hrow:∀ p∈sWr k cs',k<=p.1/\p.1<k+8/\ ∃ j l sz,cs'[j]?=some (.row l sz) /\p.2=.row l sz false/\sLc bl 0 k cs' p.1=bl j/\p.1=k+rk cs' j:=fun p hp=>by
   obtain ⟨q1,q2,j,l,sz,q3,q4,q5,q6⟩:=sWr_get bl cs' 0 k p hp;exact ⟨q1,by omega,j,l,sz,q3,q4,by simpa using q5,q6⟩
  have h3:=HRel.addRows hk (sLc bl 0 k cs') (sWr k cs') ι _ (h2.killed k) hst (fun p hp=>hfam _ (hrow p hp).1 (hrow p hp).2.1) (sWr_nodup cs' k) (fun p hp=>by
    obtain ⟨q1,q2,j,l,sz,q3,q4,q5,q6⟩:=hrow p hp;refine ⟨l,sz,q4,?_⟩;rw [q5,q4];obtain ⟨u,g1,g2⟩:=hcell j _ q3;simp only at g2
    cases hl:bl j with
    |none=>rw [hl] at g2;exact g2.1
    |some L=>
     rw [hl] at g2;obtain ⟨z1,cap,cells,Ty,z2,z3,z4,z5,z6,z7,z8,z9,z10⟩:=g2
     exact ⟨ho _ z1,cells,Ty,z8,z5.symm,z4.symm,z3.symm,by rw [z5];exact Nat.le_trans (Nat.mul_le_mul_right _ z6) z7,z9,(by intro e;cases e),fun _=>z10⟩)
   (fun p hp L hL b' L' hL' he=>by
    obtain ⟨q1,q2,j,l,sz,q3,q4,q5,q6⟩:=hrow p hp;rw [q5] at hL;obtain ⟨u,g1,g2⟩:=hcell j _ q3;simp only [hL] at g2;have:=g2.1;have:=h1.lt hL'
    omega)
   (fun p hp q hq L L' hL hL' he=>by
    obtain ⟨_,_,j,l,sz,q3,q4,q5,q6⟩:=hrow p hp;obtain ⟨_,_,j',l',sz',q3',q4',q5',q6'⟩:=hrow q hq;rw [q5] at hL;rw [q5'] at hL';have:=hbl j j' L L' hL hL' he;subst this
    omega)
  refine ⟨_,e,M',_,below_frame hb ho,s1.trans s2,a2,n1.trans (fresh_dom f2 ho),by rw [ehp];exact h3,fun b hb=>?_,?_⟩
  ·by_cases hm:b∈wrN (sWr k cs')
   ·obtain ⟨B,hB⟩:=mem_wrN'.1 hm;obtain ⟨q1,q2,_⟩:=hrow _ hB;have h8:=hfam b q1 q2;have:Fm k b=true:=Fm_fam hk hk8 h8 (Fm_self b);have hb:Fm k b=false:=hb
    rw [this] at hb;cases hb
   ·simp only [if_neg hm]
  ·refine .agg _ us (by rw [sAv_len];exact hus) fun j x u hx hu=>?_
   rcases sAv_get bl cs' 0 k j x hx with ⟨d,g1,rfl⟩|⟨l,sz,b,g1,rfl,g2,g3⟩
   ·obtain ⟨u',g4,g5⟩:=hcell j _ g1
    rw [hu] at g4;cases g4
    exact .d _ _ g5
   ·obtain ⟨u',g4,g5⟩:=hcell j _ g1
    rw [hu] at g4;cases g4
    have hm:b∈wrN (sWr k cs'):=mem_wrN'.2 ⟨_,g2⟩;simp only [Nat.zero_add] at g3
    cases hl:bl j with
    |none=>
     simp only [hl] at g5;obtain ⟨_,ad,rfl⟩:=g5;exact .ownE b ad (by simp only [if_pos hm,g3,hl])
    |some L=>
     simp only [hl] at g5;obtain ⟨z1,cap,cells,Ty,rfl,z3,z4,z5,z6,z7,z8,z9,z10⟩:=g5;rw [<-z3];exact .own b L cap (by simp only [if_pos hm,g3,hl]) (by rw [z3];exact z6) (by rw [z4,z5];exact z7)
 ·have key:∀ n:Nat,∃ k:Nat,k=2000000+8*n/\k%8=0/\2000000<=k:=fun n=>⟨_,rfl,by omega,by omega⟩
  obtain ⟨k,hkd,hk8,hk⟩:=key t
  have hK:K ⟨.tup (.ptr k 0 0::rs'.map ofD.one),frz hp ns++(sWr (k+1) cs'++[(k,.box (sAv (k+1) cs') false)]),some k⟩:=by rw [hkd];exact hK
  refine ⟨_,hK,hS.1,fun own M ι a w vs ho ha hh hρ hvs=>?_⟩;obtain ⟨M1,s1,a1,n1,h1,hden⟩:=prep own M ι a w vs ha hh hρ hvs
  refine (hS.2 w M1 _ a1 hden).mono fun en w' hq=>?_
  obtain ⟨c0,us,rv,Ty0,M',bl,e,hc0,hheap,hM0,hb,s2,a2,f2,hus,hrv,hcell,hbl,hbc⟩:=hq;have h2:=h1.behind hb s2 f2
  have hfam:∀ b,k+1<=b->b<k+8->b/8=k/8:=fun b q1 q2=>by omega
  have ehp:(⟨.tup (.ptr k 0 0::rs'.map ofD.one),frz hp ns++(sWr (k+1) cs'++[(k,.box (sAv (k+1) cs') false)]),some k⟩:Eff).hp hp=upd (writes (killH (some k) (writes hp (frz hp ns))) (sWr (k+1) cs')) k (some (.box (sAv (k+1) cs') false)):=by
   simp only [Eff.hp,writes_append,writes,writes_kill (some k) _ hp (frz_row ns)]
  have hst:∀ b B,killH (some k) (writes hp (frz hp ns)) b=some B->∀ b',b'/8=k/8->killB b' B=B:=fun b B hB b' hb'=>by
   obtain ⟨B0,_,rfl⟩:=killH_some hB;exact killB_idem hk hk8 hb' B0
  have hrow:∀ p∈sWr (k+1) cs',k+1<=p.1/\p.1<k+8/\ ∃ j l sz,cs'[j]?=some (.row l sz) /\p.2=.row l sz false/\sLc bl 0 (k+1) cs' p.1=bl j/\p.1=k+1+rk cs' j:=fun p hp=>by
   obtain ⟨q1,q2,j,l,sz,q3,q4,q5,q6⟩:=sWr_get bl cs' 0 (k+1) p hp;exact ⟨q1,by omega,j,l,sz,q3,q4,by simpa using q5,q6⟩
  have h3:=HRel.addRows hk (sLc bl 0 (k+1) cs') (sWr (k+1) cs') ι _ (h2.killed k) hst (fun p hp=>hfam _ (hrow p hp).1 (hrow p hp).2.1) (sWr_nodup cs' (k+1)) (fun p hp=>by
    obtain ⟨q1,q2,j,l,sz,q3,q4,q5,q6⟩:=hrow p hp;refine ⟨l,sz,q4,?_⟩;rw [q5,q4];obtain ⟨u,g1,g2⟩:=hcell j _ q3;simp only at g2
    cases hl:bl j with
    |none=>rw [hl] at g2;exact g2.1
    |some L=>
     rw [hl] at g2;obtain ⟨z1,cap,cells,Ty,z2,z3,z4,z5,z6,z7,z8,z9,z10⟩:=g2
     exact ⟨ho _ z1,cells,Ty,z8,z5.symm,z4.symm,z3.symm,by rw [z5];exact Nat.le_trans (Nat.mul_le_mul_right _ z6) z7,z9,(by intro e;cases e),fun _=>z10⟩)
   (fun p hp L hL b' L' hL' he=>by
    obtain ⟨q1,q2,j,l,sz,q3,q4,q5,q6⟩:=hrow p hp;rw [q5] at hL;obtain ⟨u,g1,g2⟩:=hcell j _ q3;simp only [hL] at g2;have:=g2.1;have:=h1.lt hL'
    omega)
   (fun p hp q hq L L' hL hL' he=>by
    obtain ⟨_,_,j,l,sz,q3,q4,q5,q6⟩:=hrow p hp;obtain ⟨_,_,j',l',sz',q3',q4',q5',q6'⟩:=hrow q hq;rw [q5] at hL;rw [q5'] at hL';have:=hbl j j' L L' hL hL' he;subst this
    omega)
  have hnm:k∉wrN (sWr (k+1) cs'):=fun hm=>by
   obtain ⟨B,hB⟩:=mem_wrN'.1 hm;have:=(hrow _ hB).1;simp only at this;omega
  have hkill:killH (some k) (writes (killH (some k) (writes hp (frz hp ns))) (sWr (k+1) cs'))=writes (killH (some k) (writes hp (frz hp ns))) (sWr (k+1) cs'):=by
   have hw:=writes_still (k:=k) (sWr (k+1) cs') (killH (some k) (writes hp (frz hp ns))) (fun b B hB=>hst b B hB k rfl) (fun p hp=>by
    obtain ⟨_,_,j,l,sz,_,q4,_⟩:=hrow p hp
    rw [q4];rfl)
   funext b
   simp only [killH]
   cases hc:writes (killH (some k) (writes hp (frz hp ns))) (sWr (k+1) cs') b with
   |none=>simp only [killH] at hc;rw [hc]
   |some B=>
    have:=hw b B hc;simp only [killH] at hc;rw [hc];simp only [this]
  have hbox:BlkAt M' (upd (fun b=>if b∈wrN (sWr (k+1) cs') then some (sLc bl 0 (k+1) cs' b) else ι b) k (some (some ⟨c0,us.size,us.size,1⟩))) w' (.box (sAv (k+1) cs') false) ⟨c0,us.size,us.size,1⟩:=by
   refine ⟨us,Ty0,hheap,rfl,by rw [sAv_len];exact hus,by rw [sAv_len];exact hus,⟨by rw [sAv_len];exact hus,fun j x hx=>?_⟩,(by intro e;cases e),fun _=>hM0⟩
   rcases sAv_get bl cs' 0 (k+1) j x hx with ⟨d,g1,rfl⟩|⟨l,sz,b,g1,rfl,g2,g3⟩
   ·obtain ⟨u',g4,g5⟩:=hcell j _ g1;exact ⟨u',g4,.d _ _ g5⟩
   ·obtain ⟨u',g4,g5⟩:=hcell j _ g1;have hm:b∈wrN (sWr (k+1) cs'):=mem_wrN'.2 ⟨_,g2⟩
    have hbk:b≠k:=fun e=>hnm (e▸hm)
    simp only [Nat.zero_add] at g3;refine ⟨u',g4,?_⟩
    cases hl:bl j with
    |none=>
     simp only [hl] at g5;obtain ⟨_,ad,rfl⟩:=g5;exact .ownE b ad (by rw [upd_other _ _ hbk];simp only [if_pos hm,g3,hl])
    |some L=>
     simp only [hl] at g5;obtain ⟨z1,cap,cells,Ty,rfl,z3,z4,z5,z6,z7,z8,z9,z10⟩:=g5;rw [<-z3];exact .own b L cap (by rw [upd_other _ _ hbk];simp only [if_pos hm,g3,hl]) (by rw [z3];exact z6) (by rw [z4,z5];exact z7)
  have h4:=h3.new k (.box (sAv (k+1) cs') false) ⟨c0,us.size,us.size,1⟩ (.refl M') (ho c0 hc0) hbox fun b' L' hne hL'=>⟨?_,rfl,h3.closed hL'⟩
  ·refine ⟨_,e,M',_,below_frame hb ho,s1.trans s2,a2,n1.trans (fresh_dom f2 ho),by rw [ehp,<-hkill];exact h4,fun b hb=>?_,?_⟩
   ·have hb:Fm k b=false:=hb;have hbk:b≠k:=Fm_ne hb;rw [upd_other _ _ hbk]
    by_cases hm:b∈wrN (sWr (k+1) cs')
    ·obtain ⟨B,hB⟩:=mem_wrN'.1 hm;obtain ⟨q1,q2,_⟩:=hrow _ hB;have h8:=hfam b q1 q2;have:Fm k b=true:=Fm_fam hk hk8 h8 (Fm_self b)
     rw [this] at hb;cases hb
    ·simp only [if_neg hm]
   ·refine .tup _ _ (by simp [hrv.1];omega) fun j x u hx hu=>?_
    cases j with
    |zero=>
     simp only [List.getElem?_cons_zero,Option.some.injEq] at hx
     have hu:Value.pointer (some ⟨c0,0,none⟩)=u:=by
      rw [Array.getElem?_append_left (by simp)] at hu
      simpa using hu
     subst hx hu;have:=DenA.ptr (M:=M') k 0 0 ⟨c0,us.size,us.size,1⟩ (upd_same (fun b=>if b∈wrN (sWr (k+1) cs') then some (sLc bl 0 (k+1) cs' b) else ι b) k (some (some ⟨c0,us.size,us.size,1⟩)))
     simpa using this
    |succ j=>
     simp only [List.getElem?_cons_succ,List.getElem?_map,Option.map_eq_some_iff] at hx;obtain ⟨d,hd1,rfl⟩:=hx;refine ofD_one_den (hrv.2 j d u hd1 ?_);rw [Array.getElem?_append_right (by simp)] at hu
     simpa using hu
  ·by_cases hm:b'∈wrN (sWr (k+1) cs')
   ·obtain ⟨B,hB⟩:=mem_wrN'.1 hm;obtain ⟨_,_,j,l,sz,q3,q4,q5,q6⟩:=hrow _ hB;simp only [if_pos hm] at hL';simp only at q5;rw [q5] at hL';simp only [Option.some.injEq] at hL';exact hbc j L' hL'
   ·simp only [if_neg hm] at hL';have:=h1.lt hL';show L'.blk≠c0;omega
end
end Go.Lk
