/-
  What is proved here: what functions of the program compute, and what follows; no condition beyond each theorem's own.
-/
import Derived.Test.YtaofmndhdmkgkaaGreatHAb
import Derived.Laws.StructEq
set_option linter.unusedSimpArgs false
set_option linter.unusedVariables false
set_option linter.unnecessarySimpa false
set_option linter.unusedSectionVars false
namespace Go.Lk
open Go Go.RowKit
def Post (own:Nat->Prop) (M:Mem) (ι:Inj) (hp:Nat->Option Blk) (w:World) (e:Eff) (v:Value) (w':World):Prop:=
 ∃ (M':Mem) (ι':Inj),FrameOwn own w w'/\Sub M M'/\Agree M' w'/\NewDom own M M'/\HRel own M' ι' (e.hp hp) w'/\ (∀ b,Kp e.kl b->ι' b=ι b) /\DenA M' ι' e.av v
def OpSem (P:Program) (o:Oper) (ρ:Operand->AV) (hp:Nat->Option Blk) (e:Eff):Prop:=
 ∀ (own:Nat->Prop) (M:Mem) (ι:Inj) (a:Act) (w:World),(∀ c,w.heap.size<=c->own c)->Agree M w->HRel own M ι hp w->(∀ x,DenA M ι (ρ x) (a.eval x))->
  o.wp P a w (fun a' w'=>∃ v,a'=a.put o.dst v/\Post own M ι hp w e v w') (fun _ _ _=>False)
theorem Sub.refl (M:Mem):Sub M M:=fun _ _ _ h=>h
theorem Sub.trans {M M' M'':Mem} (h:Sub M M') (h':Sub M' M''):Sub M M'':=fun _ _ _ k=>h' _ _ _ (h _ _ _ k)
theorem NewDom.refl (own:Nat->Prop) (M:Mem):NewDom own M M:=fun _ _ _ h=>.inl h
theorem NewDom.trans {own:Nat->Prop} {M M' M'':Mem} (h:NewDom own M M') (h':NewDom own M' M''):NewDom own M M'':=fun b o v k=>(h' b o v k).elim (h b o v) .inr
theorem FrameOwn.refl (own:Nat->Prop) (w:World):FrameOwn own w w:=⟨rfl,rfl,rfl,Nat.le_refl _,fun _ _=>rfl⟩
theorem FrameOwn.trans {own:Nat->Prop} {a b c:World} (h:FrameOwn own a b) (h':FrameOwn own b c):FrameOwn own a c:=
 ⟨h'.os.trans h.os,h'.tape.trans h.tape,h'.output.trans h.output,Nat.le_trans h.size h'.size,fun x hx=>(h'.block x hx).trans (h.block x hx)⟩
theorem post_val {own:Nat->Prop} {M:Mem} {ι:Inj} {hp:Nat->Option Blk} {w:World} {av:AV} {v:Value} (ha:Agree M w) (hh:HRel own M ι hp w) (hd:DenA M ι av v):Post own M ι hp w ⟨av,[],none⟩ v w:=
 ⟨M,ι,.refl _ _,.refl _,ha,.refl _ _,hh,fun _ _=>rfl,hd⟩
theorem opSem_val {P:Program} {o:Oper} {ρ:Operand->AV} {hp:Nat->Option Blk} {av:AV}
  (h:∀ (own:Nat->Prop) (M:Mem) (ι:Inj) (a:Act) (w:World),Agree M w->HRel own M ι hp w->(∀ x,DenA M ι (ρ x) (a.eval x))->∃ v,(execOp a.eval o).run P w=.ok (.value v) w/\DenA M ι av v):
  OpSem P o ρ hp ⟨av,[],none⟩:=by
 intro own M ι a w _ ha hh hρ;obtain ⟨v,hr,hd⟩:=h own M ι a w ha hh hρ;unfold Oper.wp;rw [hr,Oper.upon_value];exact ⟨v,rfl,post_val ha hh hd⟩
theorem force_out {v:AV} {K:AV->Prop} (h:force v K):K v/\v≠.dead:=by
 cases v<;>simp_all [force]
theorem bcase_out {b:Bool} {A B:Prop} (h:bcase b A B):(b=true/\A) \/ (b=false/\B):=by
 replace h:=h.out
 cases b<;>simp_all
theorem wrapK_out {k:IntKind} {n:Int} {K:Int->Prop} (h:wrapK k n K):K (k.wrap n):=h.out
theorem condK_out {c K:Prop} (h:condK c K):c/\K:=h.out
theorem getRow_out {l:List (List D)} {i:Nat} {K:List D->Prop} (h:getRow l i K):∃ e,l[i]?=some e/\K e:=h.out
theorem idxK_out {i:Int} {n:Nat} {K:Nat->Prop} (h:idxK i n K):0<=i/\i<n/\K i.toNat:=h.out
theorem roomK_out {n b:Nat} {K:Prop} (h:roomK n b K):n*b<=35184372088832/\n<=35184372088832/\K:=h.out
theorem winK_out {lo hi:Option Int} {n c:Nat} {K:Nat->Nat->Prop} (h:winK lo hi n c K):0<=lo.getD 0/\lo.getD 0<=hi.getD n/\hi.getD n<=c/\K (lo.getD 0).toNat (hi.getD n).toNat:=h.out
theorem sliceK_out {lo hi:Option Int} {n:Nat} {K:Nat->Nat->Prop} (h:sliceK lo hi n K):
  0<=lo.getD 0/\lo.getD 0<=hi.getD n/\hi.getD n<=n/\K (lo.getD 0).toNat (hi.getD n).toNat:=h.out
theorem divK_out {q:Bool} {k:IntKind} {a b:Int} {K:Int->Prop} (h:divK q k a b K):b≠0/\K (if q then k.wrap (a.tdiv b) else a.tmod b):=h.out
theorem boolOf_out {v:AV} {K:Bool->Prop} (h:boolOf v K):∃ b,K b/\ ∀ (M:Mem) (ι:Inj) (u:Value),DenA M ι v u->u=.bool b:=by
 unfold boolOf at h
 split at h
 ·rename_i b;refine ⟨b,h,fun M ι u hd=>?_⟩
  cases hd with
  |d _ _ hd=>cases hd;rfl
 ·exact ⟨true,h,fun M ι u hd=>by cases hd;rfl⟩
 ·exact ⟨false,h,fun M ι u hd=>by cases hd;rfl⟩
 ·exact h.elim
theorem den_int {M:Mem} {ι:Inj} {k:IntKind} {n:Int} {v:Value} (h:DenA M ι (.d (.int k n)) v):v=.int k n:=by
 cases h with
 |d _ _ h=>cases h;rfl
theorem den_str {M:Mem} {ι:Inj} {s:ByteArray} {v:Value} (h:DenA M ι (.d (.str s)) v):v=.string s:=by
 cases h with
 |d _ _ h=>cases h;rfl
theorem den_bool {M:Mem} {ι:Inj} {s:Bool} {v:Value} (h:DenA M ι (.d (.bool s)) v):v=.bool s:=by
 cases h with
 |d _ _ h=>cases h;rfl
section
variable {P:Program}
theorem intA_out {op:BinOp} {k:IntKind} {a b:Int} {K:AV->Prop} (h:intA op k a b K) (t:TypeId):
  ∃ d:D,K (.d d) /\ (∀ (x y:Operand) (w:World),(do eqGuard op t x y (.int k a) (.int k b);binOp op t (.int k a) (.int k b):Sem Value).run P w=.ok (match d with| .int k n=>.int k n| .bool b=>.bool b|_=>undef) w) /\ ((∃ n,d=.int k n) \/ ∃ b,d=.bool b):=by
 unfold intA at h
 cases op<;>simp only at h
 case add=>exact ⟨_,wrapK_out h,by simp [eqGuard,binOp,Op.intArith],.inl ⟨_,rfl⟩⟩
 case sub=>exact ⟨_,wrapK_out h,by simp [eqGuard,binOp,Op.intArith],.inl ⟨_,rfl⟩⟩
 case mul=>exact ⟨_,wrapK_out h,by simp [eqGuard,binOp,Op.intArith],.inl ⟨_,rfl⟩⟩
 case quo=>
  obtain ⟨h1,h2⟩:=divK_out h;exact ⟨_,h2,by simp [eqGuard,binOp,Op.intDiv,h1],.inl ⟨_,rfl⟩⟩
 case rem=>
  obtain ⟨h1,h2⟩:=divK_out h;exact ⟨_,h2,by simp [eqGuard,binOp,Op.intDiv,h1],.inl ⟨_,rfl⟩⟩
 case and=>exact ⟨_,h,by simp [eqGuard,binOp,Op.intBits,bitsV],.inl ⟨_,rfl⟩⟩
 case or=>exact ⟨_,h,by simp [eqGuard,binOp,Op.intBits,bitsV],.inl ⟨_,rfl⟩⟩
 case xor=>exact ⟨_,h,by simp [eqGuard,binOp,Op.intBits,bitsV],.inl ⟨_,rfl⟩⟩
 case andNot=>exact ⟨_,h,by simp [eqGuard,binOp,Op.intBits,bitsV],.inl ⟨_,rfl⟩⟩
 case eql=>exact ⟨_,h,by intro x y w;simp [eqGuard,binOp,Op.intCmp];rw [Bool.eq_iff_iff];simp,.inr ⟨_,rfl⟩⟩
 case neq=>exact ⟨_,h,by intro x y w;simp [eqGuard,binOp,Op.intCmp];rw [Bool.eq_iff_iff];simp,.inr ⟨_,rfl⟩⟩
 case lss=>exact ⟨_,h,by intro x y w;simp [eqGuard,binOp,Op.intCmp],.inr ⟨_,rfl⟩⟩
 case leq=>exact ⟨_,h,by intro x y w;simp [eqGuard,binOp,Op.intCmp],.inr ⟨_,rfl⟩⟩
 case gtr=>exact ⟨_,h,by intro x y w;simp [eqGuard,binOp,Op.intCmp],.inr ⟨_,rfl⟩⟩
 case geq=>exact ⟨_,h,by intro x y w;simp [eqGuard,binOp,Op.intCmp],.inr ⟨_,rfl⟩⟩
theorem shiftA_out {op:BinOp} {k k':IntKind} {a b:Int} {K:AV->Prop} (h:shiftA op k a b K) (t:TypeId):
  ∃ n:Int,K (.d (.int k n)) /\ ∀ (x y:Operand) (w:World),(do eqGuard op t x y (.int k a) (.int k' b);binOp op t (.int k a) (.int k' b):Sem Value).run P w=.ok (.int k n) w:=by
 unfold shiftA at h
 cases op<;>simp only at h
 case shl=>
  obtain ⟨h1,h2⟩:=condK_out h;exact ⟨_,wrapK_out h2,by intro x y w;simp [eqGuard,binOp,Op.shift,show ¬b<0 by omega]⟩
 case shr=>
  obtain ⟨h1,h2⟩:=condK_out h;exact ⟨_,h2,by intro x y w;simp [eqGuard,binOp,Op.shift,show ¬b<0 by omega]⟩
theorem strA_out {op:BinOp} {a b:ByteArray} {K:AV->Prop} (h:strA op a b K) (t:TypeId):
  ∃ d:D,K (.d d) /\ (∀ (x y:Operand) (w:World),(do eqGuard op t x y (.string a) (.string b);binOp op t (.string a) (.string b):Sem Value).run P w=.ok (match d with| .str s=>.string s| .bool b=>.bool b|_=>undef) w) /\ ((∃ n,d=.str n) \/ ∃ b,d=.bool b):=by
 have hdec:(a.toList==b.toList)=decide (a=b):=by
  rw [ByteArray.toList_eq,ByteArray.toList_eq,Bool.eq_iff_iff];obtain ⟨⟨x⟩⟩:=a;obtain ⟨⟨y⟩⟩:=b;simp
 unfold strA at h
 cases op<;>simp only at h
 case add=>
  obtain ⟨h1,h2⟩:=condK_out h;exact ⟨_,h2,by intro x y w;simp [eqGuard,binOp,Op.stringOp];omega,.inl ⟨_,rfl⟩⟩
 case eql=>exact ⟨_,h,by intro x y w;simp [eqGuard,binOp,Op.stringOp,hdec],.inr ⟨_,rfl⟩⟩
 case neq=>exact ⟨_,h,by intro x y w;simp [eqGuard,binOp,Op.stringOp,hdec],.inr ⟨_,rfl⟩⟩
theorem boolA_out {op:BinOp} {a b:Bool} {K:AV->Prop} (h:boolA op a b K):
  ∃ r:Bool,K (.d (.bool r)) /\ (op=.eql/\r=(a==b) \/op=.neq/\r=!(a==b)):=by
 unfold boolA at h
 cases op<;>simp only at h
 case eql=>exact ⟨_,h,.inl ⟨rfl,rfl⟩⟩
 case neq=>exact ⟨_,h,.inr ⟨rfl,rfl⟩⟩
variable {T:Tab} (hT:TabOk P T)
theorem den_cells_take {M:Mem} {ι:Inj} {x:List AV} {vs:Array Value} (hl:vs.size=x.length) (hd:∀ (i:Nat) (a:AV) (v:Value),x[i]?=some a->vs[i]?=some v->DenA M ι a v) (o n:Nat) (h:o+n<=x.length):
  (vs.extract o (o+n)).size=((x.drop o).take n).length/\ ∀ (i:Nat) (a:AV) (v:Value),((x.drop o).take n)[i]?=some a->(vs.extract o (o+n))[i]?=some v->DenA M ι a v:=by
 refine ⟨by simp;omega,fun i a v h1 h2=>?_⟩;rw [List.getElem?_take] at h1
 split at h1
 ·rename_i hi;rw [List.getElem?_drop] at h1;rw [Array.getElem?_extract] at h2
  split at h2
  ·exact hd _ _ _ h1 h2
  ·cases h2
 ·cases h1
include hT in
theorem eqA_out:∀ (n:Nat) (t:TypeId) (x y:List AV) (K:Bool->Prop),eqA T n t x y K->
  (T t).k.known=true/\ ∃ b,K b/\ ∀ (M:Mem) (ι:Inj) (vs us:Array Value),vs.size=x.length->us.size=y.length->(∀ (i:Nat) (a:AV) (v:Value),x[i]?=some a->vs[i]?=some v->DenA M ι a v)->
   (∀ (i:Nat) (a:AV) (v:Value),y[i]?=some a->us[i]?=some v->DenA M ι a v)->∀ (d:Nat) (w:World),n<=d->
   (Op.equalIn (d+1) t (if (T t).k.agg then .agg vs else vs.getD 0 undef) (if (T t).k.agg then .agg us else us.getD 0 undef)).run P w=.ok b w
 |0,t,x,y,K,h=>by simp [eqA] at h
 |n+1,t,x,y,K,h=>by
  simp only [eqA] at h
  split at h
  ·rename_i k hk;refine ⟨by rw [hk];rfl,?_⟩;have hu:=und_int hT hk
   split at h
   ·rename_i k1 a
    split at h
    ·rename_i k2 b
     cases hb:Nat.beq (kcode k1) (kcode k2) with
     |false=>simp [hb] at h
     |true=>
      simp only [hb,cond_true] at h;have:=kcode_inj hb;subst this;refine ⟨_,h,fun M ι vs us hl hl' hd hd' d w _=>?_⟩;have e1:=den_int (hd 0 _ (vs.getD 0 undef) rfl (by simp [Array.getD,hl]));have e2:=den_int (hd' 0 _ (us.getD 0 undef) rfl (by simp [Array.getD,hl']));simp only [hk,TK.agg,Bool.false_eq_true,if_false];rw [e1,e2,run_equalIn_int w d t k1 k a b hu];rfl
    ·exact h.elim
   ·exact h.elim
  ·rename_i hk;refine ⟨by rw [hk];rfl,?_⟩;have hu:=und_str hT hk
   split at h
   ·rename_i a
    split at h
    ·rename_i b;refine ⟨_,h,fun M ι vs us hl hl' hd hd' d w _=>?_⟩;have e1:=den_str (hd 0 _ (vs.getD 0 undef) rfl (by simp [Array.getD,hl]));have e2:=den_str (hd' 0 _ (us.getD 0 undef) rfl (by simp [Array.getD,hl']));simp only [hk,TK.agg,Bool.false_eq_true,if_false];rw [e1,e2,run_equalIn_string w d t a b hu]
     congr 1
     rw [ByteArray.toList_eq,ByteArray.toList_eq,Bool.eq_iff_iff];obtain ⟨⟨x⟩⟩:=a;obtain ⟨⟨y⟩⟩:=b;simp
    ·exact h.elim
   ·exact h.elim
  ·rename_i hk;refine ⟨by rw [hk];rfl,?_⟩;have hu:=und_bool hT hk
   split at h
   ·rename_i a
    split at h
    ·rename_i b;obtain ⟨p,h,hp⟩:=boolOf_out h;obtain ⟨q,h,hq⟩:=boolOf_out h;refine ⟨_,h,fun M ι vs us hl hl' hd hd' d w _=>?_⟩;have e1:=hp M ι _ (hd 0 _ (vs.getD 0 undef) rfl (by simp [Array.getD,hl]));have e2:=hq M ι _ (hd' 0 _ (us.getD 0 undef) rfl (by simp [Array.getD,hl']));simp only [hk,TK.agg,Bool.false_eq_true,if_false];rw [e1,e2,run_equalIn_bool w d t p q hu]
    ·exact h.elim
   ·exact h.elim
  ·rename_i fs hk;refine ⟨by rw [hk];rfl,?_⟩;obtain ⟨F,hu,hF,hkn,hnm⟩:=und_struct hT hk
   have hst:P.stoodInHeld t=false:=by
    obtain ⟨_,_,_,_,_,_,_,_,_,_,_,h,_⟩:=(tyFact hT (t:=t) (by rw [hk];rfl)).desc;exact h
   have hFo:P.fieldsOf t=F:=by simp [Program.fieldsOf,hu]
   have key:∀ (G:List Field) (K:Bool->Prop),eqA.fields T (fun t x y K=>eqA T n t x y K) (G.map fun f=>(f.offset,f.type)) x y K->(∀ f∈G,f.name≠ "_")->
     ∃ b,K b/\ ∀ (M:Mem) (ι:Inj) (vs us:Array Value),vs.size=x.length->us.size=y.length->(∀ (i:Nat) (a:AV) (v:Value),x[i]?=some a->vs[i]?=some v->DenA M ι a v)->
      (∀ (i:Nat) (a:AV) (v:Value),y[i]?=some a->us[i]?=some v->DenA M ι a v)->∀ (d:Nat) (w:World),n<=d->(Op.eqFields (d+1) vs us G).run P w=.ok b w:=by
    intro G
    induction G with
    |nil=>
     intro K h _;exact ⟨true,h,fun M ι vs us _ _ _ _ d w _=>by simp [Op.eqFields]⟩
    |cons f G ih=>
     intro K h hn;simp only [List.map_cons,eqA.fields] at h
     cases hb:(Nat.ble (f.offset+(T f.type).size) x.length&&Nat.ble (f.offset+(T f.type).size) y.length) with
     |false=>simp [hb] at h
     |true=>
      simp only [hb,cond_true] at h;simp only [Bool.and_eq_true,Nat.ble_eq] at hb;obtain ⟨hk1,b,h,hb1⟩:=eqA_out n _ _ _ _ h;obtain ⟨c,h,hc1⟩:=ih _ h (fun g hg=>hn g (List.mem_cons_of_mem _ hg));refine ⟨_,h,fun M ι vs us hl hl' hd hd' d w hnd=>?_⟩;obtain ⟨s1,d1⟩:=den_cells_take hl hd f.offset (T f.type).size hb.1;obtain ⟨s2,d2⟩:=den_cells_take hl' hd' f.offset (T f.type).size hb.2;have r:=hb1 M ι _ _ s1 s2 d1 d2 d w hnd;have r2:=hc1 M ι vs us hl hl' hd hd' d w hnd
      have part_eq:∀ (zs:Array Value) (m:Nat),zs.size=m->f.offset+(T f.type).size<=m->((T f.type).k.agg=false->(T f.type).size=1)->
        (part f.type zs f.offset).run P w=.ok (if (T f.type).k.agg then .agg (zs.extract f.offset (f.offset+(T f.type).size)) else (zs.extract f.offset (f.offset+(T f.type).size)).getD 0 undef) w:=by
       intro zs m hz hle h1;simp only [part,Sem.run_bind,run_isAggT hT w hk1,Result.andThen_ok]
       cases hag:(T f.type).k.agg with
       |true=>simp [run_sizeT hT w hk1]
       |false=>
        have:=h1 hag;simp only [Bool.false_eq_true,if_false]
        have hlt:f.offset<zs.size:=by omega
        simp [Array.getElem?_eq_getElem hlt,this,Array.getD,show min (f.offset+1) zs.size-f.offset=1 by omega]
      have one:(T f.type).k.agg=false->(T f.type).size=1:=size_one hT hk1;simp only [Op.eqFields,ne_eq,hn f (List.mem_cons_self ..),not_false_eq_true,if_true,Sem.run_bind,part_eq vs _ hl hb.1 one,part_eq us _ hl' hb.2 one,Result.andThen_ok,r]
      cases b with
      |false=>simp
      |true=>simp [r2]
   obtain ⟨b,h,hb⟩:=key F.toList K (by rw [hF];exact h) hnm;refine ⟨b,h,fun M ι vs us hl hl' hd hd' d w hnd=>?_⟩;obtain ⟨d,rfl⟩:∃ e,d=e+1:=⟨d-1,by omega⟩;have:=hb M ι vs us hl hl' hd hd' d w (by omega);simp only [hk,TK.agg,if_true];rw [run_equalIn_struct w (d+1) t vs us (by rw [hFo];exact hu) hst,hFo];exact this
  ·exact h.elim
end
theorem addr_add (b o i:Nat):(⟨b,o,none⟩:Addr).add i=⟨b,o+i,none⟩:=by
 unfold Addr.add
 split
 ·rename_i h;subst h;rfl
 ·rfl
theorem cell_of_heap {w:World} {b:Nat} {cs:Array Value} {T:TypeId} {fr:Nat×Nat} (h:w.heap[b]?=some (.cells cs T fr)) (o:Nat):w.cell? ⟨b,o,none⟩=cs[o]?:=by
 simp [World.cell?,h]
theorem den_agg_inv {M:Mem} {ι:Inj} {c:List AV} {v:Value} (h:DenA M ι (.agg c) v):∃ vs:Array Value,v=.agg vs/\vs.size=c.length/\ ∀ (i:Nat) (x:AV) (u:Value),c[i]?=some x->vs[i]?=some u->DenA M ι x u:=by
 cases h with
 |agg _ vs hl hd=>exact ⟨vs,rfl,hl,hd⟩
theorem den_tup_inv {M:Mem} {ι:Inj} {c:List AV} {v:Value} (h:DenA M ι (.tup c) v):∃ vs:Array Value,v=.tuple vs/\vs.size=c.length/\ ∀ (i:Nat) (x:AV) (u:Value),c[i]?=some x->vs[i]?=some u->DenA M ι x u:=by
 cases h with
 |tup _ vs hl hd=>exact ⟨vs,rfl,hl,hd⟩
theorem forceL_out {c:List AV} {K:List AV->Prop}:forceL c K->K c:=by
 induction c generalizing K with
 |nil=>exact id
 |cons x r ih=>intro h;simp only [forceL] at h;have:=(force_out h).1;exact ih this
def CellsDen (M:Mem) (ι:Inj) (c:List AV) (f:Nat->Option Value):Prop:=∀ (i:Nat) (x:AV),c[i]?=some x->∃ v,f i=some v/\DenA M ι x v
theorem partA_out {agg:Bool} {size:Nat} {c:List AV} {j:Nat} {K:AV->Prop} (h:partA agg size c j K) (h1:agg=false->size=1):
  ∃ av,K av/\j+size<=c.length/\ ∀ (M:Mem) (ι:Inj) (f:Nat->Option Value),CellsDen M ι c f->
   ∃ g:Nat->Value,(∀ i,i<size->f (j+i)=some (g i)) /\DenA M ι av (if agg then .agg ((List.range size).map g).toArray else g 0):=by
 unfold partA at h
 cases agg with
 |true=>
  simp only [cond_true] at h
  cases hb:Nat.ble (j+size) c.length with
  |false=>simp [hb] at h
  |true=>
   simp only [hb,cond_true] at h;have hle:=Nat.le_of_ble_eq_true hb;refine ⟨_,forceL_out h,hle,fun M ι f hf=>?_⟩
   have hg:∀ i,i<size->∃ v,f (j+i)=some v/\DenA M ι (c[j+i]?.getD .dead) v:=fun i hi=>by
    have hlt:j+i<c.length:=by omega
    obtain ⟨v,h1,h2⟩:=hf (j+i) c[j+i] (List.getElem?_eq_getElem hlt);exact ⟨v,h1,by simpa [List.getElem?_eq_getElem hlt] using h2⟩
   refine ⟨fun i=>(f (j+i)).getD undef,fun i hi=>?_,?_⟩
   ·obtain ⟨v,h1,_⟩:=hg i hi;simp [h1]
   ·refine .agg _ _ (by simp;omega) fun i x v hx hv=>?_
    rw [List.getElem?_take] at hx
    split at hx
    ·rename_i hi;rw [List.getElem?_drop] at hx;obtain ⟨u,h1,h2⟩:=hg i hi;simp only [List.getElem?_toArray,List.getElem?_map,List.getElem?_range hi,Option.map_some,Option.some.injEq] at hv;subst hv
     simpa [h1,hx] using h2
    ·cases hx
 |false=>
  simp only [cond_false] at h;unfold getC at h
  split at h
  ·rename_i x hx;refine ⟨x,(force_out h).1,?_,fun M ι f hf=>?_⟩
   ·have:=(List.getElem?_eq_some_iff.1 hx).1
    rw [h1 rfl];omega
   ·obtain ⟨v,e1,e2⟩:=hf j x hx;refine ⟨fun _=>v,fun i hi=>?_,by simpa using e2⟩;rw [h1 rfl] at hi
    obtain rfl:i=0:=by omega
    simpa using e1
  ·exact h.elim
theorem partD_out {agg:Bool} {size:Nat} {c:List D} {j:Nat} {K:AV->Prop} (h:partD agg size c j K) (h1:agg=false->size=1):
  ∃ av,K av/\j+size<=c.length/\ ∀ (M:Mem) (ι:Inj) (f:Nat->Option Value),(∀ (i:Nat) (x:D),c[i]?=some x->∃ v,f i=some v/\DenD M x v)->
   ∃ g:Nat->Value,(∀ i,i<size->f (j+i)=some (g i)) /\DenA M ι av (if agg then .agg ((List.range size).map g).toArray else g 0):=by
 have h':partA agg size (c.map .d) j K:=by
  unfold partD at h;unfold partA
  cases agg with
  |true=>simpa [List.map_drop,List.map_take] using h
  |false=>
   simp only [cond_false] at h⊢;unfold getD at h;unfold getC;simp only [List.getElem?_map]
   split at h
   ·rename_i x hx
    simpa [hx,force] using h
   ·exact h.elim
 obtain ⟨av,k,hl,hd⟩:=partA_out h' h1;refine ⟨av,k,by simpa using hl,fun M ι f hf=>hd M ι f fun i x hx=>?_⟩;rw [List.getElem?_map] at hx
 cases hc:c[i]? with
 |none=>simp [hc] at hx
 |some d=>
  simp only [hc,Option.map_some,Option.some.injEq] at hx;subst hx;obtain ⟨v,e1,e2⟩:=hf i d hc;exact ⟨v,e1,.d _ _ e2⟩
section
variable {P:Program} {T:Tab} (hT:TabOk P T)
include hT
theorem run_loadVarT {t:TypeId} (hk:(T t).k.known=true) (w:World) (b o:Nat) (g:Nat->Value) (h:∀ i,i<(T t).size->w.cell? ⟨b,o+i,none⟩=some (g i)):
  (loadVar t ⟨b,o,none⟩).run P w=.ok (if (T t).k.agg then .agg ((List.range (T t).size).map g).toArray else g 0) w:=by
 simp only [loadVar,Sem.run_bind,run_isAggT hT w hk,Result.andThen_ok]
 cases ha:(T t).k.agg with
 |true=>
  simp only [if_true,Sem.run_bind,run_sizeT hT w hk,Result.andThen_ok];rw [run_loadCells w ⟨b,o,none⟩ (T t).size g (fun j hj=>by rw [addr_add];exact h j hj)];rfl
 |false=>
  have h1:=size_one hT hk ha;simp only [Bool.false_eq_true,if_false];have:=h 0 (by omega);simp only [Nat.add_zero] at this;simp [run_load,this]
theorem loadA_out {t:TypeId} {x:AV} {hp:Nat->Option Blk} {K:AV->Prop} (h:loadA T t x hp K):
  ∃ av,K av/\ ∀ (own:Nat->Prop) (M:Mem) (ι:Inj) (w:World) (v:Value),Agree M w->HRel own M ι hp w->DenA M ι x v->∃ r,(Instr.loadAt t v).run P w=.ok r w/\DenA M ι av r:=by
 unfold loadA at h
 have hk:(T t).k.known=true:=by
  cases hg:(T t).k.known with
  |true=>rfl
  |false=>simp [hg] at h
 simp only [hk,cond_true] at h;have h1:=size_one hT hk;unfold loadB at h
 split at h
 ·rename_i b i j
  split at h
  ·rename_i c fr hb;obtain ⟨hi0,h2⟩:=condK_out h;subst hi0;obtain ⟨av,k,hl,hd⟩:=partA_out h2 h1;refine ⟨av,k,fun own M ι w v ha hh hv=>?_⟩
   cases hv with
   |ptr _ _ _ L hL=>
    obtain ⟨_,cs,Ty,hheap,hsz,hL1,hL2,hbox,_⟩:=hh.at_ b _ L hb hL;obtain ⟨g,hg,hden⟩:=hd M ι (fun i=>cs[i]?) (fun i x hx=>hbox.den i x hx);refine ⟨_,?_,hden⟩;simp only [Instr.loadAt,Instr.sureAddr,Sem.run_bind,Sem.run_pure,Result.andThen_ok]
    exact run_loadVarT hT hk w _ _ g fun i hi=>by rw [cell_of_heap hheap];simpa using hg i hi
   |ptrL _ _ _ _ hL=>rw [(hh.dom b).2 hL] at hb;cases hb
  ·rename_i l sz fr hb;obtain ⟨e,he,h⟩:=getRow_out h;obtain ⟨av,k,hl,hd⟩:=partD_out h h1;refine ⟨av,k,fun own M ι w v ha hh hv=>?_⟩
   cases hv with
   |ptr _ _ _ L hL=>
    obtain ⟨_,cs,Ty,hheap,hsz,hL1,hL2,hle,hrow,_⟩:=hh.at_ b _ L hb hL;obtain ⟨g,hg,hden⟩:=hd M ι (fun j=>cs[i*sz+j]?) (fun j x hx=>hrow.den i j e x he hx);refine ⟨_,?_,hden⟩;simp only [Instr.loadAt,Instr.sureAddr,Sem.run_bind,Sem.run_pure,Result.andThen_ok];subst hL1
    exact run_loadVarT hT hk w _ _ g fun i hi=>by rw [cell_of_heap hheap];simpa [Nat.add_assoc] using hg i hi
   |ptrL _ _ _ _ hL=>rw [(hh.dom b).2 hL] at hb;cases hb
  ·exact h.elim
 ·rename_i e j;obtain ⟨av,k,hl,hd⟩:=partD_out h h1;refine ⟨av,k,fun own M ι w v ha hh hv=>?_⟩
  cases hv with
  |d _ _ hv=>
   cases hv with
   |dp _ _ b off val hm hdd=>
    obtain ⟨g,hg,hden⟩:=hd M ι (fun i=>w.cell? ⟨b,off+i,none⟩) (fun i x hx=>⟨val i,ha _ _ _ (hm i x hx),hdd i x hx⟩);refine ⟨_,?_,hden⟩;simp only [Instr.loadAt,Instr.sureAddr,Sem.run_bind,Sem.run_pure,Result.andThen_ok]
    exact run_loadVarT hT hk w _ _ g fun i hi=>by simpa [Nat.add_assoc] using hg i hi
 ·exact h.elim
theorem binA_out {t:TypeId} {op:BinOp} {x y:AV} {K:AV->Prop} (h:binA T t op x y K):
  ∃ av,K av/\ ∀ (M:Mem) (ι:Inj) (v u:Value),DenA M ι x v->DenA M ι y u->∀ (X Y:Operand) (w:World),∃ r,(do eqGuard op t X Y v u;binOp op t v u:Sem Value).run P w=.ok r w/\DenA M ι av r:=by
 have boolCase:∀ (a b:Bool) (r:Bool),(T t).k=.bool->(op=.eql/\r=(a==b) \/op=.neq/\r=!(a==b))->∀ (X Y:Operand) (w:World),(do eqGuard op t X Y (.bool a) (.bool b);binOp op t (.bool a) (.bool b):Sem Value).run P w=.ok (.bool r) w:=by
  intro a b r hk hr X Y w;have hu:=und_bool hT hk
  rcases hr with ⟨rfl,rfl⟩|⟨rfl,rfl⟩
  ·simp [eqGuard,binOp,Op.equal,Op.maxDepth,run_equalIn_bool w 9999 t a b hu]
  ·simp [eqGuard,binOp,Op.equal,Op.maxDepth,run_equalIn_bool w 9999 t a b hu]
 unfold binA at h
 split at h
 ·rename_i k a
  split at h
  ·rename_i k' b
   cases hs:isShift op with
   |true=>
    simp only [hs,cond_true] at h;obtain ⟨n,hK,hr⟩:=shiftA_out (P:=P) (k':=k') h t;refine ⟨_,hK,fun M ι v u hv hu X Y w=>?_⟩;rw [den_int hv,den_int hu];exact ⟨_,hr X Y w,.d _ _ (.int _ _)⟩
   |false=>
    simp only [hs,cond_false] at h
    cases hkk:Nat.beq (kcode k) (kcode k') with
    |false=>simp [hkk] at h
    |true=>
     simp only [hkk,cond_true] at h;have:=kcode_inj hkk;subst this;obtain ⟨d,hK,hr,hd⟩:=intA_out (P:=P) h t;refine ⟨_,hK,fun M ι v u hv hu X Y w=>?_⟩;rw [den_int hv,den_int hu];refine ⟨_,hr X Y w,?_⟩
     rcases hd with ⟨n,rfl⟩|⟨b,rfl⟩
     ·exact .d _ _ (.int _ _)
     ·exact .d _ _ (.bool _)
  ·exact h.elim
 ·rename_i a
  split at h
  ·rename_i b;obtain ⟨d,hK,hr,hd⟩:=strA_out (P:=P) h t;refine ⟨_,hK,fun M ι v u hv hu X Y w=>?_⟩;rw [den_str hv,den_str hu];refine ⟨_,hr X Y w,?_⟩
   rcases hd with ⟨n,rfl⟩|⟨b,rfl⟩
   ·exact .d _ _ (.str _)
   ·exact .d _ _ (.bool _)
  ·exact h.elim
 ·rename_i a
  split at h
  ·rename_i hkb;obtain ⟨b,h,hbo⟩:=boolOf_out h;obtain ⟨r,hK,hr⟩:=boolA_out h;refine ⟨_,hK,fun M ι v u hv hu X Y w=>?_⟩;rw [den_bool hv,hbo M ι u hu];exact ⟨_,boolCase a b r hkb hr X Y w,.d _ _ (.bool _)⟩
  ·exact h.elim
 ·split at h
  ·rename_i hkb;obtain ⟨b,h,hbo⟩:=boolOf_out h;obtain ⟨r,hK,hr⟩:=boolA_out h;refine ⟨_,hK,fun M ι v u hv hu X Y w=>?_⟩
   cases hv with
   |tt=>
    rw [hbo M ι u hu];exact ⟨_,boolCase true b r hkb hr X Y w,.d _ _ (.bool _)⟩
  ·exact h.elim
 ·split at h
  ·rename_i hkb;obtain ⟨b,h,hbo⟩:=boolOf_out h;obtain ⟨r,hK,hr⟩:=boolA_out h;refine ⟨_,hK,fun M ι v u hv hu X Y w=>?_⟩
   cases hv with
   |ff=>
    rw [hbo M ι u hu];exact ⟨_,boolCase false b r hkb hr X Y w,.d _ _ (.bool _)⟩
  ·exact h.elim
 ·rename_i c
  split at h
  ·rename_i c'
   have fin:∀ (K':Bool->Prop),(bif (T t).k.agg then eqA T 9999 t c c' K' else False)->∃ b,K' b/\ ∀ (M:Mem) (ι:Inj) (v u:Value),DenA M ι (.agg c) v->DenA M ι (.agg c') u->∀ (X Y:Operand) (w:World),
     ((eqGuard op t X Y v u).run P w=.ok () w/\ ∃ vs us,v=.agg vs/\u=.agg us/\ (Op.equalIn 10000 t (.agg vs) (.agg us)).run P w=.ok b w):=by
    intro K' h
    have hagg:(T t).k.agg=true:=by
     cases hg:(T t).k.agg with
     |true=>rfl
     |false=>simp [hg] at h
    simp only [hagg,cond_true] at h;obtain ⟨hk,b,hK,hd⟩:=eqA_out hT _ _ _ _ _ h;refine ⟨b,hK,fun M ι v u hv hu X Y w=>?_⟩;obtain ⟨vs,rfl,s1,d1⟩:=den_agg_inv hv;obtain ⟨us,rfl,s2,d2⟩:=den_agg_inv hu;have:=hd M ι vs us s1 s2 d1 d2 9999 w (Nat.le_refl _);simp only [hagg,if_true] at this;obtain ⟨_,_,_,_,_,_,_,_,_,_,_,_,hg,_⟩:=(tyFact hT hk).desc;exact ⟨run_eqGuard_agg w op t X Y vs us hg,vs,us,rfl,rfl,this⟩
   split at h
   ·obtain ⟨b,hK,hd⟩:=fin _ h;refine ⟨_,hK,fun M ι v u hv hu X Y w=>?_⟩;obtain ⟨hg,vs,us,rfl,rfl,he⟩:=hd M ι v u hv hu X Y w;exact ⟨_,by rw [Sem.run_bind,hg,Result.andThen_ok,run_eql_struct,he];rfl,.d _ _ (.bool _)⟩
   ·obtain ⟨b,hK,hd⟩:=fin _ h;refine ⟨_,hK,fun M ι v u hv hu X Y w=>?_⟩;obtain ⟨hg,vs,us,rfl,rfl,he⟩:=hd M ι v u hv hu X Y w;exact ⟨_,by rw [Sem.run_bind,hg,Result.andThen_ok,run_neq_struct,he];rfl,.d _ _ (.bool _)⟩
   ·exact h.elim
  ·exact h.elim
 ·exact h.elim
end
section
variable {P:Program} {T:Tab} (hT:TabOk P T)
include hT
theorem fieldOff_out {s:TypeId} {f:Nat} {K:Nat->TypeId->Prop} (h:fieldOff T s f K):
  ∃ (F:Array Field) (fl:Field),P.underlying s=some (.struct F) /\F[f]?=some fl/\ (T fl.type).k.known=true/\K fl.offset fl.type:=by
 unfold fieldOff at h
 split at h
 ·rename_i fs hk;obtain ⟨F,hu,hF,hkn,_⟩:=und_struct hT hk
  split at h
  ·rename_i o t ht;rw [<-hF,List.getElem?_map] at ht
   cases hf:F.toList[f]? with
   |none=>simp [hf] at ht
   |some fl=>
    simp only [hf,Option.map_some,Option.some.injEq,Prod.mk.injEq] at ht;obtain ⟨rfl,rfl⟩:=ht;refine ⟨F,fl,hu,by simpa using hf,hkn (fl.offset,fl.type) ?_,h⟩;rw [<-hF];exact List.mem_map.2 ⟨fl,List.mem_of_getElem? hf,rfl⟩
  ·exact h.elim
 ·exact h.elim
theorem run_fieldPlaceT {b o:Nat} {f:Field} (hz:(T f.type).k.known=true) (w:World):(fieldPlace ⟨b,o,none⟩ f).run P w=.ok ⟨b,o+f.offset,none⟩ w:=by
 have:=size_pos hT hz;simp only [fieldPlace,Sem.run_bind,run_sizeT hT w hz,Result.andThen_ok];rw [if_neg (by omega),Sem.run_pure,addr_add]
theorem fieldAt_out {s:TypeId} {f:Nat} {F:Array Field} {fl:Field} (hu:P.underlying s=some (.struct F)) (hf:F[f]?=some fl) (hz:(T fl.type).k.known=true) (b o:Nat) (w:World):
  (Instr.fieldAt s (.pointer (some ⟨b,o,none⟩)) f).run P w=.ok (.pointer (some ⟨b,o+fl.offset,none⟩)) w:=by
 simp [Instr.fieldAt,run_underlying hu,hf,Instr.sureAddr,run_fieldPlaceT hT hz]
theorem indexAddrA_out {t:TypeId} {x i:AV} {hp:Nat->Option Blk} {K:AV->Prop} (h:indexAddrA T t x i hp K):
  ∃ av,K av/\ ∀ (own:Nat->Prop) (M:Mem) (ι:Inj) (w:World) (v u:Value),HRel own M ι hp w->DenA M ι x v->DenA M ι i u->∃ r,(Instr.indexAt t v u).run P w=.ok r w/\DenA M ι av r:=by
 unfold indexAddrA at h
 split at h
 ·rename_i ik n
  split at h
  ·rename_i el hk;obtain ⟨hu,hke⟩:=und_slice hT hk
   split at h
   ·rename_i l;obtain ⟨h0,h1,h⟩:=idxK_out h;obtain ⟨e,he,h⟩:=getRow_out h
    cases hs:Nat.beq e.length (T el).size with
    |false=>simp [hs] at h
    |true=>
     simp only [hs,cond_true] at h;have hsz:=Nat.eq_of_beq_eq_true hs;refine ⟨_,h,fun own M ι w v u hh hv hi=>?_⟩;rw [den_int hi]
     cases hv with
     |d _ _ hv=>
      cases hv with
      |emp a c=>simp at h1;omega
      |lst _ b off cap sz val hl hs hm hd=>
       have e1:=hs _ _ he;refine ⟨.pointer (some ⟨b,off+n.toNat*sz+0,none⟩),?_,.d _ _ (.dp _ _ _ _ (val n.toNat) (fun j d hj=>?_) fun j d hj=>?_)⟩
       ·simp [Instr.indexAt,asIntOf,run_underlying hu,h0,h1,run_sizeT hT w hke,addr_add,<-hsz,e1]
       ·exact hm _ j e d he hj
       ·exact hd _ j e d he hj
   ·rename_i b
    split at h
    ·rename_i l sz fr hb
     cases hs:Nat.beq sz (T el).size with
     |false=>simp [hs] at h
     |true=>
      simp only [hs,cond_true] at h;have hsz:=Nat.eq_of_beq_eq_true hs;obtain ⟨h0,h1,h⟩:=idxK_out h;refine ⟨_,h,fun own M ι w v u hh hv hi=>?_⟩;rw [den_int hi]
      cases hv with
      |own _ L cap hL hn hc=>
       obtain ⟨_,cs,Ty,hheap,hsz2,hL1,hL2,hle,hrow,_⟩:=hh.at_ b _ L hb hL;refine ⟨.pointer (some ⟨L.blk,n.toNat*L.sz+0,none⟩),?_,.ptr b n.toNat 0 L hL⟩;simp [Instr.indexAt,asIntOf,run_underlying hu,h0,<-hL2,h1,run_sizeT hT w hke,addr_add,<-hL1,<-hsz]
      |ownE _ a hL=>
       obtain ⟨sz',fr',hb'⟩:=hh.virt b hL;rw [hb] at hb'
       cases hb'
       simp at h1;omega
      |ownL _ _ hL=>rw [(hh.dom b).2 hL] at hb;cases hb
    ·exact h.elim
   ·rename_i b lo m c0
    split at h
    ·rename_i l sz fr hb
     cases hs:Nat.beq sz (T el).size with
     |false=>simp [hs] at h
     |true=>
      simp only [hs,cond_true] at h;have hsz:=Nat.eq_of_beq_eq_true hs;obtain ⟨h0,h1,h⟩:=idxK_out h;refine ⟨_,h,fun own M ι w v u hh hv hi=>?_⟩;rw [den_int hi]
      cases hv with
      |win _ _ _ _ L k base hL hn hc hk hbase=>
       obtain ⟨_,cs,Ty,hheap,hsz2,hL1,hL2,hle,hrow,_⟩:=hh.at_ b _ L hb hL
       have hbs:base=lo*L.sz:=hbase.resolve_right fun h=>by omega
       subst hbs;refine ⟨.pointer (some ⟨L.blk,(lo+n.toNat)*L.sz+0,none⟩),?_,.ptr b (lo+n.toNat) 0 L hL⟩;simp [Instr.indexAt,asIntOf,run_underlying hu,h0,h1,run_sizeT hT w hke,addr_add,<-hL1,<-hsz,Nat.add_mul]
      |winL _ _ _ _ _ hL=>rw [(hh.dom b).2 hL] at hb;cases hb
    ·exact h.elim
   ·exact h.elim
  ·rename_i m e hk;obtain ⟨hu,hke⟩:=und_arr hT hk
   split at h
   ·rename_i b i0 j
    split at h
    ·rename_i B hb;obtain ⟨h0,h1,h⟩:=idxK_out h;refine ⟨_,h,fun own M ι w v u hh hv hi=>?_⟩;rw [den_int hi]
     cases hv with
     |ptr _ _ _ L hL=>
      refine ⟨.pointer (some ⟨L.blk,i0*L.sz+(j+n.toNat*(T e).size),none⟩),?_,.ptr b i0 _ L hL⟩;simp [Instr.indexAt,asIntOf,run_underlying hu,h0,h1,run_sizeT hT w hke,addr_add,Instr.sureAddr,Nat.add_assoc]
     |ptrL _ _ _ _ hL=>rw [(hh.dom b).2 hL] at hb;cases hb
    ·exact h.elim
   ·rename_i c j;obtain ⟨h0,h1,h⟩:=idxK_out h;refine ⟨_,h,fun own M ι w v u hh hv hi=>?_⟩;rw [den_int hi]
    cases hv with
    |d _ _ hv=>
     cases hv with
     |dp _ _ b off val hm hd=>
      refine ⟨.pointer (some ⟨b,off+(j+n.toNat*(T e).size),none⟩),?_,.d _ _ (.dp _ _ _ _ val hm hd)⟩;simp [Instr.indexAt,asIntOf,run_underlying hu,h0,h1,run_sizeT hT w hke,addr_add,Instr.sureAddr,Nat.add_assoc]
   ·exact h.elim
  ·exact h.elim
 ·exact h.elim
theorem indexA_out {t:TypeId} {x i:AV} {K:AV->Prop} (h:indexA T t x i K):
  ∃ av,K av/\ ∀ (M:Mem) (ι:Inj) (w:World) (v u:Value),DenA M ι x v->DenA M ι i u->∃ r,(Instr.index t v u).run P w=.ok r w/\DenA M ι av r:=by
 unfold indexA at h
 split at h
 ·rename_i ik n
  split at h
  ·rename_i s
   split at h
   ·rename_i hk;have hu:=und_str hT hk;obtain ⟨h0,h1,h⟩:=idxK_out h;refine ⟨_,h,fun M ι w v u hv hi=>?_⟩;rw [den_int hi,den_str hv]
    have hlt:n.toNat<s.size:=by omega
    refine ⟨.int .u8 ((s.data.getD n.toNat 0).toNat),?_,.d _ _ (.int _ _)⟩
    have e:s[n.toNat]?=some (s.data.getD n.toNat 0):=by
     rw [getElem?_pos s n.toNat hlt];simp only [Array.getD,show n.toNat<s.data.size from hlt,dif_pos];rfl
    simp [Instr.index,asIntOf,run_underlying hu,h0,e]
   ·exact h.elim
  ·rename_i c
   split at h
   ·rename_i m e hk;obtain ⟨hua,hke⟩:=und_arr hT hk;obtain ⟨h0,h1,h⟩:=idxK_out h;obtain ⟨av,k,hl,hd⟩:=partA_out h (size_one hT hke);refine ⟨av,k,fun M ι w v u hv hi=>?_⟩;rw [den_int hi];obtain ⟨vs,rfl,hs,hdv⟩:=den_agg_inv hv
    obtain ⟨g,hg,hden⟩:=hd M ι (fun i=>vs[i]?) (fun i x hx=>by
     have hlt:i<vs.size:=by rw [hs];exact (List.getElem?_eq_some_iff.1 hx).1
     exact ⟨vs[i],by simp [hlt],hdv i x _ hx (by simp [hlt])⟩)
    refine ⟨_,?_,hden⟩;simp only [Instr.index,asIntOf,Sem.run_bind,Sem.run_pure,Result.andThen_ok,run_underlying hua,h0,h1,and_self,if_true,run_sizeT hT w hke,part,run_isAggT hT w hke]
    cases ha:(T e).k.agg with
    |true=>
     simp only [if_true,Sem.run_bind,run_sizeT hT w hke,Result.andThen_ok,Sem.run_pure]
     congr 2
     apply Array.ext_getElem?;intro i;rw [Array.getElem?_extract];simp only [List.getElem?_toArray,List.getElem?_map]
     split
     ·rename_i hi
      rw [hg i (by omega),List.getElem?_range (by omega)];rfl
     ·rename_i hi
      rw [List.getElem?_eq_none (by simp;omega)];rfl
    |false=>
     have:=hg 0 (by have:=size_pos hT hke;omega);simp only [Nat.add_zero] at this;simp [this]
   ·exact h.elim
  ·exact h.elim
 ·exact h.elim
omit hT in
theorem run_boundsOk {x:Int} {y:Nat} {code:BoundsCode} {k:IntKind} (w:World) (h0:0<=x) (h1:x<=y):(Instr.sliceBound (.int k x) y code).run P w=.ok x.toNat w:=by
 simp [Instr.sliceBound,asIntOf,h0,h1]
omit hT in
theorem run_sliceBoundsT {isS:Bool} {len cap:Nat} {lo hi:Option Int} {k1 k2:IntKind} (w:World) (h0:0<=lo.getD 0) (h1:lo.getD 0<=hi.getD len) (h2:hi.getD len<=len) (hc:len<=cap):
  (Instr.sliceBounds isS len cap (lo.map (.int k1)) (hi.map (.int k2)) none).run P w=.ok ((lo.getD 0).toNat,(hi.getD len).toNat,cap) w:=by
 cases lo with
 |none=>
  cases hi with
  |none=>simp [Instr.sliceBounds]
  |some h=>
   simp only [Option.getD_some,Option.getD_none] at h0 h1 h2;simp [Instr.sliceBounds,run_boundsOk (P:=P) w (x:=h) (y:=cap) (k:=k2) h1 (by omega)]
 |some l=>
  cases hi with
  |none=>
   simp only [Option.getD_some,Option.getD_none] at h0 h1 h2;simp [Instr.sliceBounds,run_boundsOk (P:=P) w (x:=l) (y:=len) (k:=k1) h0 (by omega)]
  |some h=>
   simp only [Option.getD_some] at h0 h1 h2;simp [Instr.sliceBounds,run_boundsOk (P:=P) w (x:=h) (y:=cap) (k:=k2) (by omega) (by omega),run_boundsOk (P:=P) w (x:=l) (y:=h.toNat) (k:=k1) h0 (by omega)]
end
def Blk.fr:Blk->Bool
 | .row _ _ fr=>fr
 | .box _ fr=>fr
theorem RowAt.mono {M M':Mem} (h:Sub M M') {cs:Array Value} {l:List (List D)} {sz:Nat} (hr:RowAt M cs l sz):RowAt M' cs l sz:=
 ⟨hr.len,fun i j e d h1 h2=>let ⟨v,e1,e2⟩:=hr.den i j e d h1 h2;⟨v,e1,e2.mono h⟩⟩
theorem BoxAt.mono {M M':Mem} (h:Sub M M') {ι:Inj} {cs:Array Value} {c:List AV} (hr:BoxAt M ι cs c):BoxAt M' ι cs c:=
 ⟨hr.size,fun j x h1=>let ⟨v,e1,e2⟩:=hr.den j x h1;⟨v,e1,e2.mono h⟩⟩
theorem killV_cases (b:Nat) (x:AV):killV b x=x\/killV b x=.dead:=by
 cases x with
 |own b'=>simp only [killV];cases Fm b b'<;>simp
 |ptr b' i j=>simp only [killV];cases Fm b b'<;>simp
 |win b' lo n c=>simp only [killV];cases Fm b b'<;>simp
 |agg c=>simp only [killV];cases killV.names b c<;>simp
 |tup c=>simp only [killV];cases killV.parts b c<;>simp
 |fn f c=>simp only [killV];cases killV.names b c<;>simp
 |d x=>exact .inl rfl
 |tt=>exact .inl rfl
 |ff=>exact .inl rfl
 |nil=>exact .inl rfl
 |dead=>exact .inl rfl
theorem killB_cells_get (b:Nat) (c:List AV) (j:Nat):(killB.cells b c)[j]?=(c[j]?).map (killV b):=by
 induction c generalizing j with
 |nil=>rfl
 |cons x r ih=>
  cases j with
  |zero=>rfl
  |succ j=>simpa [killB.cells] using ih j
theorem killB_cells_len (b:Nat) (c:List AV):(killB.cells b c).length=c.length:=by
 induction c with
 |nil=>rfl
 |cons x r ih=>simp [killB.cells,ih]
theorem BoxAt.kill {M:Mem} {ι ι':Inj} {b:Nat} (hι:∀ b',Fm b b'=false->ι' b'=ι b') {cs:Array Value} {c:List AV} (hr:BoxAt M ι cs c):BoxAt M ι' cs (killB.cells b c):=by
 refine ⟨by rw [killB_cells_len];exact hr.size,fun j x h1=>?_⟩;rw [killB_cells_get] at h1
 cases hc:c[j]? with
 |none=>simp [hc] at h1
 |some y=>
  simp only [hc,Option.map_some,Option.some.injEq] at h1;subst h1;obtain ⟨v,e1,e2⟩:=hr.den j y hc;exact ⟨v,e1,(e2.killV b).turn hι (killV_free b y)⟩
theorem BlkAt.keep {M M':Mem} {ι:Inj} {w w':World} {B:Blk} {L:Loc} (h:BlkAt M ι w B L) (hs:Sub M M') (hw:w'.heap[L.blk]?=w.heap[L.blk]?) (hf:B.fr=false->∀ o,M' L.blk o=none):BlkAt M' ι w' B L:=by
 obtain ⟨cs,T,h1,h2,h3⟩:=h;refine ⟨cs,T,hw.trans h1,h2,?_⟩
 cases B with
 |row l sz fr=>
  obtain ⟨a1,a2,a3,a4,a5⟩:=h3;exact ⟨a1,a2,a3,a4.mono hs,fun hfr o v ho hv=>hs _ _ _ (a5.1 hfr o v ho hv),hf⟩
 |box c fr=>
  obtain ⟨a1,a2,a3,a5⟩:=h3;exact ⟨a1,a2,a3.mono hs,fun hfr o v ho hv=>hs _ _ _ (a5.1 hfr o v ho hv),hf⟩
theorem BlkAt.kill {M:Mem} {ι ι':Inj} {w:World} {B:Blk} {L:Loc} {b:Nat} (hι:∀ b',Fm b b'=false->ι' b'=ι b') (h:BlkAt M ι w B L):BlkAt M ι' w (killB b B) L:=by
 obtain ⟨cs,T,h1,h2,h3⟩:=h;refine ⟨cs,T,h1,h2,?_⟩
 cases B with
 |row l sz fr=>exact h3
 |box c fr=>
  obtain ⟨a1,a2,a3,a5⟩:=h3;exact ⟨by rw [killB_cells_len];exact a1,by rw [killB_cells_len];exact a2,a3.kill hι,by rw [killB_cells_len];exact a5⟩
theorem upd_same {α:Type} (f:Nat->α) (t:Nat) (v:α):upd f t v t=v:=by simp [upd]
theorem upd_other {α:Type} (f:Nat->α) {t s:Nat} (v:α) (h:s≠t):upd f t v s=f s:=by
 have:Nat.beq s t=false:=by
  cases hb:Nat.beq s t with
  |false=>rfl
  |true=>exact absurd (Nat.eq_of_beq_eq_true hb) h
 simp [upd,this]
theorem killH_none_iff (k:Option Nat) (hp:Nat->Option Blk) (b:Nat):killH k hp b=none↔hp b=none:=by
 cases k with
 |none=>exact Iff.rfl
 |some k=>simp only [killH];cases hp b<;>simp
theorem killH_some {k:Nat} {hp:Nat->Option Blk} {b:Nat} {B:Blk} (h:killH (some k) hp b=some B):∃ B0,hp b=some B0/\B=killB k B0:=by
 simp only [killH] at h
 cases hb:hp b with
 |none=>simp [hb] at h
 |some B0=>simp only [hb,Option.some.injEq] at h;exact ⟨B0,rfl,h.symm⟩
theorem HRel.new {own:Nat->Prop} {M M':Mem} {ι:Inj} {hp:Nat->Option Blk} {w w':World} (h:HRel own M ι hp w) (b:Nat) (B:Blk) (L:Loc) (hs:Sub M M')
  (ho:own L.blk) (hB:BlkAt M' (upd ι b (some (some L))) w' B L)
  (hoth:∀ b' L',b'≠b->ι b'=some (some L')->L'.blk≠L.blk/\w'.heap[L'.blk]?=w.heap[L'.blk]? /\ ∀ B',hp b'=some B'->B'.fr=false->∀ o,M' L'.blk o=none):
  HRel own M' (upd ι b (some (some L))) (upd (killH (some b) hp) b (some B)) w':=by
 have hne:∀ b',b'≠b->upd ι b (some (some L)) b'=ι b':=fun b' hb=>upd_other _ _ hb
 refine ⟨fun b'=>?_,fun b' hb'=>?_,fun b' B' L' hB' hL'=>?_,fun b1 b2 L1 L2 h1 h2 he=>?_⟩
 ·by_cases hb:b'=b
  ·subst hb;simp [upd_same]
  ·rw [upd_other _ _ hb,upd_other _ _ hb,killH_none_iff];exact h.dom b'
 ·by_cases hb:b'=b
  ·subst hb;rw [upd_same] at hb';cases hb'
  ·rw [upd_other _ _ hb] at hb';obtain ⟨sz,fr,e⟩:=h.virt b' hb';exact ⟨sz,fr,by rw [upd_other _ _ hb];simp [killH,e,killB]⟩
 ·by_cases hb:b'=b
  ·subst hb;rw [upd_same] at hB' hL'
   cases hB';cases hL'
   exact ⟨ho,hB⟩
  ·rw [upd_other _ _ hb] at hB' hL';obtain ⟨B0,e0,rfl⟩:=killH_some hB';obtain ⟨o1,o2⟩:=h.at_ b' B0 L' e0 hL';obtain ⟨_,e2,e3⟩:=hoth b' L' hb hL';exact ⟨o1,BlkAt.kill (fun b' hb=>hne b' (Fm_ne hb)) (o2.keep hs e2 (e3 B0 e0))⟩
 ·by_cases hb1:b1=b
  ·subst hb1
   rw [upd_same] at h1;cases h1
   by_cases hb2:b2=b1
   ·exact hb2.symm
   ·rw [upd_other _ _ hb2] at h2;exact absurd he.symm (hoth b2 L2 hb2 h2).1
  ·rw [upd_other _ _ hb1] at h1
   by_cases hb2:b2=b
   ·subst hb2
    rw [upd_same] at h2;cases h2
    exact absurd he (hoth b1 L1 hb1 h1).1
   ·rw [upd_other _ _ hb2] at h2;exact h.inj b1 b2 L1 L2 h1 h2 he
theorem HRel.virtual {own:Nat->Prop} {M:Mem} {ι:Inj} {hp:Nat->Option Blk} {w:World} (h:HRel own M ι hp w) (b:Nat) (sz:Nat) (fr:Bool):
  HRel own M (upd ι b (some none)) (upd (killH (some b) hp) b (some (.row [] sz fr))) w:=by
 have hne:∀ b',b'≠b->upd ι b (some none) b'=ι b':=fun b' hb=>upd_other _ _ hb
 refine ⟨fun b'=>?_,fun b' hb'=>?_,fun b' B' L' hB' hL'=>?_,fun b1 b2 L1 L2 h1 h2 he=>?_⟩
 ·by_cases hb:b'=b
  ·subst hb;simp [upd_same]
  ·rw [upd_other _ _ hb,upd_other _ _ hb,killH_none_iff];exact h.dom b'
 ·by_cases hb:b'=b
  ·subst hb;exact ⟨sz,fr,upd_same _ _ _⟩
  ·rw [upd_other _ _ hb] at hb';obtain ⟨sz,fr,e⟩:=h.virt b' hb';exact ⟨sz,fr,by rw [upd_other _ _ hb];simp [killH,e,killB]⟩
 ·by_cases hb:b'=b
  ·subst hb;rw [upd_same] at hL';cases hL'
  ·rw [upd_other _ _ hb] at hB' hL';obtain ⟨B0,e0,rfl⟩:=killH_some hB';obtain ⟨o1,o2⟩:=h.at_ b' B0 L' e0 hL';exact ⟨o1,BlkAt.kill (fun b' hb=>hne b' (Fm_ne hb)) o2⟩
 ·have a1:b1≠b:=by rintro rfl;rw [upd_same] at h1;cases h1
  have a2:b2≠b:=by rintro rfl;rw [upd_same] at h2;cases h2
  rw [upd_other _ _ a1] at h1;rw [upd_other _ _ a2] at h2;exact h.inj b1 b2 L1 L2 h1 h2 he
theorem HRel.set {own:Nat->Prop} {M M':Mem} {ι:Inj} {hp:Nat->Option Blk} {w w':World} (h:HRel own M ι hp w) (b:Nat) (B:Blk) (hb0:hp b≠none) (hs:Sub M M')
  (hv:ι b=some none->∃ sz fr,B=.row [] sz fr)
  (hB:∀ L,ι b=some (some L)->BlkAt M' ι w' B L)
  (hoth:∀ b' L',b'≠b->ι b'=some (some L')->w'.heap[L'.blk]?=w.heap[L'.blk]? /\ ∀ B',hp b'=some B'->B'.fr=false->∀ o,M' L'.blk o=none):
  HRel own M' ι (upd hp b (some B)) w':=by
 refine ⟨fun b'=>?_,fun b' hb'=>?_,fun b' B' L' hB' hL'=>?_,h.inj⟩
 ·by_cases hb:b'=b
  ·subst hb;rw [upd_same]
   exact ⟨(by intro e;cases e),fun e=>absurd ((h.dom b').2 e) hb0⟩
  ·rw [upd_other _ _ hb];exact h.dom b'
 ·by_cases hb:b'=b
  ·subst hb;obtain ⟨sz,fr,rfl⟩:=hv hb';exact ⟨sz,fr,upd_same _ _ _⟩
  ·rw [upd_other _ _ hb];exact h.virt b' hb'
 ·by_cases hb:b'=b
  ·subst hb
   rw [upd_same] at hB';cases hB'
   refine ⟨?_,hB L' hL'⟩
   cases e0:hp b' with
   |none=>exact absurd e0 hb0
   |some B0=>exact (h.at_ b' B0 L' e0 hL').1
  ·rw [upd_other _ _ hb] at hB';obtain ⟨o1,o2⟩:=h.at_ b' B' L' hB' hL';obtain ⟨e2,e3⟩:=hoth b' L' hb hL';exact ⟨o1,o2.keep hs e2 (e3 B' hB')⟩
theorem HRel.keep {own:Nat->Prop} {M M':Mem} {ι:Inj} {hp:Nat->Option Blk} {w w':World} (h:HRel own M ι hp w) (hs:Sub M M')
  (hoth:∀ b' L',ι b'=some (some L')->w'.heap[L'.blk]?=w.heap[L'.blk]? /\ ∀ B',hp b'=some B'->B'.fr=false->∀ o,M' L'.blk o=none):HRel own M' ι hp w':=
 ⟨h.dom,h.virt,fun b' B' L' hB' hL'=>⟨(h.at_ b' B' L' hB' hL').1,(h.at_ b' B' L' hB' hL').2.keep hs (hoth b' L' hL').1 ((hoth b' L' hL').2 B' hB')⟩,h.inj⟩
theorem HRel.closed {own:Nat->Prop} {M:Mem} {ι:Inj} {hp:Nat->Option Blk} {w:World} (h:HRel own M ι hp w) {b:Nat} {L:Loc} (hL:ι b=some (some L)):∀ B,hp b=some B->B.fr=false->∀ o,M L.blk o=none:=by
 intro B hB hf;obtain ⟨_,cs,T,_,_,h3⟩:=h.at_ b B L hB hL
 cases B with
 |row l sz fr=>exact h3.2.2.2.2.2 hf
 |box c fr=>exact h3.2.2.2.2 hf
theorem HRel.lt {own:Nat->Prop} {M:Mem} {ι:Inj} {hp:Nat->Option Blk} {w:World} (h:HRel own M ι hp w) {b:Nat} {L:Loc} (hL:ι b=some (some L)):L.blk<w.heap.size:=by
 cases hb:hp b with
 |none=>rw [(h.dom b).1 hb] at hL;cases hL
 |some B=>
  obtain ⟨_,cs,T,h1,_⟩:=h.at_ b B L hb hL;exact (Array.getElem?_eq_some_iff.1 h1).1
def addMem (M:Mem) (blk n:Nat) (cs:Array Value):Mem:=fun b o=>if b=blk then (if o<n then cs[o]? else M b o) else M b o
theorem freeze {own:Nat->Prop} {M:Mem} {ι:Inj} {hp:Nat->Option Blk} {w:World} (ha:Agree M w) (h:HRel own M ι hp w) {b:Nat} {B B':Blk} (hb:hp b=some B)
  (hB:(∃ l sz fr,B=.row l sz fr/\B'=.row l sz true) \/ (∃ c fr,B=.box c fr/\B'=.box c true)):
  ∃ M',Sub M M'/\Agree M' w/\NewDom own M M'/\HRel own M' ι (upd hp b (some B')) w:=by
 have hb0:hp b≠none:=by rw [hb];simp
 cases hι:ι b with
 |none=>exact absurd ((h.dom b).2 hι) hb0
 |some oL=>
  cases oL with
  |none=>
   refine ⟨M,.refl M,ha,.refl _ _,h.set b B' hb0 (.refl M) (fun _=>?_) (fun L hL=>by rw [hι] at hL;cases hL) (fun b' L' _ hL'=>⟨rfl,h.closed hL'⟩)⟩;obtain ⟨sz,fr,e⟩:=h.virt b hι;rw [hb] at e
   cases e
   rcases hB with ⟨l,sz,fr,e1,e2⟩|⟨c,fr,e1,e2⟩
   ·cases e1;exact ⟨_,_,e2⟩
   ·cases e1
  |some L=>
   obtain ⟨hown,cs,Ty,hheap,hsz,hrest⟩:=h.at_ b B L hb hι
   cases hfr:B.fr with
   |true=>
    have:B'=B:=by
     rcases hB with ⟨l,sz,fr,e1,e2⟩|⟨c,fr,e1,e2⟩<;>subst e1<;>simp only [Blk.fr] at hfr<;>subst hfr<;>exact e2
    subst this;refine ⟨M,.refl M,ha,.refl _ _,h.set b B' hb0 (.refl M) (fun e=>by rw [hι] at e;cases e) (fun L' hL'=>(h.at_ b B' L' hb hL').2) (fun b' L' _ hL'=>⟨rfl,h.closed hL'⟩)⟩
   |false=>
    have hcl:=h.closed hι B hb hfr
    let n:=match B with| .row l sz _=>l.length*sz| .box c _=>c.length
    have hn:n<=cs.size:=by
     cases B with
     |row l sz fr=>simp only [n];rw [hsz];exact hrest.2.2.1
     |box c fr=>simp only [n];exact Nat.le_of_eq hrest.2.2.1.size.symm
    have hsub:Sub M (addMem M L.blk n cs):=by
     intro b' o v hv;unfold addMem
     by_cases hbb:b'=L.blk
     ·subst hbb;rw [hcl o] at hv;cases hv
     ·rw [if_neg hbb];exact hv
    have hagree:Agree (addMem M L.blk n cs) w:=by
     intro b' o v hv;unfold addMem at hv
     by_cases hbb:b'=L.blk
     ·subst hbb;rw [if_pos rfl] at hv
      split at hv
      ·rw [cell_of_heap hheap];exact hv
      ·exact ha _ _ _ hv
     ·rw [if_neg hbb] at hv;exact ha _ _ _ hv
    refine ⟨addMem M L.blk n cs,hsub,hagree,?_,h.set b B' hb0 hsub (fun e=>by rw [hι] at e;cases e) (fun L' hL'=>?_) (fun b' L' hne hL'=>⟨rfl,fun B2 hB2 hf2 o=>?_⟩)⟩
    ·intro b' o v hv;unfold addMem at hv
     by_cases hbb:b'=L.blk
     ·subst hbb;exact .inr hown
     ·rw [if_neg hbb] at hv;exact .inl hv
    ·rw [hι] at hL';cases hL'
     refine ⟨cs,Ty,hheap,hsz,?_⟩
     rcases hB with ⟨l,sz,fr,e1,e2⟩|⟨c,fr,e1,e2⟩
     ·subst e1 e2;obtain ⟨a1,a2,a3,a4,a5⟩:=hrest;exact ⟨a1,a2,a3,a4.mono hsub,fun _ o v ho hv=>by simp only [addMem,n,if_pos,ho];exact hv,fun e=>by cases e⟩
     ·subst e1 e2;obtain ⟨a1,a2,a3,a5⟩:=hrest;exact ⟨a1,a2,a3.mono hsub,fun _ o v ho hv=>by simp only [addMem,n,if_pos,ho];exact hv,fun e=>by cases e⟩
    ·have hnb:L'.blk≠L.blk:=fun e=>hne (h.inj b' b L' L hL' hι e)
     simp only [addMem,if_neg hnb];exact h.closed hL' B2 hB2 hf2 o
end Go.Lk
