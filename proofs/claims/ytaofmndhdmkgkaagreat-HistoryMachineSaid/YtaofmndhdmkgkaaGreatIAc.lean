/-
  What is proved here: what functions of the program compute, and what follows; no condition beyond each theorem's own.
-/
import Derived.Test.YtaofmndhdmkgkaaGreatIAb
import Derived.Laws.StructEq
set_option linter.unusedSimpArgs false
set_option linter.unusedVariables false
set_option linter.unnecessarySimpa false
set_option linter.unusedSectionVars false
namespace Go.Lk
open Go Go.RowKit
def Post (own:Nat->Prop) (M:Mem) (ι:Inj) (hp:Nat->Option Blk) (w:World) (e:Eff) (v:Value) (w':World):Prop:=
 ∃ (M':Mem) (ι':Inj),zBu own w w'/\Sub M M'/\zBi M' w'/\zCn own M M'/\HRel own M' ι' (e.hp hp) w'/\ (∀ b,Kp e.kl b->ι' b=ι b) /\DenA M' ι' e.av v
def zCo (P:Program) (o:Oper) (ρ:Operand->AV) (hp:Nat->Option Blk) (e:Eff):Prop:=
 ∀ (own:Nat->Prop) (M:Mem) (ι:Inj) (a:Act) (w:World),(∀ c,w.heap.size<=c->own c)->zBi M w->HRel own M ι hp w->(∀ x,DenA M ι (ρ x) (a.eval x))->
  o.wp P a w (fun a' w'=>∃ v,a'=a.put o.dst v/\Post own M ι hp w e v w') (fun _ _ _=>False)
theorem Sub.refl (M:Mem):Sub M M:=fun _ _ _ h=>h
theorem Sub.trans {M M' M'':Mem} (h:Sub M M') (h':Sub M' M''):Sub M M'':=fun _ _ _ k=>h' _ _ _ (h _ _ _ k)
theorem zCn.refl (own:Nat->Prop) (M:Mem):zCn own M M:=fun _ _ _ h=>.inl h
theorem zCn.trans {own:Nat->Prop} {M M' M'':Mem} (h:zCn own M M') (h':zCn own M' M''):zCn own M M'':=fun b o v k=>(h' b o v k).elim (h b o v) .inr
theorem zBu.refl (own:Nat->Prop) (w:World):zBu own w w:=⟨rfl,rfl,rfl,Nat.le_refl _,fun _ _=>rfl⟩
theorem zBu.trans {own:Nat->Prop} {a b c:World} (h:zBu own a b) (h':zBu own b c):zBu own a c:=
 ⟨h'.os.trans h.os,h'.tape.trans h.tape,h'.output.trans h.output,Nat.le_trans h.size h'.size,fun x hx=>(h'.block x hx).trans (h.block x hx)⟩
theorem yCf {own:Nat->Prop} {M:Mem} {ι:Inj} {hp:Nat->Option Blk} {w:World} {av:AV} {v:Value} (ha:zBi M w) (hh:HRel own M ι hp w) (hd:DenA M ι av v):Post own M ι hp w ⟨av,[],none⟩ v w:=
 ⟨M,ι,.refl _ _,.refl _,ha,.refl _ _,hh,fun _ _=>rfl,hd⟩
theorem opSem_val {P:Program} {o:Oper} {ρ:Operand->AV} {hp:Nat->Option Blk} {av:AV}
  (h:∀ (own:Nat->Prop) (M:Mem) (ι:Inj) (a:Act) (w:World),zBi M w->HRel own M ι hp w->(∀ x,DenA M ι (ρ x) (a.eval x))->∃ v,(execOp a.eval o).run P w=.ok (.value v) w/\DenA M ι av v):
  zCo P o ρ hp ⟨av,[],none⟩:=by
 intro own M ι a w _ ha hh hρ;obtain ⟨v,hr,hd⟩:=h own M ι a w ha hh hρ;unfold Oper.wp;rw [hr,Oper.upon_value];exact ⟨v,rfl,yCf ha hh hd⟩
theorem force_out {v:AV} {K:AV->Prop} (h:force v K):K v/\v≠.dead:=by
 cases v<;>simp_all [force]
theorem bcase_out {b:Bool} {A B:Prop} (h:zJb b A B):(b=true/\A) \/ (b=false/\B):=by
 replace h:=h.out
 cases b<;>simp_all
theorem wrapK_out {k:IntKind} {n:Int} {K:Int->Prop} (h:z2d k n K):K (k.wrap n):=h.out
theorem zBg {c K:Prop} (h:zEm c K):c/\K:=h.out
theorem zQj {l:List (List D)} {i:Nat} {K:List D->Prop} (h:zXt l i K):∃ e,l[i]?=some e/\K e:=h.out
theorem zJk {i:Int} {n:Nat} {K:Nat->Prop} (h:idxK i n K):0<=i/\i<n/\K i.toNat:=h.out
theorem zIu {n b:Nat} {K:Prop} (h:zSj n b K):n*b<=35184372088832/\n<=35184372088832/\K:=h.out
theorem yDk {lo hi:Option Int} {n c:Nat} {K:Nat->Nat->Prop} (h:winK lo hi n c K):0<=lo.getD 0/\lo.getD 0<=hi.getD n/\hi.getD n<=c/\K (lo.getD 0).toNat (hi.getD n).toNat:=h.out
theorem zM {lo hi:Option Int} {n:Nat} {K:Nat->Nat->Prop} (h:zSb lo hi n K):
  0<=lo.getD 0/\lo.getD 0<=hi.getD n/\hi.getD n<=n/\K (lo.getD 0).toNat (hi.getD n).toNat:=h.out
theorem yAj {q:Bool} {k:IntKind} {a b:Int} {K:Int->Prop} (h:divK q k a b K):b≠0/\K (if q then k.wrap (a.tdiv b) else a.tmod b):=h.out
theorem zIe {v:AV} {K:Bool->Prop} (h:zTo v K):∃ b,K b/\ ∀ (M:Mem) (ι:Inj) (u:Value),DenA M ι v u->u=.bool b:=by
 unfold zTo at h
 split at h
 ·rename_i b;refine ⟨b,h,fun M ι u hd=>?_⟩
  cases hd with
  |d _ _ hd=>cases hd;rfl
 ·exact ⟨true,h,fun M ι u hd=>by cases hd;rfl⟩
 ·exact ⟨false,h,fun M ι u hd=>by cases hd;rfl⟩
 ·exact h.elim
theorem den_int {M:Mem} {ι:Inj} {k:IntKind} {n:Int} {v:Value} (h:DenA M ι (.d (.int k n)) v):v=.int k n:=by
 cases h with
 |d _ _ h=>cases h;rfl
theorem den_str {M:Mem} {ι:Inj} {s:ByteArray} {v:Value} (h:DenA M ι (.d (.str s)) v):v=.string s:=by
 cases h with
 |d _ _ h=>cases h;rfl
theorem den_bool {M:Mem} {ι:Inj} {s:Bool} {v:Value} (h:DenA M ι (.d (.bool s)) v):v=.bool s:=by
 cases h with
 |d _ _ h=>cases h;rfl
section
variable {P:Program}
theorem yNn {op:BinOp} {k:IntKind} {a b:Int} {K:AV->Prop} (h:intA op k a b K) (t:TypeId):
  ∃ d:D,K (.d d) /\ (∀ (x y:Operand) (w:World),(do eqGuard op t x y (.int k a) (.int k b);binOp op t (.int k a) (.int k b):Sem Value).run P w=.ok (match d with| .int k n=>.int k n| .bool b=>.bool b|_=>undef) w) /\ ((∃ n,d=.int k n) \/ ∃ b,d=.bool b):=by
 unfold intA at h
 cases op<;>simp only at h
 case add=>exact ⟨_,wrapK_out h,by simp [eqGuard,binOp,Op.intArith],.inl ⟨_,rfl⟩⟩
 case sub=>exact ⟨_,wrapK_out h,by simp [eqGuard,binOp,Op.intArith],.inl ⟨_,rfl⟩⟩
 case mul=>exact ⟨_,wrapK_out h,by simp [eqGuard,binOp,Op.intArith],.inl ⟨_,rfl⟩⟩
 case quo=>
  obtain ⟨h1,h2⟩:=yAj h;exact ⟨_,h2,by simp [eqGuard,binOp,Op.intDiv,h1],.inl ⟨_,rfl⟩⟩
 case rem=>
  obtain ⟨h1,h2⟩:=yAj h;exact ⟨_,h2,by simp [eqGuard,binOp,Op.intDiv,h1],.inl ⟨_,rfl⟩⟩
 case and=>exact ⟨_,h,by simp [eqGuard,binOp,Op.intBits,zHt],.inl ⟨_,rfl⟩⟩
 case or=>exact ⟨_,h,by simp [eqGuard,binOp,Op.intBits,zHt],.inl ⟨_,rfl⟩⟩
 case xor=>exact ⟨_,h,by simp [eqGuard,binOp,Op.intBits,zHt],.inl ⟨_,rfl⟩⟩
 case andNot=>exact ⟨_,h,by simp [eqGuard,binOp,Op.intBits,zHt],.inl ⟨_,rfl⟩⟩
 case eql=>exact ⟨_,h,by intro x y w;simp [eqGuard,binOp,Op.intCmp];rw [Bool.eq_iff_iff];simp,.inr ⟨_,rfl⟩⟩
 case neq=>exact ⟨_,h,by intro x y w;simp [eqGuard,binOp,Op.intCmp];rw [Bool.eq_iff_iff];simp,.inr ⟨_,rfl⟩⟩
 case lss=>exact ⟨_,h,by intro x y w;simp [eqGuard,binOp,Op.intCmp],.inr ⟨_,rfl⟩⟩
 case leq=>exact ⟨_,h,by intro x y w;simp [eqGuard,binOp,Op.intCmp],.inr ⟨_,rfl⟩⟩
 case gtr=>exact ⟨_,h,by intro x y w;simp [eqGuard,binOp,Op.intCmp],.inr ⟨_,rfl⟩⟩
 case geq=>exact ⟨_,h,by intro x y w;simp [eqGuard,binOp,Op.intCmp],.inr ⟨_,rfl⟩⟩
theorem yFh {op:BinOp} {k k':IntKind} {a b:Int} {K:AV->Prop} (h:yKz op k a b K) (t:TypeId):
  ∃ n:Int,K (.d (.int k n)) /\ ∀ (x y:Operand) (w:World),(do eqGuard op t x y (.int k a) (.int k' b);binOp op t (.int k a) (.int k' b):Sem Value).run P w=.ok (.int k n) w:=by
 unfold yKz at h
 cases op<;>simp only at h
 case shl=>
  obtain ⟨h1,h2⟩:=zBg h;exact ⟨_,wrapK_out h2,by intro x y w;simp [eqGuard,binOp,Op.shift,show ¬b<0 by omega]⟩
 case shr=>
  obtain ⟨h1,h2⟩:=zBg h;exact ⟨_,h2,by intro x y w;simp [eqGuard,binOp,Op.shift,show ¬b<0 by omega]⟩
theorem yPk {op:BinOp} {a b:ByteArray} {K:AV->Prop} (h:strA op a b K) (t:TypeId):
  ∃ d:D,K (.d d) /\ (∀ (x y:Operand) (w:World),(do eqGuard op t x y (.string a) (.string b);binOp op t (.string a) (.string b):Sem Value).run P w=.ok (match d with| .str s=>.string s| .bool b=>.bool b|_=>undef) w) /\ ((∃ n,d=.str n) \/ ∃ b,d=.bool b):=by
 have hdec:(a.toList==b.toList)=decide (a=b):=by
  rw [ByteArray.toList_eq,ByteArray.toList_eq,Bool.eq_iff_iff];obtain ⟨⟨x⟩⟩:=a;obtain ⟨⟨y⟩⟩:=b;simp
 unfold strA at h
 cases op<;>simp only at h
 case add=>
  obtain ⟨h1,h2⟩:=zBg h;exact ⟨_,h2,by intro x y w;simp [eqGuard,binOp,Op.stringOp];omega,.inl ⟨_,rfl⟩⟩
 case eql=>exact ⟨_,h,by intro x y w;simp [eqGuard,binOp,Op.stringOp,hdec],.inr ⟨_,rfl⟩⟩
 case neq=>exact ⟨_,h,by intro x y w;simp [eqGuard,binOp,Op.stringOp,hdec],.inr ⟨_,rfl⟩⟩
theorem zTn {op:BinOp} {a b:Bool} {K:AV->Prop} (h:yGo op a b K):
  ∃ r:Bool,K (.d (.bool r)) /\ (op=.eql/\r=(a==b) \/op=.neq/\r=!(a==b)):=by
 unfold yGo at h
 cases op<;>simp only at h
 case eql=>exact ⟨_,h,.inl ⟨rfl,rfl⟩⟩
 case neq=>exact ⟨_,h,.inr ⟨rfl,rfl⟩⟩
variable {T:Tab} (hT:zFg P T)
theorem zMi {M:Mem} {ι:Inj} {x:List AV} {vs:Array Value} (hl:vs.size=x.length) (hd:∀ (i:Nat) (a:AV) (v:Value),x[i]?=some a->vs[i]?=some v->DenA M ι a v) (o n:Nat) (h:o+n<=x.length):
  (vs.extract o (o+n)).size=((x.drop o).take n).length/\ ∀ (i:Nat) (a:AV) (v:Value),((x.drop o).take n)[i]?=some a->(vs.extract o (o+n))[i]?=some v->DenA M ι a v:=by
 refine ⟨by simp;omega,fun i a v h1 h2=>?_⟩;rw [List.getElem?_take] at h1
 split at h1
 ·rename_i hi;rw [List.getElem?_drop] at h1;rw [Array.getElem?_extract] at h2
  split at h2
  ·exact hd _ _ _ h1 h2
  ·cases h2
 ·cases h1
include hT in
theorem yHq:∀ (n:Nat) (t:TypeId) (x y:List AV) (K:Bool->Prop),eqA T n t x y K->
  (T t).k.known=true/\ ∃ b,K b/\ ∀ (M:Mem) (ι:Inj) (vs us:Array Value),vs.size=x.length->us.size=y.length->(∀ (i:Nat) (a:AV) (v:Value),x[i]?=some a->vs[i]?=some v->DenA M ι a v)->
   (∀ (i:Nat) (a:AV) (v:Value),y[i]?=some a->us[i]?=some v->DenA M ι a v)->∀ (d:Nat) (w:World),n<=d->
   (Op.equalIn (d+1) t (if (T t).k.agg then .agg vs else vs.getD 0 undef) (if (T t).k.agg then .agg us else us.getD 0 undef)).run P w=.ok b w
 |0,t,x,y,K,h=>by simp [eqA] at h
 |n+1,t,x,y,K,h=>by
  simp only [eqA] at h
  split at h
  ·rename_i k hk;refine ⟨by rw [hk];rfl,?_⟩;have hu:=zNf hT hk
   split at h
   ·rename_i k1 a
    split at h
    ·rename_i k2 b
     cases hb:Nat.beq (zFn k1) (zFn k2) with
     |false=>simp [hb] at h
     |true=>
      simp only [hb,cond_true] at h;have:=zKx hb;subst this;refine ⟨_,h,fun M ι vs us hl hl' hd hd' d w _=>?_⟩;have e1:=den_int (hd 0 _ (vs.getD 0 undef) rfl (by simp [Array.getD,hl]));have e2:=den_int (hd' 0 _ (us.getD 0 undef) rfl (by simp [Array.getD,hl']));simp only [hk,TK.agg,Bool.false_eq_true,if_false];rw [e1,e2,run_equalIn_int w d t k1 k a b hu];rfl
    ·exact h.elim
   ·exact h.elim
  ·rename_i hk;refine ⟨by rw [hk];rfl,?_⟩;have hu:=zNg hT hk
   split at h
   ·rename_i a
    split at h
    ·rename_i b;refine ⟨_,h,fun M ι vs us hl hl' hd hd' d w _=>?_⟩;have e1:=den_str (hd 0 _ (vs.getD 0 undef) rfl (by simp [Array.getD,hl]));have e2:=den_str (hd' 0 _ (us.getD 0 undef) rfl (by simp [Array.getD,hl']));simp only [hk,TK.agg,Bool.false_eq_true,if_false];rw [e1,e2,run_equalIn_string w d t a b hu]
     congr 1
     rw [ByteArray.toList_eq,ByteArray.toList_eq,Bool.eq_iff_iff];obtain ⟨⟨x⟩⟩:=a;obtain ⟨⟨y⟩⟩:=b;simp
    ·exact h.elim
   ·exact h.elim
  ·rename_i hk;refine ⟨by rw [hk];rfl,?_⟩;have hu:=zTg hT hk
   split at h
   ·rename_i a
    split at h
    ·rename_i b;obtain ⟨p,h,hp⟩:=zIe h;obtain ⟨q,h,hq⟩:=zIe h;refine ⟨_,h,fun M ι vs us hl hl' hd hd' d w _=>?_⟩;have e1:=hp M ι _ (hd 0 _ (vs.getD 0 undef) rfl (by simp [Array.getD,hl]));have e2:=hq M ι _ (hd' 0 _ (us.getD 0 undef) rfl (by simp [Array.getD,hl']));simp only [hk,TK.agg,Bool.false_eq_true,if_false];rw [e1,e2,run_equalIn_bool w d t p q hu]
    ·exact h.elim
   ·exact h.elim
  ·rename_i fs hk;refine ⟨by rw [hk];rfl,?_⟩;obtain ⟨F,hu,hF,hkn,hnm⟩:=zIz hT hk
   have hst:P.stoodInHeld t=false:=by
    obtain ⟨_,_,_,_,_,_,_,_,_,_,_,h,_⟩:=(zE hT (t:=t) (by rw [hk];rfl)).desc;exact h
   have hFo:P.fieldsOf t=F:=by simp [Program.fieldsOf,hu]
   have key:∀ (G:List Field) (K:Bool->Prop),eqA.fields T (fun t x y K=>eqA T n t x y K) (G.map fun f=>(f.offset,f.type)) x y K->(∀ f∈G,f.name≠ "_")->
     ∃ b,K b/\ ∀ (M:Mem) (ι:Inj) (vs us:Array Value),vs.size=x.length->us.size=y.length->(∀ (i:Nat) (a:AV) (v:Value),x[i]?=some a->vs[i]?=some v->DenA M ι a v)->
      (∀ (i:Nat) (a:AV) (v:Value),y[i]?=some a->us[i]?=some v->DenA M ι a v)->∀ (d:Nat) (w:World),n<=d->(Op.eqFields (d+1) vs us G).run P w=.ok b w:=by
    intro G
    induction G with
    |nil=>
     intro K h _;exact ⟨true,h,fun M ι vs us _ _ _ _ d w _=>by simp [Op.eqFields]⟩
    |cons f G ih=>
     intro K h hn;simp only [List.map_cons,eqA.fields] at h
     cases hb:(Nat.ble (f.offset+(T f.type).size) x.length&&Nat.ble (f.offset+(T f.type).size) y.length) with
     |false=>simp [hb] at h
     |true=>
      simp only [hb,cond_true] at h;simp only [Bool.and_eq_true,Nat.ble_eq] at hb;obtain ⟨hk1,b,h,hb1⟩:=yHq n _ _ _ _ h;obtain ⟨c,h,hc1⟩:=ih _ h (fun g hg=>hn g (List.mem_cons_of_mem _ hg));refine ⟨_,h,fun M ι vs us hl hl' hd hd' d w hnd=>?_⟩;obtain ⟨s1,d1⟩:=zMi hl hd f.offset (T f.type).size hb.1;obtain ⟨s2,d2⟩:=zMi hl' hd' f.offset (T f.type).size hb.2;have r:=hb1 M ι _ _ s1 s2 d1 d2 d w hnd;have r2:=hc1 M ι vs us hl hl' hd hd' d w hnd
      have part_eq:∀ (zs:Array Value) (m:Nat),zs.size=m->f.offset+(T f.type).size<=m->((T f.type).k.agg=false->(T f.type).size=1)->
        (part f.type zs f.offset).run P w=.ok (if (T f.type).k.agg then .agg (zs.extract f.offset (f.offset+(T f.type).size)) else (zs.extract f.offset (f.offset+(T f.type).size)).getD 0 undef) w:=by
       intro zs m hz hle h1;simp only [part,Sem.run_bind,zLy hT w hk1,Result.andThen_ok]
       cases hag:(T f.type).k.agg with
       |true=>simp [zBc hT w hk1]
       |false=>
        have:=h1 hag;simp only [Bool.false_eq_true,if_false]
        have hlt:f.offset<zs.size:=by omega
        simp [Array.getElem?_eq_getElem hlt,this,Array.getD,show min (f.offset+1) zs.size-f.offset=1 by omega]
      have one:(T f.type).k.agg=false->(T f.type).size=1:=size_one hT hk1;simp only [Op.eqFields,ne_eq,hn f (List.mem_cons_self ..),not_false_eq_true,if_true,Sem.run_bind,part_eq vs _ hl hb.1 one,part_eq us _ hl' hb.2 one,Result.andThen_ok,r]
      cases b with
      |false=>simp
      |true=>simp [r2]
   obtain ⟨b,h,hb⟩:=key F.toList K (by rw [hF];exact h) hnm;refine ⟨b,h,fun M ι vs us hl hl' hd hd' d w hnd=>?_⟩;obtain ⟨d,rfl⟩:∃ e,d=e+1:=⟨d-1,by omega⟩;have:=hb M ι vs us hl hl' hd hd' d w (by omega);simp only [hk,TK.agg,if_true];rw [run_equalIn_struct w (d+1) t vs us (by rw [hFo];exact hu) hst,hFo];exact this
  ·exact h.elim
end
theorem zDd (b o i:Nat):(⟨b,o,none⟩:Addr).add i=⟨b,o+i,none⟩:=by
 unfold Addr.add
 split
 ·rename_i h;subst h;rfl
 ·rfl
theorem cell_of_heap {w:World} {b:Nat} {cs:Array Value} {T:TypeId} {fr:Nat×Nat} (h:w.heap[b]?=some (.cells cs T fr)) (o:Nat):w.cell? ⟨b,o,none⟩=cs[o]?:=by
 simp [World.cell?,h]
theorem zFk {M:Mem} {ι:Inj} {c:List AV} {v:Value} (h:DenA M ι (.agg c) v):∃ vs:Array Value,v=.agg vs/\vs.size=c.length/\ ∀ (i:Nat) (x:AV) (u:Value),c[i]?=some x->vs[i]?=some u->DenA M ι x u:=by
 cases h with
 |agg _ vs hl hd=>exact ⟨vs,rfl,hl,hd⟩
theorem z6w {M:Mem} {ι:Inj} {c:List AV} {v:Value} (h:DenA M ι (.tup c) v):∃ vs:Array Value,v=.tuple vs/\vs.size=c.length/\ ∀ (i:Nat) (x:AV) (u:Value),c[i]?=some x->vs[i]?=some u->DenA M ι x u:=by
 cases h with
 |tup _ vs hl hd=>exact ⟨vs,rfl,hl,hd⟩
theorem zIp {c:List AV} {K:List AV->Prop}:forceL c K->K c:=by
 induction c generalizing K with
 |nil=>exact id
 |cons x r ih=>intro h;simp only [forceL] at h;have:=(force_out h).1;exact ih this
def yMd (M:Mem) (ι:Inj) (c:List AV) (f:Nat->Option Value):Prop:=∀ (i:Nat) (x:AV),c[i]?=some x->∃ v,f i=some v/\DenA M ι x v
theorem zOw {agg:Bool} {size:Nat} {c:List AV} {j:Nat} {K:AV->Prop} (h:z4z agg size c j K) (h1:agg=false->size=1):
  ∃ av,K av/\j+size<=c.length/\ ∀ (M:Mem) (ι:Inj) (f:Nat->Option Value),yMd M ι c f->
   ∃ g:Nat->Value,(∀ i,i<size->f (j+i)=some (g i)) /\DenA M ι av (if agg then .agg ((List.range size).map g).toArray else g 0):=by
 unfold z4z at h
 cases agg with
 |true=>
  simp only [cond_true] at h
  cases hb:Nat.ble (j+size) c.length with
  |false=>simp [hb] at h
  |true=>
   simp only [hb,cond_true] at h;have hle:=Nat.le_of_ble_eq_true hb;refine ⟨_,zIp h,hle,fun M ι f hf=>?_⟩
   have hg:∀ i,i<size->∃ v,f (j+i)=some v/\DenA M ι (c[j+i]?.getD .dead) v:=fun i hi=>by
    have hlt:j+i<c.length:=by omega
    obtain ⟨v,h1,h2⟩:=hf (j+i) c[j+i] (List.getElem?_eq_getElem hlt);exact ⟨v,h1,by simpa [List.getElem?_eq_getElem hlt] using h2⟩
   refine ⟨fun i=>(f (j+i)).getD undef,fun i hi=>?_,?_⟩
   ·obtain ⟨v,h1,_⟩:=hg i hi;simp [h1]
   ·refine .agg _ _ (by simp;omega) fun i x v hx hv=>?_
    rw [List.getElem?_take] at hx
    split at hx
    ·rename_i hi;rw [List.getElem?_drop] at hx;obtain ⟨u,h1,h2⟩:=hg i hi;simp only [List.getElem?_toArray,List.getElem?_map,List.getElem?_range hi,Option.map_some,Option.some.injEq] at hv;subst hv
     simpa [h1,hx] using h2
    ·cases hx
 |false=>
  simp only [cond_false] at h;unfold getC at h
  split at h
  ·rename_i x hx;refine ⟨x,(force_out h).1,?_,fun M ι f hf=>?_⟩
   ·have:=(List.getElem?_eq_some_iff.1 hx).1
    rw [h1 rfl];omega
   ·obtain ⟨v,e1,e2⟩:=hf j x hx;refine ⟨fun _=>v,fun i hi=>?_,by simpa using e2⟩;rw [h1 rfl] at hi
    obtain rfl:i=0:=by omega
    simpa using e1
  ·exact h.elim
theorem z5a {agg:Bool} {size:Nat} {c:List D} {j:Nat} {K:AV->Prop} (h:yOl agg size c j K) (h1:agg=false->size=1):
  ∃ av,K av/\j+size<=c.length/\ ∀ (M:Mem) (ι:Inj) (f:Nat->Option Value),(∀ (i:Nat) (x:D),c[i]?=some x->∃ v,f i=some v/\DenD M x v)->
   ∃ g:Nat->Value,(∀ i,i<size->f (j+i)=some (g i)) /\DenA M ι av (if agg then .agg ((List.range size).map g).toArray else g 0):=by
 have h':z4z agg size (c.map .d) j K:=by
  unfold yOl at h;unfold z4z
  cases agg with
  |true=>simpa [List.map_drop,List.map_take] using h
  |false=>
   simp only [cond_false] at h⊢;unfold getD at h;unfold getC;simp only [List.getElem?_map]
   split at h
   ·rename_i x hx
    simpa [hx,force] using h
   ·exact h.elim
 obtain ⟨av,k,hl,hd⟩:=zOw h' h1;refine ⟨av,k,by simpa using hl,fun M ι f hf=>hd M ι f fun i x hx=>?_⟩;rw [List.getElem?_map] at hx
 cases hc:c[i]? with
 |none=>simp [hc] at hx
 |some d=>
  simp only [hc,Option.map_some,Option.some.injEq] at hx;subst hx;obtain ⟨v,e1,e2⟩:=hf i d hc;exact ⟨v,e1,.d _ _ e2⟩
section
variable {P:Program} {T:Tab} (hT:zFg P T)
include hT
theorem zLe {t:TypeId} (hk:(T t).k.known=true) (w:World) (b o:Nat) (g:Nat->Value) (h:∀ i,i<(T t).size->w.cell? ⟨b,o+i,none⟩=some (g i)):
  (loadVar t ⟨b,o,none⟩).run P w=.ok (if (T t).k.agg then .agg ((List.range (T t).size).map g).toArray else g 0) w:=by
 simp only [loadVar,Sem.run_bind,zLy hT w hk,Result.andThen_ok]
 cases ha:(T t).k.agg with
 |true=>
  simp only [if_true,Sem.run_bind,zBc hT w hk,Result.andThen_ok];rw [run_loadCells w ⟨b,o,none⟩ (T t).size g (fun j hj=>by rw [zDd];exact h j hj)];rfl
 |false=>
  have h1:=size_one hT hk ha;simp only [Bool.false_eq_true,if_false];have:=h 0 (by omega);simp only [Nat.add_zero] at this;simp [run_load,this]
theorem z4g {t:TypeId} {x:AV} {hp:Nat->Option Blk} {K:AV->Prop} (h:yJd T t x hp K):
  ∃ av,K av/\ ∀ (own:Nat->Prop) (M:Mem) (ι:Inj) (w:World) (v:Value),zBi M w->HRel own M ι hp w->DenA M ι x v->∃ r,(Instr.loadAt t v).run P w=.ok r w/\DenA M ι av r:=by
 unfold yJd at h
 have hk:(T t).k.known=true:=by
  cases hg:(T t).k.known with
  |true=>rfl
  |false=>simp [hg] at h
 simp only [hk,cond_true] at h;have h1:=size_one hT hk;unfold yTw at h
 split at h
 ·rename_i b i j
  split at h
  ·rename_i c fr hb;obtain ⟨hi0,h2⟩:=zBg h;subst hi0;obtain ⟨av,k,hl,hd⟩:=zOw h2 h1;refine ⟨av,k,fun own M ι w v ha hh hv=>?_⟩
   cases hv with
   |ptr _ _ _ L hL=>
    obtain ⟨_,cs,Ty,hheap,hsz,hL1,hL2,hbox,_⟩:=hh.at_ b _ L hb hL;obtain ⟨g,hg,hden⟩:=hd M ι (fun i=>cs[i]?) (fun i x hx=>hbox.den i x hx);refine ⟨_,?_,hden⟩;simp only [Instr.loadAt,Instr.sureAddr,Sem.run_bind,Sem.run_pure,Result.andThen_ok]
    exact zLe hT hk w _ _ g fun i hi=>by rw [cell_of_heap hheap];simpa using hg i hi
   |ptrL _ _ _ _ hL=>rw [(hh.dom b).2 hL] at hb;cases hb
  ·rename_i l sz fr hb;obtain ⟨e,he,h⟩:=zQj h;obtain ⟨av,k,hl,hd⟩:=z5a h h1;refine ⟨av,k,fun own M ι w v ha hh hv=>?_⟩
   cases hv with
   |ptr _ _ _ L hL=>
    obtain ⟨_,cs,Ty,hheap,hsz,hL1,hL2,hle,hrow,_⟩:=hh.at_ b _ L hb hL;obtain ⟨g,hg,hden⟩:=hd M ι (fun j=>cs[i*sz+j]?) (fun j x hx=>hrow.den i j e x he hx);refine ⟨_,?_,hden⟩;simp only [Instr.loadAt,Instr.sureAddr,Sem.run_bind,Sem.run_pure,Result.andThen_ok];subst hL1
    exact zLe hT hk w _ _ g fun i hi=>by rw [cell_of_heap hheap];simpa [Nat.add_assoc] using hg i hi
   |ptrL _ _ _ _ hL=>rw [(hh.dom b).2 hL] at hb;cases hb
  ·exact h.elim
 ·rename_i e j;obtain ⟨av,k,hl,hd⟩:=z5a h h1;refine ⟨av,k,fun own M ι w v ha hh hv=>?_⟩
  cases hv with
  |d _ _ hv=>
   cases hv with
   |dp _ _ b off val hm hdd=>
    obtain ⟨g,hg,hden⟩:=hd M ι (fun i=>w.cell? ⟨b,off+i,none⟩) (fun i x hx=>⟨val i,ha _ _ _ (hm i x hx),hdd i x hx⟩);refine ⟨_,?_,hden⟩;simp only [Instr.loadAt,Instr.sureAddr,Sem.run_bind,Sem.run_pure,Result.andThen_ok]
    exact zLe hT hk w _ _ g fun i hi=>by simpa [Nat.add_assoc] using hg i hi
 ·exact h.elim
theorem yMo {t:TypeId} {op:BinOp} {x y:AV} {K:AV->Prop} (h:binA T t op x y K):
  ∃ av,K av/\ ∀ (M:Mem) (ι:Inj) (v u:Value),DenA M ι x v->DenA M ι y u->∀ (X Y:Operand) (w:World),∃ r,(do eqGuard op t X Y v u;binOp op t v u:Sem Value).run P w=.ok r w/\DenA M ι av r:=by
 have boolCase:∀ (a b:Bool) (r:Bool),(T t).k=.bool->(op=.eql/\r=(a==b) \/op=.neq/\r=!(a==b))->∀ (X Y:Operand) (w:World),(do eqGuard op t X Y (.bool a) (.bool b);binOp op t (.bool a) (.bool b):Sem Value).run P w=.ok (.bool r) w:=by
  intro a b r hk hr X Y w;have hu:=zTg hT hk
  rcases hr with ⟨rfl,rfl⟩|⟨rfl,rfl⟩
  ·simp [eqGuard,binOp,Op.equal,Op.maxDepth,run_equalIn_bool w 9999 t a b hu]
  ·simp [eqGuard,binOp,Op.equal,Op.maxDepth,run_equalIn_bool w 9999 t a b hu]
 unfold binA at h
 split at h
 ·rename_i k a
  split at h
  ·rename_i k' b
   cases hs:yIv op with
   |true=>
    simp only [hs,cond_true] at h;obtain ⟨n,hK,hr⟩:=yFh (P:=P) (k':=k') h t;refine ⟨_,hK,fun M ι v u hv hu X Y w=>?_⟩;rw [den_int hv,den_int hu];exact ⟨_,hr X Y w,.d _ _ (.int _ _)⟩
   |false=>
    simp only [hs,cond_false] at h
    cases hkk:Nat.beq (zFn k) (zFn k') with
    |false=>simp [hkk] at h
    |true=>
     simp only [hkk,cond_true] at h;have:=zKx hkk;subst this;obtain ⟨d,hK,hr,hd⟩:=yNn (P:=P) h t;refine ⟨_,hK,fun M ι v u hv hu X Y w=>?_⟩;rw [den_int hv,den_int hu];refine ⟨_,hr X Y w,?_⟩
     rcases hd with ⟨n,rfl⟩|⟨b,rfl⟩
     ·exact .d _ _ (.int _ _)
     ·exact .d _ _ (.bool _)
  ·exact h.elim
 ·rename_i a
  split at h
  ·rename_i b;obtain ⟨d,hK,hr,hd⟩:=yPk (P:=P) h t;refine ⟨_,hK,fun M ι v u hv hu X Y w=>?_⟩;rw [den_str hv,den_str hu];refine ⟨_,hr X Y w,?_⟩
   rcases hd with ⟨n,rfl⟩|⟨b,rfl⟩
   ·exact .d _ _ (.str _)
   ·exact .d _ _ (.bool _)
  ·exact h.elim
 ·rename_i a
  split at h
  ·rename_i hkb;obtain ⟨b,h,hbo⟩:=zIe h;obtain ⟨r,hK,hr⟩:=zTn h;refine ⟨_,hK,fun M ι v u hv hu X Y w=>?_⟩;rw [den_bool hv,hbo M ι u hu];exact ⟨_,boolCase a b r hkb hr X Y w,.d _ _ (.bool _)⟩
  ·exact h.elim
 ·split at h
  ·rename_i hkb;obtain ⟨b,h,hbo⟩:=zIe h;obtain ⟨r,hK,hr⟩:=zTn h;refine ⟨_,hK,fun M ι v u hv hu X Y w=>?_⟩
   cases hv with
   |tt=>
    rw [hbo M ι u hu];exact ⟨_,boolCase true b r hkb hr X Y w,.d _ _ (.bool _)⟩
  ·exact h.elim
 ·split at h
  ·rename_i hkb;obtain ⟨b,h,hbo⟩:=zIe h;obtain ⟨r,hK,hr⟩:=zTn h;refine ⟨_,hK,fun M ι v u hv hu X Y w=>?_⟩
   cases hv with
   |ff=>
    rw [hbo M ι u hu];exact ⟨_,boolCase false b r hkb hr X Y w,.d _ _ (.bool _)⟩
  ·exact h.elim
 ·rename_i c
  split at h
  ·rename_i c'
   have fin:∀ (K':Bool->Prop),(bif (T t).k.agg then eqA T 9999 t c c' K' else False)->∃ b,K' b/\ ∀ (M:Mem) (ι:Inj) (v u:Value),DenA M ι (.agg c) v->DenA M ι (.agg c') u->∀ (X Y:Operand) (w:World),
     ((eqGuard op t X Y v u).run P w=.ok () w/\ ∃ vs us,v=.agg vs/\u=.agg us/\ (Op.equalIn 10000 t (.agg vs) (.agg us)).run P w=.ok b w):=by
    intro K' h
    have hagg:(T t).k.agg=true:=by
     cases hg:(T t).k.agg with
     |true=>rfl
     |false=>simp [hg] at h
    simp only [hagg,cond_true] at h;obtain ⟨hk,b,hK,hd⟩:=yHq hT _ _ _ _ _ h;refine ⟨b,hK,fun M ι v u hv hu X Y w=>?_⟩;obtain ⟨vs,rfl,s1,d1⟩:=zFk hv;obtain ⟨us,rfl,s2,d2⟩:=zFk hu;have:=hd M ι vs us s1 s2 d1 d2 9999 w (Nat.le_refl _);simp only [hagg,if_true] at this;obtain ⟨_,_,_,_,_,_,_,_,_,_,_,_,hg,_⟩:=(zE hT hk).desc;exact ⟨run_eqGuard_agg w op t X Y vs us hg,vs,us,rfl,rfl,this⟩
   split at h
   ·obtain ⟨b,hK,hd⟩:=fin _ h;refine ⟨_,hK,fun M ι v u hv hu X Y w=>?_⟩;obtain ⟨hg,vs,us,rfl,rfl,he⟩:=hd M ι v u hv hu X Y w;exact ⟨_,by rw [Sem.run_bind,hg,Result.andThen_ok,run_eql_struct,he];rfl,.d _ _ (.bool _)⟩
   ·obtain ⟨b,hK,hd⟩:=fin _ h;refine ⟨_,hK,fun M ι v u hv hu X Y w=>?_⟩;obtain ⟨hg,vs,us,rfl,rfl,he⟩:=hd M ι v u hv hu X Y w;exact ⟨_,by rw [Sem.run_bind,hg,Result.andThen_ok,run_neq_struct,he];rfl,.d _ _ (.bool _)⟩
   ·exact h.elim
  ·exact h.elim
 ·exact h.elim
end
section
variable {P:Program} {T:Tab} (hT:zFg P T)
include hT
theorem zKo {s:TypeId} {f:Nat} {K:Nat->TypeId->Prop} (h:zO T s f K):
  ∃ (F:Array Field) (fl:Field),P.underlying s=some (.struct F) /\F[f]?=some fl/\ (T fl.type).k.known=true/\K fl.offset fl.type:=by
 unfold zO at h
 split at h
 ·rename_i fs hk;obtain ⟨F,hu,hF,hkn,_⟩:=zIz hT hk
  split at h
  ·rename_i o t ht;rw [<-hF,List.getElem?_map] at ht
   cases hf:F.toList[f]? with
   |none=>simp [hf] at ht
   |some fl=>
    simp only [hf,Option.map_some,Option.some.injEq,Prod.mk.injEq] at ht;obtain ⟨rfl,rfl⟩:=ht;refine ⟨F,fl,hu,by simpa using hf,hkn (fl.offset,fl.type) ?_,h⟩;rw [<-hF];exact List.mem_map.2 ⟨fl,List.mem_of_getElem? hf,rfl⟩
  ·exact h.elim
 ·exact h.elim
theorem zVu {b o:Nat} {f:Field} (hz:(T f.type).k.known=true) (w:World):(fieldPlace ⟨b,o,none⟩ f).run P w=.ok ⟨b,o+f.offset,none⟩ w:=by
 have:=zFb hT hz;simp only [fieldPlace,Sem.run_bind,zBc hT w hz,Result.andThen_ok];rw [if_neg (by omega),Sem.run_pure,zDd]
theorem zUh {s:TypeId} {f:Nat} {F:Array Field} {fl:Field} (hu:P.underlying s=some (.struct F)) (hf:F[f]?=some fl) (hz:(T fl.type).k.known=true) (b o:Nat) (w:World):
  (Instr.fieldAt s (.pointer (some ⟨b,o,none⟩)) f).run P w=.ok (.pointer (some ⟨b,o+fl.offset,none⟩)) w:=by
 simp [Instr.fieldAt,run_underlying hu,hf,Instr.sureAddr,zVu hT hz]
theorem zWv {t:TypeId} {x i:AV} {hp:Nat->Option Blk} {K:AV->Prop} (h:zQo T t x i hp K):
  ∃ av,K av/\ ∀ (own:Nat->Prop) (M:Mem) (ι:Inj) (w:World) (v u:Value),HRel own M ι hp w->DenA M ι x v->DenA M ι i u->∃ r,(Instr.indexAt t v u).run P w=.ok r w/\DenA M ι av r:=by
 unfold zQo at h
 split at h
 ·rename_i ik n
  split at h
  ·rename_i el hk;obtain ⟨hu,hke⟩:=zBh hT hk
   split at h
   ·rename_i l;obtain ⟨h0,h1,h⟩:=zJk h;obtain ⟨e,he,h⟩:=zQj h
    cases hs:Nat.beq e.length (T el).size with
    |false=>simp [hs] at h
    |true=>
     simp only [hs,cond_true] at h;have hsz:=Nat.eq_of_beq_eq_true hs;refine ⟨_,h,fun own M ι w v u hh hv hi=>?_⟩;rw [den_int hi]
     cases hv with
     |d _ _ hv=>
      cases hv with
      |emp a c=>simp at h1;omega
      |lst _ b off cap sz val hl hs hm hd=>
       have e1:=hs _ _ he;refine ⟨.pointer (some ⟨b,off+n.toNat*sz+0,none⟩),?_,.d _ _ (.dp _ _ _ _ (val n.toNat) (fun j d hj=>?_) fun j d hj=>?_)⟩
       ·simp [Instr.indexAt,asIntOf,run_underlying hu,h0,h1,zBc hT w hke,zDd,<-hsz,e1]
       ·exact hm _ j e d he hj
       ·exact hd _ j e d he hj
   ·rename_i b
    split at h
    ·rename_i l sz fr hb
     cases hs:Nat.beq sz (T el).size with
     |false=>simp [hs] at h
     |true=>
      simp only [hs,cond_true] at h;have hsz:=Nat.eq_of_beq_eq_true hs;obtain ⟨h0,h1,h⟩:=zJk h;refine ⟨_,h,fun own M ι w v u hh hv hi=>?_⟩;rw [den_int hi]
      cases hv with
      |own _ L cap hL hn hc=>
       obtain ⟨_,cs,Ty,hheap,hsz2,hL1,hL2,hle,hrow,_⟩:=hh.at_ b _ L hb hL;refine ⟨.pointer (some ⟨L.blk,n.toNat*L.sz+0,none⟩),?_,.ptr b n.toNat 0 L hL⟩;simp [Instr.indexAt,asIntOf,run_underlying hu,h0,<-hL2,h1,zBc hT w hke,zDd,<-hL1,<-hsz]
      |ownE _ a hL=>
       obtain ⟨sz',fr',hb'⟩:=hh.virt b hL;rw [hb] at hb'
       cases hb'
       simp at h1;omega
      |ownL _ _ hL=>rw [(hh.dom b).2 hL] at hb;cases hb
    ·exact h.elim
   ·rename_i b lo m c0
    split at h
    ·rename_i l sz fr hb
     cases hs:Nat.beq sz (T el).size with
     |false=>simp [hs] at h
     |true=>
      simp only [hs,cond_true] at h;have hsz:=Nat.eq_of_beq_eq_true hs;obtain ⟨h0,h1,h⟩:=zJk h;refine ⟨_,h,fun own M ι w v u hh hv hi=>?_⟩;rw [den_int hi]
      cases hv with
      |win _ _ _ _ L k base hL hn hc hk hbase=>
       obtain ⟨_,cs,Ty,hheap,hsz2,hL1,hL2,hle,hrow,_⟩:=hh.at_ b _ L hb hL
       have hbs:base=lo*L.sz:=hbase.resolve_right fun h=>by omega
       subst hbs;refine ⟨.pointer (some ⟨L.blk,(lo+n.toNat)*L.sz+0,none⟩),?_,.ptr b (lo+n.toNat) 0 L hL⟩;simp [Instr.indexAt,asIntOf,run_underlying hu,h0,h1,zBc hT w hke,zDd,<-hL1,<-hsz,Nat.add_mul]
      |winL _ _ _ _ _ hL=>rw [(hh.dom b).2 hL] at hb;cases hb
    ·exact h.elim
   ·exact h.elim
  ·rename_i m e hk;obtain ⟨hu,hke⟩:=zWi hT hk
   split at h
   ·rename_i b i0 j
    split at h
    ·rename_i B hb;obtain ⟨h0,h1,h⟩:=zJk h;refine ⟨_,h,fun own M ι w v u hh hv hi=>?_⟩;rw [den_int hi]
     cases hv with
     |ptr _ _ _ L hL=>
      refine ⟨.pointer (some ⟨L.blk,i0*L.sz+(j+n.toNat*(T e).size),none⟩),?_,.ptr b i0 _ L hL⟩;simp [Instr.indexAt,asIntOf,run_underlying hu,h0,h1,zBc hT w hke,zDd,Instr.sureAddr,Nat.add_assoc]
     |ptrL _ _ _ _ hL=>rw [(hh.dom b).2 hL] at hb;cases hb
    ·exact h.elim
   ·rename_i c j;obtain ⟨h0,h1,h⟩:=zJk h;refine ⟨_,h,fun own M ι w v u hh hv hi=>?_⟩;rw [den_int hi]
    cases hv with
    |d _ _ hv=>
     cases hv with
     |dp _ _ b off val hm hd=>
      refine ⟨.pointer (some ⟨b,off+(j+n.toNat*(T e).size),none⟩),?_,.d _ _ (.dp _ _ _ _ val hm hd)⟩;simp [Instr.indexAt,asIntOf,run_underlying hu,h0,h1,zBc hT w hke,zDd,Instr.sureAddr,Nat.add_assoc]
   ·exact h.elim
  ·exact h.elim
 ·exact h.elim
theorem yEf {t:TypeId} {x i:AV} {K:AV->Prop} (h:yIo T t x i K):
  ∃ av,K av/\ ∀ (M:Mem) (ι:Inj) (w:World) (v u:Value),DenA M ι x v->DenA M ι i u->∃ r,(Instr.index t v u).run P w=.ok r w/\DenA M ι av r:=by
 unfold yIo at h
 split at h
 ·rename_i ik n
  split at h
  ·rename_i s
   split at h
   ·rename_i hk;have hu:=zNg hT hk;obtain ⟨h0,h1,h⟩:=zJk h;refine ⟨_,h,fun M ι w v u hv hi=>?_⟩;rw [den_int hi,den_str hv]
    have hlt:n.toNat<s.size:=by omega
    refine ⟨.int .u8 ((s.data.getD n.toNat 0).toNat),?_,.d _ _ (.int _ _)⟩
    have e:s[n.toNat]?=some (s.data.getD n.toNat 0):=by
     rw [getElem?_pos s n.toNat hlt];simp only [Array.getD,show n.toNat<s.data.size from hlt,dif_pos];rfl
    simp [Instr.index,asIntOf,run_underlying hu,h0,e]
   ·exact h.elim
  ·rename_i c
   split at h
   ·rename_i m e hk;obtain ⟨hua,hke⟩:=zWi hT hk;obtain ⟨h0,h1,h⟩:=zJk h;obtain ⟨av,k,hl,hd⟩:=zOw h (size_one hT hke);refine ⟨av,k,fun M ι w v u hv hi=>?_⟩;rw [den_int hi];obtain ⟨vs,rfl,hs,hdv⟩:=zFk hv
    obtain ⟨g,hg,hden⟩:=hd M ι (fun i=>vs[i]?) (fun i x hx=>by
     have hlt:i<vs.size:=by rw [hs];exact (List.getElem?_eq_some_iff.1 hx).1
     exact ⟨vs[i],by simp [hlt],hdv i x _ hx (by simp [hlt])⟩)
    refine ⟨_,?_,hden⟩;simp only [Instr.index,asIntOf,Sem.run_bind,Sem.run_pure,Result.andThen_ok,run_underlying hua,h0,h1,and_self,if_true,zBc hT w hke,part,zLy hT w hke]
    cases ha:(T e).k.agg with
    |true=>
     simp only [if_true,Sem.run_bind,zBc hT w hke,Result.andThen_ok,Sem.run_pure]
     congr 2
     apply Array.ext_getElem?;intro i;rw [Array.getElem?_extract];simp only [List.getElem?_toArray,List.getElem?_map]
     split
     ·rename_i hi
      rw [hg i (by omega),List.getElem?_range (by omega)];rfl
     ·rename_i hi
      rw [List.getElem?_eq_none (by simp;omega)];rfl
    |false=>
     have:=hg 0 (by have:=zFb hT hke;omega);simp only [Nat.add_zero] at this;simp [this]
   ·exact h.elim
  ·exact h.elim
 ·exact h.elim
omit hT in
theorem zBo {x:Int} {y:Nat} {code:BoundsCode} {k:IntKind} (w:World) (h0:0<=x) (h1:x<=y):(Instr.sliceBound (.int k x) y code).run P w=.ok x.toNat w:=by
 simp [Instr.sliceBound,asIntOf,h0,h1]
omit hT in
theorem zJw {isS:Bool} {len cap:Nat} {lo hi:Option Int} {k1 k2:IntKind} (w:World) (h0:0<=lo.getD 0) (h1:lo.getD 0<=hi.getD len) (h2:hi.getD len<=len) (hc:len<=cap):
  (Instr.sliceBounds isS len cap (lo.map (.int k1)) (hi.map (.int k2)) none).run P w=.ok ((lo.getD 0).toNat,(hi.getD len).toNat,cap) w:=by
 cases lo with
 |none=>
  cases hi with
  |none=>simp [Instr.sliceBounds]
  |some h=>
   simp only [Option.getD_some,Option.getD_none] at h0 h1 h2;simp [Instr.sliceBounds,zBo (P:=P) w (x:=h) (y:=cap) (k:=k2) h1 (by omega)]
 |some l=>
  cases hi with
  |none=>
   simp only [Option.getD_some,Option.getD_none] at h0 h1 h2;simp [Instr.sliceBounds,zBo (P:=P) w (x:=l) (y:=len) (k:=k1) h0 (by omega)]
  |some h=>
   simp only [Option.getD_some] at h0 h1 h2;simp [Instr.sliceBounds,zBo (P:=P) w (x:=h) (y:=cap) (k:=k2) (by omega) (by omega),zBo (P:=P) w (x:=l) (y:=h.toNat) (k:=k1) h0 (by omega)]
end
def Blk.fr:Blk->Bool
 | .row _ _ fr=>fr
 | .box _ fr=>fr
theorem zGi.mono {M M':Mem} (h:Sub M M') {cs:Array Value} {l:List (List D)} {sz:Nat} (hr:zGi M cs l sz):zGi M' cs l sz:=
 ⟨hr.len,fun i j e d h1 h2=>let ⟨v,e1,e2⟩:=hr.den i j e d h1 h2;⟨v,e1,e2.mono h⟩⟩
theorem zPu.mono {M M':Mem} (h:Sub M M') {ι:Inj} {cs:Array Value} {c:List AV} (hr:zPu M ι cs c):zPu M' ι cs c:=
 ⟨hr.size,fun j x h1=>let ⟨v,e1,e2⟩:=hr.den j x h1;⟨v,e1,e2.mono h⟩⟩
theorem z7w (b:Nat) (x:AV):killV b x=x\/killV b x=.dead:=by
 cases x with
 |own b'=>simp only [killV];cases Fm b b'<;>simp
 |ptr b' i j=>simp only [killV];cases Fm b b'<;>simp
 |win b' lo n c=>simp only [killV];cases Fm b b'<;>simp
 |agg c=>simp only [killV];cases killV.names b c<;>simp
 |tup c=>simp only [killV];cases killV.parts b c<;>simp
 |fn f c=>simp only [killV];cases killV.names b c<;>simp
 |d x=>exact .inl rfl
 |tt=>exact .inl rfl
 |ff=>exact .inl rfl
 |nil=>exact .inl rfl
 |dead=>exact .inl rfl
theorem zDt (b:Nat) (c:List AV) (j:Nat):(zBk.cells b c)[j]?=(c[j]?).map (killV b):=by
 induction c generalizing j with
 |nil=>rfl
 |cons x r ih=>
  cases j with
  |zero=>rfl
  |succ j=>simpa [zBk.cells] using ih j
theorem zDu (b:Nat) (c:List AV):(zBk.cells b c).length=c.length:=by
 induction c with
 |nil=>rfl
 |cons x r ih=>simp [zBk.cells,ih]
theorem zPu.kill {M:Mem} {ι ι':Inj} {b:Nat} (hι:∀ b',Fm b b'=false->ι' b'=ι b') {cs:Array Value} {c:List AV} (hr:zPu M ι cs c):zPu M ι' cs (zBk.cells b c):=by
 refine ⟨by rw [zDu];exact hr.size,fun j x h1=>?_⟩;rw [zDt] at h1
 cases hc:c[j]? with
 |none=>simp [hc] at h1
 |some y=>
  simp only [hc,Option.map_some,Option.some.injEq] at h1;subst h1;obtain ⟨v,e1,e2⟩:=hr.den j y hc;exact ⟨v,e1,(e2.killV b).turn hι (zQt b y)⟩
theorem zEk.keep {M M':Mem} {ι:Inj} {w w':World} {B:Blk} {L:Loc} (h:zEk M ι w B L) (hs:Sub M M') (hw:w'.heap[L.blk]?=w.heap[L.blk]?) (hf:B.fr=false->∀ o,M' L.blk o=none):zEk M' ι w' B L:=by
 obtain ⟨cs,T,h1,h2,h3⟩:=h;refine ⟨cs,T,hw.trans h1,h2,?_⟩
 cases B with
 |row l sz fr=>
  obtain ⟨a1,a2,a3,a4,a5⟩:=h3;exact ⟨a1,a2,a3,a4.mono hs,fun hfr o v ho hv=>hs _ _ _ (a5.1 hfr o v ho hv),hf⟩
 |box c fr=>
  obtain ⟨a1,a2,a3,a5⟩:=h3;exact ⟨a1,a2,a3.mono hs,fun hfr o v ho hv=>hs _ _ _ (a5.1 hfr o v ho hv),hf⟩
theorem zEk.kill {M:Mem} {ι ι':Inj} {w:World} {B:Blk} {L:Loc} {b:Nat} (hι:∀ b',Fm b b'=false->ι' b'=ι b') (h:zEk M ι w B L):zEk M ι' w (zBk b B) L:=by
 obtain ⟨cs,T,h1,h2,h3⟩:=h;refine ⟨cs,T,h1,h2,?_⟩
 cases B with
 |row l sz fr=>exact h3
 |box c fr=>
  obtain ⟨a1,a2,a3,a5⟩:=h3;exact ⟨by rw [zDu];exact a1,by rw [zDu];exact a2,a3.kill hι,by rw [zDu];exact a5⟩
theorem upd_same {α:Type} (f:Nat->α) (t:Nat) (v:α):upd f t v t=v:=by simp [upd]
theorem zAk {α:Type} (f:Nat->α) {t s:Nat} (v:α) (h:s≠t):upd f t v s=f s:=by
 have:Nat.beq s t=false:=by
  cases hb:Nat.beq s t with
  |false=>rfl
  |true=>exact absurd (Nat.eq_of_beq_eq_true hb) h
 simp [upd,this]
theorem zHy (k:Option Nat) (hp:Nat->Option Blk) (b:Nat):zCw k hp b=none↔hp b=none:=by
 cases k with
 |none=>exact Iff.rfl
 |some k=>simp only [zCw];cases hp b<;>simp
theorem killH_some {k:Nat} {hp:Nat->Option Blk} {b:Nat} {B:Blk} (h:zCw (some k) hp b=some B):∃ B0,hp b=some B0/\B=zBk k B0:=by
 simp only [zCw] at h
 cases hb:hp b with
 |none=>simp [hb] at h
 |some B0=>simp only [hb,Option.some.injEq] at h;exact ⟨B0,rfl,h.symm⟩
theorem HRel.new {own:Nat->Prop} {M M':Mem} {ι:Inj} {hp:Nat->Option Blk} {w w':World} (h:HRel own M ι hp w) (b:Nat) (B:Blk) (L:Loc) (hs:Sub M M')
  (ho:own L.blk) (hB:zEk M' (upd ι b (some (some L))) w' B L)
  (hoth:∀ b' L',b'≠b->ι b'=some (some L')->L'.blk≠L.blk/\w'.heap[L'.blk]?=w.heap[L'.blk]? /\ ∀ B',hp b'=some B'->B'.fr=false->∀ o,M' L'.blk o=none):
  HRel own M' (upd ι b (some (some L))) (upd (zCw (some b) hp) b (some B)) w':=by
 have hne:∀ b',b'≠b->upd ι b (some (some L)) b'=ι b':=fun b' hb=>zAk _ _ hb
 refine ⟨fun b'=>?_,fun b' hb'=>?_,fun b' B' L' hB' hL'=>?_,fun b1 b2 L1 L2 h1 h2 he=>?_⟩
 ·by_cases hb:b'=b
  ·subst hb;simp [upd_same]
  ·rw [zAk _ _ hb,zAk _ _ hb,zHy];exact h.dom b'
 ·by_cases hb:b'=b
  ·subst hb;rw [upd_same] at hb';cases hb'
  ·rw [zAk _ _ hb] at hb';obtain ⟨sz,fr,e⟩:=h.virt b' hb';exact ⟨sz,fr,by rw [zAk _ _ hb];simp [zCw,e,zBk]⟩
 ·by_cases hb:b'=b
  ·subst hb;rw [upd_same] at hB' hL'
   cases hB';cases hL'
   exact ⟨ho,hB⟩
  ·rw [zAk _ _ hb] at hB' hL';obtain ⟨B0,e0,rfl⟩:=killH_some hB';obtain ⟨o1,o2⟩:=h.at_ b' B0 L' e0 hL';obtain ⟨_,e2,e3⟩:=hoth b' L' hb hL';exact ⟨o1,zEk.kill (fun b' hb=>hne b' (yFv hb)) (o2.keep hs e2 (e3 B0 e0))⟩
 ·by_cases hb1:b1=b
  ·subst hb1
   rw [upd_same] at h1;cases h1
   by_cases hb2:b2=b1
   ·exact hb2.symm
   ·rw [zAk _ _ hb2] at h2;exact absurd he.symm (hoth b2 L2 hb2 h2).1
  ·rw [zAk _ _ hb1] at h1
   by_cases hb2:b2=b
   ·subst hb2
    rw [upd_same] at h2;cases h2
    exact absurd he (hoth b1 L1 hb1 h1).1
   ·rw [zAk _ _ hb2] at h2;exact h.inj b1 b2 L1 L2 h1 h2 he
theorem HRel.virtual {own:Nat->Prop} {M:Mem} {ι:Inj} {hp:Nat->Option Blk} {w:World} (h:HRel own M ι hp w) (b:Nat) (sz:Nat) (fr:Bool):
  HRel own M (upd ι b (some none)) (upd (zCw (some b) hp) b (some (.row [] sz fr))) w:=by
 have hne:∀ b',b'≠b->upd ι b (some none) b'=ι b':=fun b' hb=>zAk _ _ hb
 refine ⟨fun b'=>?_,fun b' hb'=>?_,fun b' B' L' hB' hL'=>?_,fun b1 b2 L1 L2 h1 h2 he=>?_⟩
 ·by_cases hb:b'=b
  ·subst hb;simp [upd_same]
  ·rw [zAk _ _ hb,zAk _ _ hb,zHy];exact h.dom b'
 ·by_cases hb:b'=b
  ·subst hb;exact ⟨sz,fr,upd_same _ _ _⟩
  ·rw [zAk _ _ hb] at hb';obtain ⟨sz,fr,e⟩:=h.virt b' hb';exact ⟨sz,fr,by rw [zAk _ _ hb];simp [zCw,e,zBk]⟩
 ·by_cases hb:b'=b
  ·subst hb;rw [upd_same] at hL';cases hL'
  ·rw [zAk _ _ hb] at hB' hL';obtain ⟨B0,e0,rfl⟩:=killH_some hB';obtain ⟨o1,o2⟩:=h.at_ b' B0 L' e0 hL';exact ⟨o1,zEk.kill (fun b' hb=>hne b' (yFv hb)) o2⟩
 ·have a1:b1≠b:=by rintro rfl;rw [upd_same] at h1;cases h1
  have a2:b2≠b:=by rintro rfl;rw [upd_same] at h2;cases h2
  rw [zAk _ _ a1] at h1;rw [zAk _ _ a2] at h2;exact h.inj b1 b2 L1 L2 h1 h2 he
theorem HRel.set {own:Nat->Prop} {M M':Mem} {ι:Inj} {hp:Nat->Option Blk} {w w':World} (h:HRel own M ι hp w) (b:Nat) (B:Blk) (hb0:hp b≠none) (hs:Sub M M')
  (hv:ι b=some none->∃ sz fr,B=.row [] sz fr)
  (hB:∀ L,ι b=some (some L)->zEk M' ι w' B L)
  (hoth:∀ b' L',b'≠b->ι b'=some (some L')->w'.heap[L'.blk]?=w.heap[L'.blk]? /\ ∀ B',hp b'=some B'->B'.fr=false->∀ o,M' L'.blk o=none):
  HRel own M' ι (upd hp b (some B)) w':=by
 refine ⟨fun b'=>?_,fun b' hb'=>?_,fun b' B' L' hB' hL'=>?_,h.inj⟩
 ·by_cases hb:b'=b
  ·subst hb;rw [upd_same]
   exact ⟨(by intro e;cases e),fun e=>absurd ((h.dom b').2 e) hb0⟩
  ·rw [zAk _ _ hb];exact h.dom b'
 ·by_cases hb:b'=b
  ·subst hb;obtain ⟨sz,fr,rfl⟩:=hv hb';exact ⟨sz,fr,upd_same _ _ _⟩
  ·rw [zAk _ _ hb];exact h.virt b' hb'
 ·by_cases hb:b'=b
  ·subst hb
   rw [upd_same] at hB';cases hB'
   refine ⟨?_,hB L' hL'⟩
   cases e0:hp b' with
   |none=>exact absurd e0 hb0
   |some B0=>exact (h.at_ b' B0 L' e0 hL').1
  ·rw [zAk _ _ hb] at hB';obtain ⟨o1,o2⟩:=h.at_ b' B' L' hB' hL';obtain ⟨e2,e3⟩:=hoth b' L' hb hL';exact ⟨o1,o2.keep hs e2 (e3 B' hB')⟩
theorem HRel.keep {own:Nat->Prop} {M M':Mem} {ι:Inj} {hp:Nat->Option Blk} {w w':World} (h:HRel own M ι hp w) (hs:Sub M M')
  (hoth:∀ b' L',ι b'=some (some L')->w'.heap[L'.blk]?=w.heap[L'.blk]? /\ ∀ B',hp b'=some B'->B'.fr=false->∀ o,M' L'.blk o=none):HRel own M' ι hp w':=
 ⟨h.dom,h.virt,fun b' B' L' hB' hL'=>⟨(h.at_ b' B' L' hB' hL').1,(h.at_ b' B' L' hB' hL').2.keep hs (hoth b' L' hL').1 ((hoth b' L' hL').2 B' hB')⟩,h.inj⟩
theorem HRel.closed {own:Nat->Prop} {M:Mem} {ι:Inj} {hp:Nat->Option Blk} {w:World} (h:HRel own M ι hp w) {b:Nat} {L:Loc} (hL:ι b=some (some L)):∀ B,hp b=some B->B.fr=false->∀ o,M L.blk o=none:=by
 intro B hB hf;obtain ⟨_,cs,T,_,_,h3⟩:=h.at_ b B L hB hL
 cases B with
 |row l sz fr=>exact h3.2.2.2.2.2 hf
 |box c fr=>exact h3.2.2.2.2 hf
theorem HRel.lt {own:Nat->Prop} {M:Mem} {ι:Inj} {hp:Nat->Option Blk} {w:World} (h:HRel own M ι hp w) {b:Nat} {L:Loc} (hL:ι b=some (some L)):L.blk<w.heap.size:=by
 cases hb:hp b with
 |none=>rw [(h.dom b).1 hb] at hL;cases hL
 |some B=>
  obtain ⟨_,cs,T,h1,_⟩:=h.at_ b B L hb hL;exact (Array.getElem?_eq_some_iff.1 h1).1
def addMem (M:Mem) (blk n:Nat) (cs:Array Value):Mem:=fun b o=>if b=blk then (if o<n then cs[o]? else M b o) else M b o
theorem yAw {own:Nat->Prop} {M:Mem} {ι:Inj} {hp:Nat->Option Blk} {w:World} (ha:zBi M w) (h:HRel own M ι hp w) {b:Nat} {B B':Blk} (hb:hp b=some B)
  (hB:(∃ l sz fr,B=.row l sz fr/\B'=.row l sz true) \/ (∃ c fr,B=.box c fr/\B'=.box c true)):
  ∃ M',Sub M M'/\zBi M' w/\zCn own M M'/\HRel own M' ι (upd hp b (some B')) w:=by
 have hb0:hp b≠none:=by rw [hb];simp
 cases hι:ι b with
 |none=>exact absurd ((h.dom b).2 hι) hb0
 |some oL=>
  cases oL with
  |none=>
   refine ⟨M,.refl M,ha,.refl _ _,h.set b B' hb0 (.refl M) (fun _=>?_) (fun L hL=>by rw [hι] at hL;cases hL) (fun b' L' _ hL'=>⟨rfl,h.closed hL'⟩)⟩;obtain ⟨sz,fr,e⟩:=h.virt b hι;rw [hb] at e
   cases e
   rcases hB with ⟨l,sz,fr,e1,e2⟩|⟨c,fr,e1,e2⟩
   ·cases e1;exact ⟨_,_,e2⟩
   ·cases e1
  |some L=>
   obtain ⟨hown,cs,Ty,hheap,hsz,hrest⟩:=h.at_ b B L hb hι
   cases hfr:B.fr with
   |true=>
    have:B'=B:=by
     rcases hB with ⟨l,sz,fr,e1,e2⟩|⟨c,fr,e1,e2⟩<;>subst e1<;>simp only [Blk.fr] at hfr<;>subst hfr<;>exact e2
    subst this;refine ⟨M,.refl M,ha,.refl _ _,h.set b B' hb0 (.refl M) (fun e=>by rw [hι] at e;cases e) (fun L' hL'=>(h.at_ b B' L' hb hL').2) (fun b' L' _ hL'=>⟨rfl,h.closed hL'⟩)⟩
   |false=>
    have hcl:=h.closed hι B hb hfr
    let n:=match B with| .row l sz _=>l.length*sz| .box c _=>c.length
    have hn:n<=cs.size:=by
     cases B with
     |row l sz fr=>simp only [n];rw [hsz];exact hrest.2.2.1
     |box c fr=>simp only [n];exact Nat.le_of_eq hrest.2.2.1.size.symm
    have hsub:Sub M (addMem M L.blk n cs):=by
     intro b' o v hv;unfold addMem
     by_cases hbb:b'=L.blk
     ·subst hbb;rw [hcl o] at hv;cases hv
     ·rw [if_neg hbb];exact hv
    have hagree:zBi (addMem M L.blk n cs) w:=by
     intro b' o v hv;unfold addMem at hv
     by_cases hbb:b'=L.blk
     ·subst hbb;rw [if_pos rfl] at hv
      split at hv
      ·rw [cell_of_heap hheap];exact hv
      ·exact ha _ _ _ hv
     ·rw [if_neg hbb] at hv;exact ha _ _ _ hv
    refine ⟨addMem M L.blk n cs,hsub,hagree,?_,h.set b B' hb0 hsub (fun e=>by rw [hι] at e;cases e) (fun L' hL'=>?_) (fun b' L' hne hL'=>⟨rfl,fun B2 hB2 hf2 o=>?_⟩)⟩
    ·intro b' o v hv;unfold addMem at hv
     by_cases hbb:b'=L.blk
     ·subst hbb;exact .inr hown
     ·rw [if_neg hbb] at hv;exact .inl hv
    ·rw [hι] at hL';cases hL'
     refine ⟨cs,Ty,hheap,hsz,?_⟩
     rcases hB with ⟨l,sz,fr,e1,e2⟩|⟨c,fr,e1,e2⟩
     ·subst e1 e2;obtain ⟨a1,a2,a3,a4,a5⟩:=hrest;exact ⟨a1,a2,a3,a4.mono hsub,fun _ o v ho hv=>by simp only [addMem,n,if_pos,ho];exact hv,fun e=>by cases e⟩
     ·subst e1 e2;obtain ⟨a1,a2,a3,a5⟩:=hrest;exact ⟨a1,a2,a3.mono hsub,fun _ o v ho hv=>by simp only [addMem,n,if_pos,ho];exact hv,fun e=>by cases e⟩
    ·have hnb:L'.blk≠L.blk:=fun e=>hne (h.inj b' b L' L hL' hι e)
     simp only [addMem,if_neg hnb];exact h.closed hL' B2 hB2 hf2 o
def zKf (hp hp':Nat->Option Blk):Prop:=∀ b,hp' b=hp b\/ ∃ l sz fr,hp b=some (.row l sz fr) /\hp' b=some (.row l sz true)
theorem zKf.refl (hp:Nat->Option Blk):zKf hp hp:=fun _=>.inl rfl
theorem zKf.step {hp0 hp:Nat->Option Blk} (h:zKf hp0 hp) {b:Nat} {l:List (List D)} {sz:Nat} {fr:Bool} (hb:hp0 b=some (.row l sz fr)):zKf hp0 (upd hp b (some (.row l sz true))):=by
 intro b'
 by_cases e:b'=b
 ·subst e;rw [upd_same];exact .inr ⟨l,sz,fr,hb,rfl⟩
 ·rw [zAk _ _ e];exact h b'
theorem zH {own:Nat->Prop} {ι:Inj} {w:World} {hp0:Nat->Option Blk}:∀ (ns:List Nat) (M:Mem) (hp:Nat->Option Blk),zBi M w->HRel own M ι hp w->zKf hp0 hp->
  ∃ M',Sub M M'/\zBi M' w/\zCn own M M'/\HRel own M' ι (zAz hp (frz hp0 ns)) w/\zKf hp0 (zAz hp (frz hp0 ns)) /\
   (∀ b l sz fr,(b∈ns\/hp b=some (.row l sz true))->hp0 b=some (.row l sz fr)->zAz hp (frz hp0 ns) b=some (.row l sz true))
 | [],M,hp,ha,hh,hl=>⟨M,.refl M,ha,.refl _ _,hh,hl,fun b l sz fr h _=>by
   rcases h with h|h
   ·cases h
   ·exact h⟩
 |b::ns,M,hp,ha,hh,hl=>by
  have go:∀ (hp1:Nat->Option Blk) (M1:Mem),Sub M M1->zBi M1 w->zCn own M M1->HRel own M1 ι hp1 w->zKf hp0 hp1->(∀ b l sz,hp b=some (.row l sz true)->hp1 b=some (.row l sz true))->
    (∀ l sz fr,hp0 b=some (.row l sz fr)->hp1 b=some (.row l sz true))->zAz hp (frz hp0 (b::ns))=zAz hp1 (frz hp0 ns)->
    ∃ M',Sub M M'/\zBi M' w/\zCn own M M'/\HRel own M' ι (zAz hp (frz hp0 (b::ns))) w/\zKf hp0 (zAz hp (frz hp0 (b::ns))) /\
     (∀ c l sz fr,(c∈b::ns\/hp c=some (.row l sz true))->hp0 c=some (.row l sz fr)->zAz hp (frz hp0 (b::ns)) c=some (.row l sz true)):=by
   intro hp1 M1 s1 a1 n1 h1 l1 k1 k2 e;obtain ⟨M',s2,a2,n2,h2,l2,f2⟩:=zH (hp0:=hp0) ns M1 hp1 a1 h1 l1;rw [e];refine ⟨M',s1.trans s2,a2,n1.trans n2,h2,l2,fun c l sz fr hc hc0=>?_⟩
   rcases hc with hc|hc
   ·cases hc with
    |head=>exact f2 _ l sz fr (.inr (k2 l sz fr hc0)) hc0
    |tail _ hc=>exact f2 _ l sz fr (.inl hc) hc0
   ·exact f2 _ l sz fr (.inr (k1 _ _ _ hc)) hc0
  cases h0:hp0 b with
  |none=>exact go hp M (.refl M) ha (.refl _ _) hh hl (fun _ _ _ h=>h) (fun l sz fr e=>by rw [h0] at e;cases e) (by simp [frz,h0])
  |some B=>
   cases B with
   |box c fr=>exact go hp M (.refl M) ha (.refl _ _) hh hl (fun _ _ _ h=>h) (fun l sz fr e=>by rw [h0] at e;cases e) (by simp [frz,h0])
   |row l sz fr=>
    have hb:∃ fr',hp b=some (.row l sz fr'):=by
     rcases hl b with e|⟨l',sz',fr',e1,e2⟩
     ·exact ⟨fr,e.trans h0⟩
     ·rw [h0] at e1;cases e1;exact ⟨true,e2⟩
    obtain ⟨fr',hb⟩:=hb;obtain ⟨M1,s1,a1,n1,h1⟩:=yAw ha hh hb (B':=.row l sz true) (.inl ⟨_,_,_,rfl,rfl⟩);refine go (upd hp b (some (.row l sz true))) M1 s1 a1 n1 h1 (hl.step h0) (fun c l' sz' e=>?_) (fun l' sz' fr' e=>by rw [h0] at e;cases e;exact upd_same _ _ _) (by simp [frz,h0,zAz])
    by_cases hc:c=b
    ·subst hc;rw [hb] at e;cases e;exact upd_same _ _ _
    ·rw [zAk _ _ hc];exact e
theorem zKl {hp hp':Nat->Option Blk} (h:zKf hp hp') (x:AV):conv.one hp' x=conv.one hp x:=by
 cases x with
 |own b=>
  simp only [conv.one]
  rcases h b with e|⟨l,sz,fr,e1,e2⟩
  ·rw [e]
  ·rw [e1,e2]
 |_=>rfl
theorem zHu {hp hp':Nat->Option Blk} (h:zKf hp hp'):∀ c:List AV,conv.cells hp' c=conv.cells hp c
 | []=>rfl
 |x::r=>by simp only [conv.cells,zKl h,zHu h r]
theorem z3a {hp hp':Nat->Option Blk} (h:zKf hp hp') (x:AV):conv.cap1 hp' x=conv.cap1 hp x:=by
 cases x with
 |ptr b i j=>
  simp only [conv.cap1]
  rcases h b with e|⟨l,sz,fr,e1,e2⟩
  ·rw [e]
  ·rw [e1,e2]
 |_=>rfl
theorem zNt {hp hp':Nat->Option Blk} (h:zKf hp hp'):∀ c:List AV,conv.caps hp' c=conv.caps hp c
 | []=>rfl
 |x::r=>by simp only [conv.caps,z3a h,zNt h r]
theorem zSp {hp hp':Nat->Option Blk} (h:zKf hp hp') (x:AV):conv hp' x=conv hp x:=by
 cases x with
 |own b=>
  simp only [conv]
  rcases h b with e|⟨l,sz,fr,e1,e2⟩
  ·rw [e]
  ·rw [e1,e2]
 |agg c=>simp only [conv,zHu h]
 |fn f c=>simp only [conv,zNt h]
 |_=>rfl
theorem zZl {own:Nat->Prop} {M:Mem} {ι:Inj} {hp:Nat->Option Blk} {w:World} (hh:HRel own M ι hp w) {b:Nat} {l:List (List D)} {sz:Nat} {v:Value} (hb:hp b=some (.row l sz true)) (hd:DenA M ι (.own b) v):DenD M (.lst l) v:=by
 cases hd with
 |own _ L cap hL hn hc=>
  obtain ⟨_,cs,Ty,hheap,hsz,a1,a2,a3,a4,a5⟩:=hh.at_ b _ L hb hL;rw [<-a2]
  refine .lst l L.blk 0 cap sz (fun i j=>(cs[i*sz+j]?).getD undef) (by omega) a4.len (fun i j e d h1 h2=>?_) fun i j e d h1 h2=>?_
  ·obtain ⟨v,e1,e2⟩:=a4.den i j e d h1 h2
   have hlt:i*sz+j<l.length*sz:=by
    have hi:=(List.getElem?_eq_some_iff.1 h1).1;have hj:=(List.getElem?_eq_some_iff.1 h2).1;rw [a4.len i e h1] at hj
    calc i*sz+j<i*sz+sz:=by omega
     _=(i+1)*sz:=by rw [Nat.add_mul,Nat.one_mul]
     _<=l.length*sz:=Nat.mul_le_mul_right _ hi
   simp only [Nat.zero_add,e1,Option.getD_some];exact a5.1 rfl _ _ hlt e1
  ·obtain ⟨v,e1,e2⟩:=a4.den i j e d h1 h2
   simpa [e1] using e2
 |ownE _ a hL=>
  obtain ⟨sz',fr',e⟩:=hh.virt b hL
  rw [hb] at e;cases e
  exact .emp _ _
 |ownL _ _ hL=>rw [(hh.dom b).2 hL] at hb;cases hb
theorem den_pure1 {M:Mem} {ι:Inj} {x:AV} {d:D} {v:Value} (h:conv.pure1 x=some d) (hd:DenA M ι x v):DenD M d v:=by
 cases x<;>simp only [conv.pure1,Option.some.injEq] at h<;>first|(subst h;cases hd)|cases h
 case d hd=>exact hd
 case tt=>exact .bool _
 case ff=>exact .bool _
 case nil a=>exact .emp _ _
theorem yKm {c:List AV} {ds:List D} (h:conv.pures c=some ds):ds.length=c.length/\ ∀ (i:Nat) (d:D),ds[i]?=some d->∃ x,c[i]?=some x/\conv.pure1 x=some d:=by
 induction c generalizing ds with
 |nil=>simp only [conv.pures,Option.some.injEq] at h;subst h;simp
 |cons x r ih=>
  simp only [conv.pures] at h
  cases h1:conv.pure1 x with
  |none=>simp [h1] at h
  |some d0=>
   cases h2:conv.pures r with
   |none=>simp [h1,h2] at h
   |some ds0=>
    simp only [h1,h2,Option.bind_some,Option.map_some,Option.some.injEq] at h;subst h;obtain ⟨e1,e2⟩:=ih h2;refine ⟨by simp [e1],fun i d hi=>?_⟩
    cases i with
    |zero=>simp only [List.getElem?_cons_zero,Option.some.injEq] at hi⊢;subst hi;exact ⟨x,rfl,h1⟩
    |succ i=>simpa using e2 i d (by simpa using hi)
section
variable {own:Nat->Prop} {M:Mem} {ι:Inj} {hp:Nat->Option Blk} {w:World} (hh:HRel own M ι hp w)
include hh
theorem zDb {x:AV} {d:D} {v:Value} (h:conv.one hp x=some d) (ho:zAp.one hp x=[]) (hd:DenA M ι x v):DenD M d v:=by
 cases x with
 |own b=>
  simp only [conv.one] at h
  cases hb:hp b with
  |none=>simp [hb] at h
  |some B=>
   cases B with
   |box c fr=>simp [hb] at h
   |row l sz fr=>
    simp only [hb,Option.some.injEq] at h;subst h
    cases fr with
    |false=>simp [zAp.one,hb] at ho
    |true=>exact zZl hh hb hd
 |d x=>simp only [conv.one,Option.some.injEq] at h;subst h;cases hd with|d _ _ hd=>exact hd
 |tt=>simp only [conv.one,Option.some.injEq] at h;subst h;cases hd;exact .bool _
 |ff=>simp only [conv.one,Option.some.injEq] at h;subst h;cases hd;exact .bool _
 |nil=>simp only [conv.one,Option.some.injEq] at h;subst h;cases hd;exact .emp _ _
 |agg c=>simp [conv.one] at h
 |tup c=>simp [conv.one] at h
 |ptr b i j=>simp [conv.one] at h
 |win b lo n c=>simp [conv.one] at h
 |fn f c=>simp [conv.one] at h
 |dead=>simp [conv.one] at h
omit hh in
theorem zFr {c:List AV} {ds:List D} (h:conv.cells hp c=some ds):ds.length=c.length/\ ∀ (i:Nat) (d:D),ds[i]?=some d->∃ x,c[i]?=some x/\conv.one hp x=some d/\ (zAp.cells hp c=[]->zAp.one hp x=[]):=by
 induction c generalizing ds with
 |nil=>simp only [conv.cells,Option.some.injEq] at h;subst h;simp
 |cons x r ih=>
  simp only [conv.cells] at h
  cases h1:conv.one hp x with
  |none=>simp [h1] at h
  |some d0=>
   cases h2:conv.cells hp r with
   |none=>simp [h1,h2] at h
   |some ds0=>
    simp only [h1,h2,Option.bind_some,Option.map_some,Option.some.injEq] at h;subst h;obtain ⟨e1,e2⟩:=ih h2;refine ⟨by simp [e1],fun i d hi=>?_⟩
    cases i with
    |zero=>
     simp only [List.getElem?_cons_zero,Option.some.injEq] at hi⊢;subst hi;exact ⟨x,rfl,h1,fun ho=>by simp only [zAp.cells,List.append_eq_nil_iff] at ho;exact ho.1⟩
    |succ i=>
     obtain ⟨y,g1,g2,g3⟩:=e2 i d (by simpa using hi);exact ⟨y,by simpa using g1,g2,fun ho=>by simp only [zAp.cells,List.append_eq_nil_iff] at ho;exact g3 ho.2⟩
theorem yAg {x:AV} {d:D} {v:Value} (h:conv.cap1 hp x=some d) (hd:DenA M ι x v):DenD M d v:=by
 cases x with
 |ptr b i j=>
  simp only [conv.cap1] at h
  cases hb:hp b with
  |none=>simp [hb] at h
  |some B=>
   cases B with
   |row l sz fr=>simp [hb] at h
   |box c fr=>
    cases fr with
    |false=>simp [hb] at h
    |true=>
     simp only [hb] at h
     cases hi:Nat.beq i 0 with
     |false=>simp [hi] at h
     |true=>
      have:=Nat.eq_of_beq_eq_true hi;subst this
      cases hp1:conv.pures c with
      |none=>simp [hp1] at h
      |some ds=>
       simp only [hi,hp1,cond_true,Option.map_some,Option.some.injEq] at h;subst h
       cases hd with
       |ptr _ _ _ L hL=>
        obtain ⟨_,cs,Ty,hheap,hsz,a1,a2,a3,a5⟩:=hh.at_ b _ L hb hL;obtain ⟨g1,g2⟩:=yKm hp1;rw [show 0*L.sz+j=0+j by omega]
        refine .dp _ _ _ _ (fun k=>(cs[k]?).getD undef) (fun k d hk=>?_) fun k d hk=>?_
        ·obtain ⟨x,h1,h2⟩:=g2 k d hk;obtain ⟨v,e1,e2⟩:=a3.den k x h1;simp only [Nat.zero_add,e1,Option.getD_some];exact a5.1 rfl _ _ (List.getElem?_eq_some_iff.1 h1).1 e1
        ·obtain ⟨x,h1,h2⟩:=g2 k d hk;obtain ⟨v,e1,e2⟩:=a3.den k x h1
         simpa [e1] using den_pure1 h2 e2
       |ptrL _ _ _ _ hL=>rw [(hh.dom b).2 hL] at hb;cases hb
 |d x=>simp only [conv.cap1,Option.some.injEq] at h;subst h;cases hd with|d _ _ hd=>exact hd
 |tt=>simp only [conv.cap1,Option.some.injEq] at h;subst h;cases hd;exact .bool _
 |ff=>simp only [conv.cap1,Option.some.injEq] at h;subst h;cases hd;exact .bool _
 |nil=>simp [conv.cap1] at h
 |win b lo n c=>simp [conv.cap1] at h
 |agg c=>simp [conv.cap1] at h
 |tup c=>simp [conv.cap1] at h
 |own b=>simp [conv.cap1] at h
 |fn f c=>simp [conv.cap1] at h
 |dead=>simp [conv.cap1] at h
theorem yMw {c:List AV} {ds:List D} (h:conv.caps hp c=some ds):ds.length=c.length/\ ∀ (i:Nat) (d:D),ds[i]?=some d->∃ x,c[i]?=some x/\ ∀ v,DenA M ι x v->DenD M d v:=by
 induction c generalizing ds with
 |nil=>simp only [conv.caps,Option.some.injEq] at h;subst h;simp
 |cons x r ih=>
  simp only [conv.caps] at h
  cases h1:conv.cap1 hp x with
  |none=>simp [h1] at h
  |some d0=>
   cases h2:conv.caps hp r with
   |none=>simp [h1,h2] at h
   |some ds0=>
    simp only [h1,h2,Option.bind_some,Option.map_some,Option.some.injEq] at h;subst h;obtain ⟨e1,e2⟩:=ih h2;refine ⟨by simp [e1],fun i d hi=>?_⟩
    cases i with
    |zero=>simp only [List.getElem?_cons_zero,Option.some.injEq] at hi⊢;subst hi;exact ⟨x,rfl,fun v hv=>yAg hh h1 hv⟩
    |succ i=>simpa using e2 i d (by simpa using hi)
theorem zSr {x:AV} {d:D} {v:Value} (h:conv hp x=some d) (ho:zAp hp x=[]) (hd:DenA M ι x v):DenD M d v:=by
 cases x with
 |own b=>exact zDb hh (x:=.own b) h (by simpa [zAp] using ho) hd
 |d x=>exact zDb hh (x:=.d x) h rfl hd
 |tt=>exact zDb hh (x:=.tt) h rfl hd
 |ff=>exact zDb hh (x:=.ff) h rfl hd
 |nil=>exact zDb hh (x:=.nil) h rfl hd
 |agg c=>
  simp only [conv] at h
  cases hc:conv.cells hp c with
  |none=>simp [hc] at h
  |some ds=>
   simp only [hc,Option.map_some,Option.some.injEq] at h;subst h;obtain ⟨vs,rfl,hs,hdv⟩:=zFk hd;obtain ⟨e1,e2⟩:=zFr hc
   refine .agg _ _ (by omega) fun i d v h1 h2=>?_
   obtain ⟨x,g1,g2,g3⟩:=e2 i d h1;exact zDb hh g2 (g3 (by simpa [zAp] using ho)) (hdv i x v g1 h2)
 |fn f c=>
  simp only [conv] at h
  cases hc:conv.caps hp c with
  |none=>simp [hc] at h
  |some ds=>
   simp only [hc,Option.map_some,Option.some.injEq] at h;subst h;obtain ⟨e1,e2⟩:=yMw hh hc
   cases hd with
   |fn _ _ vs hl hdv=>
    refine .fn _ _ _ (by omega) fun i d v h1 h2=>?_
    obtain ⟨x,g1,g2⟩:=e2 i d h1;exact g2 v (hdv i x v g1 h2)
 |tup c=>simp [conv] at h
 |ptr b i j=>simp [conv] at h
 |win b lo n c=>simp [conv] at h
 |dead=>simp [conv] at h
end
theorem z4l {M:Mem} {ι:Inj} {c:List D} {vs:Array Value} (hd:∀ (i:Nat) (d:D) (v:Value),c[i]?=some d->vs[i]?=some v->DenD M d v):
  ∀ (i:Nat) (x:AV) (v:Value),(c.map .d)[i]?=some x->vs[i]?=some v->DenA M ι x v:=by
 intro i x v h1 h2;rw [List.getElem?_map] at h1
 cases hc:c[i]? with
 |none=>simp [hc] at h1
 |some d=>
  simp only [hc,Option.map_some,Option.some.injEq] at h1;subst h1;exact .d _ _ (hd i d v hc h2)
theorem zVf {M:Mem} {ι:Inj} {d:D} {v:Value} (h:DenD M d v):DenA M ι (ofD.one d) v:=by
 cases d with
 |agg c=>
  cases h with
  |agg _ vs hl hd=>exact .agg _ _ (by simpa using hl) (z4l hd)
 |int k n=>exact .d _ _ h
 |bool b=>exact .d _ _ h
 |str s=>exact .d _ _ h
 |lst l=>exact .d _ _ h
 |dp c j=>exact .d _ _ h
 |fn f c=>exact .d _ _ h
 |nilp=>exact .d _ _ h
 |unk=>exact .d _ _ h
 |tup c=>exact .d _ _ h
theorem z0n {M:Mem} {ι:Inj} {d:D} {v:Value} (h:DenD M d v):DenA M ι (ofD d) v:=by
 cases d with
 |agg c=>
  cases h with
  |agg _ vs hl hd=>exact .agg _ _ (by simpa using hl) (z4l hd)
 |tup c=>
  cases h with
  |tup _ vs hl hd=>
   refine .tup _ _ (by simpa using hl) fun i x v h1 h2=>?_
   rw [List.getElem?_map] at h1
   cases hc:c[i]? with
   |none=>simp [hc] at h1
   |some d=>
    simp only [hc,Option.map_some,Option.some.injEq] at h1;subst h1;exact zVf (hd i d v hc h2)
 |int k n=>exact .d _ _ h
 |bool b=>exact .d _ _ h
 |str s=>exact .d _ _ h
 |lst l=>exact .d _ _ h
 |dp c j=>exact .d _ _ h
 |fn f c=>exact .d _ _ h
 |nilp=>exact .d _ _ h
 |unk=>exact .d _ _ h
theorem yFg {M M':Mem} {d:D} {v:Value} (hs:scalar d=true) (h:DenD M d v):DenD M' d v:=by
 have one:∀ (d:D) (v:Value),scalar.one d=true->DenD M d v->DenD M' d v:=by
  intro d v hs h
  cases h<;>simp [scalar.one] at hs
  ·exact .int _ _
  ·exact .bool _
  ·exact .str _
 have all:∀ (c:List D),scalar.all c=true->∀ d∈c,scalar.one d=true:=by
  intro c
  induction c with
  |nil=>intro _ d hd;cases hd
  |cons x r ih=>
   intro h d hd;simp only [scalar.all] at h
   cases hx:scalar.one x with
   |false=>simp [hx] at h
   |true=>
    simp only [hx,cond_true] at h
    cases hd with
    |head=>exact hx
    |tail _ hd=>exact ih h d hd
 cases h with
 |int k n=>exact .int _ _
 |bool b=>exact .bool _
 |str s=>exact .str _
 |agg c vs hl hd=>exact .agg c vs hl fun i d v h1 h2=>one d v (all c hs d (List.mem_of_getElem? h1)) (hd i d v h1 h2)
 |tup c vs hl hd=>exact .tup c vs hl fun i d v h1 h2=>one d v (all c hs d (List.mem_of_getElem? h1)) (hd i d v h1 h2)
 |emp a c=>simp [scalar] at hs
 |lst l b off cap sz val hl h1 h2 h3=>simp [scalar] at hs
 |dp c j b off val h1 h2=>simp [scalar] at hs
 |fn f c vs hl hd=>simp [scalar] at hs
 |nilp=>simp [scalar] at hs
 |unk v=>simp [scalar] at hs
end Go.Lk
