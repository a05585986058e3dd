/-
  What is proved here: what functions of the program compute, and what follows; no condition beyond each theorem's own.
-/
import Derived.Test.YtaofmndhdmkgkaaGreatGAa
import Derived.Laws.StructEq
set_option linter.unusedSimpArgs false
set_option linter.unusedVariables false
set_option linter.unnecessarySimpa false
set_option linter.unusedSectionVars false
namespace Go.Lk
open Go Go.RowKit
def Post (own:Nat->Prop) (M:Mem) (ι:Inj) (hp:Nat->Option Blk) (w:World) (e:Eff) (v:Value) (w':World):Prop:=
 ∃ (M':Mem) (ι':Inj),zBu own w w'/\Sub M M'/\zBj M' w'/\zCq own M M'/\HRel own M' ι' (e.hp hp) w'/\ (∀ b,Kp e.kl b->ι' b=ι b) /\DenA M' ι' e.av v
def zCr (P:Program) (o:Oper) (ρ:Operand->AV) (hp:Nat->Option Blk) (e:Eff):Prop:=
 ∀ (own:Nat->Prop) (M:Mem) (ι:Inj) (a:Act) (w:World),(∀ c,w.heap.size<=c->own c)->zBj M w->HRel own M ι hp w->(∀ x,DenA M ι (ρ x) (a.eval x))->
  o.wp P a w (fun a' w'=>∃ v,a'=a.put o.dst v/\Post own M ι hp w e v w') (fun _ _ _=>False)
theorem Sub.refl (M:Mem):Sub M M:=fun _ _ _ h=>h
theorem Sub.trans {M M' M'':Mem} (h:Sub M M') (h':Sub M' M''):Sub M M'':=fun _ _ _ k=>h' _ _ _ (h _ _ _ k)
theorem zCq.refl (own:Nat->Prop) (M:Mem):zCq own M M:=fun _ _ _ h=>.inl h
theorem zCq.trans {own:Nat->Prop} {M M' M'':Mem} (h:zCq own M M') (h':zCq own M' M''):zCq own M M'':=fun b o v k=>(h' b o v k).elim (h b o v) .inr
theorem zBu.refl (own:Nat->Prop) (w:World):zBu own w w:=⟨rfl,rfl,rfl,Nat.le_refl _,fun _ _=>rfl⟩
theorem zBu.trans {own:Nat->Prop} {a b c:World} (h:zBu own a b) (h':zBu own b c):zBu own a c:=
 ⟨h'.os.trans h.os,h'.tape.trans h.tape,h'.output.trans h.output,Nat.le_trans h.size h'.size,fun x hx=>(h'.block x hx).trans (h.block x hx)⟩
theorem yEm {own:Nat->Prop} {M:Mem} {ι:Inj} {hp:Nat->Option Blk} {w:World} {av:AV} {v:Value} (ha:zBj M w) (hh:HRel own M ι hp w) (hd:DenA M ι av v):Post own M ι hp w ⟨av,[],none⟩ v w:=
 ⟨M,ι,.refl _ _,.refl _,ha,.refl _ _,hh,fun _ _=>rfl,hd⟩
theorem opSem_val {P:Program} {o:Oper} {ρ:Operand->AV} {hp:Nat->Option Blk} {av:AV}
  (h:∀ (own:Nat->Prop) (M:Mem) (ι:Inj) (a:Act) (w:World),zBj M w->HRel own M ι hp w->(∀ x,DenA M ι (ρ x) (a.eval x))->∃ v,(execOp a.eval o).run P w=.ok (.value v) w/\DenA M ι av v):
  zCr P o ρ hp ⟨av,[],none⟩:=by
 intro own M ι a w _ ha hh hρ;obtain ⟨v,hr,hd⟩:=h own M ι a w ha hh hρ;unfold Oper.wp;rw [hr,Oper.upon_value];exact ⟨v,rfl,yEm ha hh hd⟩
theorem force_out {v:AV} {K:AV->Prop} (h:force v K):K v/\v≠.dead:=by
 cases v<;>simp_all [force]
theorem bcase_out {b:Bool} {A B:Prop} (h:zJy b A B):(b=true/\A) \/ (b=false/\B):=by
 replace h:=h.out
 cases b<;>simp_all
theorem wrapK_out {k:IntKind} {n:Int} {K:Int->Prop} (h:z3u k n K):K (k.wrap n):=h.out
theorem zBh {c K:Prop} (h:zEr c K):c/\K:=h.out
theorem zRl {l:List (List D)} {i:Nat} {K:List D->Prop} (h:zZa l i K):∃ e,l[i]?=some e/\K e:=h.out
theorem zKg {i:Int} {n:Nat} {K:Nat->Prop} (h:idxK i n K):0<=i/\i<n/\K i.toNat:=h.out
theorem zJp {n b:Nat} {K:Prop} (h:zTi n b K):n*b<=35184372088832/\n<=35184372088832/\K:=h.out
theorem yFw {lo hi:Option Int} {n c:Nat} {K:Nat->Nat->Prop} (h:winK lo hi n c K):0<=lo.getD 0/\lo.getD 0<=hi.getD n/\hi.getD n<=c/\K (lo.getD 0).toNat (hi.getD n).toNat:=h.out
theorem zNa {lo hi:Option Int} {n:Nat} {K:Nat->Nat->Prop} (h:zTb lo hi n K):
  0<=lo.getD 0/\lo.getD 0<=hi.getD n/\hi.getD n<=n/\K (lo.getD 0).toNat (hi.getD n).toNat:=h.out
theorem yCg {q:Bool} {k:IntKind} {a b:Int} {K:Int->Prop} (h:divK q k a b K):b≠0/\K (if q then k.wrap (a.tdiv b) else a.tmod b):=h.out
theorem zIv {v:AV} {K:Bool->Prop} (h:zUo v K):∃ b,K b/\ ∀ (M:Mem) (ι:Inj) (u:Value),DenA M ι v u->u=.bool b:=by
 unfold zUo at h
 split at h
 ·rename_i b;refine ⟨b,h,fun M ι u hd=>?_⟩
  cases hd with
  |d _ _ hd=>cases hd;rfl
 ·exact ⟨true,h,fun M ι u hd=>by cases hd;rfl⟩
 ·exact ⟨false,h,fun M ι u hd=>by cases hd;rfl⟩
 ·exact h.elim
theorem den_int {M:Mem} {ι:Inj} {k:IntKind} {n:Int} {v:Value} (h:DenA M ι (.d (.int k n)) v):v=.int k n:=by
 cases h with
 |d _ _ h=>cases h;rfl
theorem den_str {M:Mem} {ι:Inj} {s:ByteArray} {v:Value} (h:DenA M ι (.d (.str s)) v):v=.string s:=by
 cases h with
 |d _ _ h=>cases h;rfl
theorem den_bool {M:Mem} {ι:Inj} {s:Bool} {v:Value} (h:DenA M ι (.d (.bool s)) v):v=.bool s:=by
 cases h with
 |d _ _ h=>cases h;rfl
section
variable {P:Program}
theorem yQk {op:BinOp} {k:IntKind} {a b:Int} {K:AV->Prop} (h:intA op k a b K) (t:TypeId):
  ∃ d:D,K (.d d) /\ (∀ (x y:Operand) (w:World),(do eqGuard op t x y (.int k a) (.int k b);binOp op t (.int k a) (.int k b):Sem Value).run P w=.ok (match d with| .int k n=>.int k n| .bool b=>.bool b|_=>undef) w) /\ ((∃ n,d=.int k n) \/ ∃ b,d=.bool b):=by
 unfold intA at h
 cases op<;>simp only at h
 case add=>exact ⟨_,wrapK_out h,by simp [eqGuard,binOp,Op.intArith],.inl ⟨_,rfl⟩⟩
 case sub=>exact ⟨_,wrapK_out h,by simp [eqGuard,binOp,Op.intArith],.inl ⟨_,rfl⟩⟩
 case mul=>exact ⟨_,wrapK_out h,by simp [eqGuard,binOp,Op.intArith],.inl ⟨_,rfl⟩⟩
 case quo=>
  obtain ⟨h1,h2⟩:=yCg h;exact ⟨_,h2,by simp [eqGuard,binOp,Op.intDiv,h1],.inl ⟨_,rfl⟩⟩
 case rem=>
  obtain ⟨h1,h2⟩:=yCg h;exact ⟨_,h2,by simp [eqGuard,binOp,Op.intDiv,h1],.inl ⟨_,rfl⟩⟩
 case and=>exact ⟨_,h,by simp [eqGuard,binOp,Op.intBits,zIh],.inl ⟨_,rfl⟩⟩
 case or=>exact ⟨_,h,by simp [eqGuard,binOp,Op.intBits,zIh],.inl ⟨_,rfl⟩⟩
 case xor=>exact ⟨_,h,by simp [eqGuard,binOp,Op.intBits,zIh],.inl ⟨_,rfl⟩⟩
 case andNot=>exact ⟨_,h,by simp [eqGuard,binOp,Op.intBits,zIh],.inl ⟨_,rfl⟩⟩
 case eql=>exact ⟨_,h,by intro x y w;simp [eqGuard,binOp,Op.intCmp];rw [Bool.eq_iff_iff];simp,.inr ⟨_,rfl⟩⟩
 case neq=>exact ⟨_,h,by intro x y w;simp [eqGuard,binOp,Op.intCmp];rw [Bool.eq_iff_iff];simp,.inr ⟨_,rfl⟩⟩
 case lss=>exact ⟨_,h,by intro x y w;simp [eqGuard,binOp,Op.intCmp],.inr ⟨_,rfl⟩⟩
 case leq=>exact ⟨_,h,by intro x y w;simp [eqGuard,binOp,Op.intCmp],.inr ⟨_,rfl⟩⟩
 case gtr=>exact ⟨_,h,by intro x y w;simp [eqGuard,binOp,Op.intCmp],.inr ⟨_,rfl⟩⟩
 case geq=>exact ⟨_,h,by intro x y w;simp [eqGuard,binOp,Op.intCmp],.inr ⟨_,rfl⟩⟩
theorem yHx {op:BinOp} {k k':IntKind} {a b:Int} {K:AV->Prop} (h:yNy op k a b K) (t:TypeId):
  ∃ n:Int,K (.d (.int k n)) /\ ∀ (x y:Operand) (w:World),(do eqGuard op t x y (.int k a) (.int k' b);binOp op t (.int k a) (.int k' b):Sem Value).run P w=.ok (.int k n) w:=by
 unfold yNy at h
 cases op<;>simp only at h
 case shl=>
  obtain ⟨h1,h2⟩:=zBh h;exact ⟨_,wrapK_out h2,by intro x y w;simp [eqGuard,binOp,Op.shift,show ¬b<0 by omega]⟩
 case shr=>
  obtain ⟨h1,h2⟩:=zBh h;exact ⟨_,h2,by intro x y w;simp [eqGuard,binOp,Op.shift,show ¬b<0 by omega]⟩
theorem ySi {op:BinOp} {a b:ByteArray} {K:AV->Prop} (h:strA op a b K) (t:TypeId):
  ∃ d:D,K (.d d) /\ (∀ (x y:Operand) (w:World),(do eqGuard op t x y (.string a) (.string b);binOp op t (.string a) (.string b):Sem Value).run P w=.ok (match d with| .str s=>.string s| .bool b=>.bool b|_=>undef) w) /\ ((∃ n,d=.str n) \/ ∃ b,d=.bool b):=by
 have hdec:(a.toList==b.toList)=decide (a=b):=by
  rw [ByteArray.toList_eq,ByteArray.toList_eq,Bool.eq_iff_iff];obtain ⟨⟨x⟩⟩:=a;obtain ⟨⟨y⟩⟩:=b;simp
 unfold strA at h
 cases op<;>simp only at h
 case add=>
  obtain ⟨h1,h2⟩:=zBh h;exact ⟨_,h2,by intro x y w;simp [eqGuard,binOp,Op.stringOp];omega,.inl ⟨_,rfl⟩⟩
 case eql=>exact ⟨_,h,by intro x y w;simp [eqGuard,binOp,Op.stringOp,hdec],.inr ⟨_,rfl⟩⟩
 case neq=>exact ⟨_,h,by intro x y w;simp [eqGuard,binOp,Op.stringOp,hdec],.inr ⟨_,rfl⟩⟩
theorem zUn {op:BinOp} {a b:Bool} {K:AV->Prop} (h:yJe op a b K):
  ∃ r:Bool,K (.d (.bool r)) /\ (op=.eql/\r=(a==b) \/op=.neq/\r=!(a==b)):=by
 unfold yJe at h
 cases op<;>simp only at h
 case eql=>exact ⟨_,h,.inl ⟨rfl,rfl⟩⟩
 case neq=>exact ⟨_,h,.inr ⟨rfl,rfl⟩⟩
variable {T:Tab} (hT:zFo P T)
theorem zNk {M:Mem} {ι:Inj} {x:List AV} {vs:Array Value} (hl:vs.size=x.length) (hd:∀ (i:Nat) (a:AV) (v:Value),x[i]?=some a->vs[i]?=some v->DenA M ι a v) (o n:Nat) (h:o+n<=x.length):
  (vs.extract o (o+n)).size=((x.drop o).take n).length/\ ∀ (i:Nat) (a:AV) (v:Value),((x.drop o).take n)[i]?=some a->(vs.extract o (o+n))[i]?=some v->DenA M ι a v:=by
 refine ⟨by simp;omega,fun i a v h1 h2=>?_⟩;rw [List.getElem?_take] at h1
 split at h1
 ·rename_i hi;rw [List.getElem?_drop] at h1;rw [Array.getElem?_extract] at h2
  split at h2
  ·exact hd _ _ _ h1 h2
  ·cases h2
 ·cases h1
include hT in
theorem yKk:∀ (n:Nat) (t:TypeId) (x y:List AV) (K:Bool->Prop),eqA T n t x y K->
  (T t).k.known=true/\ ∃ b,K b/\ ∀ (M:Mem) (ι:Inj) (vs us:Array Value),vs.size=x.length->us.size=y.length->(∀ (i:Nat) (a:AV) (v:Value),x[i]?=some a->vs[i]?=some v->DenA M ι a v)->
   (∀ (i:Nat) (a:AV) (v:Value),y[i]?=some a->us[i]?=some v->DenA M ι a v)->∀ (d:Nat) (w:World),n<=d->
   (Op.equalIn (d+1) t (if (T t).k.agg then .agg vs else vs.getD 0 undef) (if (T t).k.agg then .agg us else us.getD 0 undef)).run P w=.ok b w
 |0,t,x,y,K,h=>by simp [eqA] at h
 |n+1,t,x,y,K,h=>by
  simp only [eqA] at h
  split at h
  ·rename_i k hk;refine ⟨by rw [hk];rfl,?_⟩;have hu:=zOg hT hk
   split at h
   ·rename_i k1 a
    split at h
    ·rename_i k2 b
     cases hb:Nat.beq (zFw k1) (zFw k2) with
     |false=>simp [hb] at h
     |true=>
      simp only [hb,cond_true] at h;have:=zLt hb;subst this;refine ⟨_,h,fun M ι vs us hl hl' hd hd' d w _=>?_⟩;have e1:=den_int (hd 0 _ (vs.getD 0 undef) rfl (by simp [Array.getD,hl]));have e2:=den_int (hd' 0 _ (us.getD 0 undef) rfl (by simp [Array.getD,hl']));simp only [hk,TK.agg,Bool.false_eq_true,if_false];rw [e1,e2,run_equalIn_int w d t k1 k a b hu];rfl
    ·exact h.elim
   ·exact h.elim
  ·rename_i hk;refine ⟨by rw [hk];rfl,?_⟩;have hu:=zOh hT hk
   split at h
   ·rename_i a
    split at h
    ·rename_i b;refine ⟨_,h,fun M ι vs us hl hl' hd hd' d w _=>?_⟩;have e1:=den_str (hd 0 _ (vs.getD 0 undef) rfl (by simp [Array.getD,hl]));have e2:=den_str (hd' 0 _ (us.getD 0 undef) rfl (by simp [Array.getD,hl']));simp only [hk,TK.agg,Bool.false_eq_true,if_false];rw [e1,e2,run_equalIn_string w d t a b hu]
     congr 1
     rw [ByteArray.toList_eq,ByteArray.toList_eq,Bool.eq_iff_iff];obtain ⟨⟨x⟩⟩:=a;obtain ⟨⟨y⟩⟩:=b;simp
    ·exact h.elim
   ·exact h.elim
  ·rename_i hk;refine ⟨by rw [hk];rfl,?_⟩;have hu:=zUg hT hk
   split at h
   ·rename_i a
    split at h
    ·rename_i b;obtain ⟨p,h,hp⟩:=zIv h;obtain ⟨q,h,hq⟩:=zIv h;refine ⟨_,h,fun M ι vs us hl hl' hd hd' d w _=>?_⟩;have e1:=hp M ι _ (hd 0 _ (vs.getD 0 undef) rfl (by simp [Array.getD,hl]));have e2:=hq M ι _ (hd' 0 _ (us.getD 0 undef) rfl (by simp [Array.getD,hl']));simp only [hk,TK.agg,Bool.false_eq_true,if_false];rw [e1,e2,run_equalIn_bool w d t p q hu]
    ·exact h.elim
   ·exact h.elim
  ·rename_i fs hk;refine ⟨by rw [hk];rfl,?_⟩;obtain ⟨F,hu,hF,hkn,hnm⟩:=zJv hT hk
   have hst:P.stoodInHeld t=false:=by
    obtain ⟨_,_,_,_,_,_,_,_,_,_,_,h,_⟩:=(zEe hT (t:=t) (by rw [hk];rfl)).desc;exact h
   have hFo:P.fieldsOf t=F:=by simp [Program.fieldsOf,hu]
   have key:∀ (G:List Field) (K:Bool->Prop),eqA.fields T (fun t x y K=>eqA T n t x y K) (G.map fun f=>(f.offset,f.type)) x y K->(∀ f∈G,f.name≠ "_")->
     ∃ b,K b/\ ∀ (M:Mem) (ι:Inj) (vs us:Array Value),vs.size=x.length->us.size=y.length->(∀ (i:Nat) (a:AV) (v:Value),x[i]?=some a->vs[i]?=some v->DenA M ι a v)->
      (∀ (i:Nat) (a:AV) (v:Value),y[i]?=some a->us[i]?=some v->DenA M ι a v)->∀ (d:Nat) (w:World),n<=d->(Op.eqFields (d+1) vs us G).run P w=.ok b w:=by
    intro G
    induction G with
    |nil=>
     intro K h _;exact ⟨true,h,fun M ι vs us _ _ _ _ d w _=>by simp [Op.eqFields]⟩
    |cons f G ih=>
     intro K h hn;simp only [List.map_cons,eqA.fields] at h
     cases hb:(Nat.ble (f.offset+(T f.type).size) x.length&&Nat.ble (f.offset+(T f.type).size) y.length) with
     |false=>simp [hb] at h
     |true=>
      simp only [hb,cond_true] at h;simp only [Bool.and_eq_true,Nat.ble_eq] at hb;obtain ⟨hk1,b,h,hb1⟩:=yKk n _ _ _ _ h;obtain ⟨c,h,hc1⟩:=ih _ h (fun g hg=>hn g (List.mem_cons_of_mem _ hg));refine ⟨_,h,fun M ι vs us hl hl' hd hd' d w hnd=>?_⟩;obtain ⟨s1,d1⟩:=zNk hl hd f.offset (T f.type).size hb.1;obtain ⟨s2,d2⟩:=zNk hl' hd' f.offset (T f.type).size hb.2;have r:=hb1 M ι _ _ s1 s2 d1 d2 d w hnd;have r2:=hc1 M ι vs us hl hl' hd hd' d w hnd
      have part_eq:∀ (zs:Array Value) (m:Nat),zs.size=m->f.offset+(T f.type).size<=m->((T f.type).k.agg=false->(T f.type).size=1)->
        (part f.type zs f.offset).run P w=.ok (if (T f.type).k.agg then .agg (zs.extract f.offset (f.offset+(T f.type).size)) else (zs.extract f.offset (f.offset+(T f.type).size)).getD 0 undef) w:=by
       intro zs m hz hle h1;simp only [part,Sem.run_bind,zMz hT w hk1,Result.andThen_ok]
       cases hag:(T f.type).k.agg with
       |true=>simp [zBd hT w hk1]
       |false=>
        have:=h1 hag;simp only [Bool.false_eq_true,if_false]
        have hlt:f.offset<zs.size:=by omega
        simp [Array.getElem?_eq_getElem hlt,this,Array.getD,show min (f.offset+1) zs.size-f.offset=1 by omega]
      have one:(T f.type).k.agg=false->(T f.type).size=1:=size_one hT hk1;simp only [Op.eqFields,ne_eq,hn f (List.mem_cons_self ..),not_false_eq_true,if_true,Sem.run_bind,part_eq vs _ hl hb.1 one,part_eq us _ hl' hb.2 one,Result.andThen_ok,r]
      cases b with
      |false=>simp
      |true=>simp [r2]
   obtain ⟨b,h,hb⟩:=key F.toList K (by rw [hF];exact h) hnm;refine ⟨b,h,fun M ι vs us hl hl' hd hd' d w hnd=>?_⟩;obtain ⟨d,rfl⟩:∃ e,d=e+1:=⟨d-1,by omega⟩;have:=hb M ι vs us hl hl' hd hd' d w (by omega);simp only [hk,TK.agg,if_true];rw [run_equalIn_struct w (d+1) t vs us (by rw [hFo];exact hu) hst,hFo];exact this
  ·exact h.elim
end
theorem zDk (b o i:Nat):(⟨b,o,none⟩:Addr).add i=⟨b,o+i,none⟩:=by
 unfold Addr.add
 split
 ·rename_i h;subst h;rfl
 ·rfl
theorem cell_of_heap {w:World} {b:Nat} {cs:Array Value} {T:TypeId} {fr:Nat×Nat} (h:w.heap[b]?=some (.cells cs T fr)) (o:Nat):w.cell? ⟨b,o,none⟩=cs[o]?:=by
 simp [World.cell?,h]
theorem zFt {M:Mem} {ι:Inj} {c:List AV} {v:Value} (h:DenA M ι (.agg c) v):∃ vs:Array Value,v=.agg vs/\vs.size=c.length/\ ∀ (i:Nat) (x:AV) (u:Value),c[i]?=some x->vs[i]?=some u->DenA M ι x u:=by
 cases h with
 |agg _ vs hl hd=>exact ⟨vs,rfl,hl,hd⟩
theorem z8m {M:Mem} {ι:Inj} {c:List AV} {v:Value} (h:DenA M ι (.tup c) v):∃ vs:Array Value,v=.tuple vs/\vs.size=c.length/\ ∀ (i:Nat) (x:AV) (u:Value),c[i]?=some x->vs[i]?=some u->DenA M ι x u:=by
 cases h with
 |tup _ vs hl hd=>exact ⟨vs,rfl,hl,hd⟩
theorem zJg {c:List AV} {K:List AV->Prop}:forceL c K->K c:=by
 induction c generalizing K with
 |nil=>exact id
 |cons x r ih=>intro h;simp only [forceL] at h;have:=(force_out h).1;exact ih this
def yPf (M:Mem) (ι:Inj) (c:List AV) (f:Nat->Option Value):Prop:=∀ (i:Nat) (x:AV),c[i]?=some x->∃ v,f i=some v/\DenA M ι x v
theorem zPx {agg:Bool} {size:Nat} {c:List AV} {j:Nat} {K:AV->Prop} (h:z6o agg size c j K) (h1:agg=false->size=1):
  ∃ av,K av/\j+size<=c.length/\ ∀ (M:Mem) (ι:Inj) (f:Nat->Option Value),yPf M ι c f->
   ∃ g:Nat->Value,(∀ i,i<size->f (j+i)=some (g i)) /\DenA M ι av (if agg then .agg ((List.range size).map g).toArray else g 0):=by
 unfold z6o at h
 cases agg with
 |true=>
  simp only [cond_true] at h
  cases hb:Nat.ble (j+size) c.length with
  |false=>simp [hb] at h
  |true=>
   simp only [hb,cond_true] at h;have hle:=Nat.le_of_ble_eq_true hb;refine ⟨_,zJg h,hle,fun M ι f hf=>?_⟩
   have hg:∀ i,i<size->∃ v,f (j+i)=some v/\DenA M ι (c[j+i]?.getD .dead) v:=fun i hi=>by
    have hlt:j+i<c.length:=by omega
    obtain ⟨v,h1,h2⟩:=hf (j+i) c[j+i] (List.getElem?_eq_getElem hlt);exact ⟨v,h1,by simpa [List.getElem?_eq_getElem hlt] using h2⟩
   refine ⟨fun i=>(f (j+i)).getD undef,fun i hi=>?_,?_⟩
   ·obtain ⟨v,h1,_⟩:=hg i hi;simp [h1]
   ·refine .agg _ _ (by simp;omega) fun i x v hx hv=>?_
    rw [List.getElem?_take] at hx
    split at hx
    ·rename_i hi;rw [List.getElem?_drop] at hx;obtain ⟨u,h1,h2⟩:=hg i hi;simp only [List.getElem?_toArray,List.getElem?_map,List.getElem?_range hi,Option.map_some,Option.some.injEq] at hv;subst hv
     simpa [h1,hx] using h2
    ·cases hx
 |false=>
  simp only [cond_false] at h;unfold getC at h
  split at h
  ·rename_i x hx;refine ⟨x,(force_out h).1,?_,fun M ι f hf=>?_⟩
   ·have:=(List.getElem?_eq_some_iff.1 hx).1
    rw [h1 rfl];omega
   ·obtain ⟨v,e1,e2⟩:=hf j x hx;refine ⟨fun _=>v,fun i hi=>?_,by simpa using e2⟩;rw [h1 rfl] at hi
    obtain rfl:i=0:=by omega
    simpa using e1
  ·exact h.elim
theorem z6p {agg:Bool} {size:Nat} {c:List D} {j:Nat} {K:AV->Prop} (h:yRk agg size c j K) (h1:agg=false->size=1):
  ∃ av,K av/\j+size<=c.length/\ ∀ (M:Mem) (ι:Inj) (f:Nat->Option Value),(∀ (i:Nat) (x:D),c[i]?=some x->∃ v,f i=some v/\DenD M x v)->
   ∃ g:Nat->Value,(∀ i,i<size->f (j+i)=some (g i)) /\DenA M ι av (if agg then .agg ((List.range size).map g).toArray else g 0):=by
 have h':z6o agg size (c.map .d) j K:=by
  unfold yRk at h;unfold z6o
  cases agg with
  |true=>simpa [List.map_drop,List.map_take] using h
  |false=>
   simp only [cond_false] at h⊢;unfold getD at h;unfold getC;simp only [List.getElem?_map]
   split at h
   ·rename_i x hx
    simpa [hx,force] using h
   ·exact h.elim
 obtain ⟨av,k,hl,hd⟩:=zPx h' h1;refine ⟨av,k,by simpa using hl,fun M ι f hf=>hd M ι f fun i x hx=>?_⟩;rw [List.getElem?_map] at hx
 cases hc:c[i]? with
 |none=>simp [hc] at hx
 |some d=>
  simp only [hc,Option.map_some,Option.some.injEq] at hx;subst hx;obtain ⟨v,e1,e2⟩:=hf i d hc;exact ⟨v,e1,.d _ _ e2⟩
section
variable {P:Program} {T:Tab} (hT:zFo P T)
include hT
theorem zMb {t:TypeId} (hk:(T t).k.known=true) (w:World) (b o:Nat) (g:Nat->Value) (h:∀ i,i<(T t).size->w.cell? ⟨b,o+i,none⟩=some (g i)):
  (loadVar t ⟨b,o,none⟩).run P w=.ok (if (T t).k.agg then .agg ((List.range (T t).size).map g).toArray else g 0) w:=by
 simp only [loadVar,Sem.run_bind,zMz hT w hk,Result.andThen_ok]
 cases ha:(T t).k.agg with
 |true=>
  simp only [if_true,Sem.run_bind,zBd hT w hk,Result.andThen_ok];rw [run_loadCells w ⟨b,o,none⟩ (T t).size g (fun j hj=>by rw [zDk];exact h j hj)];rfl
 |false=>
  have h1:=size_one hT hk ha;simp only [Bool.false_eq_true,if_false];have:=h 0 (by omega);simp only [Nat.add_zero] at this;simp [run_load,this]
theorem z5x {t:TypeId} {x:AV} {hp:Nat->Option Blk} {K:AV->Prop} (h:yLz T t x hp K):
  ∃ av,K av/\ ∀ (own:Nat->Prop) (M:Mem) (ι:Inj) (w:World) (v:Value),zBj M w->HRel own M ι hp w->DenA M ι x v->∃ r,(Instr.loadAt t v).run P w=.ok r w/\DenA M ι av r:=by
 unfold yLz at h
 have hk:(T t).k.known=true:=by
  cases hg:(T t).k.known with
  |true=>rfl
  |false=>simp [hg] at h
 simp only [hk,cond_true] at h;have h1:=size_one hT hk;unfold yXa at h
 split at h
 ·rename_i b i j
  split at h
  ·rename_i c fr hb;obtain ⟨hi0,h2⟩:=zBh h;subst hi0;obtain ⟨av,k,hl,hd⟩:=zPx h2 h1;refine ⟨av,k,fun own M ι w v ha hh hv=>?_⟩
   cases hv with
   |ptr _ _ _ L hL=>
    obtain ⟨_,cs,Ty,hheap,hsz,hL1,hL2,hbox,_⟩:=hh.at_ b _ L hb hL;obtain ⟨g,hg,hden⟩:=hd M ι (fun i=>cs[i]?) (fun i x hx=>hbox.den i x hx);refine ⟨_,?_,hden⟩;simp only [Instr.loadAt,Instr.sureAddr,Sem.run_bind,Sem.run_pure,Result.andThen_ok]
    exact zMb hT hk w _ _ g fun i hi=>by rw [cell_of_heap hheap];simpa using hg i hi
   |ptrL _ _ _ _ hL=>rw [(hh.dom b).2 hL] at hb;cases hb
  ·rename_i l sz fr hb;obtain ⟨e,he,h⟩:=zRl h;obtain ⟨av,k,hl,hd⟩:=z6p h h1;refine ⟨av,k,fun own M ι w v ha hh hv=>?_⟩
   cases hv with
   |ptr _ _ _ L hL=>
    obtain ⟨_,cs,Ty,hheap,hsz,hL1,hL2,hle,hrow,_⟩:=hh.at_ b _ L hb hL;obtain ⟨g,hg,hden⟩:=hd M ι (fun j=>cs[i*sz+j]?) (fun j x hx=>hrow.den i j e x he hx);refine ⟨_,?_,hden⟩;simp only [Instr.loadAt,Instr.sureAddr,Sem.run_bind,Sem.run_pure,Result.andThen_ok];subst hL1
    exact zMb hT hk w _ _ g fun i hi=>by rw [cell_of_heap hheap];simpa [Nat.add_assoc] using hg i hi
   |ptrL _ _ _ _ hL=>rw [(hh.dom b).2 hL] at hb;cases hb
  ·exact h.elim
 ·rename_i e j;obtain ⟨av,k,hl,hd⟩:=z6p h h1;refine ⟨av,k,fun own M ι w v ha hh hv=>?_⟩
  cases hv with
  |d _ _ hv=>
   cases hv with
   |dp _ _ b off val hm hdd=>
    obtain ⟨g,hg,hden⟩:=hd M ι (fun i=>w.cell? ⟨b,off+i,none⟩) (fun i x hx=>⟨val i,ha _ _ _ (hm i x hx),hdd i x hx⟩);refine ⟨_,?_,hden⟩;simp only [Instr.loadAt,Instr.sureAddr,Sem.run_bind,Sem.run_pure,Result.andThen_ok]
    exact zMb hT hk w _ _ g fun i hi=>by simpa [Nat.add_assoc] using hg i hi
 ·exact h.elim
theorem yPo {t:TypeId} {op:BinOp} {x y:AV} {K:AV->Prop} (h:binA T t op x y K):
  ∃ av,K av/\ ∀ (M:Mem) (ι:Inj) (v u:Value),DenA M ι x v->DenA M ι y u->∀ (X Y:Operand) (w:World),∃ r,(do eqGuard op t X Y v u;binOp op t v u:Sem Value).run P w=.ok r w/\DenA M ι av r:=by
 have boolCase:∀ (a b:Bool) (r:Bool),(T t).k=.bool->(op=.eql/\r=(a==b) \/op=.neq/\r=!(a==b))->∀ (X Y:Operand) (w:World),(do eqGuard op t X Y (.bool a) (.bool b);binOp op t (.bool a) (.bool b):Sem Value).run P w=.ok (.bool r) w:=by
  intro a b r hk hr X Y w;have hu:=zUg hT hk
  rcases hr with ⟨rfl,rfl⟩|⟨rfl,rfl⟩
  ·simp [eqGuard,binOp,Op.equal,Op.maxDepth,run_equalIn_bool w 9999 t a b hu]
  ·simp [eqGuard,binOp,Op.equal,Op.maxDepth,run_equalIn_bool w 9999 t a b hu]
 unfold binA at h
 split at h
 ·rename_i k a
  split at h
  ·rename_i k' b
   cases hs:yLq op with
   |true=>
    simp only [hs,cond_true] at h;obtain ⟨n,hK,hr⟩:=yHx (P:=P) (k':=k') h t;refine ⟨_,hK,fun M ι v u hv hu X Y w=>?_⟩;rw [den_int hv,den_int hu];exact ⟨_,hr X Y w,.d _ _ (.int _ _)⟩
   |false=>
    simp only [hs,cond_false] at h
    cases hkk:Nat.beq (zFw k) (zFw k') with
    |false=>simp [hkk] at h
    |true=>
     simp only [hkk,cond_true] at h;have:=zLt hkk;subst this;obtain ⟨d,hK,hr,hd⟩:=yQk (P:=P) h t;refine ⟨_,hK,fun M ι v u hv hu X Y w=>?_⟩;rw [den_int hv,den_int hu];refine ⟨_,hr X Y w,?_⟩
     rcases hd with ⟨n,rfl⟩|⟨b,rfl⟩
     ·exact .d _ _ (.int _ _)
     ·exact .d _ _ (.bool _)
  ·exact h.elim
 ·rename_i a
  split at h
  ·rename_i b;obtain ⟨d,hK,hr,hd⟩:=ySi (P:=P) h t;refine ⟨_,hK,fun M ι v u hv hu X Y w=>?_⟩;rw [den_str hv,den_str hu];refine ⟨_,hr X Y w,?_⟩
   rcases hd with ⟨n,rfl⟩|⟨b,rfl⟩
   ·exact .d _ _ (.str _)
   ·exact .d _ _ (.bool _)
  ·exact h.elim
 ·rename_i a
  split at h
  ·rename_i hkb;obtain ⟨b,h,hbo⟩:=zIv h;obtain ⟨r,hK,hr⟩:=zUn h;refine ⟨_,hK,fun M ι v u hv hu X Y w=>?_⟩;rw [den_bool hv,hbo M ι u hu];exact ⟨_,boolCase a b r hkb hr X Y w,.d _ _ (.bool _)⟩
  ·exact h.elim
 ·split at h
  ·rename_i hkb;obtain ⟨b,h,hbo⟩:=zIv h;obtain ⟨r,hK,hr⟩:=zUn h;refine ⟨_,hK,fun M ι v u hv hu X Y w=>?_⟩
   cases hv with
   |tt=>
    rw [hbo M ι u hu];exact ⟨_,boolCase true b r hkb hr X Y w,.d _ _ (.bool _)⟩
  ·exact h.elim
 ·split at h
  ·rename_i hkb;obtain ⟨b,h,hbo⟩:=zIv h;obtain ⟨r,hK,hr⟩:=zUn h;refine ⟨_,hK,fun M ι v u hv hu X Y w=>?_⟩
   cases hv with
   |ff=>
    rw [hbo M ι u hu];exact ⟨_,boolCase false b r hkb hr X Y w,.d _ _ (.bool _)⟩
  ·exact h.elim
 ·rename_i c
  split at h
  ·rename_i c'
   have fin:∀ (K':Bool->Prop),(bif (T t).k.agg then eqA T 9999 t c c' K' else False)->∃ b,K' b/\ ∀ (M:Mem) (ι:Inj) (v u:Value),DenA M ι (.agg c) v->DenA M ι (.agg c') u->∀ (X Y:Operand) (w:World),
     ((eqGuard op t X Y v u).run P w=.ok () w/\ ∃ vs us,v=.agg vs/\u=.agg us/\ (Op.equalIn 10000 t (.agg vs) (.agg us)).run P w=.ok b w):=by
    intro K' h
    have hagg:(T t).k.agg=true:=by
     cases hg:(T t).k.agg with
     |true=>rfl
     |false=>simp [hg] at h
    simp only [hagg,cond_true] at h;obtain ⟨hk,b,hK,hd⟩:=yKk hT _ _ _ _ _ h;refine ⟨b,hK,fun M ι v u hv hu X Y w=>?_⟩;obtain ⟨vs,rfl,s1,d1⟩:=zFt hv;obtain ⟨us,rfl,s2,d2⟩:=zFt hu;have:=hd M ι vs us s1 s2 d1 d2 9999 w (Nat.le_refl _);simp only [hagg,if_true] at this;obtain ⟨_,_,_,_,_,_,_,_,_,_,_,_,hg,_⟩:=(zEe hT hk).desc;exact ⟨run_eqGuard_agg w op t X Y vs us hg,vs,us,rfl,rfl,this⟩
   split at h
   ·obtain ⟨b,hK,hd⟩:=fin _ h;refine ⟨_,hK,fun M ι v u hv hu X Y w=>?_⟩;obtain ⟨hg,vs,us,rfl,rfl,he⟩:=hd M ι v u hv hu X Y w;exact ⟨_,by rw [Sem.run_bind,hg,Result.andThen_ok,run_eql_struct,he];rfl,.d _ _ (.bool _)⟩
   ·obtain ⟨b,hK,hd⟩:=fin _ h;refine ⟨_,hK,fun M ι v u hv hu X Y w=>?_⟩;obtain ⟨hg,vs,us,rfl,rfl,he⟩:=hd M ι v u hv hu X Y w;exact ⟨_,by rw [Sem.run_bind,hg,Result.andThen_ok,run_neq_struct,he];rfl,.d _ _ (.bool _)⟩
   ·exact h.elim
  ·exact h.elim
 ·exact h.elim
end
section
variable {P:Program} {T:Tab} (hT:zFo P T)
include hT
theorem zLk {s:TypeId} {f:Nat} {K:Nat->TypeId->Prop} (h:zPd T s f K):
  ∃ (F:Array Field) (fl:Field),P.underlying s=some (.struct F) /\F[f]?=some fl/\ (T fl.type).k.known=true/\K fl.offset fl.type:=by
 unfold zPd at h
 split at h
 ·rename_i fs hk;obtain ⟨F,hu,hF,hkn,_⟩:=zJv hT hk
  split at h
  ·rename_i o t ht;rw [<-hF,List.getElem?_map] at ht
   cases hf:F.toList[f]? with
   |none=>simp [hf] at ht
   |some fl=>
    simp only [hf,Option.map_some,Option.some.injEq,Prod.mk.injEq] at ht;obtain ⟨rfl,rfl⟩:=ht;refine ⟨F,fl,hu,by simpa using hf,hkn (fl.offset,fl.type) ?_,h⟩;rw [<-hF];exact List.mem_map.2 ⟨fl,List.mem_of_getElem? hf,rfl⟩
  ·exact h.elim
 ·exact h.elim
theorem zXb {b o:Nat} {f:Field} (hz:(T f.type).k.known=true) (w:World):(fieldPlace ⟨b,o,none⟩ f).run P w=.ok ⟨b,o+f.offset,none⟩ w:=by
 have:=zFj hT hz;simp only [fieldPlace,Sem.run_bind,zBd hT w hz,Result.andThen_ok];rw [if_neg (by omega),Sem.run_pure,zDk]
theorem zVi {s:TypeId} {f:Nat} {F:Array Field} {fl:Field} (hu:P.underlying s=some (.struct F)) (hf:F[f]?=some fl) (hz:(T fl.type).k.known=true) (b o:Nat) (w:World):
  (Instr.fieldAt s (.pointer (some ⟨b,o,none⟩)) f).run P w=.ok (.pointer (some ⟨b,o+fl.offset,none⟩)) w:=by
 simp [Instr.fieldAt,run_underlying hu,hf,Instr.sureAddr,zXb hT hz]
theorem zYc {t:TypeId} {x i:AV} {hp:Nat->Option Blk} {K:AV->Prop} (h:zRp T t x i hp K):
  ∃ av,K av/\ ∀ (own:Nat->Prop) (M:Mem) (ι:Inj) (w:World) (v u:Value),HRel own M ι hp w->DenA M ι x v->DenA M ι i u->∃ r,(Instr.indexAt t v u).run P w=.ok r w/\DenA M ι av r:=by
 unfold zRp at h
 split at h
 ·rename_i ik n
  split at h
  ·rename_i el hk;obtain ⟨hu,hke⟩:=zBi hT hk
   split at h
   ·rename_i l;obtain ⟨h0,h1,h⟩:=zKg h;obtain ⟨e,he,h⟩:=zRl h
    cases hs:Nat.beq e.length (T el).size with
    |false=>simp [hs] at h
    |true=>
     simp only [hs,cond_true] at h;have hsz:=Nat.eq_of_beq_eq_true hs;refine ⟨_,h,fun own M ι w v u hh hv hi=>?_⟩;rw [den_int hi]
     cases hv with
     |d _ _ hv=>
      cases hv with
      |emp a c=>simp at h1;omega
      |lst _ b off cap sz val hl hs hm hd=>
       have e1:=hs _ _ he;refine ⟨.pointer (some ⟨b,off+n.toNat*sz+0,none⟩),?_,.d _ _ (.dp _ _ _ _ (val n.toNat) (fun j d hj=>?_) fun j d hj=>?_)⟩
       ·simp [Instr.indexAt,asIntOf,run_underlying hu,h0,h1,zBd hT w hke,zDk,<-hsz,e1]
       ·exact hm _ j e d he hj
       ·exact hd _ j e d he hj
   ·rename_i b
    split at h
    ·rename_i l sz fr hb
     cases hs:Nat.beq sz (T el).size with
     |false=>simp [hs] at h
     |true=>
      simp only [hs,cond_true] at h;have hsz:=Nat.eq_of_beq_eq_true hs;obtain ⟨h0,h1,h⟩:=zKg h;refine ⟨_,h,fun own M ι w v u hh hv hi=>?_⟩;rw [den_int hi]
      cases hv with
      |own _ L cap hL hn hc=>
       obtain ⟨_,cs,Ty,hheap,hsz2,hL1,hL2,hle,hrow,_⟩:=hh.at_ b _ L hb hL;refine ⟨.pointer (some ⟨L.blk,n.toNat*L.sz+0,none⟩),?_,.ptr b n.toNat 0 L hL⟩;simp [Instr.indexAt,asIntOf,run_underlying hu,h0,<-hL2,h1,zBd hT w hke,zDk,<-hL1,<-hsz]
      |ownE _ a hL=>
       obtain ⟨sz',fr',hb'⟩:=hh.virt b hL;rw [hb] at hb'
       cases hb'
       simp at h1;omega
      |ownL _ _ hL=>rw [(hh.dom b).2 hL] at hb;cases hb
    ·exact h.elim
   ·rename_i b lo m c0
    split at h
    ·rename_i l sz fr hb
     cases hs:Nat.beq sz (T el).size with
     |false=>simp [hs] at h
     |true=>
      simp only [hs,cond_true] at h;have hsz:=Nat.eq_of_beq_eq_true hs;obtain ⟨h0,h1,h⟩:=zKg h;refine ⟨_,h,fun own M ι w v u hh hv hi=>?_⟩;rw [den_int hi]
      cases hv with
      |win _ _ _ _ L k base hL hn hc hk hbase=>
       obtain ⟨_,cs,Ty,hheap,hsz2,hL1,hL2,hle,hrow,_⟩:=hh.at_ b _ L hb hL
       have hbs:base=lo*L.sz:=hbase.resolve_right fun h=>by omega
       subst hbs;refine ⟨.pointer (some ⟨L.blk,(lo+n.toNat)*L.sz+0,none⟩),?_,.ptr b (lo+n.toNat) 0 L hL⟩;simp [Instr.indexAt,asIntOf,run_underlying hu,h0,h1,zBd hT w hke,zDk,<-hL1,<-hsz,Nat.add_mul]
      |winL _ _ _ _ _ hL=>rw [(hh.dom b).2 hL] at hb;cases hb
    ·exact h.elim
   ·exact h.elim
  ·rename_i m e hk;obtain ⟨hu,hke⟩:=zXq hT hk
   split at h
   ·rename_i b i0 j
    split at h
    ·rename_i B hb;obtain ⟨h0,h1,h⟩:=zKg h;refine ⟨_,h,fun own M ι w v u hh hv hi=>?_⟩;rw [den_int hi]
     cases hv with
     |ptr _ _ _ L hL=>
      refine ⟨.pointer (some ⟨L.blk,i0*L.sz+(j+n.toNat*(T e).size),none⟩),?_,.ptr b i0 _ L hL⟩;simp [Instr.indexAt,asIntOf,run_underlying hu,h0,h1,zBd hT w hke,zDk,Instr.sureAddr,Nat.add_assoc]
     |ptrL _ _ _ _ hL=>rw [(hh.dom b).2 hL] at hb;cases hb
    ·exact h.elim
   ·rename_i c j;obtain ⟨h0,h1,h⟩:=zKg h;refine ⟨_,h,fun own M ι w v u hh hv hi=>?_⟩;rw [den_int hi]
    cases hv with
    |d _ _ hv=>
     cases hv with
     |dp _ _ b off val hm hd=>
      refine ⟨.pointer (some ⟨b,off+(j+n.toNat*(T e).size),none⟩),?_,.d _ _ (.dp _ _ _ _ val hm hd)⟩;simp [Instr.indexAt,asIntOf,run_underlying hu,h0,h1,zBd hT w hke,zDk,Instr.sureAddr,Nat.add_assoc]
   ·exact h.elim
  ·exact h.elim
 ·exact h.elim
theorem yGv {t:TypeId} {x i:AV} {K:AV->Prop} (h:yLj T t x i K):
  ∃ av,K av/\ ∀ (M:Mem) (ι:Inj) (w:World) (v u:Value),DenA M ι x v->DenA M ι i u->∃ r,(Instr.index t v u).run P w=.ok r w/\DenA M ι av r:=by
 unfold yLj at h
 split at h
 ·rename_i ik n
  split at h
  ·rename_i s
   split at h
   ·rename_i hk;have hu:=zOh hT hk;obtain ⟨h0,h1,h⟩:=zKg h;refine ⟨_,h,fun M ι w v u hv hi=>?_⟩;rw [den_int hi,den_str hv]
    have hlt:n.toNat<s.size:=by omega
    refine ⟨.int .u8 ((s.data.getD n.toNat 0).toNat),?_,.d _ _ (.int _ _)⟩
    have e:s[n.toNat]?=some (s.data.getD n.toNat 0):=by
     rw [getElem?_pos s n.toNat hlt];simp only [Array.getD,show n.toNat<s.data.size from hlt,dif_pos];rfl
    simp [Instr.index,asIntOf,run_underlying hu,h0,e]
   ·exact h.elim
  ·rename_i c
   split at h
   ·rename_i m e hk;obtain ⟨hua,hke⟩:=zXq hT hk;obtain ⟨h0,h1,h⟩:=zKg h;obtain ⟨av,k,hl,hd⟩:=zPx h (size_one hT hke);refine ⟨av,k,fun M ι w v u hv hi=>?_⟩;rw [den_int hi];obtain ⟨vs,rfl,hs,hdv⟩:=zFt hv
    obtain ⟨g,hg,hden⟩:=hd M ι (fun i=>vs[i]?) (fun i x hx=>by
     have hlt:i<vs.size:=by rw [hs];exact (List.getElem?_eq_some_iff.1 hx).1
     exact ⟨vs[i],by simp [hlt],hdv i x _ hx (by simp [hlt])⟩)
    refine ⟨_,?_,hden⟩;simp only [Instr.index,asIntOf,Sem.run_bind,Sem.run_pure,Result.andThen_ok,run_underlying hua,h0,h1,and_self,if_true,zBd hT w hke,part,zMz hT w hke]
    cases ha:(T e).k.agg with
    |true=>
     simp only [if_true,Sem.run_bind,zBd hT w hke,Result.andThen_ok,Sem.run_pure]
     congr 2
     apply Array.ext_getElem?;intro i;rw [Array.getElem?_extract];simp only [List.getElem?_toArray,List.getElem?_map]
     split
     ·rename_i hi
      rw [hg i (by omega),List.getElem?_range (by omega)];rfl
     ·rename_i hi
      rw [List.getElem?_eq_none (by simp;omega)];rfl
    |false=>
     have:=hg 0 (by have:=zFj hT hke;omega);simp only [Nat.add_zero] at this;simp [this]
   ·exact h.elim
  ·exact h.elim
 ·exact h.elim
omit hT in
theorem zBp {x:Int} {y:Nat} {code:BoundsCode} {k:IntKind} (w:World) (h0:0<=x) (h1:x<=y):(Instr.sliceBound (.int k x) y code).run P w=.ok x.toNat w:=by
 simp [Instr.sliceBound,asIntOf,h0,h1]
omit hT in
theorem zKr {isS:Bool} {len cap:Nat} {lo hi:Option Int} {k1 k2:IntKind} (w:World) (h0:0<=lo.getD 0) (h1:lo.getD 0<=hi.getD len) (h2:hi.getD len<=len) (hc:len<=cap):
  (Instr.sliceBounds isS len cap (lo.map (.int k1)) (hi.map (.int k2)) none).run P w=.ok ((lo.getD 0).toNat,(hi.getD len).toNat,cap) w:=by
 cases lo with
 |none=>
  cases hi with
  |none=>simp [Instr.sliceBounds]
  |some h=>
   simp only [Option.getD_some,Option.getD_none] at h0 h1 h2;simp [Instr.sliceBounds,zBp (P:=P) w (x:=h) (y:=cap) (k:=k2) h1 (by omega)]
 |some l=>
  cases hi with
  |none=>
   simp only [Option.getD_some,Option.getD_none] at h0 h1 h2;simp [Instr.sliceBounds,zBp (P:=P) w (x:=l) (y:=len) (k:=k1) h0 (by omega)]
  |some h=>
   simp only [Option.getD_some] at h0 h1 h2;simp [Instr.sliceBounds,zBp (P:=P) w (x:=h) (y:=cap) (k:=k2) (by omega) (by omega),zBp (P:=P) w (x:=l) (y:=h.toNat) (k:=k1) h0 (by omega)]
end
def Blk.fr:Blk->Bool
 | .row _ _ fr=>fr
 | .box _ fr=>fr
theorem zGv.mono {M M':Mem} (h:Sub M M') {cs:Array Value} {l:List (List D)} {sz:Nat} (hr:zGv M cs l sz):zGv M' cs l sz:=
 ⟨hr.len,fun i j e d h1 h2=>let ⟨v,e1,e2⟩:=hr.den i j e d h1 h2;⟨v,e1,e2.mono h⟩⟩
theorem zQu.mono {M M':Mem} (h:Sub M M') {ι:Inj} {cs:Array Value} {c:List AV} (hr:zQu M ι cs c):zQu M' ι cs c:=
 ⟨hr.size,fun j x h1=>let ⟨v,e1,e2⟩:=hr.den j x h1;⟨v,e1,e2.mono h⟩⟩
theorem z9n (b:Nat) (x:AV):killV b x=x\/killV b x=.dead:=by
 cases x with
 |own b'=>simp only [killV];cases Fm b b'<;>simp
 |ptr b' i j=>simp only [killV];cases Fm b b'<;>simp
 |win b' lo n c=>simp only [killV];cases Fm b b'<;>simp
 |agg c=>simp only [killV];cases killV.names b c<;>simp
 |tup c=>simp only [killV];cases killV.parts b c<;>simp
 |fn f c=>simp only [killV];cases killV.names b c<;>simp
 |d x=>exact .inl rfl
 |tt=>exact .inl rfl
 |ff=>exact .inl rfl
 |nil=>exact .inl rfl
 |dead=>exact .inl rfl
theorem zDw (b:Nat) (c:List AV) (j:Nat):(zBl.cells b c)[j]?=(c[j]?).map (killV b):=by
 induction c generalizing j with
 |nil=>rfl
 |cons x r ih=>
  cases j with
  |zero=>rfl
  |succ j=>simpa [zBl.cells] using ih j
theorem zDx (b:Nat) (c:List AV):(zBl.cells b c).length=c.length:=by
 induction c with
 |nil=>rfl
 |cons x r ih=>simp [zBl.cells,ih]
theorem zQu.kill {M:Mem} {ι ι':Inj} {b:Nat} (hι:∀ b',Fm b b'=false->ι' b'=ι b') {cs:Array Value} {c:List AV} (hr:zQu M ι cs c):zQu M ι' cs (zBl.cells b c):=by
 refine ⟨by rw [zDx];exact hr.size,fun j x h1=>?_⟩;rw [zDw] at h1
 cases hc:c[j]? with
 |none=>simp [hc] at h1
 |some y=>
  simp only [hc,Option.map_some,Option.some.injEq] at h1;subst h1;obtain ⟨v,e1,e2⟩:=hr.den j y hc;exact ⟨v,e1,(e2.killV b).turn hι (zRu b y)⟩
theorem zEp.keep {M M':Mem} {ι:Inj} {w w':World} {B:Blk} {L:Loc} (h:zEp M ι w B L) (hs:Sub M M') (hw:w'.heap[L.blk]?=w.heap[L.blk]?) (hf:B.fr=false->∀ o,M' L.blk o=none):zEp M' ι w' B L:=by
 obtain ⟨cs,T,h1,h2,h3⟩:=h;refine ⟨cs,T,hw.trans h1,h2,?_⟩
 cases B with
 |row l sz fr=>
  obtain ⟨a1,a2,a3,a4,a5⟩:=h3;exact ⟨a1,a2,a3,a4.mono hs,fun hfr o v ho hv=>hs _ _ _ (a5.1 hfr o v ho hv),hf⟩
 |box c fr=>
  obtain ⟨a1,a2,a3,a5⟩:=h3;exact ⟨a1,a2,a3.mono hs,fun hfr o v ho hv=>hs _ _ _ (a5.1 hfr o v ho hv),hf⟩
theorem zEp.kill {M:Mem} {ι ι':Inj} {w:World} {B:Blk} {L:Loc} {b:Nat} (hι:∀ b',Fm b b'=false->ι' b'=ι b') (h:zEp M ι w B L):zEp M ι' w (zBl b B) L:=by
 obtain ⟨cs,T,h1,h2,h3⟩:=h;refine ⟨cs,T,h1,h2,?_⟩
 cases B with
 |row l sz fr=>exact h3
 |box c fr=>
  obtain ⟨a1,a2,a3,a5⟩:=h3;exact ⟨by rw [zDx];exact a1,by rw [zDx];exact a2,a3.kill hι,by rw [zDx];exact a5⟩
theorem upd_same {α:Type} (f:Nat->α) (t:Nat) (v:α):upd f t v t=v:=by simp [upd]
theorem zAl {α:Type} (f:Nat->α) {t s:Nat} (v:α) (h:s≠t):upd f t v s=f s:=by
 have:Nat.beq s t=false:=by
  cases hb:Nat.beq s t with
  |false=>rfl
  |true=>exact absurd (Nat.eq_of_beq_eq_true hb) h
 simp [upd,this]
theorem zIn (k:Option Nat) (hp:Nat->Option Blk) (b:Nat):zD k hp b=none↔hp b=none:=by
 cases k with
 |none=>exact Iff.rfl
 |some k=>simp only [zD];cases hp b<;>simp
theorem killH_some {k:Nat} {hp:Nat->Option Blk} {b:Nat} {B:Blk} (h:zD (some k) hp b=some B):∃ B0,hp b=some B0/\B=zBl k B0:=by
 simp only [zD] at h
 cases hb:hp b with
 |none=>simp [hb] at h
 |some B0=>simp only [hb,Option.some.injEq] at h;exact ⟨B0,rfl,h.symm⟩
theorem HRel.new {own:Nat->Prop} {M M':Mem} {ι:Inj} {hp:Nat->Option Blk} {w w':World} (h:HRel own M ι hp w) (b:Nat) (B:Blk) (L:Loc) (hs:Sub M M')
  (ho:own L.blk) (hB:zEp M' (upd ι b (some (some L))) w' B L)
  (hoth:∀ b' L',b'≠b->ι b'=some (some L')->L'.blk≠L.blk/\w'.heap[L'.blk]?=w.heap[L'.blk]? /\ ∀ B',hp b'=some B'->B'.fr=false->∀ o,M' L'.blk o=none):
  HRel own M' (upd ι b (some (some L))) (upd (zD (some b) hp) b (some B)) w':=by
 have hne:∀ b',b'≠b->upd ι b (some (some L)) b'=ι b':=fun b' hb=>zAl _ _ hb
 refine ⟨fun b'=>?_,fun b' hb'=>?_,fun b' B' L' hB' hL'=>?_,fun b1 b2 L1 L2 h1 h2 he=>?_⟩
 ·by_cases hb:b'=b
  ·subst hb;simp [upd_same]
  ·rw [zAl _ _ hb,zAl _ _ hb,zIn];exact h.dom b'
 ·by_cases hb:b'=b
  ·subst hb;rw [upd_same] at hb';cases hb'
  ·rw [zAl _ _ hb] at hb';obtain ⟨sz,fr,e⟩:=h.virt b' hb';exact ⟨sz,fr,by rw [zAl _ _ hb];simp [zD,e,zBl]⟩
 ·by_cases hb:b'=b
  ·subst hb;rw [upd_same] at hB' hL'
   cases hB';cases hL'
   exact ⟨ho,hB⟩
  ·rw [zAl _ _ hb] at hB' hL';obtain ⟨B0,e0,rfl⟩:=killH_some hB';obtain ⟨o1,o2⟩:=h.at_ b' B0 L' e0 hL';obtain ⟨_,e2,e3⟩:=hoth b' L' hb hL';exact ⟨o1,zEp.kill (fun b' hb=>hne b' (yIi hb)) (o2.keep hs e2 (e3 B0 e0))⟩
 ·by_cases hb1:b1=b
  ·subst hb1
   rw [upd_same] at h1;cases h1
   by_cases hb2:b2=b1
   ·exact hb2.symm
   ·rw [zAl _ _ hb2] at h2;exact absurd he.symm (hoth b2 L2 hb2 h2).1
  ·rw [zAl _ _ hb1] at h1
   by_cases hb2:b2=b
   ·subst hb2
    rw [upd_same] at h2;cases h2
    exact absurd he (hoth b1 L1 hb1 h1).1
   ·rw [zAl _ _ hb2] at h2;exact h.inj b1 b2 L1 L2 h1 h2 he
theorem HRel.virtual {own:Nat->Prop} {M:Mem} {ι:Inj} {hp:Nat->Option Blk} {w:World} (h:HRel own M ι hp w) (b:Nat) (sz:Nat) (fr:Bool):
  HRel own M (upd ι b (some none)) (upd (zD (some b) hp) b (some (.row [] sz fr))) w:=by
 have hne:∀ b',b'≠b->upd ι b (some none) b'=ι b':=fun b' hb=>zAl _ _ hb
 refine ⟨fun b'=>?_,fun b' hb'=>?_,fun b' B' L' hB' hL'=>?_,fun b1 b2 L1 L2 h1 h2 he=>?_⟩
 ·by_cases hb:b'=b
  ·subst hb;simp [upd_same]
  ·rw [zAl _ _ hb,zAl _ _ hb,zIn];exact h.dom b'
 ·by_cases hb:b'=b
  ·subst hb;exact ⟨sz,fr,upd_same _ _ _⟩
  ·rw [zAl _ _ hb] at hb';obtain ⟨sz,fr,e⟩:=h.virt b' hb';exact ⟨sz,fr,by rw [zAl _ _ hb];simp [zD,e,zBl]⟩
 ·by_cases hb:b'=b
  ·subst hb;rw [upd_same] at hL';cases hL'
  ·rw [zAl _ _ hb] at hB' hL';obtain ⟨B0,e0,rfl⟩:=killH_some hB';obtain ⟨o1,o2⟩:=h.at_ b' B0 L' e0 hL';exact ⟨o1,zEp.kill (fun b' hb=>hne b' (yIi hb)) o2⟩
 ·have a1:b1≠b:=by rintro rfl;rw [upd_same] at h1;cases h1
  have a2:b2≠b:=by rintro rfl;rw [upd_same] at h2;cases h2
  rw [zAl _ _ a1] at h1;rw [zAl _ _ a2] at h2;exact h.inj b1 b2 L1 L2 h1 h2 he
theorem HRel.set {own:Nat->Prop} {M M':Mem} {ι:Inj} {hp:Nat->Option Blk} {w w':World} (h:HRel own M ι hp w) (b:Nat) (B:Blk) (hb0:hp b≠none) (hs:Sub M M')
  (hv:ι b=some none->∃ sz fr,B=.row [] sz fr)
  (hB:∀ L,ι b=some (some L)->zEp M' ι w' B L)
  (hoth:∀ b' L',b'≠b->ι b'=some (some L')->w'.heap[L'.blk]?=w.heap[L'.blk]? /\ ∀ B',hp b'=some B'->B'.fr=false->∀ o,M' L'.blk o=none):
  HRel own M' ι (upd hp b (some B)) w':=by
 refine ⟨fun b'=>?_,fun b' hb'=>?_,fun b' B' L' hB' hL'=>?_,h.inj⟩
 ·by_cases hb:b'=b
  ·subst hb;rw [upd_same]
   exact ⟨(by intro e;cases e),fun e=>absurd ((h.dom b').2 e) hb0⟩
  ·rw [zAl _ _ hb];exact h.dom b'
 ·by_cases hb:b'=b
  ·subst hb;obtain ⟨sz,fr,rfl⟩:=hv hb';exact ⟨sz,fr,upd_same _ _ _⟩
  ·rw [zAl _ _ hb];exact h.virt b' hb'
 ·by_cases hb:b'=b
  ·subst hb
   rw [upd_same] at hB';cases hB'
   refine ⟨?_,hB L' hL'⟩
   cases e0:hp b' with
   |none=>exact absurd e0 hb0
   |some B0=>exact (h.at_ b' B0 L' e0 hL').1
  ·rw [zAl _ _ hb] at hB';obtain ⟨o1,o2⟩:=h.at_ b' B' L' hB' hL';obtain ⟨e2,e3⟩:=hoth b' L' hb hL';exact ⟨o1,o2.keep hs e2 (e3 B' hB')⟩
theorem HRel.keep {own:Nat->Prop} {M M':Mem} {ι:Inj} {hp:Nat->Option Blk} {w w':World} (h:HRel own M ι hp w) (hs:Sub M M')
  (hoth:∀ b' L',ι b'=some (some L')->w'.heap[L'.blk]?=w.heap[L'.blk]? /\ ∀ B',hp b'=some B'->B'.fr=false->∀ o,M' L'.blk o=none):HRel own M' ι hp w':=
 ⟨h.dom,h.virt,fun b' B' L' hB' hL'=>⟨(h.at_ b' B' L' hB' hL').1,(h.at_ b' B' L' hB' hL').2.keep hs (hoth b' L' hL').1 ((hoth b' L' hL').2 B' hB')⟩,h.inj⟩
theorem HRel.closed {own:Nat->Prop} {M:Mem} {ι:Inj} {hp:Nat->Option Blk} {w:World} (h:HRel own M ι hp w) {b:Nat} {L:Loc} (hL:ι b=some (some L)):∀ B,hp b=some B->B.fr=false->∀ o,M L.blk o=none:=by
 intro B hB hf;obtain ⟨_,cs,T,_,_,h3⟩:=h.at_ b B L hB hL
 cases B with
 |row l sz fr=>exact h3.2.2.2.2.2 hf
 |box c fr=>exact h3.2.2.2.2 hf
theorem HRel.lt {own:Nat->Prop} {M:Mem} {ι:Inj} {hp:Nat->Option Blk} {w:World} (h:HRel own M ι hp w) {b:Nat} {L:Loc} (hL:ι b=some (some L)):L.blk<w.heap.size:=by
 cases hb:hp b with
 |none=>rw [(h.dom b).1 hb] at hL;cases hL
 |some B=>
  obtain ⟨_,cs,T,h1,_⟩:=h.at_ b B L hb hL;exact (Array.getElem?_eq_some_iff.1 h1).1
def addMem (M:Mem) (blk n:Nat) (cs:Array Value):Mem:=fun b o=>if b=blk then (if o<n then cs[o]? else M b o) else M b o
theorem yCv {own:Nat->Prop} {M:Mem} {ι:Inj} {hp:Nat->Option Blk} {w:World} (ha:zBj M w) (h:HRel own M ι hp w) {b:Nat} {B B':Blk} (hb:hp b=some B)
  (hB:(∃ l sz fr,B=.row l sz fr/\B'=.row l sz true) \/ (∃ c fr,B=.box c fr/\B'=.box c true)):
  ∃ M',Sub M M'/\zBj M' w/\zCq own M M'/\HRel own M' ι (upd hp b (some B')) w:=by
 have hb0:hp b≠none:=by rw [hb];simp
 cases hι:ι b with
 |none=>exact absurd ((h.dom b).2 hι) hb0
 |some oL=>
  cases oL with
  |none=>
   refine ⟨M,.refl M,ha,.refl _ _,h.set b B' hb0 (.refl M) (fun _=>?_) (fun L hL=>by rw [hι] at hL;cases hL) (fun b' L' _ hL'=>⟨rfl,h.closed hL'⟩)⟩;obtain ⟨sz,fr,e⟩:=h.virt b hι;rw [hb] at e
   cases e
   rcases hB with ⟨l,sz,fr,e1,e2⟩|⟨c,fr,e1,e2⟩
   ·cases e1;exact ⟨_,_,e2⟩
   ·cases e1
  |some L=>
   obtain ⟨hown,cs,Ty,hheap,hsz,hrest⟩:=h.at_ b B L hb hι
   cases hfr:B.fr with
   |true=>
    have:B'=B:=by
     rcases hB with ⟨l,sz,fr,e1,e2⟩|⟨c,fr,e1,e2⟩<;>subst e1<;>simp only [Blk.fr] at hfr<;>subst hfr<;>exact e2
    subst this;refine ⟨M,.refl M,ha,.refl _ _,h.set b B' hb0 (.refl M) (fun e=>by rw [hι] at e;cases e) (fun L' hL'=>(h.at_ b B' L' hb hL').2) (fun b' L' _ hL'=>⟨rfl,h.closed hL'⟩)⟩
   |false=>
    have hcl:=h.closed hι B hb hfr
    let n:=match B with| .row l sz _=>l.length*sz| .box c _=>c.length
    have hn:n<=cs.size:=by
     cases B with
     |row l sz fr=>simp only [n];rw [hsz];exact hrest.2.2.1
     |box c fr=>simp only [n];exact Nat.le_of_eq hrest.2.2.1.size.symm
    have hsub:Sub M (addMem M L.blk n cs):=by
     intro b' o v hv;unfold addMem
     by_cases hbb:b'=L.blk
     ·subst hbb;rw [hcl o] at hv;cases hv
     ·rw [if_neg hbb];exact hv
    have hagree:zBj (addMem M L.blk n cs) w:=by
     intro b' o v hv;unfold addMem at hv
     by_cases hbb:b'=L.blk
     ·subst hbb;rw [if_pos rfl] at hv
      split at hv
      ·rw [cell_of_heap hheap];exact hv
      ·exact ha _ _ _ hv
     ·rw [if_neg hbb] at hv;exact ha _ _ _ hv
    refine ⟨addMem M L.blk n cs,hsub,hagree,?_,h.set b B' hb0 hsub (fun e=>by rw [hι] at e;cases e) (fun L' hL'=>?_) (fun b' L' hne hL'=>⟨rfl,fun B2 hB2 hf2 o=>?_⟩)⟩
    ·intro b' o v hv;unfold addMem at hv
     by_cases hbb:b'=L.blk
     ·subst hbb;exact .inr hown
     ·rw [if_neg hbb] at hv;exact .inl hv
    ·rw [hι] at hL';cases hL'
     refine ⟨cs,Ty,hheap,hsz,?_⟩
     rcases hB with ⟨l,sz,fr,e1,e2⟩|⟨c,fr,e1,e2⟩
     ·subst e1 e2;obtain ⟨a1,a2,a3,a4,a5⟩:=hrest;exact ⟨a1,a2,a3,a4.mono hsub,fun _ o v ho hv=>by simp only [addMem,n,if_pos,ho];exact hv,fun e=>by cases e⟩
     ·subst e1 e2;obtain ⟨a1,a2,a3,a5⟩:=hrest;exact ⟨a1,a2,a3.mono hsub,fun _ o v ho hv=>by simp only [addMem,n,if_pos,ho];exact hv,fun e=>by cases e⟩
    ·have hnb:L'.blk≠L.blk:=fun e=>hne (h.inj b' b L' L hL' hι e)
     simp only [addMem,if_neg hnb];exact h.closed hL' B2 hB2 hf2 o
def zKz (hp hp':Nat->Option Blk):Prop:=∀ b,hp' b=hp b\/ ∃ l sz fr,hp b=some (.row l sz fr) /\hp' b=some (.row l sz true)
theorem zKz.refl (hp:Nat->Option Blk):zKz hp hp:=fun _=>.inl rfl
theorem zKz.step {hp0 hp:Nat->Option Blk} (h:zKz hp0 hp) {b:Nat} {l:List (List D)} {sz:Nat} {fr:Bool} (hb:hp0 b=some (.row l sz fr)):zKz hp0 (upd hp b (some (.row l sz true))):=by
 intro b'
 by_cases e:b'=b
 ·subst e;rw [upd_same];exact .inr ⟨l,sz,fr,hb,rfl⟩
 ·rw [zAl _ _ e];exact h b'
theorem zHm {own:Nat->Prop} {ι:Inj} {w:World} {hp0:Nat->Option Blk}:∀ (ns:List Nat) (M:Mem) (hp:Nat->Option Blk),zBj M w->HRel own M ι hp w->zKz hp0 hp->
  ∃ M',Sub M M'/\zBj M' w/\zCq own M M'/\HRel own M' ι (zBa hp (frz hp0 ns)) w/\zKz hp0 (zBa hp (frz hp0 ns)) /\
   (∀ b l sz fr,(b∈ns\/hp b=some (.row l sz true))->hp0 b=some (.row l sz fr)->zBa hp (frz hp0 ns) b=some (.row l sz true))
 | [],M,hp,ha,hh,hl=>⟨M,.refl M,ha,.refl _ _,hh,hl,fun b l sz fr h _=>by
   rcases h with h|h
   ·cases h
   ·exact h⟩
 |b::ns,M,hp,ha,hh,hl=>by
  have go:∀ (hp1:Nat->Option Blk) (M1:Mem),Sub M M1->zBj M1 w->zCq own M M1->HRel own M1 ι hp1 w->zKz hp0 hp1->(∀ b l sz,hp b=some (.row l sz true)->hp1 b=some (.row l sz true))->
    (∀ l sz fr,hp0 b=some (.row l sz fr)->hp1 b=some (.row l sz true))->zBa hp (frz hp0 (b::ns))=zBa hp1 (frz hp0 ns)->
    ∃ M',Sub M M'/\zBj M' w/\zCq own M M'/\HRel own M' ι (zBa hp (frz hp0 (b::ns))) w/\zKz hp0 (zBa hp (frz hp0 (b::ns))) /\
     (∀ c l sz fr,(c∈b::ns\/hp c=some (.row l sz true))->hp0 c=some (.row l sz fr)->zBa hp (frz hp0 (b::ns)) c=some (.row l sz true)):=by
   intro hp1 M1 s1 a1 n1 h1 l1 k1 k2 e;obtain ⟨M',s2,a2,n2,h2,l2,f2⟩:=zHm (hp0:=hp0) ns M1 hp1 a1 h1 l1;rw [e];refine ⟨M',s1.trans s2,a2,n1.trans n2,h2,l2,fun c l sz fr hc hc0=>?_⟩
   rcases hc with hc|hc
   ·cases hc with
    |head=>exact f2 _ l sz fr (.inr (k2 l sz fr hc0)) hc0
    |tail _ hc=>exact f2 _ l sz fr (.inl hc) hc0
   ·exact f2 _ l sz fr (.inr (k1 _ _ _ hc)) hc0
  cases h0:hp0 b with
  |none=>exact go hp M (.refl M) ha (.refl _ _) hh hl (fun _ _ _ h=>h) (fun l sz fr e=>by rw [h0] at e;cases e) (by simp [frz,h0])
  |some B=>
   cases B with
   |box c fr=>exact go hp M (.refl M) ha (.refl _ _) hh hl (fun _ _ _ h=>h) (fun l sz fr e=>by rw [h0] at e;cases e) (by simp [frz,h0])
   |row l sz fr=>
    have hb:∃ fr',hp b=some (.row l sz fr'):=by
     rcases hl b with e|⟨l',sz',fr',e1,e2⟩
     ·exact ⟨fr,e.trans h0⟩
     ·rw [h0] at e1;cases e1;exact ⟨true,e2⟩
    obtain ⟨fr',hb⟩:=hb;obtain ⟨M1,s1,a1,n1,h1⟩:=yCv ha hh hb (B':=.row l sz true) (.inl ⟨_,_,_,rfl,rfl⟩);refine go (upd hp b (some (.row l sz true))) M1 s1 a1 n1 h1 (hl.step h0) (fun c l' sz' e=>?_) (fun l' sz' fr' e=>by rw [h0] at e;cases e;exact upd_same _ _ _) (by simp [frz,h0,zBa])
    by_cases hc:c=b
    ·subst hc;rw [hb] at e;cases e;exact upd_same _ _ _
    ·rw [zAl _ _ hc];exact e
theorem zLh {hp hp':Nat->Option Blk} (h:zKz hp hp') (x:AV):conv.one hp' x=conv.one hp x:=by
 cases x with
 |own b=>
  simp only [conv.one]
  rcases h b with e|⟨l,sz,fr,e1,e2⟩
  ·rw [e]
  ·rw [e1,e2]
 |_=>rfl
theorem zIi {hp hp':Nat->Option Blk} (h:zKz hp hp'):∀ c:List AV,conv.cells hp' c=conv.cells hp c
 | []=>rfl
 |x::r=>by simp only [conv.cells,zLh h,zIi h r]
theorem z4q {hp hp':Nat->Option Blk} (h:zKz hp hp') (x:AV):conv.cap1 hp' x=conv.cap1 hp x:=by
 cases x with
 |ptr b i j=>
  simp only [conv.cap1]
  rcases h b with e|⟨l,sz,fr,e1,e2⟩
  ·rw [e]
  ·rw [e1,e2]
 |_=>rfl
theorem zOv {hp hp':Nat->Option Blk} (h:zKz hp hp'):∀ c:List AV,conv.caps hp' c=conv.caps hp c
 | []=>rfl
 |x::r=>by simp only [conv.caps,z4q h,zOv h r]
theorem zTo {hp hp':Nat->Option Blk} (h:zKz hp hp') (x:AV):conv hp' x=conv hp x:=by
 cases x with
 |own b=>
  simp only [conv]
  rcases h b with e|⟨l,sz,fr,e1,e2⟩
  ·rw [e]
  ·rw [e1,e2]
 |agg c=>simp only [conv,zIi h]
 |fn f c=>simp only [conv,zOv h]
 |_=>rfl
theorem z0v {own:Nat->Prop} {M:Mem} {ι:Inj} {hp:Nat->Option Blk} {w:World} (hh:HRel own M ι hp w) {b:Nat} {l:List (List D)} {sz:Nat} {v:Value} (hb:hp b=some (.row l sz true)) (hd:DenA M ι (.own b) v):DenD M (.lst l) v:=by
 cases hd with
 |own _ L cap hL hn hc=>
  obtain ⟨_,cs,Ty,hheap,hsz,a1,a2,a3,a4,a5⟩:=hh.at_ b _ L hb hL;rw [<-a2]
  refine .lst l L.blk 0 cap sz (fun i j=>(cs[i*sz+j]?).getD undef) (by omega) a4.len (fun i j e d h1 h2=>?_) fun i j e d h1 h2=>?_
  ·obtain ⟨v,e1,e2⟩:=a4.den i j e d h1 h2
   have hlt:i*sz+j<l.length*sz:=by
    have hi:=(List.getElem?_eq_some_iff.1 h1).1;have hj:=(List.getElem?_eq_some_iff.1 h2).1;rw [a4.len i e h1] at hj
    calc i*sz+j<i*sz+sz:=by omega
     _=(i+1)*sz:=by rw [Nat.add_mul,Nat.one_mul]
     _<=l.length*sz:=Nat.mul_le_mul_right _ hi
   simp only [Nat.zero_add,e1,Option.getD_some];exact a5.1 rfl _ _ hlt e1
  ·obtain ⟨v,e1,e2⟩:=a4.den i j e d h1 h2
   simpa [e1] using e2
 |ownE _ a hL=>
  obtain ⟨sz',fr',e⟩:=hh.virt b hL
  rw [hb] at e;cases e
  exact .emp _ _
 |ownL _ _ hL=>rw [(hh.dom b).2 hL] at hb;cases hb
theorem den_pure1 {M:Mem} {ι:Inj} {x:AV} {d:D} {v:Value} (h:conv.pure1 x=some d) (hd:DenA M ι x v):DenD M d v:=by
 cases x<;>simp only [conv.pure1,Option.some.injEq] at h<;>first|(subst h;cases hd)|cases h
 case d hd=>exact hd
 case tt=>exact .bool _
 case ff=>exact .bool _
 case nil a=>exact .emp _ _
theorem yNj {c:List AV} {ds:List D} (h:conv.pures c=some ds):ds.length=c.length/\ ∀ (i:Nat) (d:D),ds[i]?=some d->∃ x,c[i]?=some x/\conv.pure1 x=some d:=by
 induction c generalizing ds with
 |nil=>simp only [conv.pures,Option.some.injEq] at h;subst h;simp
 |cons x r ih=>
  simp only [conv.pures] at h
  cases h1:conv.pure1 x with
  |none=>simp [h1] at h
  |some d0=>
   cases h2:conv.pures r with
   |none=>simp [h1,h2] at h
   |some ds0=>
    simp only [h1,h2,Option.bind_some,Option.map_some,Option.some.injEq] at h;subst h;obtain ⟨e1,e2⟩:=ih h2;refine ⟨by simp [e1],fun i d hi=>?_⟩
    cases i with
    |zero=>simp only [List.getElem?_cons_zero,Option.some.injEq] at hi⊢;subst hi;exact ⟨x,rfl,h1⟩
    |succ i=>simpa using e2 i d (by simpa using hi)
section
variable {own:Nat->Prop} {M:Mem} {ι:Inj} {hp:Nat->Option Blk} {w:World} (hh:HRel own M ι hp w)
include hh
theorem zDi {x:AV} {d:D} {v:Value} (h:conv.one hp x=some d) (ho:zAp.one hp x=[]) (hd:DenA M ι x v):DenD M d v:=by
 cases x with
 |own b=>
  simp only [conv.one] at h
  cases hb:hp b with
  |none=>simp [hb] at h
  |some B=>
   cases B with
   |box c fr=>simp [hb] at h
   |row l sz fr=>
    simp only [hb,Option.some.injEq] at h;subst h
    cases fr with
    |false=>simp [zAp.one,hb] at ho
    |true=>exact z0v hh hb hd
 |d x=>simp only [conv.one,Option.some.injEq] at h;subst h;cases hd with|d _ _ hd=>exact hd
 |tt=>simp only [conv.one,Option.some.injEq] at h;subst h;cases hd;exact .bool _
 |ff=>simp only [conv.one,Option.some.injEq] at h;subst h;cases hd;exact .bool _
 |nil=>simp only [conv.one,Option.some.injEq] at h;subst h;cases hd;exact .emp _ _
 |agg c=>simp [conv.one] at h
 |tup c=>simp [conv.one] at h
 |ptr b i j=>simp [conv.one] at h
 |win b lo n c=>simp [conv.one] at h
 |fn f c=>simp [conv.one] at h
 |dead=>simp [conv.one] at h
omit hh in
theorem zGa {c:List AV} {ds:List D} (h:conv.cells hp c=some ds):ds.length=c.length/\ ∀ (i:Nat) (d:D),ds[i]?=some d->∃ x,c[i]?=some x/\conv.one hp x=some d/\ (zAp.cells hp c=[]->zAp.one hp x=[]):=by
 induction c generalizing ds with
 |nil=>simp only [conv.cells,Option.some.injEq] at h;subst h;simp
 |cons x r ih=>
  simp only [conv.cells] at h
  cases h1:conv.one hp x with
  |none=>simp [h1] at h
  |some d0=>
   cases h2:conv.cells hp r with
   |none=>simp [h1,h2] at h
   |some ds0=>
    simp only [h1,h2,Option.bind_some,Option.map_some,Option.some.injEq] at h;subst h;obtain ⟨e1,e2⟩:=ih h2;refine ⟨by simp [e1],fun i d hi=>?_⟩
    cases i with
    |zero=>
     simp only [List.getElem?_cons_zero,Option.some.injEq] at hi⊢;subst hi;exact ⟨x,rfl,h1,fun ho=>by simp only [zAp.cells,List.append_eq_nil_iff] at ho;exact ho.1⟩
    |succ i=>
     obtain ⟨y,g1,g2,g3⟩:=e2 i d (by simpa using hi);exact ⟨y,by simpa using g1,g2,fun ho=>by simp only [zAp.cells,List.append_eq_nil_iff] at ho;exact g3 ho.2⟩
theorem yCd {x:AV} {d:D} {v:Value} (h:conv.cap1 hp x=some d) (hd:DenA M ι x v):DenD M d v:=by
 cases x with
 |ptr b i j=>
  simp only [conv.cap1] at h
  cases hb:hp b with
  |none=>simp [hb] at h
  |some B=>
   cases B with
   |row l sz fr=>simp [hb] at h
   |box c fr=>
    cases fr with
    |false=>simp [hb] at h
    |true=>
     simp only [hb] at h
     cases hi:Nat.beq i 0 with
     |false=>simp [hi] at h
     |true=>
      have:=Nat.eq_of_beq_eq_true hi;subst this
      cases hp1:conv.pures c with
      |none=>simp [hp1] at h
      |some ds=>
       simp only [hi,hp1,cond_true,Option.map_some,Option.some.injEq] at h;subst h
       cases hd with
       |ptr _ _ _ L hL=>
        obtain ⟨_,cs,Ty,hheap,hsz,a1,a2,a3,a5⟩:=hh.at_ b _ L hb hL;obtain ⟨g1,g2⟩:=yNj hp1;rw [show 0*L.sz+j=0+j by omega]
        refine .dp _ _ _ _ (fun k=>(cs[k]?).getD undef) (fun k d hk=>?_) fun k d hk=>?_
        ·obtain ⟨x,h1,h2⟩:=g2 k d hk;obtain ⟨v,e1,e2⟩:=a3.den k x h1;simp only [Nat.zero_add,e1,Option.getD_some];exact a5.1 rfl _ _ (List.getElem?_eq_some_iff.1 h1).1 e1
        ·obtain ⟨x,h1,h2⟩:=g2 k d hk;obtain ⟨v,e1,e2⟩:=a3.den k x h1
         simpa [e1] using den_pure1 h2 e2
       |ptrL _ _ _ _ hL=>rw [(hh.dom b).2 hL] at hb;cases hb
 |d x=>simp only [conv.cap1,Option.some.injEq] at h;subst h;cases hd with|d _ _ hd=>exact hd
 |tt=>simp only [conv.cap1,Option.some.injEq] at h;subst h;cases hd;exact .bool _
 |ff=>simp only [conv.cap1,Option.some.injEq] at h;subst h;cases hd;exact .bool _
 |nil=>simp [conv.cap1] at h
 |win b lo n c=>simp [conv.cap1] at h
 |agg c=>simp [conv.cap1] at h
 |tup c=>simp [conv.cap1] at h
 |own b=>simp [conv.cap1] at h
 |fn f c=>simp [conv.cap1] at h
 |dead=>simp [conv.cap1] at h
theorem yPw {c:List AV} {ds:List D} (h:conv.caps hp c=some ds):ds.length=c.length/\ ∀ (i:Nat) (d:D),ds[i]?=some d->∃ x,c[i]?=some x/\ ∀ v,DenA M ι x v->DenD M d v:=by
 induction c generalizing ds with
 |nil=>simp only [conv.caps,Option.some.injEq] at h;subst h;simp
 |cons x r ih=>
  simp only [conv.caps] at h
  cases h1:conv.cap1 hp x with
  |none=>simp [h1] at h
  |some d0=>
   cases h2:conv.caps hp r with
   |none=>simp [h1,h2] at h
   |some ds0=>
    simp only [h1,h2,Option.bind_some,Option.map_some,Option.some.injEq] at h;subst h;obtain ⟨e1,e2⟩:=ih h2;refine ⟨by simp [e1],fun i d hi=>?_⟩
    cases i with
    |zero=>simp only [List.getElem?_cons_zero,Option.some.injEq] at hi⊢;subst hi;exact ⟨x,rfl,fun v hv=>yCd hh h1 hv⟩
    |succ i=>simpa using e2 i d (by simpa using hi)
theorem zTq {x:AV} {d:D} {v:Value} (h:conv hp x=some d) (ho:zAp hp x=[]) (hd:DenA M ι x v):DenD M d v:=by
 cases x with
 |own b=>exact zDi hh (x:=.own b) h (by simpa [zAp] using ho) hd
 |d x=>exact zDi hh (x:=.d x) h rfl hd
 |tt=>exact zDi hh (x:=.tt) h rfl hd
 |ff=>exact zDi hh (x:=.ff) h rfl hd
 |nil=>exact zDi hh (x:=.nil) h rfl hd
 |agg c=>
  simp only [conv] at h
  cases hc:conv.cells hp c with
  |none=>simp [hc] at h
  |some ds=>
   simp only [hc,Option.map_some,Option.some.injEq] at h;subst h;obtain ⟨vs,rfl,hs,hdv⟩:=zFt hd;obtain ⟨e1,e2⟩:=zGa hc
   refine .agg _ _ (by omega) fun i d v h1 h2=>?_
   obtain ⟨x,g1,g2,g3⟩:=e2 i d h1;exact zDi hh g2 (g3 (by simpa [zAp] using ho)) (hdv i x v g1 h2)
 |fn f c=>
  simp only [conv] at h
  cases hc:conv.caps hp c with
  |none=>simp [hc] at h
  |some ds=>
   simp only [hc,Option.map_some,Option.some.injEq] at h;subst h;obtain ⟨e1,e2⟩:=yPw hh hc
   cases hd with
   |fn _ _ vs hl hdv=>
    refine .fn _ _ _ (by omega) fun i d v h1 h2=>?_
    obtain ⟨x,g1,g2⟩:=e2 i d h1;exact g2 v (hdv i x v g1 h2)
 |tup c=>simp [conv] at h
 |ptr b i j=>simp [conv] at h
 |win b lo n c=>simp [conv] at h
 |dead=>simp [conv] at h
end
theorem z6c {M:Mem} {ι:Inj} {c:List D} {vs:Array Value} (hd:∀ (i:Nat) (d:D) (v:Value),c[i]?=some d->vs[i]?=some v->DenD M d v):
  ∀ (i:Nat) (x:AV) (v:Value),(c.map .d)[i]?=some x->vs[i]?=some v->DenA M ι x v:=by
 intro i x v h1 h2;rw [List.getElem?_map] at h1
 cases hc:c[i]? with
 |none=>simp [hc] at h1
 |some d=>
  simp only [hc,Option.map_some,Option.some.injEq] at h1;subst h1;exact .d _ _ (hd i d v hc h2)
theorem zWk {M:Mem} {ι:Inj} {d:D} {v:Value} (h:DenD M d v):DenA M ι (ofD.one d) v:=by
 cases d with
 |agg c=>
  cases h with
  |agg _ vs hl hd=>exact .agg _ _ (by simpa using hl) (z6c hd)
 |int k n=>exact .d _ _ h
 |bool b=>exact .d _ _ h
 |str s=>exact .d _ _ h
 |lst l=>exact .d _ _ h
 |dp c j=>exact .d _ _ h
 |fn f c=>exact .d _ _ h
 |nilp=>exact .d _ _ h
 |unk=>exact .d _ _ h
 |tup c=>exact .d _ _ h
theorem z1y {M:Mem} {ι:Inj} {d:D} {v:Value} (h:DenD M d v):DenA M ι (ofD d) v:=by
 cases d with
 |agg c=>
  cases h with
  |agg _ vs hl hd=>exact .agg _ _ (by simpa using hl) (z6c hd)
 |tup c=>
  cases h with
  |tup _ vs hl hd=>
   refine .tup _ _ (by simpa using hl) fun i x v h1 h2=>?_
   rw [List.getElem?_map] at h1
   cases hc:c[i]? with
   |none=>simp [hc] at h1
   |some d=>
    simp only [hc,Option.map_some,Option.some.injEq] at h1;subst h1;exact zWk (hd i d v hc h2)
 |int k n=>exact .d _ _ h
 |bool b=>exact .d _ _ h
 |str s=>exact .d _ _ h
 |lst l=>exact .d _ _ h
 |dp c j=>exact .d _ _ h
 |fn f c=>exact .d _ _ h
 |nilp=>exact .d _ _ h
 |unk=>exact .d _ _ h
theorem yHw {M M':Mem} {d:D} {v:Value} (hs:scalar d=true) (h:DenD M d v):DenD M' d v:=by
 have one:∀ (d:D) (v:Value),scalar.one d=true->DenD M d v->DenD M' d v:=by
  intro d v hs h
  cases h<;>simp [scalar.one] at hs
  ·exact .int _ _
  ·exact .bool _
  ·exact .str _
 have all:∀ (c:List D),scalar.all c=true->∀ d∈c,scalar.one d=true:=by
  intro c
  induction c with
  |nil=>intro _ d hd;cases hd
  |cons x r ih=>
   intro h d hd;simp only [scalar.all] at h
   cases hx:scalar.one x with
   |false=>simp [hx] at h
   |true=>
    simp only [hx,cond_true] at h
    cases hd with
    |head=>exact hx
    |tail _ hd=>exact ih h d hd
 cases h with
 |int k n=>exact .int _ _
 |bool b=>exact .bool _
 |str s=>exact .str _
 |agg c vs hl hd=>exact .agg c vs hl fun i d v h1 h2=>one d v (all c hs d (List.mem_of_getElem? h1)) (hd i d v h1 h2)
 |tup c vs hl hd=>exact .tup c vs hl fun i d v h1 h2=>one d v (all c hs d (List.mem_of_getElem? h1)) (hd i d v h1 h2)
 |emp a c=>simp [scalar] at hs
 |lst l b off cap sz val hl h1 h2 h3=>simp [scalar] at hs
 |dp c j b off val h1 h2=>simp [scalar] at hs
 |fn f c vs hl hd=>simp [scalar] at hs
 |nilp=>simp [scalar] at hs
 |unk v=>simp [scalar] at hs
section
variable {P:Program}
theorem zNn {f:FuncId} (h:FnOk P f) (vs:Array Value) (w:World):(callFunc f vs).run P w=.ok (.enter f vs) w:=by
 obtain ⟨fn,h1,h2,h3⟩:=h
 have h4:fn.body≠none:=by cases hb:fn.body<;>simp_all
 have h5:fn.name≠ "runtime.NumGoroutine":=by simpa using h3
 simp [callFunc,h1,h4,h5]
theorem zVf {o:Oper} {c:Call} {f:FuncId} (ho:o.op=.call c) (hc:c.callee=.value (.func f)) (h:FnOk P f) (a:Act) (w:World):
  (execOp a.eval o).run P w=.ok (.enter f (c.args.map a.eval)) w:=by
 simp [execOp,ho,resolve,hc,Act.eval,Deferred.ofValue,invoke,zNn h]
theorem z5d {o:Oper} {c:Call} {f:FuncId} {t:Tmp} {vs:Array Value} (ho:o.op=.call c) (hc:c.callee=.value (.tmp t)) (h:FnOk P f) (a:Act) (w:World) (ht:a.eval (.tmp t)=.func (.func f) #[] vs):
  (execOp a.eval o).run P w=.ok (.enter f (c.args.map a.eval++vs)) w:=by
 simp [execOp,ho,resolve,hc,ht,Deferred.ofValue,invoke,zNn h]
theorem zRb {hp:Nat->Option Blk} {ρ:Operand->AV}:∀ {l:List Operand} {K:List D->List Nat->Prop},zNj hp ρ l K->
  ∃ ds ns,K ds ns/\ds.length=l.length/\ (∀ (i:Nat) (x:Operand) (d:D),l[i]?=some x->ds[i]?=some d->conv hp (ρ x)=some d/\ ∀ b∈zAp hp (ρ x),b∈ns)
 | [],K,h=>⟨[],[],h,rfl,fun i x d h1=>by simp at h1⟩
 |x::r,K,h=>by
  simp only [zNj] at h
  cases hc:conv hp (ρ x) with
  |none=>simp [hc] at h
  |some d=>
   simp only [hc] at h;obtain ⟨ds,ns,hK,hl,hd⟩:=zRb h;refine ⟨d::ds,_,hK,by simp [hl],fun i y d' h1 h2=>?_⟩
   cases i with
   |zero=>
    simp only [List.getElem?_cons_zero,Option.some.injEq] at h1 h2;subst h1 h2;exact ⟨hc,fun b hb=>List.mem_append_left _ hb⟩
   |succ i=>
    obtain ⟨e1,e2⟩:=hd i y d' (by simpa using h1) (by simpa using h2);exact ⟨e1,fun b hb=>List.mem_append_right _ (e2 b hb)⟩
theorem zEa {hp0 hp1:Nat->Option Blk} {ns:List Nat} (hf:∀ b l sz fr,b∈ns->hp0 b=some (.row l sz fr)->hp1 b=some (.row l sz true)) (hl:zKz hp0 hp1) (x:AV) (hx:∀ b∈zAp hp0 x,b∈ns):zAp hp1 x=[]:=by
 have one:∀ y:AV,(∀ b∈zAp.one hp0 y,b∈ns)->zAp.one hp1 y=[]:=by
  intro y hy
  cases y with
  |own b=>
   simp only [zAp.one] at hy⊢
   cases hb:hp0 b with
   |none=>
    rcases hl b with e|⟨l,sz,fr,e1,e2⟩
    ·rw [e,hb]
    ·rw [hb] at e1;cases e1
   |some B=>
    cases B with
    |box c fr=>
     rcases hl b with e|⟨l,sz,fr,e1,e2⟩
     ·rw [e,hb]
     ·rw [hb] at e1;cases e1
    |row l sz fr=>
     cases fr with
     |true=>
      rcases hl b with e|⟨l,sz,fr,e1,e2⟩
      ·rw [e,hb]
      ·rw [e2]
     |false=>rw [hf b l sz false (hy b (by simp [hb])) hb]
  |_=>rfl
 have cells:∀ c:List AV,(∀ b∈zAp.cells hp0 c,b∈ns)->zAp.cells hp1 c=[]:=by
  intro c
  induction c with
  |nil=>intro _;rfl
  |cons y r ih=>
   intro h;simp only [zAp.cells,List.mem_append] at h⊢;rw [one y fun b hb=>h b (.inl hb),ih fun b hb=>h b (.inr hb)];rfl
 cases x with
 |own b=>exact one (.own b) hx
 |agg c=>exact cells c hx
 |_=>rfl
theorem yPk {own:Nat->Prop} {M M1:Mem} {ι:Inj} {hp hp1:Nat->Option Blk} {w:World} {ρ:Operand->AV} {a:Act} {l:List Operand} {ds:List D} {ns:List Nat}
  (hs:Sub M M1) (h1:HRel own M1 ι hp1 w) (hl:zKz hp hp1) (hf:∀ b l sz fr,b∈ns->hp b=some (.row l sz fr)->hp1 b=some (.row l sz true)) (hρ:∀ x,DenA M ι (ρ x) (a.eval x))
  (hlen:ds.length=l.length) (hd:∀ (i:Nat) (x:Operand) (d:D),l[i]?=some x->ds[i]?=some d->conv hp (ρ x)=some d/\ ∀ b∈zAp hp (ρ x),b∈ns):
  zUj M1 ds ((l.map a.eval).toArray):=by
 refine ⟨by simp [hlen],fun i d v e1 e2=>?_⟩;simp only [List.getElem?_toArray,List.getElem?_map] at e2
 cases hx:l[i]? with
 |none=>simp [hx] at e2
 |some x=>
  simp only [hx,Option.map_some,Option.some.injEq] at e2;subst e2;obtain ⟨g1,g2⟩:=hd i x d hx e1;exact zTq h1 (by rw [zTo hl];exact g1) (zEa hf hl _ g2) ((hρ x).mono hs)
theorem zDv {own:Nat->Prop} {w w':World} (h:Below w.heap.size w w') (ho:∀ c,w.heap.size<=c->own c):zBu own w w':=
 ⟨h.os,h.tape,h.output,h.size,fun c hc=>h.block c (by
  rcases Nat.lt_or_ge c w.heap.size with h'|h'
  ·exact h'
  ·exact absurd (ho c h') hc)⟩
theorem zHn {own:Nat->Prop} {w:World} {M M':Mem} (h:zTf w M M') (ho:∀ c,w.heap.size<=c->own c):zCq own M M':=
 fun b o v hv=>orR (h b o v hv) (ho b)
theorem HRel.behind {own:Nat->Prop} {M M':Mem} {ι:Inj} {hp:Nat->Option Blk} {w w':World} (h:HRel own M ι hp w) (hb:Below w.heap.size w w') (hs:Sub M M') (hf:zTf w M M'):HRel own M' ι hp w':=
 h.keep hs fun b' L' hL'=>⟨hb.block _ (h.lt hL'),fun B' hB' hfr o=>by
  cases hv:M' L'.blk o with
  |none=>rfl
  |some v=>
   rcases hf _ _ _ hv with e|e
   ·rw [h.closed hL' B' hB' hfr o] at e;cases e
   ·have:=h.lt hL';omega⟩
theorem z1f {hp:Nat->Option Blk} (ns:List Nat):∀ p∈frz hp ns,∃ l sz fr,p.2=.row l sz fr:=by
 induction ns with
 |nil=>intro p hp;cases hp
 |cons b r ih=>
  intro p hp1;simp only [frz] at hp1
  cases hb:hp b with
  |none=>simp only [hb] at hp1;exact ih p hp1
  |some B=>
   cases B with
   |box c fr=>simp only [hb] at hp1;exact ih p hp1
   |row l sz fr=>
    simp only [hb] at hp1
    cases hp1 with
    |head=>exact ⟨_,_,_,rfl⟩
    |tail _ hp1=>exact ih p hp1
theorem zHx (k:Option Nat):∀ (ws:List (Nat×Blk)) (hp:Nat->Option Blk),(∀ p∈ws,∃ l sz fr,p.2=.row l sz fr)->zBa (zD k hp) ws=zD k (zBa hp ws)
 | [],_,_=>rfl
 |(b,B)::r,hp,h=>by
  obtain ⟨l,sz,fr,e⟩:=h (b,B) (List.mem_cons_self ..);have e:B=.row l sz fr:=e;subst e;simp only [zBa];rw [<-zHx k r _ fun p hp=>h p (List.mem_cons_of_mem _ hp)]
  congr 1
  cases k with
  |none=>rfl
  |some k=>
   funext c
   by_cases hc:c=b
   ·subst hc;simp [zD,upd_same,zBl]
   ·rw [zAl _ _ hc];simp only [zD];rw [zAl _ _ hc]
theorem zEd (hp:Nat->Option Blk):∀ (x y:List (Nat×Blk)),zBa hp (x++y)=zBa (zBa hp x) y
 | [],_=>rfl
 |(b,B)::r,y=>by simp only [List.cons_append,zBa];exact zEd _ r y
theorem yIh {k b:Nat} (hk:2000000<=k) (hk8:k%8=0) (hb:b/8=k/8) {c:Nat} (h:Fm b c=true):Fm k c=true:=by
 unfold Fm at h⊢;rw [Nat.ble_eq_true_of_le hk,hk8]
 cases hq:Nat.ble 2000000 b&&Nat.beq (b%8) 0 with
 |true=>
  rw [hq] at h;simp only [cond_true] at h;rw [<-hb];exact h
 |false=>
  rw [hq] at h;simp only [cond_false] at h;have:=Nat.eq_of_beq_eq_true h;subst this;simp [hb]
theorem yMr {k b:Nat} (hF:∀ c,Fm b c=true->Fm k c=true) {x:AV} (h:killV.one k x=false):killV.one b x=false:=by
 have key:∀ c,Fm k c=false->Fm b c=false:=fun c hc=>by
  cases hq:Fm b c with
  |false=>rfl
  |true=>rw [hF c hq] at hc;cases hc
 cases x<;>simp only [killV.one] at h⊢<;>first|exact key _ h|exact h
theorem zPt {k b:Nat} (hF:∀ c,Fm b c=true->Fm k c=true):∀ {c:List AV},killV.names k c=false->killV.names b c=false
 | [],_=>rfl
 |x::r,h=>by
  simp only [killV.names] at h⊢
  cases h1:killV.one k x with
  |true=>rw [h1] at h;cases h
  |false=>
   rw [h1] at h;rw [yMr hF h1];exact zPt hF h
theorem z6q {k b:Nat} (hF:∀ c,Fm b c=true->Fm k c=true):∀ {c:List AV},killV.parts k c=false->killV.parts b c=false
 | [],_=>rfl
 |x::r,h=>by
  simp only [killV.parts] at h⊢
  cases h1:killV.part k x with
  |true=>rw [h1] at h;cases h
  |false=>
   rw [h1] at h
   have:killV.part b x=false:=by
    cases x<;>simp only [killV.part] at h1⊢<;>first|exact zPt hF h1|exact yMr hF h1
   rw [this];exact z6q hF h
theorem yLv {k b:Nat} (hF:∀ c,Fm b c=true->Fm k c=true) (x:AV):killV b (killV k x)=killV k x:=by
 have key:∀ c,Fm k c=false->Fm b c=false:=fun c hc=>by
  cases hq:Fm b c with
  |false=>rfl
  |true=>rw [hF c hq] at hc;cases hc
 cases x with
 |own c=>simp only [killV];cases h:Fm k c<;>simp [killV,key,h]
 |ptr c i j=>simp only [killV];cases h:Fm k c<;>simp [killV,key,h]
 |win c lo n q=>simp only [killV];cases h:Fm k c<;>simp [killV,key,h]
 |agg c=>simp only [killV];cases h:killV.names k c<;>simp [killV,zPt hF,h]
 |tup c=>simp only [killV];cases h:killV.parts k c<;>simp [killV,z6q hF,h]
 |fn f c=>simp only [killV];cases h:killV.names k c<;>simp [killV,zPt hF,h]
 |_=>rfl
theorem zZf {k b:Nat} (hk:2000000<=k) (hk8:k%8=0) (hb:b/8=k/8) (B:Blk):zBl b (zBl k B)=zBl k B:=by
 cases B with
 |row l sz fr=>rfl
 |box c fr=>
  simp only [zBl]
  congr 1
  induction c with
  |nil=>rfl
  |cons x r ih=>simp only [zBl.cells,ih,yLv (fun c=>yIh hk hk8 hb)]
theorem HRel.killed {own:Nat->Prop} {M:Mem} {ι:Inj} {hp:Nat->Option Blk} {w:World} (h:HRel own M ι hp w) (k:Nat):HRel own M ι (zD (some k) hp) w:=by
 refine ⟨fun b=>by rw [zIn];exact h.dom b,fun b hb=>?_,fun b B L hB hL=>?_,h.inj⟩
 ·obtain ⟨sz,fr,e⟩:=h.virt b hb;exact ⟨sz,fr,by simp [zD,e,zBl]⟩
 ·obtain ⟨B0,e0,rfl⟩:=killH_some hB;exact ⟨(h.at_ b B0 L e0 hL).1,zEp.kill (fun _ _=>rfl) (h.at_ b B0 L e0 hL).2⟩
def wrN (rows:List (Nat×Blk)):List Nat:=rows.map (·.1)
theorem z9y {b c:Nat} {B:Blk} {r:List (Nat×Blk)}:c∈wrN ((b,B)::r)↔c=b\/c∈wrN r:=by simp [wrN]
theorem zMv {c:Nat} {r:List (Nat×Blk)}:c∈wrN r↔∃ B,(c,B)∈r:=by simp [wrN]
theorem HRel.addRows {own:Nat->Prop} {M:Mem} {w:World} {k:Nat} (hk:2000000<=k) (lc:Nat->Option Loc):∀ (rows:List (Nat×Blk)) (ι:Inj) (hp:Nat->Option Blk),HRel own M ι hp w->
  (∀ b B,hp b=some B->∀ b',b'/8=k/8->zBl b' B=B)->
  (∀ p∈rows,p.1/8=k/8)->(wrN rows).Nodup->
  (∀ p∈rows,∃ l sz,p.2=.row l sz false/\match lc p.1 with
   |none=>l=[]
   |some L=>own L.blk/\zEp M ι w p.2 L)->
  (∀ p∈rows,∀ L,lc p.1=some L->∀ b' L',ι b'=some (some L')->L'.blk=L.blk->b'=p.1)->
  (∀ p∈rows,∀ q∈rows,∀ L L',lc p.1=some L->lc q.1=some L'->L.blk=L'.blk->p.1=q.1)->
  HRel own M (fun b=>if b∈wrN rows then some (lc b) else ι b) (zBa hp rows) w
 | [],ι,hp,h,_,_,_,_,_,_=>by
  have:(fun b=>if b∈wrN ([]:List (Nat×Blk)) then some (lc b) else ι b)=ι:=by funext b;simp [wrN]
  rw [this];exact h
 |(b,B)::r,ι,hp,h,hst,hfam,hnd,hB,hdis,hinj=>by
  have hfb:=hfam (b,B) (List.mem_cons_self ..);obtain ⟨l,sz,e1,e2⟩:=hB (b,B) (List.mem_cons_self ..);have e1:B=.row l sz false:=e1;subst e1;simp only [wrN,List.map_cons,List.nodup_cons] at hnd
  have hkill:zD (some b) hp=hp:=by
   funext c
   simp only [zD]
   cases hc:hp c with
   |none=>rfl
   |some C=>simp only [hst c C hc b hfb]
  have h1:HRel own M (upd ι b (some (lc b))) (upd hp b (some (.row l sz false))) w:=by
   cases hl:lc b with
   |none=>
    simp only [hl] at e2;subst e2;have:=h.virtual b sz false
    rwa [hkill] at this
   |some L=>
    simp only [hl] at e2
    have:=h.new b (.row l sz false) L (.refl M) e2.1 (by
      obtain ⟨cs,Ty,q1,q2,q3⟩:=e2.2
      exact ⟨cs,Ty,q1,q2,q3⟩) fun b' L' hne hL'=>⟨fun he=>hne (hdis _ (List.mem_cons_self ..) L hl b' L' hL' he),rfl,h.closed hL'⟩
    rwa [hkill] at this
  have ih:=HRel.addRows hk lc r _ _ h1 (fun c C hC b' hb'=>?_) (fun p hp=>hfam p (List.mem_cons_of_mem _ hp)) hnd.2 (fun p hp=>?_) (fun p hp L hL b' L' hL' he=>?_)
   fun p hp q hq=>hinj p (List.mem_cons_of_mem _ hp) q (List.mem_cons_of_mem _ hq)
  ·have e:(fun c=>if c∈wrN ((b,Blk.row l sz false)::r) then some (lc c) else ι c)=fun c=>if c∈wrN r then some (lc c) else upd ι b (some (lc b)) c:=by
    funext c
    by_cases hc:c∈wrN r
    ·rw [if_pos (z9y.2 (.inr hc)),if_pos hc]
    ·by_cases hcb:c=b
     ·subst hcb;rw [if_pos (z9y.2 (.inl rfl)),if_neg hc,upd_same]
     ·rw [if_neg (fun h=>(z9y.1 h).elim hcb hc),if_neg hc,zAl _ _ hcb]
   rw [e];exact ih
  ·by_cases hcb:c=b
   ·subst hcb;rw [upd_same] at hC;cases hC;rfl
   ·rw [zAl _ _ hcb] at hC;exact hst c C hC b' hb'
  ·obtain ⟨l',sz',q1,q2⟩:=hB p (List.mem_cons_of_mem _ hp);refine ⟨l',sz',q1,?_⟩
   cases hl:lc p.1 with
   |none=>simp only [hl] at q2;exact q2
   |some L=>
    simp only [hl] at q2;refine ⟨q2.1,?_⟩;rw [q1] at q2⊢;obtain ⟨cs,Ty,g1,g2,g3⟩:=q2.2;exact ⟨cs,Ty,g1,g2,g3⟩
  ·by_cases hcb:b'=b
   ·subst hcb;rw [upd_same] at hL';simp only [Option.some.injEq] at hL';exact hinj _ (List.mem_cons_self ..) p (List.mem_cons_of_mem _ hp) L' L hL' hL he
   ·rw [zAl _ _ hcb] at hL';exact hdis p (List.mem_cons_of_mem _ hp) L hL b' L' hL' he
theorem yNv (cs:List SC) (a b:Nat):(sWr a cs).length=(sWr b cs).length:=by
 induction cs generalizing a b with
 |nil=>rfl
 |cons c r ih=>cases c with
  |d x=>exact ih a b
  |row l sz=>simp only [sWr,List.length_cons,ih (a+1) (b+1)]
def sLc (bl:Nat->Option Loc) (i k:Nat):List SC->Nat->Option Loc
 | []=>fun _=>none
 | .d _::r=>sLc bl (i+1) k r
 | .row _ _::r=>fun b=>if b=k then bl i else sLc bl (i+1) (k+1) r b
def rk (cs:List SC) (j:Nat):Nat:=(sWr 0 (cs.take j)).length
theorem zSh (bl:Nat->Option Loc):∀ (cs:List SC) (i k:Nat) (p:Nat×Blk),p∈sWr k cs->k<=p.1/\p.1<k+(sWr 0 cs).length/\
  ∃ j l sz,cs[j]?=some (.row l sz) /\p.2=.row l sz false/\sLc bl i k cs p.1=bl (i+j) /\p.1=k+rk cs j
 | [],i,k,p,h=>by cases h
 | .d x::r,i,k,p,h=>by
  obtain ⟨h1,h2,j,l,sz,h3,h4,h5,h6⟩:=zSh bl r (i+1) k p h;exact ⟨h1,h2,j+1,l,sz,by simpa using h3,h4,by rw [show i+(j+1)=i+1+j by omega];exact h5,h6⟩
 | .row l0 sz0::r,i,k,p,h=>by
  simp only [sWr,List.mem_cons] at h
  have hl:(sWr 0 (.row l0 sz0::r)).length=(sWr 0 r).length+1:=by simp only [sWr,List.length_cons,yNv r (0+1) 0]
  rcases h with rfl|h
  ·exact ⟨Nat.le_refl _,by rw [hl];simp,0,l0,sz0,rfl,rfl,by simp [sLc],by simp [rk,sWr]⟩
  ·obtain ⟨h1,h2,j,l,sz,h3,h4,h5,h6⟩:=zSh bl r (i+1) (k+1) p h;refine ⟨by omega,by rw [hl];omega,j+1,l,sz,by simpa using h3,h4,?_,?_⟩
   ·simp only [sLc]
    rw [if_neg (by omega),h5];congr 1;omega
   ·have:rk (.row l0 sz0::r) (j+1)=rk r j+1:=by simp only [rk,List.take_succ_cons,sWr,List.length_cons,yNv _ (0+1) 0]
    omega
theorem zQh:∀ (cs:List SC) (k:Nat),(wrN (sWr k cs)).Nodup
 | [],k=>by simp [sWr,wrN]
 | .d x::r,k=>zQh r k
 | .row l0 sz0::r,k=>by
  simp only [sWr,wrN,List.map_cons,List.nodup_cons];refine ⟨fun h=>?_,zQh r (k+1)⟩;obtain ⟨p,hp,e⟩:=List.mem_map.1 h;have:=(zSh (fun _=>none) r 0 (k+1) p hp).1;omega
theorem z3b (bl:Nat->Option Loc):∀ (cs:List SC) (i k j:Nat) (x:AV),(sAv k cs)[j]?=some x->(∃ d,cs[j]?=some (.d d) /\x=.d d) \/
  ∃ l sz b,cs[j]?=some (.row l sz) /\x=.own b/\ (b,Blk.row l sz false)∈sWr k cs/\sLc bl i k cs b=bl (i+j)
 | [],i,k,j,x,h=>by simp [sAv] at h
 | .d y::r,i,k,0,x,h=>by
  simp only [sAv,List.getElem?_cons_zero,Option.some.injEq] at h;exact .inl ⟨y,rfl,h.symm⟩
 | .d y::r,i,k,j+1,x,h=>by
  simp only [sAv,List.getElem?_cons_succ] at h
  rcases z3b bl r (i+1) k j x h with ⟨d,h1,h2⟩|⟨l,sz,b,h1,h2,h3,h4⟩
  ·exact .inl ⟨d,by simpa using h1,h2⟩
  ·exact .inr ⟨l,sz,b,by simpa using h1,h2,h3,by rw [show i+(j+1)=i+1+j by omega];exact h4⟩
 | .row l0 sz0::r,i,k,0,x,h=>by
  simp only [sAv,List.getElem?_cons_zero,Option.some.injEq] at h;exact .inr ⟨l0,sz0,k,rfl,h.symm,by simp [sWr],by simp [sLc]⟩
 | .row l0 sz0::r,i,k,j+1,x,h=>by
  simp only [sAv,List.getElem?_cons_succ] at h
  rcases z3b bl r (i+1) (k+1) j x h with ⟨d,h1,h2⟩|⟨l,sz,b,h1,h2,h3,h4⟩
  ·exact .inl ⟨d,by simpa using h1,h2⟩
  ·have hb:=(zSh bl r (i+1) (k+1) _ h3).1;refine .inr ⟨l,sz,b,by simpa using h1,h2,List.mem_cons_of_mem _ h3,?_⟩;simp only [sLc]
   rw [if_neg (by simp at hb;omega),h4];congr 1;omega
theorem z3c (k:Nat) (cs:List SC):(sAv k cs).length=cs.length:=by
 induction cs generalizing k with
 |nil=>rfl
 |cons c r ih=>cases c<;>simp [sAv,ih]
theorem writes_still {k:Nat}:∀ (rows:List (Nat×Blk)) (hp:Nat->Option Blk),(∀ b B,hp b=some B->zBl k B=B)->(∀ p∈rows,zBl k p.2=p.2)->∀ b B,zBa hp rows b=some B->zBl k B=B
 | [],hp,h,_,b,B,hB=>h b B hB
 |(c,C)::r,hp,h,hr,b,B,hB=>by
  refine writes_still r (upd hp c (some C)) (fun b' B' hB'=>?_) (fun p hp=>hr p (.tail _ hp)) b B hB
  by_cases e:b'=c
  ·subst e;rw [upd_same] at hB'
   cases hB'
   exact hr _ (List.mem_cons_self ..)
  ·rw [zAl _ _ e] at hB';exact h b' B' hB'
theorem z4g {f:FuncId} {st:Bool} {xs:List AV} {hp:Nat->Option Blk} {dst:Option Tmp} {l:List Operand} {ds cs:List D} {ns:List Nat} {ρ:Operand->AV} {K:Eff->Prop}
  (h:zR P f st xs hp dst (ds++cs) ns K) (hlen:ds.length=l.length) (hd:∀ (i:Nat) (x:Operand) (d:D),l[i]?=some x->ds[i]?=some d->conv hp (ρ x)=some d/\ ∀ b∈zAp hp (ρ x),b∈ns)
  (hxs:st=true->xs=evs ρ l/\cs=[]):
  ∃ e,K e/\FnOk P f/\ ∀ (own:Nat->Prop) (M:Mem) (ι:Inj) (a:Act) (w:World) (vs:Array Value),(∀ c,w.heap.size<=c->own c)->zBj M w->HRel own M ι hp w->(∀ x,DenA M ι (ρ x) (a.eval x))->zUj M cs vs->
   Calls P f ((l.map a.eval).toArray++vs) w fun en w'=>∃ v,en=.returned v/\Post own M ι hp w e v w':=by
 have prep:∀ (own:Nat->Prop) (M:Mem) (ι:Inj) (a:Act) (w:World) (vs:Array Value),zBj M w->HRel own M ι hp w->(∀ x,DenA M ι (ρ x) (a.eval x))->zUj M cs vs->
   ∃ M1,Sub M M1/\zBj M1 w/\zCq own M M1/\HRel own M1 ι (zBa hp (frz hp ns)) w/\zUj M1 (ds++cs) ((l.map a.eval).toArray++vs):=by
  intro own M ι a w vs ha hh hρ hvs;obtain ⟨M1,s1,a1,n1,h1,l1,f1⟩:=zHm (hp0:=hp) ns M hp ha hh (.refl hp);have hden:=yPk (a:=a) s1 h1 l1 (fun b l sz fr hb e=>f1 b l sz fr (.inl hb) e) hρ hlen hd;refine ⟨M1,s1,a1,n1,h1,by simp [hden.1,hvs.1],fun i d v e1 e2=>?_⟩
  by_cases hi:i<ds.length
  ·rw [List.getElem?_append_left hi] at e1;rw [Array.getElem?_append_left (by simpa [hlen] using hi)] at e2;exact hden.2 i d v e1 e2
  ·rw [List.getElem?_append_right (by omega)] at e1;rw [Array.getElem?_append_right (by simp;omega)] at e2;exact (hvs.2 _ d v e1 (by simpa [hlen] using e2)).mono s1
 replace h:=h.out
 rcases h with ⟨d,hA,hK⟩|⟨l',sz,t,hO,hdst,hK⟩|⟨hst,e,hE,hK⟩|⟨cs',t,hS,hdst,hn8,hK⟩|⟨cs',rs',t,hS,hdst,hn8,hK⟩
 ·cases hsc:scalar d with
  |true=>
   simp only [hsc,cond_true] at hK;refine ⟨_,hK,hA.1,fun own M ι a w vs ho ha hh hρ hvs=>?_⟩;obtain ⟨M1,s1,a1,n1,h1,hden⟩:=prep own M ι a w vs ha hh hρ hvs
   refine (hA.2 w M1 _ a1 hden).mono fun en w' hq=>?_
   obtain ⟨v,M',e,hb,s2,a2,f2,d2⟩:=hq;exact ⟨v,e,M,ι,zDv hb ho,.refl M,fun b o v h=>a2 _ _ _ (s2 _ _ _ (s1 _ _ _ h)),.refl _ _,hh.behind hb (.refl M) (fun _ _ _ h=>.inl h),fun _ _=>rfl,z1y (yHw hsc d2)⟩
  |false=>
   simp only [hsc,cond_false] at hK;refine ⟨_,hK,hA.1,fun own M ι a w vs ho ha hh hρ hvs=>?_⟩;obtain ⟨M1,s1,a1,n1,h1,hden⟩:=prep own M ι a w vs ha hh hρ hvs
   refine (hA.2 w M1 _ a1 hden).mono fun en w' hq=>?_
   obtain ⟨v,M',e,hb,s2,a2,f2,d2⟩:=hq;exact ⟨v,e,M',ι,zDv hb ho,s1.trans s2,a2,n1.trans (zHn f2 ho),h1.behind hb s2 f2,fun _ _=>rfl,z1y d2⟩
 ·refine ⟨_,hK,hO.1,fun own M ι a w vs ho ha hh hρ hvs=>?_⟩;obtain ⟨M1,s1,a1,n1,h1,hden⟩:=prep own M ι a w vs ha hh hρ hvs
  refine (hO.2 w M1 _ a1 hden).mono fun en w' hq=>?_
  obtain ⟨v,M',e,hb,s2,a2,f2,hrow⟩:=hq;have h2:=h1.behind hb s2 f2
  have ehp:(⟨.own t,frz hp ns++[(t,.row l' sz false)],some t⟩:Eff).hp hp=upd (zD (some t) (zBa hp (frz hp ns))) t (some (.row l' sz false)):=by
   simp only [Eff.hp,zEd,zBa,zHx (some t) _ hp (z1f ns)]
  rcases hrow with ⟨rfl,ad,rfl⟩|⟨c,cap,cells,Ty,g1,rfl,g2,g3,g4,g5,g6⟩
  ·refine ⟨_,e,M',upd ι t (some none),zDv hb ho,s1.trans s2,a2,n1.trans (zHn f2 ho),?_,fun b hb=>zAl _ _ fun e=>zTg hb e,.ownE t ad (upd_same _ _ _)⟩;rw [ehp];exact h2.virtual t sz false
  ·let L:Loc:=⟨c,sz,cells.size,l'.length⟩
   refine ⟨_,e,M',upd ι t (some (some L)),zDv hb ho,s1.trans s2,a2,n1.trans (zHn f2 ho),?_,fun b hb=>zAl _ _ fun e=>zTg hb e,.own t L cap (upd_same _ _ _) g2 g3⟩;rw [ehp]
   refine h2.new t (.row l' sz false) L (.refl _) (ho c g1) ⟨cells,Ty,g4,rfl,rfl,rfl,Nat.le_trans (Nat.mul_le_mul_right _ g2) g3,g5,(by intro e;cases e),fun _=>g6⟩ fun b' L' hne hL'=>⟨?_,rfl,h2.closed hL'⟩
   have:=h1.lt hL';show L'.blk≠c;omega
 ·obtain ⟨rfl,rfl⟩:=hxs hst;refine ⟨e,hK,hE.1,fun own M ι a w vs ho ha hh hρ hvs=>?_⟩
  have hvs0:vs=#[]:=by
   have:=hvs.1
   simpa using this
  subst hvs0
  have hda:yPg M ι (evs ρ l) ((l.map a.eval).toArray++#[]):=by
   have key:∀ l:List Operand,(evs ρ l).length=l.length/\ ∀ (i:Nat) (x:AV) (v:Value),(evs ρ l)[i]?=some x->(l.map a.eval)[i]?=some v->DenA M ι x v:=by
    intro l
    induction l with
    |nil=>exact ⟨rfl,fun i x v h=>by simp [evs] at h⟩
    |cons y r ih=>
     refine ⟨by simp [evs,ih.1],fun i x v e1 e2=>?_⟩
     cases i with
     |zero=>
      simp only [evs,List.map_cons,List.getElem?_cons_zero,Option.some.injEq] at e1 e2;subst e1 e2;exact hρ y
     |succ i=>exact ih.2 i x v (by simpa [evs] using e1) (by simpa using e2)
   exact ⟨by simp [(key l).1],fun i x v e1 e2=>(key l).2 i x v e1 (by simpa using e2)⟩
  refine (hE.2 own M ι w _ ho ha hh hda).mono fun en w' hq=>?_
  obtain ⟨v,M',ι',e1,e2,e3,e4,e5,e6,e7,e8⟩:=hq;exact ⟨v,e1,M',ι',e2,e3,e4,e5,e6,e7,e8⟩
 ·have key:∀ n:Nat,∃ k:Nat,k=2000000+8*n/\k%8=0/\2000000<=k:=fun n=>⟨_,rfl,by omega,by omega⟩
  obtain ⟨k,hkd,hk8,hk⟩:=key t
  have hK:K ⟨.agg (sAv k cs'),frz hp ns++sWr k cs',some k⟩:=by rw [hkd];exact hK
  refine ⟨_,hK,hS.1,fun own M ι a w vs ho ha hh hρ hvs=>?_⟩;obtain ⟨M1,s1,a1,n1,h1,hden⟩:=prep own M ι a w vs ha hh hρ hvs
  refine (hS.2 w M1 _ a1 hden).mono fun en w' hq=>?_
  obtain ⟨us,M',bl,e,hb,s2,a2,f2,hus,hcell,hbl⟩:=hq;have h2:=h1.behind hb s2 f2
  have hfam:∀ b,k<=b->b<k+8->b/8=k/8:=fun b q1 q2=>by omega
  have ehp:(⟨.agg (sAv k cs'),frz hp ns++sWr k cs',some k⟩:Eff).hp hp=zBa (zD (some k) (zBa hp (frz hp ns))) (sWr k cs'):=by
   simp only [Eff.hp,zEd,zHx (some k) _ hp (z1f ns)]
  have hst:∀ b B,zD (some k) (zBa hp (frz hp ns)) b=some B->∀ b',b'/8=k/8->zBl b' B=B:=fun b B hB b' hb'=>by
   obtain ⟨B0,_,rfl⟩:=killH_some hB;exact zZf hk hk8 hb' B0
  have hrow:∀ p∈sWr k cs',k<=p.1/\p.1<k+8/\ ∃ j l sz,cs'[j]?=some (.row l sz) /\p.2=.row l sz false/\sLc bl 0 k cs' p.1=bl j/\p.1=k+rk cs' j:=fun p hp=>by
   obtain ⟨q1,q2,j,l,sz,q3,q4,q5,q6⟩:=zSh bl cs' 0 k p hp;exact ⟨q1,by omega,j,l,sz,q3,q4,by simpa using q5,q6⟩
  have h3:=HRel.addRows hk (sLc bl 0 k cs') (sWr k cs') ι _ (h2.killed k) hst (fun p hp=>hfam _ (hrow p hp).1 (hrow p hp).2.1) (zQh cs' k) (fun p hp=>by
    obtain ⟨q1,q2,j,l,sz,q3,q4,q5,q6⟩:=hrow p hp;refine ⟨l,sz,q4,?_⟩;rw [q5,q4];obtain ⟨u,g1,g2⟩:=hcell j _ q3;simp only at g2
    cases hl:bl j with
    |none=>rw [hl] at g2;exact g2.1
    |some L=>
     rw [hl] at g2;obtain ⟨z1,cap,cells,Ty,z2,z3,z4,z5,z6,z7,z8,z9,z10⟩:=g2
     exact ⟨ho _ z1,cells,Ty,z8,z5.symm,z4.symm,z3.symm,by rw [z5];exact Nat.le_trans (Nat.mul_le_mul_right _ z6) z7,z9,(by intro e;cases e),fun _=>z10⟩)
   (fun p hp L hL b' L' hL' he=>by
    obtain ⟨q1,q2,j,l,sz,q3,q4,q5,q6⟩:=hrow p hp;rw [q5] at hL;obtain ⟨u,g1,g2⟩:=hcell j _ q3;simp only [hL] at g2;have:=g2.1;have:=h1.lt hL'
    omega)
   (fun p hp q hq L L' hL hL' he=>by
    obtain ⟨_,_,j,l,sz,q3,q4,q5,q6⟩:=hrow p hp;obtain ⟨_,_,j',l',sz',q3',q4',q5',q6'⟩:=hrow q hq;rw [q5] at hL;rw [q5'] at hL';have:=hbl j j' L L' hL hL' he;subst this
    omega)
  refine ⟨_,e,M',_,zDv hb ho,s1.trans s2,a2,n1.trans (zHn f2 ho),by rw [ehp];exact h3,fun b hb=>?_,?_⟩
  ·by_cases hm:b∈wrN (sWr k cs')
   ·obtain ⟨B,hB⟩:=zMv.1 hm;obtain ⟨q1,q2,_⟩:=hrow _ hB;have h8:=hfam b q1 q2;have:Fm k b=true:=yIh hk hk8 h8 (Fm_self b);have hb:Fm k b=false:=hb
    rw [this] at hb;cases hb
   ·simp only [if_neg hm]
  ·refine .agg _ us (by rw [z3c];exact hus) fun j x u hx hu=>?_
   rcases z3b bl cs' 0 k j x hx with ⟨d,g1,rfl⟩|⟨l,sz,b,g1,rfl,g2,g3⟩
   ·obtain ⟨u',g4,g5⟩:=hcell j _ g1
    rw [hu] at g4;cases g4
    exact .d _ _ g5
   ·obtain ⟨u',g4,g5⟩:=hcell j _ g1
    rw [hu] at g4;cases g4
    have hm:b∈wrN (sWr k cs'):=zMv.2 ⟨_,g2⟩;simp only [Nat.zero_add] at g3
    cases hl:bl j with
    |none=>
     simp only [hl] at g5;obtain ⟨_,ad,rfl⟩:=g5;exact .ownE b ad (by simp only [if_pos hm,g3,hl])
    |some L=>
     simp only [hl] at g5;obtain ⟨z1,cap,cells,Ty,rfl,z3,z4,z5,z6,z7,z8,z9,z10⟩:=g5;rw [<-z3];exact .own b L cap (by simp only [if_pos hm,g3,hl]) (by rw [z3];exact z6) (by rw [z4,z5];exact z7)
 ·have key:∀ n:Nat,∃ k:Nat,k=2000000+8*n/\k%8=0/\2000000<=k:=fun n=>⟨_,rfl,by omega,by omega⟩
  obtain ⟨k,hkd,hk8,hk⟩:=key t
  have hK:K ⟨.tup (.ptr k 0 0::rs'.map ofD.one),frz hp ns++(sWr (k+1) cs'++[(k,.box (sAv (k+1) cs') false)]),some k⟩:=by rw [hkd];exact hK
  refine ⟨_,hK,hS.1,fun own M ι a w vs ho ha hh hρ hvs=>?_⟩;obtain ⟨M1,s1,a1,n1,h1,hden⟩:=prep own M ι a w vs ha hh hρ hvs
  refine (hS.2 w M1 _ a1 hden).mono fun en w' hq=>?_
  obtain ⟨c0,us,rv,Ty0,M',bl,e,hc0,hheap,hM0,hb,s2,a2,f2,hus,hrv,hcell,hbl,hbc⟩:=hq;have h2:=h1.behind hb s2 f2
  have hfam:∀ b,k+1<=b->b<k+8->b/8=k/8:=fun b q1 q2=>by omega
  have ehp:(⟨.tup (.ptr k 0 0::rs'.map ofD.one),frz hp ns++(sWr (k+1) cs'++[(k,.box (sAv (k+1) cs') false)]),some k⟩:Eff).hp hp=upd (zBa (zD (some k) (zBa hp (frz hp ns))) (sWr (k+1) cs')) k (some (.box (sAv (k+1) cs') false)):=by
   simp only [Eff.hp,zEd,zBa,zHx (some k) _ hp (z1f ns)]
  have hst:∀ b B,zD (some k) (zBa hp (frz hp ns)) b=some B->∀ b',b'/8=k/8->zBl b' B=B:=fun b B hB b' hb'=>by
   obtain ⟨B0,_,rfl⟩:=killH_some hB;exact zZf hk hk8 hb' B0
  have hrow:∀ p∈sWr (k+1) cs',k+1<=p.1/\p.1<k+8/\ ∃ j l sz,cs'[j]?=some (.row l sz) /\p.2=.row l sz false/\sLc bl 0 (k+1) cs' p.1=bl j/\p.1=k+1+rk cs' j:=fun p hp=>by
   obtain ⟨q1,q2,j,l,sz,q3,q4,q5,q6⟩:=zSh bl cs' 0 (k+1) p hp;exact ⟨q1,by omega,j,l,sz,q3,q4,by simpa using q5,q6⟩
  have h3:=HRel.addRows hk (sLc bl 0 (k+1) cs') (sWr (k+1) cs') ι _ (h2.killed k) hst (fun p hp=>hfam _ (hrow p hp).1 (hrow p hp).2.1) (zQh cs' (k+1)) (fun p hp=>by
    obtain ⟨q1,q2,j,l,sz,q3,q4,q5,q6⟩:=hrow p hp;refine ⟨l,sz,q4,?_⟩;rw [q5,q4];obtain ⟨u,g1,g2⟩:=hcell j _ q3;simp only at g2
    cases hl:bl j with
    |none=>rw [hl] at g2;exact g2.1
    |some L=>
     rw [hl] at g2;obtain ⟨z1,cap,cells,Ty,z2,z3,z4,z5,z6,z7,z8,z9,z10⟩:=g2
     exact ⟨ho _ z1,cells,Ty,z8,z5.symm,z4.symm,z3.symm,by rw [z5];exact Nat.le_trans (Nat.mul_le_mul_right _ z6) z7,z9,(by intro e;cases e),fun _=>z10⟩)
   (fun p hp L hL b' L' hL' he=>by
    obtain ⟨q1,q2,j,l,sz,q3,q4,q5,q6⟩:=hrow p hp;rw [q5] at hL;obtain ⟨u,g1,g2⟩:=hcell j _ q3;simp only [hL] at g2;have:=g2.1;have:=h1.lt hL'
    omega)
   (fun p hp q hq L L' hL hL' he=>by
    obtain ⟨_,_,j,l,sz,q3,q4,q5,q6⟩:=hrow p hp;obtain ⟨_,_,j',l',sz',q3',q4',q5',q6'⟩:=hrow q hq;rw [q5] at hL;rw [q5'] at hL';have:=hbl j j' L L' hL hL' he;subst this
    omega)
  have hnm:k∉wrN (sWr (k+1) cs'):=fun hm=>by
   obtain ⟨B,hB⟩:=zMv.1 hm;have:=(hrow _ hB).1;simp only at this;omega
  have hkill:zD (some k) (zBa (zD (some k) (zBa hp (frz hp ns))) (sWr (k+1) cs'))=zBa (zD (some k) (zBa hp (frz hp ns))) (sWr (k+1) cs'):=by
   have hw:=writes_still (k:=k) (sWr (k+1) cs') (zD (some k) (zBa hp (frz hp ns))) (fun b B hB=>hst b B hB k rfl) (fun p hp=>by
    obtain ⟨_,_,j,l,sz,_,q4,_⟩:=hrow p hp
    rw [q4];rfl)
   funext b
   simp only [zD]
   cases hc:zBa (zD (some k) (zBa hp (frz hp ns))) (sWr (k+1) cs') b with
   |none=>simp only [zD] at hc;rw [hc]
   |some B=>
    have:=hw b B hc;simp only [zD] at hc;rw [hc];simp only [this]
  have hbox:zEp M' (upd (fun b=>if b∈wrN (sWr (k+1) cs') then some (sLc bl 0 (k+1) cs' b) else ι b) k (some (some ⟨c0,us.size,us.size,1⟩))) w' (.box (sAv (k+1) cs') false) ⟨c0,us.size,us.size,1⟩:=by
   refine ⟨us,Ty0,hheap,rfl,by rw [z3c];exact hus,by rw [z3c];exact hus,⟨by rw [z3c];exact hus,fun j x hx=>?_⟩,(by intro e;cases e),fun _=>hM0⟩
   rcases z3b bl cs' 0 (k+1) j x hx with ⟨d,g1,rfl⟩|⟨l,sz,b,g1,rfl,g2,g3⟩
   ·obtain ⟨u',g4,g5⟩:=hcell j _ g1;exact ⟨u',g4,.d _ _ g5⟩
   ·obtain ⟨u',g4,g5⟩:=hcell j _ g1;have hm:b∈wrN (sWr (k+1) cs'):=zMv.2 ⟨_,g2⟩
    have hbk:b≠k:=fun e=>hnm (e▸hm)
    simp only [Nat.zero_add] at g3;refine ⟨u',g4,?_⟩
    cases hl:bl j with
    |none=>
     simp only [hl] at g5;obtain ⟨_,ad,rfl⟩:=g5;exact .ownE b ad (by rw [zAl _ _ hbk];simp only [if_pos hm,g3,hl])
    |some L=>
     simp only [hl] at g5;obtain ⟨z1,cap,cells,Ty,rfl,z3,z4,z5,z6,z7,z8,z9,z10⟩:=g5;rw [<-z3];exact .own b L cap (by rw [zAl _ _ hbk];simp only [if_pos hm,g3,hl]) (by rw [z3];exact z6) (by rw [z4,z5];exact z7)
  have h4:=h3.new k (.box (sAv (k+1) cs') false) ⟨c0,us.size,us.size,1⟩ (.refl M') (ho c0 hc0) hbox fun b' L' hne hL'=>⟨?_,rfl,h3.closed hL'⟩
  ·refine ⟨_,e,M',_,zDv hb ho,s1.trans s2,a2,n1.trans (zHn f2 ho),by rw [ehp,<-hkill];exact h4,fun b hb=>?_,?_⟩
   ·have hb:Fm k b=false:=hb;have hbk:b≠k:=yIi hb;rw [zAl _ _ hbk]
    by_cases hm:b∈wrN (sWr (k+1) cs')
    ·obtain ⟨B,hB⟩:=zMv.1 hm;obtain ⟨q1,q2,_⟩:=hrow _ hB;have h8:=hfam b q1 q2;have:Fm k b=true:=yIh hk hk8 h8 (Fm_self b)
     rw [this] at hb;cases hb
    ·simp only [if_neg hm]
   ·refine .tup _ _ (by simp [hrv.1];omega) fun j x u hx hu=>?_
    cases j with
    |zero=>
     simp only [List.getElem?_cons_zero,Option.some.injEq] at hx
     have hu:Value.pointer (some ⟨c0,0,none⟩)=u:=by
      rw [Array.getElem?_append_left (by simp)] at hu
      simpa using hu
     subst hx hu;have:=DenA.ptr (M:=M') k 0 0 ⟨c0,us.size,us.size,1⟩ (upd_same (fun b=>if b∈wrN (sWr (k+1) cs') then some (sLc bl 0 (k+1) cs' b) else ι b) k (some (some ⟨c0,us.size,us.size,1⟩)))
     simpa using this
    |succ j=>
     simp only [List.getElem?_cons_succ,List.getElem?_map,Option.map_eq_some_iff] at hx;obtain ⟨d,hd1,rfl⟩:=hx;refine zWk (hrv.2 j d u hd1 ?_);rw [Array.getElem?_append_right (by simp)] at hu
     simpa using hu
  ·by_cases hm:b'∈wrN (sWr (k+1) cs')
   ·obtain ⟨B,hB⟩:=zMv.1 hm;obtain ⟨_,_,j,l,sz,q3,q4,q5,q6⟩:=hrow _ hB;simp only [if_pos hm] at hL';simp only at q5;rw [q5] at hL';simp only [Option.some.injEq] at hL';exact hbc j L' hL'
   ·simp only [if_neg hm] at hL';have:=h1.lt hL';show L'.blk≠c0;omega
end
end Go.Lk
