/-
  What is proved here: what functions of the program compute, and what follows; no condition beyond each theorem's own.
-/
import Derived.Test.YtaofmndhdmkgkaaGreatGAb
import Derived.Laws.CopyRow
import Derived.Laws.MakeOwn
set_option linter.unusedSimpArgs false
set_option linter.unusedVariables false
set_option linter.unnecessarySimpa false
set_option linter.unusedSectionVars false
namespace Go.Lk
open Go Go.RowKit
theorem zG {α:Type}:∀ (xs:List α) (c:List α) (j:Nat),(zAy c j xs).length=c.length
 | [],_,_=>rfl
 |x::r,c,j=>by simp only [zAy];rw [zG r];simp
theorem splice_get {α:Type}:∀ (xs:List α) (c:List α) (j k:Nat),j+xs.length<=c.length->(zAy c j xs)[k]?=if j<=k/\k<j+xs.length then xs[k-j]? else c[k]?
 | [],c,j,k,_=>by simp [zAy];intro h1 h2;omega
 |x::r,c,j,k,h=>by
  simp only [zAy];rw [splice_get r _ _ _ (by simp at h⊢;omega)];simp only [List.length_cons] at h⊢
  by_cases h1:j+1<=k/\k<j+1+r.length
  ·rw [if_pos h1,if_pos ⟨by omega,by omega⟩];obtain ⟨m,rfl⟩:∃ m,k=j+1+m:=⟨k-(j+1),by omega⟩;simp [show j+1+m-j=m+1 by omega]
  ·rw [if_neg h1]
   by_cases h2:k=j
   ·subst h2;rw [if_pos ⟨by omega,by omega⟩];simp [show k<c.length by omega]
   ·rw [if_neg (by omega)];rw [List.getElem?_set_ne (by omega)]
theorem zJr {α:Type} {c xs:List α} {j:Nat} (h:j+xs.length<=c.length):spliceF c j xs=zAy c j xs:=by
 apply List.ext_getElem?;intro k;rw [splice_get _ _ _ _ h,spliceF]
 by_cases h1:k<j
 ·rw [List.getElem?_append_left (by rw [List.length_take];omega),List.getElem?_take_of_lt h1,if_neg (by omega)]
 ·rw [List.getElem?_append_right (by rw [List.length_take];omega),List.length_take,Nat.min_eq_left (by omega)]
  by_cases h2:k<j+xs.length
  ·rw [List.getElem?_append_left (by omega),if_pos ⟨by omega,h2⟩]
  ·rw [List.getElem?_append_right (by omega),List.getElem?_drop,if_neg (by omega)]
   congr 1;omega
theorem zOm {M:Mem} {w:World} (h:zBj M w) (o:Nat):M w.heap.size o=none:=by
 cases hv:M w.heap.size o with
 |none=>rfl
 |some v=>
  have:=World.block_lt_of_cell? w _ (h _ _ _ hv);simp at this
theorem z7v {M:Mem} {w:World} (h:zBj M w) (ob:Obj):zBj M (w.alloc ob):=fun b o v hv=>by
 have:=World.block_lt_of_cell? w _ (h _ _ _ hv);rw [World.cell?_alloc_lt _ _ _ this];exact h _ _ _ hv
theorem zPi (w:World) (ob:Obj) {c:Nat} (h:c<w.heap.size):(w.alloc ob).heap[c]?=w.heap[c]?:=Below.heap_alloc w ob c h
theorem zFe (w:World) (ob:Obj):(w.alloc ob).heap[w.heap.size]?=some ob:=by
 show (w.heap.push ob)[w.heap.size]?=_;simp
theorem z9f {own:Nat->Prop} {w:World} (ho:∀ c,w.heap.size<=c->own c) (ob:Obj):zBu own w (w.alloc ob):=
 ⟨rfl,rfl,rfl,by simp,fun c hc=>by
  rcases Nat.lt_or_ge c w.heap.size with h|h
  ·exact zPi w ob h
  ·exact absurd (ho c h) hc⟩
theorem zUa {own:Nat->Prop} {M M1:Mem} {ι:Inj} {hp hp1:Nat->Option Blk} {w w0:World} (ho:∀ c,w.heap.size<=c->own c) (hs:Sub M M1) (hn:zCq own M M1) (ha:zBj M1 w0) (hh:HRel own M1 ι hp1 w0)
  (hw:w0.heap=w.heap) (hw1:w0.os=w.os) (hw2:w0.tape=w.tape) (hw3:w0.output=w.output)
  {e:Eff} {d:Nat} {B:Blk} {vs:Array Value} {Ty:TypeId} {sz len:Nat} {v:Value}
  (he:e.hp hp=upd (zD (some d) hp1) d (some B)) (hk:e.kl=some d)
  (hB:zEp M1 (upd ι d (some (some ⟨w.heap.size,sz,vs.size,len⟩))) (w0.alloc (.cells vs Ty)) B ⟨w.heap.size,sz,vs.size,len⟩)
  (hd:DenA M1 (upd ι d (some (some ⟨w.heap.size,sz,vs.size,len⟩))) e.av v):Post own M ι hp w e v (w0.alloc (.cells vs Ty)):=by
 refine ⟨M1,upd ι d (some (some ⟨w.heap.size,sz,vs.size,len⟩)),?_,hs,z7v ha _,hn,?_,fun b hb=>zAl _ _ fun e'=>zTg (hk▸hb) e',hd⟩
 ·have:=z9f (w:=w0) (own:=own) (fun c hc=>ho c (by rw [<-hw];exact hc)) (.cells vs Ty);exact ⟨this.os.trans hw1,this.tape.trans hw2,this.output.trans hw3,by rw [<-hw];exact this.size,fun c hc=>by rw [this.block c hc,hw]⟩
 ·rw [he]
  refine hh.new d B _ (.refl _) (ho _ (Nat.le_refl _)) hB fun b' L' hne hL'=>?_
  have hlt:=hh.lt hL';refine ⟨?_,zPi _ _ hlt,hh.closed hL'⟩;show L'.blk≠w.heap.size;rw [<-hw];omega
theorem yGm {hp:Nat->Option Blk} (ns:List Nat) (d:Nat) (B:Blk) (av:AV):(⟨av,frz hp ns++[(d,B)],some d⟩:Eff).hp hp=upd (zD (some d) (zBa hp (frz hp ns))) d (some B):=by
 simp only [Eff.hp,zEd,zBa,zHx (some d) _ hp (z1f ns)]
theorem zEv:∀ {vs:List Value} {ds:List D},zEu vs ds=true->vs.length=ds.length/\ ∀ (i:Nat) (d:D),ds[i]?=some d->∃ v,vs[i]?=some v/\ (∀ M,DenD M d v) /\ ∀ a n c,v=.slice a n c->n=0/\c=0
 | [],[],_=>⟨rfl,fun i d h=>by simp at h⟩
 | [],_::_,h=>by simp [zEu] at h
 |_::_,[],h=>by simp [zEu] at h
 |v::vs,d::ds,h=>by
  simp only [zEu,Bool.and_eq_true] at h;obtain ⟨h1,h2⟩:=h;obtain ⟨e1,e2⟩:=zEv h2;refine ⟨by simp [e1],fun i d' hi=>?_⟩
  cases i with
  |succ i=>simpa using e2 i d' (by simpa using hi)
  |zero=>
   simp only [List.getElem?_cons_zero,Option.some.injEq] at hi⊢;subst hi;refine ⟨v,rfl,fun M=>?_,fun a n c e=>?_⟩
   rotate_left
   ·subst e
    cases a with
    |some a=>simp [vD] at h1
    |none=>
     cases n with
     |succ n=>simp [vD] at h1
     |zero=>
      cases c with
      |succ c=>simp [vD] at h1
      |zero=>exact ⟨rfl,rfl⟩
   cases hv:vD v with
   |none=>simp [hv] at h1
   |some d0=>
    simp only [hv] at h1;unfold vD at hv
    split at hv
    ·simp only [Option.some.injEq] at hv;subst hv
     cases d<;>simp [dEq] at h1
     obtain ⟨a,rfl⟩:=h1;have:=zLt (by simpa using a);subst this;exact .int _ _
    ·simp only [Option.some.injEq] at hv;subst hv
     cases d<;>simp [dEq] at h1
     subst h1;exact .bool _
    ·rename_i s
     cases hs:Nat.beq s.size 0 with
     |false=>simp [hs] at hv
     |true=>
      simp only [hs,cond_true,Option.some.injEq] at hv;subst hv
      cases d<;>simp [dEq] at h1
      rename_i s'
      have e1:s=.empty:=by
       have:=Nat.eq_of_beq_eq_true hs;obtain ⟨⟨l⟩⟩:=s
       cases l with
       |nil=>rfl
       |cons a r=>simp [ByteArray.size] at this
      have e2:s'=.empty:=by
       obtain ⟨⟨l⟩⟩:=s'
       cases l with
       |nil=>rfl
       |cons a r=>exact absurd h1 (by intro h;cases h)
      subst e1 e2;exact .str _
    ·simp only [Option.some.injEq] at hv;subst hv
     cases d<;>simp [dEq] at h1
     rename_i l
     cases l with
     |nil=>exact .emp _ _
     |cons a r=>simp at h1
    ·simp only [Option.some.injEq] at hv;subst hv
     cases d<;>simp [dEq] at h1
     exact .nilp
    ·cases hv
theorem yV {M:Mem} {ι:Inj} {d:D} {v:Value} (h:DenD M d v) (hv:∀ a n c,v=.slice a n c->n=0/\c=0):DenA M ι (zA d) v:=by
 unfold zA
 split
 ·cases h with
  |emp a c=>obtain ⟨_,rfl⟩:=hv a 0 c rfl;exact .nil a
  |lst l b off cap sz val hl h1 h2 h3=>obtain ⟨_,rfl⟩:=hv _ _ _ rfl;exact .nil _
 ·exact .d _ _ h
theorem zCu {P:Program} {o:Oper} {ρ:Operand->AV} {hp:Nat->Option Blk} {e:Eff}
  (h:∀ (own:Nat->Prop) (M:Mem) (ι:Inj) (a:Act) (w:World),(∀ c,w.heap.size<=c->own c)->zBj M w->HRel own M ι hp w->(∀ x,DenA M ι (ρ x) (a.eval x))->
   ∃ v w',(execOp a.eval o).run P w=.ok (.value v) w'/\Post own M ι hp w e v w'):zCr P o ρ hp e:=by
 intro own M ι a w ho ha hh hρ;obtain ⟨v,w',hr,hp'⟩:=h own M ι a w ho ha hh hρ;unfold Oper.wp;rw [hr,Oper.upon_value];exact ⟨v,rfl,hp'⟩
theorem zZo {P:Program} {o:Oper} {ρ:Operand->AV} {hp:Nat->Option Blk} {e:Eff}
  (h:∀ (own:Nat->Prop) (M:Mem) (ι:Inj) (a:Act) (w:World),(∀ c,w.heap.size<=c->own c)->zBj M w->HRel own M ι hp w->(∀ x,DenA M ι (ρ x) (a.eval x))->
   ∃ w',(execOp a.eval o).run P w=.ok .skip w'/\Post own M ι hp w e undef w'):zCr P o ρ hp e:=by
 intro own M ι a w ho ha hh hρ;obtain ⟨w',hr,hp'⟩:=h own M ι a w ho ha hh hρ;unfold Oper.wp;rw [hr,Oper.upon_skip];exact ⟨undef,rfl,hp'⟩
section
variable {P:Program} {T:Tab} (hT:zFo P T)
include hT
omit hT in
theorem zZw (t:TypeId) (v:Value) (w:World):(newVar t v).run P w=.ok ⟨w.heap.size,0,none⟩ (w.alloc (.cells v.cells t)):=by
 simp [newVar,newRow]
omit hT in
theorem freeD {b:Nat} {c:List AV} (h:∀ x∈c,z3w b x) {M:Mem} {ι ι':Inj} (hι:∀ b',Fm b b'=false->ι' b'=ι b') {cs:Array Value} (hr:zQu M ι cs c):zQu M ι' cs c:=
 ⟨hr.size,fun j x h1=>let ⟨v,e1,e2⟩:=hr.den j x h1;⟨v,e1,e2.turn hι (h x (List.mem_of_getElem? h1))⟩⟩
omit hT in
theorem yEk {own:Nat->Prop} {M:Mem} {ι:Inj} {hp:Nat->Option Blk} {w:World} (ho:∀ c,w.heap.size<=c->own c) (ha:zBj M w) (hh:HRel own M ι hp w) {d:Nat} {c:List AV} {vs:Array Value} {Ty:TypeId}
  (hb:zQu M ι vs c) (hf:∀ x∈c,z3w d x):Post own M ι hp w ⟨.ptr d 0 0,[(d,.box c false)],some d⟩ (.pointer (some ⟨w.heap.size,0,none⟩)) (w.alloc (.cells vs Ty)):=by
 have hne:∀ b',b'≠d->upd ι d (some (some (⟨w.heap.size,c.length,vs.size,0⟩:Loc))) b'=ι b':=fun b' hb=>zAl _ _ hb
 refine zUa ho (.refl M) (.refl _ _) ha hh rfl rfl rfl rfl (e:=⟨.ptr d 0 0,[(d,.box c false)],some d⟩) (d:=d) (B:=.box c false) (sz:=c.length) (len:=0) rfl rfl ?_ ?_
 ·refine ⟨vs,Ty,zFe w _,rfl,rfl,hb.size,freeD hf (fun b' hb'=>hne b' (yIi hb')) hb,(by intro e;cases e),fun _ o=>zOm ha o⟩
 ·have:=DenA.ptr (M:=M) (ι:=upd ι d (some (some (⟨w.heap.size,c.length,vs.size,0⟩:Loc)))) d 0 0 ⟨w.heap.size,c.length,vs.size,0⟩ (upd_same _ _ _)
  simpa using this
omit hT in
theorem yWi (d:D) (b:Nat):z3w b (zA d):=by
 intro b' _;unfold zA
 split
 ·exact .nil
 ·exact .d _
omit hT in
theorem yFz {t:TypeId} {z:Value} (hz:zEu z.cells.toList (T t).zero=true) (M:Mem) (ι:Inj):zQu M ι z.cells ((T t).zero.map zA):=by
 obtain ⟨e1,e2⟩:=zEv hz;refine ⟨by simpa using e1,fun j x hx=>?_⟩;rw [List.getElem?_map] at hx
 cases hd:(T t).zero[j]? with
 |none=>simp [hd] at hx
 |some d=>
  simp only [hd,Option.map_some,Option.some.injEq] at hx;subst hx;obtain ⟨v,g1,g2,g3⟩:=e2 j d hd;exact ⟨v,by simpa using g1,yV (g2 M) g3⟩
omit hT in
theorem z4h {own:Nat->Prop} {M:Mem} {ι:Inj} {hp:Nat->Option Blk} {w:World} (hh:HRel own M ι hp w) {x:AV} {v:Value} (hc:zGo hp x=true) (h:DenA M ι x v):v.oneCell'=true/\v.cells=#[v]:=by
 have dcase:∀ (d:D) (v:Value),zGo.one d=true->DenD M d v->v.oneCell'=true/\v.cells=#[v]:=by
  intro d v hc h
  cases h<;>simp [zGo.one] at hc<;>exact ⟨rfl,rfl⟩
 cases h with
 |agg c vs hs hdv=>simp [zGo] at hc
 |tup c vs hs hdv=>simp [zGo] at hc
 |dead v=>simp [zGo] at hc
 |d y v hy=>exact dcase y v hc hy
 |tt=>exact ⟨rfl,rfl⟩
 |ff=>exact ⟨rfl,rfl⟩
 |own b L cap h hn' hc=>exact ⟨rfl,rfl⟩
 |ownE b a h=>exact ⟨rfl,rfl⟩
 |ownL b v h=>simp [zGo,(hh.dom b).2 h] at hc
 |ptr b i j L h=>exact ⟨rfl,rfl⟩
 |ptrL b i j v h=>simp [zGo,(hh.dom b).2 h] at hc
 |win b lo n c L k base hL q1 q2 q3 q4=>cases hc
 |winL b lo n c v h=>cases hc
 |nil a=>exact ⟨rfl,rfl⟩
 |fn f cap vs hs hdv=>exact ⟨rfl,rfl⟩
omit hT in
theorem zYn {hp:Nat->Option Blk} {c:List AV} (h:zEj hp c=true):∀ x∈c,zGo hp x=true:=by
 induction c with
 |nil=>intro x hx;cases hx
 |cons y r ih=>
  simp only [zEj] at h
  cases hy:zGo hp y with
  |false=>simp [hy] at h
  |true=>
   simp only [hy,cond_true] at h;intro x hx
   cases hx with
   |head=>exact hy
   |tail _ hx=>exact ih h x hx
omit hT in
theorem zJz {own:Nat->Prop} {M:Mem} {ι:Inj} {hp:Nat->Option Blk} {w:World} (hh:HRel own M ι hp w) {x:AV} {v:Value} (hc:zEj hp (cellsOf x)=true) (h:DenA M ι x v):
  v.cells.size=(cellsOf x).length/\ (∀ (i:Nat) (y:AV) (u:Value),(cellsOf x)[i]?=some y->v.cells[i]?=some u->DenA M ι y u) /\ ∀ u∈v.cells.toList,u.oneCell'=true:=by
 have base:v.cells.size=(cellsOf x).length/\ (∀ (i:Nat) (y:AV) (u:Value),(cellsOf x)[i]?=some y->v.cells[i]?=some u->DenA M ι y u):=by
  cases x with
  |agg c=>
   obtain ⟨vs,rfl,hs,hd⟩:=zFt h;exact ⟨hs,hd⟩
  |_=>
   have h1:=zYn hc _ (List.mem_singleton.2 rfl);have h2:=(z4h hh h1 h).2;rw [h2];refine ⟨rfl,fun i y u g1 g2=>?_⟩
   cases i with
   |zero=>simp [cellsOf] at g1 g2;subst g1 g2;exact h
   |succ i=>simp [cellsOf] at g1
 refine ⟨base.1,base.2,fun u hu=>?_⟩;obtain ⟨i,hi,rfl⟩:=List.getElem_of_mem hu
 have hi2:i<(cellsOf x).length:=by rw [<-base.1];simpa using hi
 have hd:=base.2 i (cellsOf x)[i] v.cells[i] (List.getElem?_eq_getElem hi2) (by simp at hi;simp [hi]);exact (z4h hh (zYn hc _ (List.getElem_mem hi2)) hd).1
omit hT in
theorem z4e {M:Mem} {ι:Inj} {c:List AV} {vs:Array Value} (hs:vs.size=c.length) (hd:∀ (i:Nat) (y:AV) (u:Value),c[i]?=some y->vs[i]?=some u->DenA M ι y u):zQu M ι vs c:=
 ⟨hs,fun j x hx=>by
  have hj:=(List.getElem?_eq_some_iff.1 hx).1
  have:vs[j]?=some vs[j]:=by simp [hs,hj]
  exact ⟨_,this,hd j x _ hx this⟩⟩
theorem yIr {o:Oper} {t:TypeId} {d:Tmp} {ρ:Operand->AV} {hp:Nat->Option Blk} {K:Eff->Prop} (ho:o.op=.alloc t)
  (h:bif (T t).k.known then forceL ((T t).zero.map zA) fun c=>K ⟨.ptr d 0 0,[(d,.box c false)],some d⟩ else False):∃ e,K e/\zCr P o ρ hp e:=by
 cases hk:(T t).k.known with
 |false=>simp [hk] at h
 |true=>
  simp only [hk,cond_true] at h;refine ⟨_,zJg h,zCu fun own M ι a w hown ha hh hρ=>?_⟩;obtain ⟨z,hz,hzc⟩:=zXc hT w hk;refine ⟨_,w.alloc (.cells z.cells t),?_,yEk hown ha hh (yFz hzc M ι) fun x hx=>?_⟩
  ·simp [execOp,ho,Instr.alloc,hz,zZw]
  ·obtain ⟨d',_,rfl⟩:=List.mem_map.1 hx;exact yWi d' d
omit hT in
theorem yVo {o:Oper} {t:TypeId} {x:Operand} {d:Tmp} {ρ:Operand->AV} {hp:Nat->Option Blk} {K:Eff->Prop} (ho:o.op=.box t x)
  (h:force (ρ x) fun v=>bif zEj hp (cellsOf v) then forceL (zBl.cells d (cellsOf v)) fun c=>K ⟨.ptr d 0 0,[(d,.box c false)],some d⟩ else False):∃ e,K e/\zCr P o ρ hp e:=by
 have h:=(force_out h).1
 cases hc:zEj hp (cellsOf (ρ x)) with
 |false=>simp [hc] at h
 |true=>
  simp only [hc,cond_true] at h;refine ⟨_,zJg h,zCu fun own M ι a w hown ha hh hρ=>?_⟩;obtain ⟨e1,e2,e3⟩:=zJz hh hc (hρ x);have hb:=z4e e1 e2
  have hb':zQu M ι (a.eval x).cells (zBl.cells d (cellsOf (ρ x))):=by
   refine ⟨by rw [zDx];exact e1,fun j y hy=>?_⟩;rw [zDw] at hy
   cases hcj:(cellsOf (ρ x))[j]? with
   |none=>simp [hcj] at hy
   |some z=>
    simp only [hcj,Option.map_some,Option.some.injEq] at hy;subst hy;obtain ⟨v,g1,g2⟩:=hb.den j z hcj;exact ⟨v,g1,g2.killV d⟩
  refine ⟨_,w.alloc (.cells (a.eval x).cells t),?_,yEk hown ha hh hb' fun y hy=>?_⟩
  ·simp [execOp,ho,Instr.box,zZw]
  ·obtain ⟨j,hj,rfl⟩:=List.getElem_of_mem hy;have:=zDw d (cellsOf (ρ x)) j;rw [List.getElem?_eq_getElem hj] at this
   cases hcj:(cellsOf (ρ x))[j]? with
   |none=>simp [hcj] at this
   |some z=>
    simp only [hcj,Option.map_some,Option.some.injEq] at this;rw [this];exact zRu d z
end
theorem z7a (cur:Array Value) (vs:List Value) (o k:Nat) (h:o+vs.length<=cur.size):
  ((cur.toList.take o++vs++cur.toList.drop (o+vs.length)).toArray)[k]?=if o<=k/\k<o+vs.length then vs[k-o]? else cur[k]?:=by
 have hlt:(cur.toList.take o).length=o:=by simp;omega
 simp only [List.getElem?_toArray]
 by_cases h1:k<o
 ·rw [if_neg (by omega),List.append_assoc,List.getElem?_append_left (by omega),List.getElem?_take_of_lt h1];simp
 ·by_cases h2:k<o+vs.length
  ·rw [if_pos ⟨by omega,h2⟩,List.append_assoc,List.getElem?_append_right (by omega),List.getElem?_append_left (by omega),hlt]
  ·rw [if_neg (by omega),List.getElem?_append_right (by simp;omega)];simp only [List.length_append,hlt,List.getElem?_drop];rw [show o+vs.length+(k-(o+vs.length))=k by omega];simp
theorem yHg {b:Nat} {ns:List Nat} (h:memN b ns=false):b∉ns:=by
 induction ns with
 |nil=>simp
 |cons x r ih=>
  simp only [memN] at h
  cases hb:Nat.beq b x with
  |true=>simp [hb] at h
  |false=>
   simp only [hb,cond_false] at h;intro hm
   cases hm with
   |head=>simp at hb
   |tail _ hm=>exact ih h hm
theorem zVm {hp0:Nat->Option Blk} {b:Nat}:∀ (ns:List Nat) (hp:Nat->Option Blk),b∉ns->zBa hp (frz hp0 ns) b=hp b
 | [],_,_=>rfl
 |c::r,hp,h=>by
  have hr:b∉r:=fun e=>h (List.mem_cons_of_mem _ e)
  have hc:b≠c:=fun e=>h (by rw [e];exact List.mem_cons_self ..)
  simp only [frz]
  cases hb:hp0 c with
  |none=>exact zVm r hp hr
  |some B=>
   cases B with
   |box x fr=>exact zVm r hp hr
   |row l sz fr=>
    simp only [zBa];rw [zVm r _ hr,zAl _ _ hc]
section
variable {P:Program} {T:Tab} (hT:zFo P T)
theorem zKo {own:Nat->Prop} {M:Mem} {w:World} {blk:Nat} {cs:Array Value} {Ty:TypeId} (ha:zBj M w) (hown:own blk) (hcl:∀ o,M blk o=none) (hheap:w.heap[blk]?=some (.cells cs Ty (0,0)))
  (vs:List Value) (o:Nat) (hle:o+vs.length<=cs.size) (h1:∀ u∈vs,u.oneCell'=true):
  ∃ cs':Array Value,(storeCells ⟨blk,o,none⟩ vs).run P w=.ok () (w.setRow blk cs') /\zBj M (w.setRow blk cs') /\zBu own w (w.setRow blk cs') /\ (w.setRow blk cs').heap[blk]?=some (.cells cs' Ty (0,0)) /\cs'.size=cs.size/\
   (∀ k,cs'[k]?=if o<=k/\k<o+vs.length then vs[k-o]? else cs[k]?) /\ ∀ b,b≠blk->(w.setRow blk cs').heap[b]?=w.heap[b]?:=by
 have hoth:∀ (cs':Array Value) (b:Nat),b≠blk->(w.setRow blk cs').heap[b]?=w.heap[b]?:=fun cs' b hb=>by
  simp only [World.setRow,Array.getElem?_modify];rw [if_neg (by omega)]
 have hget:=z7a cs vs o;refine ⟨_,run_storeCells_at (P:=P) blk o Ty vs 0 cs w hheap hle h1,?_,?_,setRow_heap w blk cs _ Ty _ hheap,?_,?_,hoth _⟩
 ·intro b off v hv
  have hb:b≠blk:=by rintro rfl;rw [hcl] at hv;cases hv
  have:=ha b off v hv;simp only [World.cell?] at this⊢;rw [hoth _ _ hb];exact this
 ·refine ⟨rfl,rfl,rfl,by simp [World.setRow],fun c hc=>hoth _ _ fun e=>hc (e▸hown)⟩
 ·simp;omega
 ·intro k
  simpa using hget k hle
include hT in
theorem zQg {t:TypeId} (hk:(T t).k.known=true) {v:Value} {a:Addr} {w w':World} (hs:v.cells.size=(T t).size) (h:(storeCells a v.cells.toList).run P w=.ok () w'):(storeVar t a v).run P w=.ok () w':=by
 simp [storeVar,zBd hT w hk,hs,h]
theorem zNc {α:Type} {c l:List α} {j:Nat} (h:j+l.length<=c.length) (he:l.length=c.length):zAy c j l=l:=by
 apply List.ext_getElem?;intro k;rw [splice_get l c j k h]
 have hj:j=0:=by omega
 subst hj
 by_cases hk:k<l.length
 ·rw [if_pos ⟨Nat.zero_le _,by omega⟩,Nat.sub_zero]
 ·rw [if_neg (by omega),List.getElem?_eq_none (by omega),List.getElem?_eq_none (by omega)]
theorem yIb {c:List AV} {j:Nat} {v:AV} {K:List AV->Prop} (hle:j+(cellsOf v).length<=c.length) (h:zMg c j v K):K (zAy c j (cellsOf v)):=by
 cases v with
 |agg l=>
  simp only [zMg,cellsOf] at h hle⊢
  cases he:Nat.beq l.length c.length with
  |true=>
   simp only [he,cond_true] at h;rw [zNc hle (Nat.eq_of_beq_eq_true he)];exact zJg h
  |false=>
   rw [<-zJr hle]
   simpa only [he,cond_false] using h
 |_=>exact h
include hT in
theorem z7e {o:Oper} {t:TypeId} {x y:Operand} {ρ:Operand->AV} {hp:Nat->Option Blk} {K:Eff->Prop} {b i j:Nat} {c:List AV} (ho:o.op=.store t x y) (hx:ρ x=.ptr b i j) (hb:hp b=some (.box c false))
  (h:force (ρ y) fun v=>zEr (i=0) (bif (T t).k.known&&Nat.beq (cellsOf v).length (T t).size then (bif zEj hp (cellsOf v) then (bif Nat.ble (j+(T t).size) c.length then zMg c j v fun c=>K ⟨.dead,[(b,.box c false)],none⟩ else False) else False) else False)):
  ∃ e,K e/\zCr P o ρ hp e:=by
 have h':=(force_out h).1
 clear h
 have hi:=(zBh h').1;have h:=(zBh h').2
 clear h'
 subst hi
 cases hk:(T t).k.known&&Nat.beq (cellsOf (ρ y)).length (T t).size with
 |false=>simp only [hk,cond_false] at h
 |true=>
  simp only [hk,cond_true] at h;simp only [Bool.and_eq_true] at hk;have hlen:=Nat.eq_of_beq_eq_true hk.2
  cases hc:zEj hp (cellsOf (ρ y)) with
  |false=>simp [hc] at h
  |true=>
   cases hl:Nat.ble (j+(T t).size) c.length with
   |false=>simp [hc,hl] at h
   |true=>
    simp only [hc,hl,cond_true] at h;have hle:=Nat.le_of_ble_eq_true hl;have h:=yIb (by rw [hlen];exact hle) h;refine ⟨_,h,zZo fun own M ι a w hown ha hh hρ=>?_⟩;obtain ⟨e1,e2,e3⟩:=zJz hh hc (hρ y);have hvx:=hρ x;rw [hx] at hvx;generalize hvv:a.eval x=vx at hvx
    cases hvx with
    |ptrL _ _ _ _ hL=>rw [(hh.dom b).2 hL] at hb;cases hb
    |ptr _ _ _ L hL=>
     obtain ⟨hown1,cs,Ty,hheap,hsz,a1,a2,a3,a5⟩:=hh.at_ b _ L hb hL;have hcl:=hh.closed hL _ hb rfl;obtain ⟨cs',g1,g2,g3,g4,g5,g6,g7⟩:=zKo (P:=P) (own:=own) ha hown1 hcl hheap (a.eval y).cells.toList j (by simp [e1,hlen,hsz,a2];exact hle) e3;refine ⟨w.setRow L.blk cs',?_,M,ι,g3,.refl M,g2,.refl _ _,?_,fun _ _=>rfl,.dead _⟩
     ·have:(0*L.sz+j)=j:=by omega
      simp [execOp,ho,hvv,Instr.storeAt,Instr.sureAddr,zQg hT hk.1 (v:=a.eval y) (by rw [e1,hlen]) g1]
     ·refine hh.set b (.box (zAy c j (cellsOf (ρ y))) false) (by rw [hb];simp) (.refl M) (fun e=>by rw [hL] at e;cases e) (fun L' hL'=>?_) fun b' L' hne hL'=>⟨g7 _ fun e=>hne (hh.inj b' b L' L hL' hL e),hh.closed hL'⟩
      rw [hL] at hL';cases hL'
      refine ⟨cs',Ty,g4,by rw [g5];exact hsz,by rw [zG];exact a1,by rw [zG];exact a2,⟨by rw [zG,g5];exact a3.size,fun k z hz=>?_⟩,(by intro e;cases e),fun _=>hcl⟩;rw [splice_get _ _ _ _ (by rw [hlen];exact hle)] at hz;rw [g6 k]
      have hll:(a.eval y).cells.toList.length=(cellsOf (ρ y)).length:=by simpa using e1
      rw [hll]
      split at hz
      ·rename_i hin;rw [if_pos hin];have hk2:=(List.getElem?_eq_some_iff.1 hz).1;have:(a.eval y).cells.toList[k-j]?=some ((a.eval y).cells.toList[k-j]'(by omega)):=List.getElem?_eq_getElem _;exact ⟨_,this,e2 (k-j) z _ hz (by simpa using this)⟩
      ·rename_i hin;rw [if_neg hin];exact a3.den k z hz
include hT in
theorem z7g {o:Oper} {t:TypeId} {x y:Operand} {ρ:Operand->AV} {hp:Nat->Option Blk} {K:Eff->Prop} {b i j:Nat} {l:List (List D)} {sz:Nat} (ho:o.op=.store t x y) (hx:ρ x=.ptr b i j) (hb:hp b=some (.row l sz false))
  (h:force (ρ y) fun v=>match conv.cells hp (cellsOf v) with
    |some xs=>bif (T t).k.known&&Nat.beq (cellsOf v).length (T t).size&&!memN b (zAp.cells hp (cellsOf v)) then (bif zEj hp (cellsOf v) then zZa l i fun e=>bif Nat.ble (j+(T t).size) e.length then K ⟨.dead,frz hp (zAp.cells hp (cellsOf v))++[(b,.row (l.set i (zAy e j xs)) sz false)],none⟩ else False else False) else False
    |none=>False):
  ∃ e,K e/\zCr P o ρ hp e:=by
 have h:=(force_out h).1
 cases hcv:conv.cells hp (cellsOf (ρ y)) with
 |none=>simp [hcv] at h
 |some xs=>
  simp only [hcv] at h
  cases hk:(T t).k.known&&Nat.beq (cellsOf (ρ y)).length (T t).size&&!memN b (zAp.cells hp (cellsOf (ρ y))) with
  |false=>simp only [hk,cond_false] at h
  |true=>
   simp only [hk,cond_true] at h;simp only [Bool.and_eq_true] at hk;have hlen:=Nat.eq_of_beq_eq_true hk.1.2;have hnm:b∉zAp.cells hp (cellsOf (ρ y)):=yHg (by simpa using hk.2)
   cases hc:zEj hp (cellsOf (ρ y)) with
   |false=>simp [hc] at h
   |true=>
    simp only [hc,cond_true] at h;obtain ⟨e,he,h⟩:=zRl h
    cases hl:Nat.ble (j+(T t).size) e.length with
    |false=>simp [hl] at h
    |true=>
     simp only [hl,cond_true] at h;have hle:=Nat.le_of_ble_eq_true hl;refine ⟨_,h,zZo fun own M ι a w hown ha hh hρ=>?_⟩;obtain ⟨M1,s1,a1,n1,h1,l1,f1⟩:=zHm (hp0:=hp) (zAp.cells hp (cellsOf (ρ y))) M hp ha hh (.refl hp)
     have hb1:zBa hp (frz hp (zAp.cells hp (cellsOf (ρ y)))) b=some (.row l sz false):=by rw [zVm _ _ hnm];exact hb
     obtain ⟨e1,e2,e3⟩:=zJz hh hc (hρ y);obtain ⟨x1,x2⟩:=zGa hcv
     have hxd:∀ (k:Nat) (d:D),xs[k]?=some d->∃ u,(a.eval y).cells[k]?=some u/\DenD M1 d u:=by
      intro k d hd;obtain ⟨z,z1,z2,_⟩:=x2 k d hd;have hkl:=(List.getElem?_eq_some_iff.1 z1).1
      have hu:(a.eval y).cells[k]?=some (a.eval y).cells[k]:=by simp [e1,hkl]
      refine ⟨_,hu,zDi h1 (by rw [zLh l1];exact z2) ?_ ((e2 k z _ z1 hu).mono s1)⟩;have:=zEa (hp0:=hp) (fun b l sz fr hb e=>f1 b l sz fr (.inl hb) e) l1 (.agg (cellsOf (ρ y))) (fun b hb=>by simpa [zAp] using hb);obtain ⟨_,_,z3⟩:=(zGa (hp:=zBa hp (frz hp (zAp.cells hp (cellsOf (ρ y))))) (by rw [zIi l1];exact hcv)).2 k d hd
      have hz:∀ (c:List AV) (hp:Nat->Option Blk),zAp.cells hp c=[]->∀ (k:Nat) (z:AV),c[k]?=some z->zAp.one hp z=[]:=by
       intro c hp
       induction c with
       |nil=>intro _ k z hz;simp at hz
       |cons q r ih=>
        intro hq k z hz;simp only [zAp.cells,List.append_eq_nil_iff] at hq
        cases k with
        |zero=>simp at hz;subst hz;exact hq.1
        |succ k=>exact ih hq.2 k z (by simpa using hz)
      exact hz _ _ (by simpa [zAp] using this) k z z1
     have hvx:=hρ x;rw [hx] at hvx;generalize hvv:a.eval x=vx at hvx
     cases hvx with
     |ptrL _ _ _ _ hL=>rw [(hh.dom b).2 hL] at hb;cases hb
     |ptr _ _ _ L hL=>
      obtain ⟨hown1,cs,Ty,hheap,hsz,q1,q2,q3,q4,q5⟩:=h1.at_ b _ L hb1 hL;subst q1;have hcl:=h1.closed hL _ hb1 rfl;have hel:=q4.len i e he;have hil:=(List.getElem?_eq_some_iff.1 he).1
      have hbnd:i*L.sz+j+(T t).size<=cs.size:=by
       rw [hsz];refine Nat.le_trans ?_ q3
       calc i*L.sz+j+(T t).size<=i*L.sz+L.sz:=by omega
        _=(i+1)*L.sz:=by rw [Nat.add_mul,Nat.one_mul]
        _<=l.length*L.sz:=Nat.mul_le_mul_right _ hil
      obtain ⟨cs',g1,g2,g3,g4,g5,g6,g7⟩:=zKo (P:=P) (own:=own) a1 hown1 hcl hheap (a.eval y).cells.toList (i*L.sz+j) (by simp [e1,hlen];exact hbnd) e3;refine ⟨w.setRow L.blk cs',?_,M1,ι,g3,s1,g2,n1,?_,fun _ _=>rfl,.dead _⟩
      ·simp [execOp,ho,hvv,Instr.storeAt,Instr.sureAddr,zQg hT hk.1.1 (v:=a.eval y) (by rw [e1,hlen]) g1]
      ·have ehp:(⟨.dead,frz hp (zAp.cells hp (cellsOf (ρ y)))++[(b,.row (l.set i (zAy e j xs)) L.sz false)],none⟩:Eff).hp hp=upd (zBa hp (frz hp (zAp.cells hp (cellsOf (ρ y))))) b (some (.row (l.set i (zAy e j xs)) L.sz false)):=by
        simp only [Eff.hp,zEd,zBa];rfl
       rw [ehp]
       refine h1.set b _ (by rw [hb1];simp) (.refl M1) (fun e=>by rw [hL] at e;cases e) (fun L' hL'=>?_) fun b' L' hne hL'=>⟨g7 _ fun e=>hne (h1.inj b' b L' L hL' hL e),h1.closed hL'⟩
       rw [hL] at hL';cases hL'
       have hxl:xs.length=(T t).size:=by rw [x1,hlen]
       refine ⟨cs',Ty,g4,by rw [g5];exact hsz,rfl,by simpa using q2,by simpa using q3,⟨fun i' e' he'=>?_,fun i' j' e' d' he' hd'=>?_⟩,(by intro e;cases e),fun _=>hcl⟩
       ·rw [List.getElem?_set] at he'
        split at he'
        ·simp only [hil,if_true,Option.some.injEq] at he';subst he'
         rw [zG];exact hel
        ·exact q4.len i' e' he'
       ·rw [g6]
        have hll:(a.eval y).cells.toList.length=(T t).size:=by simp [e1,hlen]
        rw [hll];rw [List.getElem?_set] at he'
        split at he'
        ·rename_i hii;subst hii;simp only [hil,if_true,Option.some.injEq] at he';subst he';rw [splice_get _ _ _ _ (by rw [hxl];exact hle)] at hd';rw [hxl] at hd'
         split at hd'
         ·rename_i hin;rw [if_pos ⟨by omega,by omega⟩];obtain ⟨u,u1,u2⟩:=hxd _ _ hd';exact ⟨u,by rw [show i*L.sz+j'-(i*L.sz+j)=j'-j by omega];simpa using u1,u2⟩
         ·rename_i hin;rw [if_neg (by omega)];exact q4.den i j' e d' he hd'
        ·rename_i hii;have hj':=(List.getElem?_eq_some_iff.1 hd').1;rw [q4.len i' e' he'] at hj'
         have hne:¬(i*L.sz+j<=i'*L.sz+j'/\i'*L.sz+j'<i*L.sz+j+(T t).size):=by
          rintro ⟨c1,c2⟩
          rcases Nat.lt_or_ge i' i with hlt|hge
          ·have:(i'+1)*L.sz<=i*L.sz:=Nat.mul_le_mul_right _ hlt;rw [Nat.add_mul,Nat.one_mul] at this;omega
          ·have hgt:i+1<=i':=by omega
           have:(i+1)*L.sz<=i'*L.sz:=Nat.mul_le_mul_right _ hgt;rw [Nat.add_mul,Nat.one_mul] at this;omega
         rw [if_neg hne];exact q4.den i' j' e' d' he' hd'
end
end Go.Lk
