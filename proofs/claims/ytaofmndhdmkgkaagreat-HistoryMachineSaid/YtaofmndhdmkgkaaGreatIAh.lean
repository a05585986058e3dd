/-
  What is proved here: what functions of the program compute, and what follows; no condition beyond each theorem's own.
-/
import Derived.Test.YtaofmndhdmkgkaaGreatIAg
set_option linter.unusedSimpArgs false
set_option linter.unusedVariables false
set_option linter.unnecessarySimpa false
set_option linter.unusedSectionVars false
namespace Go.Lk
open Go Go.RowKit
theorem yFk {P:Program} {sz:Nat} {v:AV} {hp:Nat->Option Blk} {K:List (List D)->Prop} (h:yLf sz v hp K):
  ∃ l,K l/\ ∀ n,okRows sz (l.take n)=true->∀ (own:Nat->Prop) (M:Mem) (ι:Inj) (w:World) (u:Value),zBi M w->HRel own M ι hp w->DenA M ι v u->
   ∃ a c vs,u=.slice a l.length c/\zYx P M w (.slice a (l.take n).length c) (l.take n) sz vs/\ ∀ v∈vs.toList,v.oneCell'=true:=by
 have htk:∀ (l:List (List D)) (n i:Nat) (e:List D),(l.take n)[i]?=some e->l[i]?=some e:=by
  intro l n i e he;rw [List.getElem?_take] at he
  split at he
  ·exact he
  ·cases he
 unfold yLf at h
 split at h
 ·rename_i l;refine ⟨l,h,fun n hok own M ι w u ha hh hd=>?_⟩
  cases hd with
  |d _ _ hd=>
   cases hd with
   |emp a c=>exact ⟨a,c,#[],rfl,by simpa using zG a c,fun v hv=>by simp at hv⟩
   |lst _ b off cap sz' val hl hs hm hdd=>
    have hsz:∀ i e,(l.take n)[i]?=some e->sz'=sz:=fun i e he=>(hs i e (htk l n i e he)).symm.trans (zGs hok i e he).1
    obtain ⟨vs,hvs⟩:=zIx (P:=P) (M:=M) (w:=w) (l:=l.take n) (sz:=sz) b off cap val (fun i e he=>(zGs hok i e he).1) (fun i j e d he hj=>by
     have:=hsz i e he;subst this
     exact ha _ _ _ (hm i j e d (htk l n i e he) hj)) fun i j e d he hj=>hdd i j e d (htk l n i e he) hj
    exact ⟨_,_,vs,rfl,hvs,hvs.one hok⟩
 ·refine ⟨[],h,fun n hok own M ι w u ha hh hd=>?_⟩
  cases hd with
  |nil a=>exact ⟨a,0,#[],rfl,by simpa using zG a 0,fun v hv=>by simp at hv⟩
 ·rename_i b
  split at h
  ·rename_i l sz' fr hb;obtain ⟨hs,h2⟩:=bif_one h
   clear h
   have:=Nat.eq_of_beq_eq_true hs;subst this;refine ⟨l,h2,fun n hok own M ι w u ha hh hd=>?_⟩
   cases hd with
   |own _ L cap hL hn hc=>
    obtain ⟨_,cs,Ty,hheap,hsz,q1,q2,q3,q4,q5⟩:=hh.at_ b _ L hb hL
    obtain ⟨vs,hvs⟩:=zIx (P:=P) (M:=M) (w:=w) (l:=l.take n) (sz:=sz') L.blk 0 cap (fun i j=>(cs[i*sz'+j]?).getD undef) (fun i e he=>q4.len i e (htk l n i e he)) (fun i j e d he hj=>by
     obtain ⟨v,e1,e2⟩:=q4.den i j e d (htk l n i e he) hj
     rw [cell_of_heap hheap,Nat.zero_add,e1];rfl) (fun i j e d he hj=>by
     obtain ⟨v,e1,e2⟩:=q4.den i j e d (htk l n i e he) hj
     simpa [e1] using e2)
    rw [<-q2];exact ⟨_,_,vs,rfl,hvs,hvs.one hok⟩
   |ownE _ a hL=>
    obtain ⟨sz2,fr2,e⟩:=hh.virt b hL
    rw [hb] at e;cases e
    exact ⟨a,0,#[],rfl,by simpa using zG a 0,fun v hv=>by simp at hv⟩
   |ownL _ _ hL=>rw [(hh.dom b).2 hL] at hb;cases hb
  ·exact h.elim
 ·rename_i b lo n0 c
  split at h
  ·rename_i l sz' fr hb;obtain ⟨hs,h2⟩:=bif_one h
   clear h
   have:=Nat.eq_of_beq_eq_true hs;subst this;obtain ⟨hle,h⟩:=zBg h2;refine ⟨_,h,fun n hok own M ι w u ha hh hd=>?_⟩
   have hlen:((l.drop lo).take n0).length=n0:=by simp;omega
   rw [hlen]
   have htt:((l.drop lo).take n0).take n=(l.drop lo).take (min n n0):=by rw [List.take_take]
   rw [htt] at hok⊢
   cases hd with
   |winL _ _ _ _ _ hL=>rw [(hh.dom b).2 hL] at hb;cases hb
   |win _ _ _ _ L k base hL hn hc hk hbb=>
    have hd':DenA M ι (.win b lo (min n n0) none) (.slice (some ⟨L.blk,base,none⟩) (min n n0) k):=.win b lo _ none L k base hL (by omega) (fun _ h=>by cases h) hk hbb;obtain ⟨vs,k',base',L',e1,e2⟩:=z2c (P:=P) hh hb hd' (by omega)
    have hl2:((l.drop lo).take (min n n0)).length=min n n0:=by simp;omega
    rw [hl2];exact ⟨_,_,vs,rfl,e2,e2.one hok⟩
  ·exact h.elim
 ·exact h.elim
theorem yJk {α:Type} (r l:List α) (lo i:Nat) (h:lo+l.length<=r.length):(r.take lo++(l++r.drop (lo+l.length)))[i]?=if lo<=i/\i<lo+l.length then l[i-lo]? else r[i]?:=by
 have h1:(r.take lo).length=lo:=by simp;omega
 by_cases a:i<lo
 ·rw [if_neg (by omega),List.getElem?_append_left (by omega),List.getElem?_take,if_pos a]
 ·rw [List.getElem?_append_right (by omega),h1]
  by_cases b:i<lo+l.length
  ·rw [if_pos ⟨by omega,b⟩,List.getElem?_append_left (by omega)]
  ·rw [if_neg (by omega),List.getElem?_append_right (by omega),List.getElem?_drop]
   congr 1;omega
theorem yUh {α:Type} (r l:List α) (lo:Nat) (h:lo+l.length<=r.length):(r.take lo++(l++r.drop (lo+l.length))).length=r.length:=by
 simp;omega
section
variable {P:Program} {T:Tab} (hT:zFg P T)
theorem zVs {own:Nat->Prop} {M:Mem} {ι:Inj} {hp:Nat->Option Blk} {w:World} (ha:zBi M w) (hh:HRel own M ι hp w) {b lo base:Nat} {r l:List (List D)} {sz:Nat} (hb:hp b=some (.row r sz false)) {L:Loc} (hL:ι b=some (some L))
  {vs:Array Value} (hrow:zGi M vs l sz) (hs:vs.size=l.length*sz) (hone:∀ v∈vs.toList,v.oneCell'=true) (hle:lo+l.length<=r.length) (hbase:base=lo*sz\/l=[]):
  ∃ w',(storeCells ⟨L.blk,base,none⟩ vs.toList).run P w=.ok () w'/\ ∀ (av:AV) (v:Value),DenA M ι av v->Post own M ι hp w ⟨av,[(b,.row (r.take lo++(l++r.drop (lo+l.length))) sz false)],none⟩ v w':=by
 by_cases hl0:l=[]
 ·subst hl0
  have hv0:vs=#[]:=by simpa using hs
  subst hv0;refine ⟨w,by simp [storeCells],fun av v hd=>⟨M,ι,.refl _ _,.refl M,ha,.refl _ _,?_,fun _ _=>rfl,hd⟩⟩
  have:upd hp b (some (.row (r.take lo++([]++r.drop (lo+([]:List (List D)).length))) sz false))=hp:=by
   funext x
   by_cases e:x=b
   ·subst e;rw [upd_same,hb];simp
   ·rw [zAk _ _ e]
  show HRel own M ι (upd hp b (some (.row (r.take lo++([]++r.drop (lo+([]:List (List D)).length))) sz false))) w
  rw [this];exact hh
 ·have hbase:base=lo*sz:=hbase.resolve_right hl0;subst hbase;obtain ⟨hown1,cs,Ty,hheap,hsz,q1,q2,q3,q4,q5⟩:=hh.at_ b _ L hb hL;have hcl:=hh.closed hL _ hb rfl
  have hvl:vs.toList.length=l.length*sz:=by simpa using hs
  have hbnd:lo*sz+vs.toList.length<=cs.size:=by
   rw [hvl,<-Nat.add_mul,hsz];exact Nat.le_trans (Nat.mul_le_mul_right _ hle) q3
  obtain ⟨cs',g1,g2,g3,g4,g5,g6,g7⟩:=zJt (P:=P) (own:=own) ha hown1 hcl hheap vs.toList (lo*sz) hbnd hone;refine ⟨w.setRow L.blk cs',g1,fun av v hd=>⟨M,ι,g3,.refl M,g2,.refl _ _,?_,fun _ _=>rfl,hd⟩⟩;show HRel own M ι (upd hp b (some (.row (r.take lo++(l++r.drop (lo+l.length))) sz false))) _
  refine hh.set b _ (by rw [hb];simp) (.refl M) (fun e=>by rw [hL] at e;cases e) (fun L' hL'=>?_) fun b' L' hne hL'=>⟨g7 _ fun e=>hne (hh.inj b' b L' L hL' hL e),hh.closed hL'⟩
  rw [hL] at hL';cases hL'
  have hml:=yUh r l lo hle
  have hlenE:∀ (i:Nat) (e:List D),(r.take lo++(l++r.drop (lo+l.length)))[i]?=some e->e.length=sz:=by
   intro i e he;rw [yJk r l lo i hle] at he
   split at he
   ·exact hrow.len _ e he
   ·exact q4.len _ e he
  refine ⟨cs',Ty,g4,by rw [g5];exact hsz,q1,by rw [hml];exact q2,by rw [hml];exact q3,⟨hlenE,fun i j e d he hj=>?_⟩,(by intro e;cases e),fun _=>hcl⟩
  have hjl:j<sz:=by rw [<-hlenE i e he];exact (List.getElem?_eq_some_iff.1 hj).1
  rw [g6,hvl];rw [yJk r l lo i hle] at he
  split at he
  ·rename_i hin;obtain ⟨x,x1,x2⟩:=hrow.den _ j e d he hj
   have e1:i*sz+j=lo*sz+((i-lo)*sz+j):=by
    rw [<-Nat.add_assoc,<-Nat.add_mul];congr 2;omega
   have h2:(i-lo)*sz+j<l.length*sz:=zUq (by omega) hjl;rw [if_pos ⟨by omega,by omega⟩];refine ⟨x,?_,x2⟩;rw [e1,Nat.add_sub_cancel_left]
   simpa using x1
  ·rename_i hin
   have:¬(lo*sz<=i*sz+j/\i*sz+j<lo*sz+l.length*sz):=by
    rintro ⟨p1,p2⟩
    by_cases a:i<lo
    ·have:=zUq (sz:=sz) a hjl;omega
    ·have h3:lo+l.length<=i:=by omega
     have:=Nat.mul_le_mul_right sz h3;rw [Nat.add_mul] at this;omega
   rw [if_neg this];exact q4.den i j e d he hj
theorem zWn {e:TypeId} {z:Value} (hzc:zEq z.cells.toList (T e).zero=true) (hzl:(T e).zero.length=(T e).size) (hpos:0<(T e).size) (n:Nat) (M:Mem):zGi M (Builtin.zeroCells z.cells n) (List.replicate n (T e).zero) (T e).size/\ (Builtin.zeroCells z.cells n).size=n*(T e).size/\
  (yEu (T e).size (T e).zero=true->∀ v∈(Builtin.zeroCells z.cells n).toList,v.oneCell'=true):=by
 obtain ⟨z1,z2⟩:=zEr hzc
 have hzs:z.cells.size=(T e).size:=by rw [<-hzl,<-z1];simp
 have hget:∀ j d',(T e).zero[j]?=some d'->∀ i,i<n->∃ v,(Builtin.zeroCells z.cells n)[i*(T e).size+j]?=some v/\ ∀ M,DenD M d' v:=by
  intro j d' hd' i hi;have hj:=(List.getElem?_eq_some_iff.1 hd').1;rw [hzl] at hj;obtain ⟨v,g1,g2,_⟩:=z2 j d' hd';refine ⟨v,?_,g2⟩
  have hlt:i*(T e).size+j<n*z.cells.size:=by rw [hzs];exact zUq hi hj
  simp only [Builtin.zeroCells,Array.getElem?_map,Array.getElem?_range,if_pos hlt,Option.map_some,Option.some.injEq];rw [hzs,Nat.mul_comm,Nat.mul_add_mod,Nat.mod_eq_of_lt hj]
  have hlt2:j<z.cells.size:=by omega
  rw [getElem!_pos z.cells _ hlt2]
  have:z.cells[j]?=some v:=by simpa using g1
  rw [Array.getElem?_eq_getElem hlt2] at this
  simpa using this
 have hsize:(Builtin.zeroCells z.cells n).size=n*(T e).size:=by simp [Builtin.zeroCells,hzs]
 refine ⟨⟨fun i el hel=>?_,fun i j el d' hel hd'=>?_⟩,hsize,fun hok v hv=>?_⟩
 ·rw [List.getElem?_replicate] at hel
  split at hel
  ·cases hel;exact hzl
  ·cases hel
 ·rw [List.getElem?_replicate] at hel
  split at hel
  ·rename_i hi
   cases hel
   obtain ⟨v,g1,g2⟩:=hget j d' hd' i hi;exact ⟨v,g1,g2 M⟩
  ·cases hel
 ·obtain ⟨k,hk,rfl⟩:=List.mem_iff_getElem.1 hv
  have hk':k<n*(T e).size:=by rw [<-hsize];simpa using hk
  obtain ⟨i,j,rfl,hi,hj⟩:=z3v hk';have hd:(T e).zero[j]?=some ((T e).zero[j]'(by omega)):=List.getElem?_eq_getElem (by omega);obtain ⟨v,g1,g2⟩:=hget j _ hd i hi
  have:(Builtin.zeroCells z.cells n).toList[i*(T e).size+j]=v:=by
   have h:=g1;rw [<-Array.getElem?_toList,List.getElem?_eq_getElem hk] at h
   simpa using h
  rw [this];simp only [yEu,Bool.and_eq_true,List.all_eq_true] at hok;exact yBv (hok.2 _ (List.mem_of_getElem? hd)) (g2 (fun _ _=>none))
include hT in
theorem yMu {o:Oper} {c:Call} {x y:Operand} {t t2 e:TypeId} {ρ:Operand->AV} {hp:Nat->Option Blk} {K:Eff->Prop} (ho:o.op=.call c) (hc:c.callee=.builtin .copy) (ha:c.args.toList=[x,y]) (ht:c.argTypes.toList=[t,t2]) (hk:(T t).k=.slice e)
  (h:ySq T e (ρ x) (ρ y) hp K):∃ e,K e/\zCo P o ρ hp e:=by
 have ha':c.args=#[x,y]:=by rw [<-Array.toList_inj];exact ha
 have ht':c.argTypes=#[t,t2]:=by rw [<-Array.toList_inj];exact ht
 obtain ⟨hu,hke⟩:=zBh hT hk;unfold ySq at h
 split at h
 ·rename_i b lo n cp hx
  split at h
  ·rename_i r sz hb;obtain ⟨hsz,h⟩:=bif_one h;have hsz:=Nat.eq_of_beq_eq_true hsz;subst hsz;obtain ⟨src,h,hsrc⟩:=yFk (P:=P) h;obtain ⟨⟨hle,hok⟩,h⟩:=zBg h;refine ⟨_,h,zCq fun own M ι a w hown hA hh hρ=>?_⟩;obtain ⟨a0,c0,vs,e1,e2,e3⟩:=hsrc _ hok own M ι w _ hA hh (hρ y);have hv:=hρ x;rw [hx] at hv;generalize hvx:a.eval x=v at hv
   cases hv with
   |winL _ _ _ _ _ hL=>rw [(hh.dom b).2 hL] at hb;cases hb
   |win _ _ _ _ L k base hL hn hcc hkk hbb=>
    obtain ⟨_,_,_,_,_,q1,_⟩:=hh.at_ b _ L hb hL
    have hm:(src.take (Nat.min src.length n)).length=Nat.min src.length n:=by
     rw [List.length_take];exact Nat.min_eq_left (Nat.min_le_left _ _)
    have hmn:Nat.min src.length n<=n:=Nat.min_le_right _ _
    obtain ⟨w',g1,g2⟩:=zVs (P:=P) hA hh hb hL (lo:=lo) (base:=base) e2.row e2.size e3 (by rw [hm];omega) (by
     rcases hbb with h|h
     ·exact .inl (by rw [h,q1])
     ·right
      apply List.eq_nil_of_length_eq_zero
      rw [hm];omega)
    have hp':=g2 (.d (.int .i64 (Nat.min src.length n))) (.int .i64 (Nat.min src.length n)) (.d _ _ (.int _ _));rw [hm] at hp';refine ⟨_,w',?_,hp'⟩
    have hr:=e2.run w fun _ _=>rfl
    have hfc:(Builtin.firstCells (T e).size (Nat.min src.length n) (.slice a0 src.length c0)).run P w=.ok vs w:=by
     rw [hm] at hr
     cases a0 with
     |none=>exact hr
     |some a0=>exact hr
    simp only [execOp,ho,resolve,hc,invoke,builtin,ha',ht',hvx,e1,Builtin.copy_,run_underlying hu,zBc hT w hke,Builtin.lenOf,hfc,g1,goInt,Array.map,Sem.run_bind,Sem.run_pure,Result.andThen_ok];simp [Builtin.copy_,run_underlying hu,zBc hT w hke,Builtin.lenOf,hfc,g1,goInt,hvx,e1]
  ·exact h.elim
 ·exact h.elim
include hT in
theorem yGz {o:Oper} {c:Call} {x:Operand} {t e:TypeId} {ρ:Operand->AV} {hp:Nat->Option Blk} {K:Eff->Prop} (ho:o.op=.call c) (hc:c.callee=.builtin .clear) (ha:c.args.toList=[x]) (ht:c.argTypes.toList=[t]) (hk:(T t).k=.slice e)
  (h:yGy T e (ρ x) hp K):∃ e,K e/\zCo P o ρ hp e:=by
 have ha':c.args=#[x]:=by rw [<-Array.toList_inj];exact ha
 have ht':c.argTypes=#[t]:=by rw [<-Array.toList_inj];exact ht
 obtain ⟨hu,hke⟩:=zBh hT hk;unfold yGy at h
 split at h
 ·rename_i b lo n cp hx
  split at h
  ·rename_i r sz hb;obtain ⟨hsz,h⟩:=bif_one h;have hsz:=Nat.eq_of_beq_eq_true hsz;subst hsz;obtain ⟨⟨hle,hok⟩,h⟩:=zBg h;refine ⟨_,h,zCq fun own M ι a w hown hA hh hρ=>?_⟩;have hv:=hρ x;rw [hx] at hv;generalize hvx:a.eval x=v at hv
   cases hv with
   |winL _ _ _ _ _ hL=>rw [(hh.dom b).2 hL] at hb;cases hb
   |win _ _ _ _ L k base hL hn hcc hkk hbb=>
    obtain ⟨_,_,_,_,_,q1,_⟩:=hh.at_ b _ L hb hL;obtain ⟨_,ie,_,hie,_,_,_,⟨z,hz,hzc⟩,_⟩:=(zE hT hke).desc
    have hzr:(zeroValue e).run P w=.ok z w:=by simp [zeroValue,typeInfo,hie,hz]
    obtain ⟨r1,r2,r3⟩:=zWn hzc (zPs hT hke) (zFb hT hke) n M
    have hlr:(List.replicate n (T e).zero).length=n:=List.length_replicate ..
    obtain ⟨w',g1,g2⟩:=zVs (P:=P) hA hh hb hL (lo:=lo) (base:=base) r1 (by rw [hlr];exact r2) (r3 hok) (by rw [hlr];omega) (by
     rcases hbb with h|h
     ·exact .inl (by rw [h,q1])
     ·right
      apply List.eq_nil_of_length_eq_zero
      rw [hlr];omega)
    have hp':=g2 (.tup []) (.tuple #[]) (.tup [] #[] rfl fun i x v h=>by simp at h);rw [hlr] at hp';refine ⟨_,w',?_,hp'⟩
    cases n with
    |zero=>
     have:w'=w:=by
      have e0:(storeCells ⟨L.blk,base,none⟩ (Builtin.zeroCells z.cells 0).toList).run P w=.ok () w:=by simp [Builtin.zeroCells,storeCells]
      rw [e0] at g1
      cases g1;rfl
     subst this;simp [execOp,ho,resolve,hc,invoke,builtin,ha',ht',hvx,Builtin.clear_,run_underlying hu]
    |succ n=>
     simp [execOp,ho,resolve,hc,invoke,builtin,ha',ht',hvx,Builtin.clear_,run_underlying hu,hzr,g1]
  ·exact h.elim
 ·exact h.elim
include hT in
theorem ySk {o : Oper} {c : Call} {x : Operand} {t e : TypeId} {ρ : Operand → AV} {hp : Nat → Option Blk} {K : Eff → Prop} (ho : o.op = .call c) (hc : c.callee = .builtin .cap) (ha : c.args.toList = [x]) (ht : c.argTypes.toList = [t]) (hk : (T t).k = .slice e)
    (h : match ρ x with
            | .win b _ _ (some c) => match hp b with
              | some _ => K ⟨.d (.int .i64 c), [], none⟩
              | none => False
            | .nil => K ⟨.d (.int .i64 0), [], none⟩
            | _ => False) : ∃ e, K e ∧ zCo P o ρ hp e := by
  have ha' : c.args = #[x] := by rw [← Array.toList_inj]; exact ha
  have ht' : c.argTypes = #[t] := by rw [← Array.toList_inj]; exact ht
  obtain ⟨hu, hke⟩ := zBh hT hk
  split at h
  · rename_i b lo n cp hx
    split at h
    · rename_i B hb
      refine ⟨_, h, opSem_val fun own M ι a w hA hh hρ => ⟨.int .i64 cp, ?_, .d _ _ (.int _ _)⟩⟩
      have hv := hρ x
      rw [hx] at hv
      generalize hvx : a.eval x = v at hv
      cases hv with
      | winL _ _ _ _ _ hL => rw [(hh.dom b).2 hL] at hb; cases hb
      | win _ _ _ _ L k base hL hn hcc hkk hbb =>
        have := hcc cp rfl
        subst this
        simp [execOp, ho, resolve, hc, invoke, builtin, ha', ht', hvx, Builtin.cap_, run_underlying hu, goInt]
    · exact h.elim
  · rename_i hx
    refine ⟨_, h, opSem_val fun own M ι a w hA hh hρ => ⟨.int .i64 0, ?_, .d _ _ (.int _ _)⟩⟩
    have hv := hρ x
    rw [hx] at hv
    generalize hvx : a.eval x = v at hv
    cases hv with
    | nil base => simp [execOp, ho, resolve, hc, invoke, builtin, ha', ht', hvx, Builtin.cap_, run_underlying hu, goInt]
  · exact h.elim
theorem zUm {own:Nat->Prop} {M:Mem} {ι:Inj} {hp:Nat->Option Blk} {w:World} (ho:∀ c,w.heap.size<=c->own c) (ha:zBi M w) (hh:HRel own M ι hp w) {x:Nat} {l r:List (List D)} {sz:Nat} {old vs rest:Array Value} {Ty:TypeId} {cap:Nat}
  (h1:zGi M old l sz) (s1:old.size=l.length*sz) (h2:zGi M vs r sz) (s2:vs.size=r.length*sz) (hcap:l.length+r.length<=cap) (s3:rest.size=(cap-(l.length+r.length))*sz):
  Post own M ι hp w ⟨.win x 0 (l.length+r.length) none,[(x,.row (l++r) sz false)],some x⟩ (.slice (some ⟨w.heap.size,0,none⟩) (l.length+r.length) cap) (w.drew.alloc (.cells (old++vs++rest) Ty)):=by
 have hrow:zGi M (old++vs++rest) (l++r) sz:=by
  refine zRf h1 h2 (fun k hk=>?_) fun k hk=>?_
  ·rw [Array.getElem?_append_left (by simp;omega),Array.getElem?_append_left (by omega)]
  ·rw [Array.getElem?_append_left (by simp;omega),Array.getElem?_append_right (by omega)]
   congr 1;omega
 have hsize:(old++vs++rest).size=cap*sz:=by
  simp only [Array.size_append,s1,s2,s3,<-Nat.add_mul]
  congr 1;omega
 have hha:HRel own M ι hp w.drew:=hh.keep (.refl M) fun b' L' hL'=>⟨rfl,hh.closed hL'⟩
 refine zTa (w:=w) (w0:=w.drew) ho (.refl M) (.refl _ _) ha hha rfl rfl rfl rfl (e:=⟨.win x 0 (l.length+r.length) none,[(x,.row (l++r) sz false)],some x⟩) (d:=x) (B:=.row (l++r) sz false) (sz:=sz) (len:=l.length+r.length) rfl rfl ?_ ?_
 ·refine ⟨_,Ty,zEy w.drew _,rfl,rfl,by simp,?_,hrow,(by intro e;cases e),fun _ o=>zNk ha o⟩;rw [hsize];simp only [List.length_append];exact Nat.mul_le_mul_right _ hcap
 ·exact .win x 0 _ none ⟨w.heap.size,sz,(old++vs++rest).size,l.length+r.length⟩ cap 0 (upd_same _ _ _) hcap (fun _ h=>by cases h) (by rw [hsize,Nat.zero_add];exact Nat.le_refl _) (.inl (by simp))
include hT in
theorem zWq {o:Oper} {c:Call} {x y:Operand} {t t2 e e2:TypeId} {ρ:Operand->AV} {hp:Nat->Option Blk} {K:Eff->Prop} (ho:o.op=.call c) (hc:c.callee=.builtin .append) (ha:c.args.toList=[x,y]) (ht:c.argTypes.toList=[t,t2]) (hk:(T t).k=.slice e) (hk2:(T t2).k=.slice e2)
  {b lo n cp:Nat} (hx:ρ x=.win b lo n (some cp)) {src:List (List D)} (hsrc:∀ (own:Nat->Prop) (M:Mem) (ι:Inj) (w:World) (u:Value),zBi M w->HRel own M ι hp w->DenA M ι (ρ y) u->∃ a c vs,u=.slice a src.length c/\zYx P M w u src (T e).size vs/\ ∀ v∈vs.toList,v.oneCell'=true)
  (h:zZa T e b lo n cp src hp o.dst K):∃ e,K e/\zCo P o ρ hp e:=by
 have ha':c.args=#[x,y]:=by rw [<-Array.toList_inj];exact ha
 have ht':c.argTypes=#[t,t2]:=by rw [<-Array.toList_inj];exact ht
 have hex:∀ (a:Act) (w w':World) (v:Value),(Builtin.append_ #[t,t2] o.type #[a.eval x,a.eval y]).run P w=.ok v w'->(execOp a.eval o).run P w=.ok (.value v) w':=by
  intro a w w' v hr;simp [execOp,ho,resolve,hc,invoke,builtin,ha',ht',hr]
 unfold zZa at h
 split at h
 ·rename_i r sz hb;obtain ⟨hsz,h⟩:=bif_one h;have hsz:=Nat.eq_of_beq_eq_true hsz;subst hsz
  by_cases hf:n+src.length<=cp
  ·obtain ⟨hle,h⟩:=zBg (h.yes hf);refine ⟨_,h,zCq fun own M ι a w hown hA hh hρ=>?_⟩;obtain ⟨a0,c0,vs,e1,e2,e3⟩:=hsrc own M ι w _ hA hh (hρ y);have hv:=hρ x;rw [hx] at hv;generalize hvx:a.eval x=v at hv
   cases hv with
   |winL _ _ _ _ _ hL=>rw [(hh.dom b).2 hL] at hb;cases hb
   |win _ _ _ _ L k base hL hn hcc hkk hbb=>
    have:=hcc cp rfl;subst this;obtain ⟨_,_,_,_,_,q1,_⟩:=hh.at_ b _ L hb hL
    obtain ⟨w',g1,g2⟩:=zVs (P:=P) hA hh hb hL (lo:=lo+n) (base:=base+n*(T e).size) e2.row e2.size e3 (by omega) (by
     rcases hbb with h|h
     ·exact .inl (by rw [h,q1,Nat.add_mul])
     ·right
      apply List.eq_nil_of_length_eq_zero
      omega)
    rw [e1] at e2;refine ⟨.slice (some ⟨L.blk,base,none⟩) (n+src.length) k,w',hex a w w' _ ?_,g2 _ _ ?_⟩
    ·rw [hvx,e1]
     exact zMp hT hk hk2 hf (e2.run w fun _ _=>rfl) (by
      show (storeCells ((⟨L.blk,base,none⟩:Addr).add (n*(T e).size)) vs.toList).run P w=.ok () w'
      rw [zDd];exact g1)
    ·exact .win b lo _ (some k) L k base hL hf (fun m hm=>by cases hm;rfl) hkk hbb
  ·have h:=h.no hf
   split at h
   ·rename_i d hd;obtain ⟨hle,h⟩:=zBg h;obtain ⟨r1,r2,h⟩:=zIu h;refine ⟨_,h,zCq fun own M ι a w hown hA hh hρ=>?_⟩;obtain ⟨a0,c0,vs,e1,e2,e3⟩:=hsrc own M ι w _ hA hh (hρ y);have hd':=hρ x;rw [hx] at hd';obtain ⟨old,k,base,L,f1,f2⟩:=z2c (P:=P) hh hb hd' hle
    have hlen:((r.drop lo).take n).length=n:=by simp;omega
    have hck:cp=k:=by
     rw [f1,hlen] at hd'
     cases hd' with
     |win _ _ _ _ _ _ _ _ _ hcc _ _=>exact (hcc cp rfl).symm
     |winL _ _ _ _ _ hL=>rw [(hh.dom b).2 hL] at hb;cases hb
    subst hck;rw [f1] at f2;rw [e1] at e2;obtain ⟨newCap,z,g1,g2,g3⟩:=zKg hT (ty:=o.type) hk hk2 (w:=w) (base:=some ⟨L,base,none⟩) (sLen:=((r.drop lo).take n).length) (sCap:=cp) (n:=src.length) (c:=c0) (a:=a0) (by omega) (by rw [hlen];exact r1) (by omega) e2.run f2.run;have hp':=zUm (x:=d) (Ty:=e) (l:=(r.drop lo).take n) (r:=src) (sz:=(T e).size) (old:=old) (vs:=vs) (rest:=Builtin.zeroCells z.cells (newCap-(((r.drop lo).take n).length+src.length))) (cap:=newCap) hown hA hh f2.row f2.size e2.row e2.size g1 (by simp [Builtin.zeroCells,g2]);rw [hlen] at g3 hp';rw [hlen] at f1;exact ⟨_,_,hex a w _ _ (by rw [f1,e1];exact g3),hp'⟩
   ·exact h.elim
 ·exact h.elim
include hT in
theorem zNl {t t2 e ty:TypeId} {ki:IntKind} (hk:(T t).k=.slice e) (hk2:(T t2).k=.int ki) {w:World} {base:Option Addr} {sLen sCap:Nat} {k:Int} {kk:IntKind} {old:Array Value}
  (h0:0<=k) (hn:sCap<sLen+k.toNat) (hkp:0<k.toNat) (hroom:(sLen+k.toNat)*(T e).bytes<=35184372088832) (hroom1:sLen+k.toNat<=35184372088832)
  (ho:∀ w':World,(∀ x,(w.cell? x).isSome->w'.cell? x=w.cell? x)->(Builtin.firstCells (T e).size sLen (.slice base sLen sCap)).run P w'=.ok old w'):
  ∃ (newCap:Nat) (z:Value),sLen+k.toNat<=newCap/\z.cells.size=(T e).size/\zEq z.cells.toList (T e).zero=true/\ (Builtin.append_ #[t,t2] ty #[.slice base sLen sCap,.int kk k]).run P w=
   .ok (.slice (some ⟨w.heap.size,0,none⟩) (sLen+k.toNat) newCap) (w.drew.alloc (.cells (old++Builtin.zeroCells z.cells k.toNat++Builtin.zeroCells z.cells (newCap-(sLen+k.toNat))) e)):=by
 obtain ⟨hu,hke⟩:=zBh hT hk;have hu2:=zNf hT hk2;obtain ⟨_,ie,_,hie,_,hs,hb,⟨z,hz,hzc⟩,_,hbm,hzl,_⟩:=(zE hT hke).desc
 have hzs:z.cells.size=(T e).size:=by
  obtain ⟨z1,_⟩:=zEr hzc
  rw [<-hzl,<-z1];simp
 have h1:¬(sLen+k.toNat<=sCap):=by omega
 have hcap:=zYf hn
 have h2:¬(Builtin.nextslicecap (sLen+k.toNat) sCap*ie.bytes>2^48):=by
  rw [hb];have hm:Builtin.nextslicecap (sLen+k.toNat) sCap*(T e).bytes<= (2*(sLen+k.toNat)+192)*(T e).bytes:=Nat.mul_le_mul_right _ hcap
  have:(2*(sLen+k.toNat)+192)*(T e).bytes=2*((sLen+k.toNat)*(T e).bytes)+192*(T e).bytes:=by rw [Nat.add_mul,Nat.mul_assoc]
  have h48:(2:Nat)^48=281474976710656:=by decide
  rw [h48];omega
 have hkb:k.toNat*(T e).bytes<=35184372088832:=Nat.le_trans (Nat.mul_le_mul_right _ (by omega)) hroom
 have hkn:(k.toNat:Int)=k:=by omega
 have hwrap:IntKind.i64.wrap k=k:=by
  simp only [IntKind.wrap];have e1:IntKind.i64.signed=true:=rfl;have e2:IntKind.i64.bits=64:=rfl;rw [e1,e2]
  have:k<35184372088833:=by omega
  simp;omega
 have hneg:¬k<0:=by omega
 have hbig:¬(k*(ie.bytes:Int)>2^48):=by
  rw [hb,<-hkn]
  have:((k.toNat*(T e).bytes:Nat):Int) <=35184372088832:=by omega
  rw [Int.natCast_mul] at this;omega
 have h3':¬((9223372036854775807:Int)<(sLen:Int)+(k.toNat:Int)):=by omega
 have hd:∀ x,(w.cell? x).isSome->w.drew.cell? x=w.cell? x:=fun x _=>rfl
 refine ⟨sLen+k.toNat+w.tape w.drawn (.appendCap (sLen+k.toNat) sCap e)%(2^63-(sLen+k.toNat)),z,by omega,hzs,hzc,?_⟩;have ho':=ho w.drew hd
 have hzr:(zeroValue e).run P w.drew=.ok z w.drew:=by simp [zeroValue,typeInfo,hie,hz]
 have hns:¬(k.toNat*(T e).size=0):=by
  have:=zFb hT hke;intro h
  rcases Nat.mul_eq_zero.1 h with h|h<;>omega
 have hns':¬(k.toNat=0\/ (T e).size=0):=fun h=>hns (Nat.mul_eq_zero.2 h)
 have h48:(2:Int)^48=281474976710656:=by decide
 have hbig':¬((281474976710656:Int)<k*(ie.bytes:Int)):=fun h=>hbig (by rw [h48];exact h)
 have h3x:¬((9223372036854775807:Int)<(sLen:Int)+max k 0):=by omega
 have h1':¬((sLen:Int)+(k.toNat:Int) <=sCap):=by omega
 simp [Builtin.append_,run_underlying hu,run_underlying hu2,zBc hT,hke,asInt,asIntOf,hwrap,hneg,hbig',h3x,h1,typeInfo,hie,h3',h2,Question.forced,Question.cut,ho',hzr,newRow,hns',hns]
include hT in
theorem z6l {o:Oper} {c:Call} {x y:Operand} {t t2 e:TypeId} {ki ky:IntKind} {q:Int} {ρ:Operand->AV} {hp:Nat->Option Blk} {K:Eff->Prop} (ho:o.op=.call c) (hc:c.callee=.builtin .append) (ha:c.args.toList=[x,y]) (ht:c.argTypes.toList=[t,t2]) (hk:(T t).k=.slice e) (hk2:(T t2).k=.int ki)
  {b lo n cp:Nat} (hx:ρ x=.win b lo n (some cp)) (hy:ρ y=.d (.int ky q))
  (h:z6k T e b lo n cp q hp o.dst K):∃ e,K e/\zCo P o ρ hp e:=by
 have ha':c.args=#[x,y]:=by rw [<-Array.toList_inj];exact ha
 have ht':c.argTypes=#[t,t2]:=by rw [<-Array.toList_inj];exact ht
 have hex:∀ (a:Act) (w w':World) (v:Value),(Builtin.append_ #[t,t2] o.type #[a.eval x,a.eval y]).run P w=.ok v w'->(execOp a.eval o).run P w=.ok (.value v) w':=by
  intro a w w' v hr;simp [execOp,ho,resolve,hc,invoke,builtin,ha',ht',hr]
 obtain ⟨hu,hke⟩:=zBh hT hk;unfold z6k at h
 split at h
 ·rename_i r sz hb;obtain ⟨hsz,h⟩:=bif_one h;have hsz:=Nat.eq_of_beq_eq_true hsz;subst hsz;obtain ⟨⟨h0,hcn,hle⟩,h⟩:=zBg h
  split at h
  ·rename_i d hd;obtain ⟨r1,r2,h⟩:=zIu h;refine ⟨_,h,zCq fun own M ι a w hown hA hh hρ=>?_⟩;have ey:=den_int (hy▸hρ y);have hd':=hρ x;rw [hx] at hd';obtain ⟨old,k,base,L,f1,f2⟩:=z2c (P:=P) hh hb hd' hle
   have hlen:((r.drop lo).take n).length=n:=by simp;omega
   have hck:cp=k/\n<=k:=by
    rw [f1,hlen] at hd'
    cases hd' with
    |win _ _ _ _ _ _ _ _ hn hcc _ _=>exact ⟨(hcc cp rfl).symm,hn⟩
    |winL _ _ _ _ _ hL=>rw [(hh.dom b).2 hL] at hb;cases hb
   obtain ⟨rfl,hnk⟩:=hck;rw [f1] at f2;obtain ⟨newCap,z,g1,g2,hzc,g3⟩:=zNl hT (ty:=o.type) hk hk2 (w:=w) (base:=some ⟨L,base,none⟩) (sLen:=((r.drop lo).take n).length) (sCap:=cp) (k:=q) (kk:=ky) h0 (by omega) (by omega) (by rw [hlen];exact r1) (by omega) f2.run;obtain ⟨z1,z2,_⟩:=zWn hzc (zPs hT hke) (zFb hT hke) q.toNat M
   have hlr:(List.replicate q.toNat (T e).zero).length=q.toNat:=List.length_replicate ..
   have hp':=zUm (x:=d) (Ty:=e) (l:=(r.drop lo).take n) (r:=List.replicate q.toNat (T e).zero) (sz:=(T e).size) (old:=old) (vs:=Builtin.zeroCells z.cells q.toNat) (rest:=Builtin.zeroCells z.cells (newCap-(((r.drop lo).take n).length+q.toNat))) (cap:=newCap) hown hA hh f2.row f2.size z1 (by rw [hlr];exact z2) (by rw [hlr];exact g1) (by simp [Builtin.zeroCells,g2]);rw [hlen] at g3 hp';rw [hlr] at hp';rw [hlen] at f1;exact ⟨_,_,hex a w _ _ (by rw [f1,ey];exact g3),hp'⟩
  ·exact h.elim
 ·exact h.elim
include hT in
theorem z6j {o:Oper} {c:Call} {x y:Operand} {t t2 e:TypeId} {ki ky:IntKind} {q:Int} {ρ:Operand->AV} {hp:Nat->Option Blk} {K:Eff->Prop} (ho:o.op=.call c) (hc:c.callee=.builtin .append) (ha:c.args.toList=[x,y]) (ht:c.argTypes.toList=[t,t2]) (hk:(T t).k=.slice e) (hk2:(T t2).k=.int ki)
  (hx:ρ x=.nil) (hy:ρ y=.d (.int ky q)) (h:z6i T e q o.dst K):∃ e,K e/\zCo P o ρ hp e:=by
 have ha':c.args=#[x,y]:=by rw [<-Array.toList_inj];exact ha
 have ht':c.argTypes=#[t,t2]:=by rw [<-Array.toList_inj];exact ht
 have hex:∀ (a:Act) (w w':World) (v:Value),(Builtin.append_ #[t,t2] o.type #[a.eval x,a.eval y]).run P w=.ok v w'->(execOp a.eval o).run P w=.ok (.value v) w':=by
  intro a w w' v hr;simp [execOp,ho,resolve,hc,invoke,builtin,ha',ht',hr]
 obtain ⟨hu,hke⟩:=zBh hT hk;unfold z6i at h;obtain ⟨h0,h⟩:=zBg h
 split at h
 ·rename_i d hd;obtain ⟨r1,r2,h⟩:=zIu h;refine ⟨_,h,zCq fun own M ι a w hown hA hh hρ=>?_⟩;have ey:=den_int (hy▸hρ y);have hd':=hρ x;rw [hx] at hd';generalize hvx:a.eval x=v at hd'
  cases hd' with
  |nil base=>
   obtain ⟨newCap,z,g1,g2,hzc,g3⟩:=zNl hT (ty:=o.type) hk hk2 (w:=w) (base:=base) (sLen:=0) (sCap:=0) (k:=q) (kk:=ky) (old:=#[]) (by omega) (by omega) (by omega) (by rw [Nat.zero_add];exact r1) (by omega) (fun w' _=>by cases base<;>simp [Builtin.firstCells,loadCells,loadCellsFrom]);obtain ⟨z1,z2,_⟩:=zWn hzc (zPs hT hke) (zFb hT hke) q.toNat M
   have hlr:(List.replicate q.toNat (T e).zero).length=q.toNat:=List.length_replicate ..
   have hp':=zUm (x:=d) (Ty:=e) (l:=[]) (r:=List.replicate q.toNat (T e).zero) (sz:=(T e).size) (old:=#[]) (vs:=Builtin.zeroCells z.cells q.toNat) (rest:=Builtin.zeroCells z.cells (newCap-(0+q.toNat))) (cap:=newCap) hown hA hh ⟨fun i x h=>by simp at h,fun i j x d h=>by simp at h⟩ (by simp) z1 (by rw [hlr];exact z2) (by rw [hlr];exact g1) (by simp [Builtin.zeroCells,g2]);rw [hlr] at hp';simp only [List.length_nil,Nat.zero_add,List.nil_append] at hp' g3;exact ⟨_,_,hex a w _ _ (by rw [ey,hvx];exact g3),hp'⟩
 ·exact h.elim
end
end Go.Lk
