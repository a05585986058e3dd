/-
  What is proved here: what functions of the program compute, and what follows; no condition beyond each theorem's own.
-/
import Derived.Test.YtaofmndhdmkgkaaGreatGAd
import Derived.Great.BuildSlice
set_option linter.unusedSimpArgs false
set_option linter.unusedVariables false
set_option linter.unnecessarySimpa false
set_option linter.unusedSectionVars false
namespace Go.Lk
open Go Go.RowKit
theorem z5f (vs:Array Value) (off:Nat):∀ (n:Nat) (l:List Value) (k0:Nat) (cells:Array Value),l=vs.toList.drop k0->off+vs.size<=cells.size->
  ∃ cs:Array Value,(l.zipIdx k0).foldl (fun cs (x:Value×Nat)=>cs.setIfInBounds (off+x.2) x.1) cells=cs/\cs.size=cells.size/\ ∀ k,cs[k]?=if off+k0<=k/\k<off+vs.size then vs[k-off]? else cells[k]?
 |_,[],k0,cells,hl,h=>⟨cells,rfl,rfl,fun k=>by
   have:vs.size<=k0:=by
    have:=congrArg List.length hl
    simp at this;omega
   rw [if_neg (by omega)]⟩
 |n,v::r,k0,cells,hl,h=>by
  have hk:k0<vs.size:=by
   have:=congrArg List.length hl
   simp at this;omega
  have hv:vs.toList.drop k0=vs[k0]::vs.toList.drop (k0+1):=by
   rw [List.drop_eq_getElem_cons (by simpa using hk)];simp
  rw [hv] at hl;simp only [List.cons.injEq] at hl;obtain ⟨rfl,hr⟩:=hl;obtain ⟨cs,e1,e2,e3⟩:=z5f vs off n r (k0+1) (cells.setIfInBounds (off+k0) vs[k0]) hr (by simpa using h);refine ⟨cs,by simpa [List.zipIdx_cons] using e1,by simpa using e2,fun k=>?_⟩;rw [e3]
  by_cases h1:off+(k0+1) <=k/\k<off+vs.size
  ·rw [if_pos h1,if_pos ⟨by omega,h1.2⟩]
  ·rw [if_neg h1,Array.getElem?_setIfInBounds]
   by_cases h2:off+k0=k
   ·subst h2;rw [if_pos rfl,if_pos (by omega),if_pos ⟨by omega,by omega⟩];simp [show off+k0-off=k0 by omega,hk]
   ·rw [if_neg h2,if_neg (by omega)]
def CDen (M:Mem) (ι:Inj) (c:List AV) (cs:Array Value):Prop:=cs.size=c.length/\ ∀ (i:Nat) (y:AV) (u:Value),c[i]?=some y->cs[i]?=some u->DenA M ι y u
theorem zMx {hp:Nat->Option Blk} {ρ:Operand->AV} {off:Nat->Option (Nat×Nat)}:∀ {ps:List (Nat×Operand)} {c:List AV} {K:List AV->Prop},zPy hp ρ off c ps K->
  ∃ c',K c'/\c'.length=c.length/\ ∀ (own:Nat->Prop) (M:Mem) (ι:Inj) (a:Act) (w:World) (cs:Array Value),HRel own M ι hp w->(∀ x,DenA M ι (ρ x) (a.eval x))->CDen M ι c cs->
   ∃ cs',Instr.fill off cs (ps.map fun p=>(p.1,a.eval p.2))=some cs'/\CDen M ι c' cs'
 | [],c,K,h=>⟨c,h,rfl,fun _ M ι a w cs _ _ hc=>⟨cs,rfl,hc⟩⟩
 |(i,x)::r,c,K,h=>by
  simp only [zPy] at h
  cases ho:off i with
  |none=>simp [ho] at h
  |some p=>
   obtain ⟨o,s⟩:=p;simp only [ho] at h;have h:=(force_out h).1
   cases hb:Nat.beq (cellsOf (ρ x)).length s&&Nat.ble (o+s) c.length with
   |false=>simp only [hb,cond_false] at h
   |true=>
    simp only [hb,cond_true] at h;simp only [Bool.and_eq_true] at hb;have hs:=Nat.eq_of_beq_eq_true hb.1;have hle:=Nat.le_of_ble_eq_true hb.2
    cases hc1:zEj hp (cellsOf (ρ x)) with
    |false=>simp only [hc1,cond_false] at h
    |true=>
     simp only [hc1,cond_true] at h;rw [zJr (by rw [hs];exact hle)] at h;obtain ⟨c',hK,hl,hd⟩:=zMx h;refine ⟨c',hK,by rw [hl,zG],fun own M ι a w cs hh hρ hcs=>?_⟩;obtain ⟨e1,e2,_⟩:=zJz hh hc1 (hρ x);obtain ⟨cs1,g1,g2,g3⟩:=z5f (a.eval x).cells o (a.eval x).cells.size (a.eval x).cells.toList 0 cs (by simp) (by rw [e1,hs,hcs.1];exact hle)
     have hcs1:CDen M ι (zAy c o (cellsOf (ρ x))) cs1:=by
      refine ⟨by rw [g2,zG];exact hcs.1,fun k y u hy hu=>?_⟩;rw [splice_get _ _ _ _ (by rw [hs];exact hle)] at hy;rw [g3] at hu;rw [e1] at hu;simp only [Nat.add_zero] at hu
      split at hy
      ·rename_i hin;rw [if_pos hin] at hu;exact e2 _ y u hy hu
      ·rename_i hin;rw [if_neg hin] at hu;exact hcs.2 k y u hy hu
     obtain ⟨cs',f1,f2⟩:=hd own M ι a w cs1 hh hρ hcs1;refine ⟨cs',?_,f2⟩
     have hsz:¬((a.eval x).cells.size≠s||decide (o+(a.eval x).cells.size>cs.size))=true:=by
      rw [e1,hs,hcs.1];simp;exact hle
     simp only [List.map_cons,Instr.fill,ho];rw [if_neg (by simpa using hsz)]
     have gz:(a.eval x).cells.zipIdx.foldl (fun cs (x:Value×Nat)=>cs.setIfInBounds (o+x.2) x.1) cs=cs1:=by
      rw [<-g1,<-Array.foldl_toList];simp
     have:(a.eval x).cells.zipIdx.foldl (fun cs (x:Value×Nat)=>match x with|(c,j)=>cs.setIfInBounds (o+j) c) cs=cs1:=gz;rw [this];exact f1
theorem bif_one {a:Bool} {A:Prop} (h:bif a then A else False):a=true/\A:=by
 cases a<;>simp_all
section
variable {P:Program} {T:Tab} (hT:zFo P T)
include hT
omit hT in
theorem z7p {t:TypeId} {z:Value} (hz:zEu z.cells.toList (T t).zero=true) (M:Mem) (ι:Inj):CDen M ι ((T t).zero.map zA) z.cells:=by
 have hb:=yFz (T:=T) hz M ι;refine ⟨hb.size,fun i y u hy hu=>?_⟩;obtain ⟨v,e1,e2⟩:=hb.den i y hy
 rw [hu] at e1;cases e1
 exact e2
theorem run_places (F:List Field) (hF:∀ f∈F,(T f.type).k.known=true) (w:World):
  (F.mapM (m:=Sem) fun f=>do pure (f.offset,<-sizeOf f.type)).run P w=.ok (F.map fun f=>(f.offset,(T f.type).size)) w:=by
 induction F with
 |nil=>simp
 |cons f r ih=>
  simp only [List.mapM_cons,Sem.run_bind,zBd hT w (hF f (List.mem_cons_self ..)),Result.andThen_ok,Sem.run_pure,ih fun g hg=>hF g (List.mem_cons_of_mem _ hg),List.map_cons]
theorem yJg {o:Oper} {t:TypeId} {ps:Array (Nat×Operand)} {ρ:Operand->AV} {hp:Nat->Option Blk} {K:Eff->Prop} (ho:o.op=.build t ps)
  (h:match (T t).k with
  | .struct fs=>zPy hp ρ (yRg T fs) ((T t).zero.map zA) ps.toList fun c=>forceL c fun c=>K ⟨.agg c,[],none⟩
  | .arr _ e=>zPy hp ρ (fun i=>some (i*(T e).size,(T e).size)) ((T t).zero.map zA) ps.toList fun c=>K ⟨.agg c,[],none⟩
  |_=>False):∃ e,K e/\zCr P o ρ hp e:=by
 split at h
 ·rename_i fs hk;obtain ⟨F,hu,hF,hkn,_⟩:=zJv hT hk;obtain ⟨c',hK,hl,hd⟩:=zMx h;refine ⟨_,zJg hK,opSem_val fun own M ι a w ha hh hρ=>?_⟩;obtain ⟨z,hz,hzc⟩:=zXc hT (t:=t) w (by rw [hk];rfl);obtain ⟨cs',f1,f2⟩:=hd own M ι a w z.cells hh hρ (z7p hzc M ι);refine ⟨.agg cs',?_,.agg _ _ f2.1 f2.2⟩
  have hpl:(F.mapM (m:=Sem) fun f=>do pure (f.offset,<-sizeOf f.type)).run P w=.ok (F.map fun f=>(f.offset,(T f.type).size)) w:=by
   rw [Array.mapM_eq_mapM_toList,Sem.run_map,run_places hT F.toList (fun f hf=>hkn (f.offset,f.type) (by rw [<-hF];exact List.mem_map.2 ⟨f,hf,rfl⟩)) w];simp [Result.andThen];apply Array.ext';simp
  have hoff:(fun i=>(F.map fun f=>(f.offset,(T f.type).size))[i]?)=yRg T fs:=by
   funext i
   rw [<-hF];unfold yRg;rw [List.getElem?_map,Array.getElem?_map,Array.getElem?_toList]
   cases F[i]?<;>rfl
  have hps:((ps.map fun (x:Nat×Operand)=>(x.1,a.eval x.2)).toList)=ps.toList.map fun p=>(p.1,a.eval p.2):=by simp
  have e0:(execOp a.eval o).run P w=((Instr.build t (ps.map fun (x:Nat×Operand)=>(x.1,a.eval x.2))).run P w).andThen fun v w=>.ok (.value v) w:=by
   simp [execOp,ho]
  rw [e0];simp only [Instr.build,Sem.run_bind,hz,Result.andThen_ok,run_underlying hu,hpl,hoff,hps,f1,Sem.run_pure]
 ·rename_i n e hk;obtain ⟨hu,hke⟩:=zXq hT hk;obtain ⟨c',hK,hl,hd⟩:=zMx h;refine ⟨_,hK,opSem_val fun own M ι a w ha hh hρ=>?_⟩;obtain ⟨z,hz,hzc⟩:=zXc hT (t:=t) w (by rw [hk];rfl);obtain ⟨cs',f1,f2⟩:=hd own M ι a w z.cells hh hρ (z7p hzc M ι);refine ⟨.agg cs',?_,.agg _ _ f2.1 f2.2⟩
  have hps:((ps.map fun (x:Nat×Operand)=>(x.1,a.eval x.2)).toList)=ps.toList.map fun p=>(p.1,a.eval p.2):=by simp
  have e0:(execOp a.eval o).run P w=((Instr.build t (ps.map fun (x:Nat×Operand)=>(x.1,a.eval x.2))).run P w).andThen fun v w=>.ok (.value v) w:=by
   simp [execOp,ho]
  rw [e0];simp only [Instr.build,Sem.run_bind,hz,Result.andThen_ok,run_underlying hu,zBd hT w hke,hps,f1,Sem.run_pure]
 ·exact h.elim
omit hT in
theorem zOs (sz:Nat):∀ (n:Nat) (xs:List D),(opG.chunk sz n xs).length=n
 |0,_=>rfl
 |n+1,xs=>by simp [opG.chunk,zOs sz n]
omit hT in
theorem z4i (sz:Nat):∀ (n:Nat) (xs:List D) (i:Nat),i<n->(opG.chunk sz n xs)[i]?=some ((xs.drop (i*sz)).take sz)
 |0,_,_,h=>by omega
 |n+1,xs,0,_=>by simp [opG.chunk]
 |n+1,xs,i+1,h=>by
  simp only [opG.chunk,List.getElem?_cons_succ];rw [z4i sz n (xs.drop sz) i (by omega),List.drop_drop];rw [show sz+i*sz=(i+1)*sz by rw [Nat.add_mul,Nat.one_mul,Nat.add_comm]]
theorem yId {e:TypeId} (hk:(T e).k.known=true) {z:Value} (hz:zEu z.cells.toList (T e).zero=true) (n:Nat) (M:Mem) (ι:Inj):
  CDen M ι (yIc T e n) ((Array.range (n*(T e).size)).map (z.cells[·%z.cells.size]!)):=by
 obtain ⟨e1,e2⟩:=zEv hz;have hzl:=zQs hT hk;have hpos:=zFj hT hk
 have hzs:z.cells.size=(T e).size:=by rw [<-hzl,<-e1];simp
 refine ⟨by simp [yIc],fun i y u hy hu=>?_⟩;simp only [yIc,List.getElem?_map] at hy;simp only [Array.getElem?_map] at hu
 by_cases hi:i<n*(T e).size
 ·rw [List.getElem?_range hi] at hy;simp only [Option.map_some,Option.some.injEq] at hy;rw [Array.getElem?_range] at hu;rw [if_pos hi] at hu;simp only [Option.map_some,Option.some.injEq] at hu;have hm:i%(T e).size<(T e).size:=Nat.mod_lt _ hpos;have hd:(T e).zero[i%(T e).size]?=some ((T e).zero[i%(T e).size]'(by omega)):=List.getElem?_eq_getElem (by omega);obtain ⟨v,g1,g2,g3⟩:=e2 _ _ hd
  have hu2:u=v:=by
   rw [<-hu,hzs]
   have:z.cells[i%(T e).size]?=some v:=by simpa using g1
   have hlt:i%(T e).size<z.cells.size:=by omega
   rw [getElem!_pos z.cells _ hlt];rw [Array.getElem?_eq_getElem hlt] at this
   simpa using this
  rw [<-hy,hu2]
  have:(T e).zero.getD (i%(T e).size) .nilp=(T e).zero[i%(T e).size]'(by omega):=by
   simp [List.getD,hd]
  rw [this];exact yV (g2 M) g3
 ·rw [List.getElem?_eq_none (by simp;omega)] at hy;simp at hy
omit hT in
theorem z0m {own:Nat->Prop} {M M1:Mem} {ι:Inj} {hp hp1:Nat->Option Blk} {w:World} (h1:HRel own M1 ι hp1 w) (s1:Sub M M1) (l1:zKz hp hp1) {c:List AV} {ds:List D} {cs:Array Value}
  (hf:∀ b l sz fr,b∈zAp.cells hp c->hp b=some (.row l sz fr)->hp1 b=some (.row l sz true)) (hc:conv.cells hp c=some ds) (hd:CDen M ι c cs):
  ds.length=c.length/\ ∀ (k:Nat) (d:D),ds[k]?=some d->∃ u,cs[k]?=some u/\DenD M1 d u:=by
 obtain ⟨x1,x2⟩:=zGa hc;refine ⟨x1,fun k d hk=>?_⟩;obtain ⟨z,z1,z2,_⟩:=x2 k d hk;have hkl:=(List.getElem?_eq_some_iff.1 z1).1
 have hu:cs[k]?=some (cs[k]'(by rw [hd.1];exact hkl)):=by simp [hd.1,hkl]
 refine ⟨_,hu,zDi h1 (by rw [zLh l1];exact z2) ?_ ((hd.2 k z _ z1 hu).mono s1)⟩;have:=zEa (hp0:=hp) hf l1 (.agg c) (fun b hb=>by simpa [zAp] using hb)
 have hz:∀ (c:List AV) (hp:Nat->Option Blk),zAp.cells hp c=[]->∀ (k:Nat) (z:AV),c[k]?=some z->zAp.one hp z=[]:=by
  intro c hp
  induction c with
  |nil=>intro _ k z hz;simp at hz
  |cons q r ih=>
   intro hq k z hz;simp only [zAp.cells,List.append_eq_nil_iff] at hq
   cases k with
   |zero=>simp at hz;subst hz;exact hq.1
   |succ k=>exact ih hq.2 k z (by simpa using hz)
 exact hz _ _ (by simpa [zAp] using this) k z z1
omit hT in
theorem yEl {own:Nat->Prop} {M M1:Mem} {ι:Inj} {hp hp1:Nat->Option Blk} {w:World} (ho:∀ c,w.heap.size<=c->own c) (hs:Sub M M1) (hn:zCq own M M1) (ha:zBj M1 w) (hh:HRel own M1 ι hp1 w)
  {e:Eff} {d:Nat} {l:List (List D)} {sz:Nat} {vs:Array Value} {Ty:TypeId} {cap:Nat} (he:e.hp hp=upd (zD (some d) hp1) d (some (.row l sz false))) (hk:e.kl=some d) (hav:e.av=.own d)
  (hrow:zGv M1 vs l sz) (hcap:l.length<=cap) (hsz:cap*sz<=vs.size):
  Post own M ι hp w e (.slice (some ⟨w.heap.size,0,none⟩) l.length cap) (w.alloc (.cells vs Ty)):=by
 refine zUa ho hs hn ha hh rfl rfl rfl rfl (d:=d) (B:=.row l sz false) (sz:=sz) (len:=l.length) he hk ?_ ?_
 ·exact ⟨vs,Ty,zFe w _,rfl,rfl,rfl,Nat.le_trans (Nat.mul_le_mul_right _ hcap) hsz,hrow,(by intro e;cases e),fun _ o=>zOm ha o⟩
 ·rw [hav];exact .own d ⟨w.heap.size,sz,vs.size,l.length⟩ cap (upd_same _ _ _) hcap hsz
theorem zY {o:Oper} {t:TypeId} {n:Nat} {ps:Array (Nat×Operand)} {d:Tmp} {ρ:Operand->AV} {hp:Nat->Option Blk} {K:Eff->Prop} (ho:o.op=.buildSlice t n ps)
  (h:match (T t).k with
   | .slice e=>zPy hp ρ (fun i=>some (i*(T e).size,(T e).size)) (yIc T e n) ps.toList fun c=>zEr (n*(T e).size<=16777216) (match conv.cells hp c with
    |some xs=>K ⟨.own d,frz hp (zAp.cells hp c)++[(d,.row (opG.chunk (T e).size n xs) (T e).size false)],some d⟩
    |none=>False)
   |_=>False):∃ e,K e/\zCr P o ρ hp e:=by
 split at h
 ·rename_i e hk;obtain ⟨hu,hke⟩:=zBi hT hk;obtain ⟨c',h,hl,hd⟩:=zMx h;obtain ⟨hsm,h⟩:=zBh h
  cases hcv:conv.cells hp c' with
  |none=>simp [hcv] at h
  |some xs=>
   simp only [hcv] at h;refine ⟨_,h,zCu fun own M ι a w hown ha hh hρ=>?_⟩
   obtain ⟨ie,z,hie,hsz,hz,hzc⟩:∃ ie z,P.info? e=some ie/\ie.size=(T e).size/\ie.zero=some z/\zEu z.cells.toList (T e).zero=true:=by
    obtain ⟨_,ie,_,hi,_,hs,_,⟨z,hz,hc⟩,_⟩:=(zEe hT hke).desc;exact ⟨ie,z,hi,hs,hz,hc⟩
   obtain ⟨M1,s1,a1,n1,h1,l1,f1⟩:=zHm (hp0:=hp) (zAp.cells hp c') M hp ha hh (.refl hp);obtain ⟨cs',g1,g2⟩:=hd own M ι a w _ hh hρ (yId hT hke hzc n M ι)
   have hps:((ps.map fun (x:Nat×Operand)=>(x.1,a.eval x.2)).toList)=ps.toList.map fun p=>(p.1,a.eval p.2):=by simp
   obtain ⟨x1,x2⟩:=z0m h1 s1 l1 (fun b l sz fr hb e=>f1 b l sz fr (.inl hb) e) hcv g2
   have hcl:c'.length=n*(T e).size:=by rw [hl];simp [yIc]
   have hrow:zGv M1 cs' (opG.chunk (T e).size n xs) (T e).size:=by
    have hlt:∀ (i:Nat) (el:List D),(opG.chunk (T e).size n xs)[i]?=some el->i<n/\el=(xs.drop (i*(T e).size)).take (T e).size:=by
     intro i el hel
     have hi:i<n:=by
      have:=(List.getElem?_eq_some_iff.1 hel).1
      rwa [zOs] at this
     rw [z4i _ n xs i hi] at hel;exact ⟨hi,by simpa using hel.symm⟩
    have hbd:∀ i,i<n->i*(T e).size+(T e).size<=xs.length:=by
     intro i hi;rw [x1,hcl]
     calc i*(T e).size+(T e).size=(i+1)*(T e).size:=by rw [Nat.add_mul,Nat.one_mul]
      _<=n*(T e).size:=Nat.mul_le_mul_right _ hi
    refine ⟨fun i el hel=>?_,fun i j el d' hel hd'=>?_⟩
    ·obtain ⟨hi,rfl⟩:=hlt i el hel;have:=hbd i hi
     simp;omega
    ·obtain ⟨hi,rfl⟩:=hlt i el hel;rw [List.getElem?_take] at hd'
     split at hd'
     ·rw [List.getElem?_drop] at hd';exact x2 _ _ hd'
     ·cases hd'
   have hpost:=yEl (d:=d) (Ty:=e) (cap:=n) hown s1 n1 a1 h1 (e:=⟨.own d,frz hp (zAp.cells hp c')++[(d,.row (opG.chunk (T e).size n xs) (T e).size false)],some d⟩) (vs:=cs') (l:=opG.chunk (T e).size n xs) (sz:=(T e).size) (yGm _ _ _ _) rfl rfl hrow (by rw [zOs];exact Nat.le_refl _) (by rw [g2.1,hcl];exact Nat.le_refl _);rw [zOs] at hpost;refine ⟨_,_,?_,hpost⟩
   have e0:(execOp a.eval o).run P w=((Instr.buildSlice t n (ps.map fun (x:Nat×Operand)=>(x.1,a.eval x.2))).run P w).andThen fun v w=>.ok (.value v) w:=by
    simp [execOp,ho]
   rw [e0]
   by_cases hn:n=0
   ·subst hn
    have hcs:((Array.range (0*(T e).size)).map (z.cells[·%z.cells.size]!))=#[]:=by simp
    rw [hcs] at g1;simp only [Instr.buildSlice,Sem.run_bind,run_underlying hu,Result.andThen_ok,zBd hT w hke]
    have hr0:(Array.range 0).map (fun _=>(default:Value))=#[]:=by simp
    have g1':Instr.fill (fun i=>some (i*(T e).size,(T e).size)) #[] (ps.toList.map fun x=>(x.1,a.eval x.2))=some cs':=g1;simp [hps,newRow];rw [hr0,g1'];simp [newObj];rfl
   ·have hp0:¬n*ie.size=0:=by
     rw [hsz];have:=zFj hT hke;intro h0
     rcases Nat.mul_eq_zero.1 h0 with h|h<;>omega
    have h24:¬n*ie.size>2^24:=by rw [hsz];omega
    rw [run_buildSlice (P:=P) w t e n _ cs' ie z hu hie hz h24 hp0 (by rw [hsz,hps];exact g1)];rfl
 ·exact h.elim
theorem z1p {o:Oper} {t:TypeId} {x y:Operand} {d:Tmp} {ρ:Operand->AV} {hp:Nat->Option Blk} {K:Eff->Prop} {n c:Int} {k1 k2:IntKind} (ho:o.op=.makeSlice t x y) (hx:ρ x=.d (.int k1 n)) (hy:ρ y=.d (.int k2 c)) {e:TypeId} (hk:(T t).k=.slice e)
  (h:zEr (0<=n/\n<=c) (zTi c.toNat (T e).bytes (K ⟨.own d,[(d,.row (List.replicate n.toNat (T e).zero) (T e).size false)],some d⟩))):∃ e,K e/\zCr P o ρ hp e:=by
 obtain ⟨hu,hke⟩:=zBi hT hk;obtain ⟨⟨h0,hnc⟩,h⟩:=zBh h;obtain ⟨r1,r2,h⟩:=zJp h;refine ⟨_,h,zCu fun own M ι a w hown ha hh hρ=>?_⟩;have ex:=den_int (hx▸hρ x);have ey:=den_int (hy▸hρ y)
 obtain ⟨ie,z,hie,hsz,hby,hz,hzc⟩:∃ ie z,P.info? e=some ie/\ie.size=(T e).size/\ie.bytes=(T e).bytes/\ie.zero=some z/\zEu z.cells.toList (T e).zero=true:=by
  obtain ⟨_,ie,_,hi,_,hs,hb,⟨z,hz,hc⟩,_⟩:=(zEe hT hke).desc;exact ⟨ie,z,hi,hs,hb,hz,hc⟩
 obtain ⟨z1,z2⟩:=zEv hzc;have hzl:=zQs hT hke;have hpos:=zFj hT hke
 have hzs:z.cells.size=(T e).size:=by rw [<-hzl,<-z1];simp
 have hc0:(c.toNat:Int)=c:=by omega
 have hrun:=run_make (P:=P) w t e ie z hu hie hz k1 k2 n c h0 hnc (by
  rw [hby,<-hc0,Int.mul_comm]
  have:((c.toNat*(T e).bytes:Nat):Int) <=35184372088832:=by omega
  rw [Int.natCast_mul] at this
  omega) (by omega)
 have hrow:zGv M (madeCells z.cells (c.toNat*ie.size)) (List.replicate n.toNat (T e).zero) (T e).size:=by
  refine ⟨fun i el hel=>?_,fun i j el d' hel hd'=>?_⟩
  ·rw [List.getElem?_replicate] at hel
   split at hel
   ·cases hel;exact hzl
   ·cases hel
  ·rw [List.getElem?_replicate] at hel
   split at hel
   ·rename_i hi
    cases hel
    have hj:=(List.getElem?_eq_some_iff.1 hd').1;rw [hzl] at hj;obtain ⟨v,g1,g2,_⟩:=z2 j d' hd';refine ⟨v,?_,g2 M⟩
    have hlt:i*(T e).size+j<c.toNat*ie.size:=by
     rw [hsz]
     calc i*(T e).size+j<i*(T e).size+(T e).size:=by omega
      _=(i+1)*(T e).size:=by rw [Nat.add_mul,Nat.one_mul]
      _<=c.toNat*(T e).size:=Nat.mul_le_mul_right _ (by omega)
    simp only [madeCells,Array.getElem?_map,Array.getElem?_range,if_pos hlt,Option.map_some,Option.some.injEq];rw [hzs,Nat.mul_comm,Nat.mul_add_mod,Nat.mod_eq_of_lt hj]
    have hlt2:j<z.cells.size:=by omega
    rw [getElem!_pos z.cells _ hlt2]
    have:z.cells[j]?=some v:=by simpa using g1
    rw [Array.getElem?_eq_getElem hlt2] at this
    simpa using this
   ·cases hel
 have hpost:=yEl (d:=d) (Ty:=e) (cap:=c.toNat) (hp:=hp) hown (.refl M) (.refl own M) ha hh (e:=⟨.own d,[(d,.row (List.replicate n.toNat (T e).zero) (T e).size false)],some d⟩) rfl rfl rfl hrow (by simp;omega) (by rw [size_madeCells,hsz];exact Nat.le_refl _);refine ⟨_,_,?_,by simpa using hpost⟩;simp [execOp,ho,ex,ey,hrun]
end
theorem yE {M:Mem} {d:D} {v:Value} (h:zGo.one d=true) (hd:DenD M d v):v.oneCell'=true:=by
 cases hd<;>simp [zGo.one] at h<;>rfl
theorem zHe {sz:Nat} {l:List (List D)} (h:okRows sz l=true):∀ (i:Nat) (e:List D),l[i]?=some e->e.length=sz/\ ∀ d∈e,zGo.one d=true:=by
 intro i e he;simp only [okRows,List.all_eq_true] at h;have:=h e (List.mem_of_getElem? he);simp only [yHj,Bool.and_eq_true,List.all_eq_true] at this;exact ⟨Nat.eq_of_beq_eq_true this.1,this.2⟩
structure z0f (P:Program) (M:Mem) (w:World) (u:Value) (l:List (List D)) (sz:Nat) (vs:Array Value):Prop where
 size:vs.size=l.length*sz
 row:zGv M vs l sz
 one:okRows sz l=true->∀ v∈vs.toList,v.oneCell'=true
 run:∀ w':World,(∀ a,(w.cell? a).isSome->w'.cell? a=w.cell? a)->(Builtin.firstCells sz l.length u).run P w'=.ok vs w'
theorem zVr {i j n sz:Nat} (hi:i<n) (hj:j<sz):i*sz+j<n*sz:=by
 calc i*sz+j<i*sz+sz:=by omega
  _=(i+1)*sz:=by rw [Nat.add_mul,Nat.one_mul]
  _<=n*sz:=Nat.mul_le_mul_right _ hi
theorem z5n {k n sz:Nat} (hk:k<n*sz):∃ i j,k=i*sz+j/\i<n/\j<sz:=by
 have hs:0<sz:=by
  rcases Nat.eq_zero_or_pos sz with h|h
  ·subst h;simp at hk
  ·exact h
 refine ⟨k/sz,k%sz,?_,?_,Nat.mod_lt _ hs⟩
 ·have:=Nat.div_add_mod k sz
  rw [Nat.mul_comm];omega
 ·exact Nat.div_lt_of_lt_mul (by rwa [Nat.mul_comm])
theorem zJs {P:Program} {M:Mem} {w:World} {l:List (List D)} {sz:Nat} (blk off cap:Nat) (val:Nat->Nat->Value) (hlen:∀ (i:Nat) (e:List D),l[i]?=some e->e.length=sz)
  (hm:∀ (i j:Nat) (e:List D) (d:D),l[i]?=some e->e[j]?=some d->w.cell? ⟨blk,off+i*sz+j,none⟩=some (val i j))
  (hd:∀ (i j:Nat) (e:List D) (d:D),l[i]?=some e->e[j]?=some d->DenD M d (val i j)):
  ∃ vs,z0f P M w (.slice (some ⟨blk,off,none⟩) l.length cap) l sz vs:=by
 have key:∀ k,k<l.length*sz->∃ i j e d,k=i*sz+j/\l[i]?=some e/\e[j]?=some d:=by
  intro k hk;obtain ⟨i,j,hkij,hi,hj⟩:=z5n hk;have he:l[i]?=some l[i]:=List.getElem?_eq_getElem hi;have hl:=hlen i _ he;exact ⟨i,j,l[i],l[i][j],hkij,he,List.getElem?_eq_getElem (by omega)⟩
 have hs0:∀ i j,j<sz->(i*sz+j)/sz=i/\ (i*sz+j)%sz=j:=by
  intro i j hj
  have:0<sz:=by omega
  rw [Nat.mul_comm i sz];exact ⟨by rw [Nat.mul_add_div this,Nat.div_eq_of_lt hj,Nat.add_zero],by rw [Nat.mul_add_mod,Nat.mod_eq_of_lt hj]⟩
 refine ⟨((List.range (l.length*sz)).map fun k=>val (k/sz) (k%sz)).toArray,by simp,⟨hlen,fun i j e d he hj=>?_⟩,fun hok v hv=>?_,fun w' hw'=>?_⟩
 ·have hi:=(List.getElem?_eq_some_iff.1 he).1;have hjl:=(List.getElem?_eq_some_iff.1 hj).1;rw [hlen i e he] at hjl;refine ⟨val i j,?_,hd i j e d he hj⟩;simp only [List.getElem?_toArray,List.getElem?_map,List.getElem?_range (zVr hi hjl),Option.map_some,(hs0 i j hjl).1,(hs0 i j hjl).2]
 ·simp only [List.mem_map,List.mem_range] at hv;obtain ⟨k,hk,rfl⟩:=hv;obtain ⟨i,j,e,d,rfl,he,hj⟩:=key k hk;have hjl:=(List.getElem?_eq_some_iff.1 hj).1;rw [hlen i e he] at hjl;rw [(hs0 i j hjl).1,(hs0 i j hjl).2];exact yE ((zHe hok i e he).2 d (List.mem_of_getElem? hj)) (hd i j e d he hj)
 ·simp only [Builtin.firstCells];rw [run_loadCells w' ⟨blk,off,none⟩ (l.length*sz) (fun k=>val (k/sz) (k%sz)) fun k hk=>?_];obtain ⟨i,j,e,d,rfl,he,hj⟩:=key k hk;have hjl:=(List.getElem?_eq_some_iff.1 hj).1;rw [hlen i e he] at hjl;rw [(hs0 i j hjl).1,(hs0 i j hjl).2,zDk,hw' _ (by rw [show off+(i*sz+j)=off+i*sz+j by omega,hm i j e d he hj];rfl)];rw [show off+(i*sz+j)=off+i*sz+j by omega];exact hm i j e d he hj
theorem zGm {P:Program} {M:Mem} {w:World} {sz:Nat} (a:Option Addr) (c:Nat):z0f P M w (.slice a 0 c) [] sz #[]:=by
 refine ⟨by simp,⟨fun i e h=>by simp at h,fun i j e d h=>by simp at h⟩,fun _ v hv=>by simp at hv,fun w' _=>?_⟩
 cases a with
 |none=>simp [Builtin.firstCells]
 |some a=>
  simp only [Builtin.firstCells,List.length_nil,Nat.zero_mul];rw [run_loadCells w' a 0 (fun _=>undef) (fun j hj=>by omega)];rfl
theorem z3t {P:Program} {own:Nat->Prop} {M:Mem} {ι:Inj} {hp:Nat->Option Blk} {w:World} (hh:HRel own M ι hp w) {b lo n:Nat} {c:Option Nat} {l:List (List D)} {sz:Nat} {fr:Bool} (hb:hp b=some (.row l sz fr)) {u:Value} (hd:DenA M ι (.win b lo n c) u) (hle:lo+n<=l.length):
  ∃ vs k base L,u=.slice (some ⟨L,base,none⟩) ((l.drop lo).take n).length k/\z0f P M w u ((l.drop lo).take n) sz vs:=by
 have hlen:((l.drop lo).take n).length=n:=by simp;omega
 cases hd with
 |winL _ _ _ _ _ hL=>rw [(hh.dom b).2 hL] at hb;cases hb
 |win _ _ _ _ L k base hL hn hc hk hbb=>
  obtain ⟨_,cs,Ty,hheap,hsz,q1,q2,q3,q4,q5⟩:=hh.at_ b _ L hb hL;rw [hlen]
  by_cases h0:n=0
  ·subst h0;exact ⟨#[],k,base,L.blk,rfl,by rw [List.take_zero];exact zGm _ k⟩
  ·have hbase:base=lo*L.sz:=by
    rcases hbb with h|h
    ·exact h
    ·omega
   subst hbase
   have hget:∀ (i:Nat) (e:List D),((l.drop lo).take n)[i]?=some e->l[lo+i]?=some e:=by
    intro i e he;rw [List.getElem?_take] at he
    split at he
    ·rwa [List.getElem?_drop] at he
    ·cases he
   obtain ⟨vs,hvs⟩:=zJs (P:=P) (M:=M) (w:=w) (l:=(l.drop lo).take n) (sz:=sz) L.blk (lo*L.sz) k (fun i j=>(cs[(lo+i)*sz+j]?).getD undef) (fun i e he=>q4.len _ e (hget i e he)) (fun i j e d he hj=>by
     obtain ⟨v,e1,e2⟩:=q4.den _ j e d (hget i e he) hj
     rw [cell_of_heap hheap,<-q1,show lo*sz+i*sz+j=(lo+i)*sz+j by rw [Nat.add_mul],e1];rfl) (fun i j e d he hj=>by
     obtain ⟨v,e1,e2⟩:=q4.den _ j e d (hget i e he) hj
     simpa [e1] using e2)
   rw [hlen] at hvs;exact ⟨vs,k,_,L.blk,rfl,hvs⟩
theorem zZz {P:Program} {sz:Nat} {v:AV} {hp:Nat->Option Blk} {K:List (List D)->Prop} (h:zZy sz v hp K):
  ∃ l,K l/\ ∀ (own:Nat->Prop) (M:Mem) (ι:Inj) (w:World) (u:Value),zBj M w->HRel own M ι hp w->DenA M ι v u->∃ a c vs,u=.slice a l.length c/\z0f P M w u l sz vs/\ ∀ v∈vs.toList,v.oneCell'=true:=by
 unfold zZy at h
 split at h
 ·rename_i l;obtain ⟨hok,h⟩:=zBh h;refine ⟨l,h,fun own M ι w u ha hh hd=>?_⟩
  cases hd with
  |d _ _ hd=>
   cases hd with
   |emp a c=>exact ⟨a,c,#[],rfl,zGm a c,fun v hv=>by simp at hv⟩
   |lst _ b off cap sz' val hl hs hm hdd=>
    have hsz:∀ i e,l[i]?=some e->sz'=sz:=fun i e he=>(hs i e he).symm.trans (zHe hok i e he).1
    obtain ⟨vs,hvs⟩:=zJs (P:=P) (M:=M) (w:=w) b off cap val (fun i e he=>(zHe hok i e he).1) (fun i j e d he hj=>by
     have:=hsz i e he;subst this
     exact ha _ _ _ (hm i j e d he hj)) hdd
    exact ⟨_,_,vs,rfl,hvs,hvs.one hok⟩
 ·refine ⟨[],h,fun own M ι w u ha hh hd=>?_⟩
  cases hd with
  |nil a=>exact ⟨a,0,#[],rfl,zGm a 0,fun v hv=>by simp at hv⟩
 ·rename_i b
  split at h
  ·rename_i l sz' fr hb
   cases hs:Nat.beq sz' sz with
   |false=>simp [hs] at h
   |true=>
    simp only [hs,cond_true] at h;have:=Nat.eq_of_beq_eq_true hs;subst this;obtain ⟨hok,h⟩:=zBh h;refine ⟨l,h,fun own M ι w u ha hh hd=>?_⟩
    cases hd with
    |own _ L cap hL hn hc=>
     obtain ⟨_,cs,Ty,hheap,hsz,q1,q2,q3,q4,q5⟩:=hh.at_ b _ L hb hL
     obtain ⟨vs,hvs⟩:=zJs (P:=P) (M:=M) (w:=w) L.blk 0 cap (fun i j=>(cs[i*sz'+j]?).getD undef) q4.len (fun i j e d he hj=>by
      obtain ⟨v,e1,e2⟩:=q4.den i j e d he hj
      rw [cell_of_heap hheap,Nat.zero_add,e1];rfl) (fun i j e d he hj=>by
      obtain ⟨v,e1,e2⟩:=q4.den i j e d he hj
      simpa [e1] using e2)
     rw [<-q2];exact ⟨_,_,vs,rfl,hvs,hvs.one hok⟩
    |ownE _ a hL=>
     obtain ⟨sz2,fr2,e⟩:=hh.virt b hL
     rw [hb] at e;cases e
     exact ⟨a,0,#[],rfl,zGm a 0,fun v hv=>by simp at hv⟩
    |ownL _ _ hL=>rw [(hh.dom b).2 hL] at hb;cases hb
  ·exact h.elim
 ·rename_i b lo n c
  split at h
  ·rename_i l sz' fr hb
   cases hs:Nat.beq sz' sz with
   |false=>simp [hs] at h
   |true=>
    simp only [hs,cond_true] at h;have:=Nat.eq_of_beq_eq_true hs;subst this;obtain ⟨⟨hle,hok⟩,h⟩:=zBh h;refine ⟨_,h,fun own M ι w u ha hh hd=>?_⟩;obtain ⟨vs,k,base,L,e1,e2⟩:=z3t (P:=P) hh hb hd hle;exact ⟨_,_,vs,e1,e2,e2.one hok⟩
  ·exact h.elim
 ·exact h.elim
theorem zSf {M:Mem} {cs vs cs':Array Value} {l r:List (List D)} {sz:Nat} (h1:zGv M cs l sz) (h2:zGv M vs r sz)
  (e1:∀ k,k<l.length*sz->cs'[k]?=cs[k]?) (e2:∀ k,k<r.length*sz->cs'[l.length*sz+k]?=vs[k]?):zGv M cs' (l++r) sz:=by
 refine ⟨fun i e he=>?_,fun i j e d he hj=>?_⟩
 ·by_cases hi:i<l.length
  ·rw [List.getElem?_append_left hi] at he;exact h1.len i e he
  ·rw [List.getElem?_append_right (by omega)] at he;exact h2.len _ e he
 ·have hjl:=(List.getElem?_eq_some_iff.1 hj).1
  by_cases hi:i<l.length
  ·rw [List.getElem?_append_left hi] at he;rw [h1.len i e he] at hjl;rw [e1 _ (zVr hi hjl)];exact h1.den i j e d he hj
  ·rw [List.getElem?_append_right (by omega)] at he;rw [h2.len _ e he] at hjl;obtain ⟨m,rfl⟩:∃ m,i=l.length+m:=⟨i-l.length,by omega⟩;simp only [Nat.add_sub_cancel_left] at he;have hm:=(List.getElem?_eq_some_iff.1 he).1;rw [Nat.add_mul,Nat.add_assoc,e2 _ (zVr hm hjl)];exact h2.den m j e d he hj
theorem z5k (newLen:Nat):∀ (r c:Nat),c<=newLen->Builtin.growBy newLen r c<=2*newLen+192
 |0,c,h=>by simp [Builtin.growBy];omega
 |r+1,c,h=>by
  simp only [Builtin.growBy]
  split
  ·omega
  ·by_cases h2:c+(c+768)/4<=newLen
   ·exact z5k newLen r _ h2
   ·have hst:∀ (r c:Nat),newLen<=c->Builtin.growBy newLen r c=c:=by
     intro r c hc
     cases r with
     |zero=>rfl
     |succ r=>simp [Builtin.growBy,hc]
    rw [hst _ _ (by omega)];omega
theorem zZn {need old:Nat} (h:old<need):Builtin.nextslicecap need old<=2*need+192:=by
 unfold Builtin.nextslicecap
 split
 ·omega
 ·split
  ·omega
  ·exact z5k _ _ _ (by omega)
section
variable {P:Program} {T:Tab} (hT:zFo P T)
include hT
theorem zNr {t t2 e e2 ty:TypeId} (hk:(T t).k=.slice e) (hk2:(T t2).k=.slice e2) {w w':World} {base:Option Addr} {sLen sCap n c:Nat} {a:Option Addr} {vs:Array Value}
  (hn:sLen+n<=sCap) (hf:(Builtin.firstCells (T e).size n (.slice a n c)).run P w=.ok vs w)
  (hst:match base with|none=>w'=w|some b=>(storeCells (b.add (sLen*(T e).size)) vs.toList).run P w=.ok () w'):
  (Builtin.append_ #[t,t2] ty #[.slice base sLen sCap,.slice a n c]).run P w=.ok (.slice base (sLen+n) sCap) w':=by
 obtain ⟨hu,hke⟩:=zBi hT hk;obtain ⟨hu2,_⟩:=zBi hT hk2;have e1:(#[t,t2]:Array TypeId)[1]?=some t2:=rfl
 cases base with
 |none=>
  subst hst;simp [Builtin.append_,run_underlying hu,run_underlying hu2,zBd hT,hke,Builtin.lenOf,hn,hf]
 |some b=>
  simp [Builtin.append_,run_underlying hu,run_underlying hu2,zBd hT,hke,Builtin.lenOf,hn,hf,hst]
theorem zLb {t t2 e e2 ty:TypeId} (hk:(T t).k=.slice e) (hk2:(T t2).k=.slice e2) {w:World} {base:Option Addr} {sLen sCap n c:Nat} {a:Option Addr} {vs old:Array Value}
  (hn:sCap<sLen+n) (hroom:(sLen+n)*(T e).bytes<=35184372088832) (hroom1:sLen+n<=35184372088832)
  (hf:∀ w':World,(∀ x,(w.cell? x).isSome->w'.cell? x=w.cell? x)->(Builtin.firstCells (T e).size n (.slice a n c)).run P w'=.ok vs w')
  (ho:∀ w':World,(∀ x,(w.cell? x).isSome->w'.cell? x=w.cell? x)->(Builtin.firstCells (T e).size sLen (.slice base sLen sCap)).run P w'=.ok old w'):
  ∃ (newCap:Nat) (z:Value),sLen+n<=newCap/\z.cells.size=(T e).size/\ (Builtin.append_ #[t,t2] ty #[.slice base sLen sCap,.slice a n c]).run P w=
   .ok (.slice (some ⟨w.heap.size,0,none⟩) (sLen+n) newCap) (w.drew.alloc (.cells (old++vs++Builtin.zeroCells z.cells (newCap-(sLen+n))) e)):=by
 obtain ⟨hu,hke⟩:=zBi hT hk;obtain ⟨hu2,_⟩:=zBi hT hk2;obtain ⟨_,ie,_,hie,_,hs,hb,⟨z,hz,hzc⟩,_,hbm,hzl,_⟩:=(zEe hT hke).desc
 have hzs:z.cells.size=(T e).size:=by
  obtain ⟨z1,_⟩:=zEv hzc
  rw [<-hzl,<-z1];simp
 have h1:¬(sLen+n<=sCap):=by omega
 have hcap:=zZn hn
 have h2:¬(Builtin.nextslicecap (sLen+n) sCap*ie.bytes>2^48):=by
  rw [hb];have hm:Builtin.nextslicecap (sLen+n) sCap*(T e).bytes<= (2*(sLen+n)+192)*(T e).bytes:=Nat.mul_le_mul_right _ hcap
  have:(2*(sLen+n)+192)*(T e).bytes=2*((sLen+n)*(T e).bytes)+192*(T e).bytes:=by rw [Nat.add_mul,Nat.mul_assoc]
  have h48:(2:Nat)^48=281474976710656:=by decide
  rw [h48];omega
 have h3:¬(((sLen+n:Nat):Int)>IntKind.i64.max):=by
  have:IntKind.i64.max=9223372036854775807:=by decide
  rw [this];omega
 have hd:∀ x,(w.cell? x).isSome->w.drew.cell? x=w.cell? x:=fun x _=>rfl
 refine ⟨sLen+n+w.tape w.drawn (.appendCap (sLen+n) sCap e)%(2^63-(sLen+n)),z,by omega,hzs,?_⟩;have hf':=hf w.drew hd;have ho':=ho w.drew hd
 have hch:(choose (.appendCap (sLen+n) sCap e)).run P w=.ok (sLen+n+w.tape w.drawn (.appendCap (sLen+n) sCap e)%(2^63-(sLen+n))) w.drew:=by
  simp [run_choose,Question.forced,Question.cut]
 have h3':¬(9223372036854775807<(sLen:Int)+(n:Int) /\ie.bytes=0):=by
  rintro ⟨h,_⟩;omega
 have hzr:(zeroValue e).run P w.drew=.ok z w.drew:=by simp [zeroValue,typeInfo,hie,hz]
 simp [Builtin.append_,run_underlying hu,run_underlying hu2,zBd hT,hke,Builtin.lenOf,h1,typeInfo,hie,h3',h2,Question.forced,Question.cut,ho',hf',hzr,newRow]
end
section
variable {P:Program} {T:Tab} (hT:zFo P T)
include hT
theorem zZb {own:Nat->Prop} {M:Mem} {ι:Inj} {hp:Nat->Option Blk} {w:World} (ho:∀ c,w.heap.size<=c->own c) (ha:zBj M w) (hh:HRel own M ι hp w) {x:Nat} {l r:List (List D)} {sz:Nat} {old vs rest:Array Value} {Ty:TypeId} {cap:Nat}
  (h1:zGv M old l sz) (s1:old.size=l.length*sz) (h2:zGv M vs r sz) (s2:vs.size=r.length*sz) (hcap:l.length+r.length<=cap) (s3:rest.size=(cap-(l.length+r.length))*sz):
  Post own M ι hp w ⟨.own x,[(x,.row (l++r) sz false)],some x⟩ (.slice (some ⟨w.heap.size,0,none⟩) (l.length+r.length) cap) (w.drew.alloc (.cells (old++vs++rest) Ty)):=by
 have hrow:zGv M (old++vs++rest) (l++r) sz:=by
  refine zSf h1 h2 (fun k hk=>?_) fun k hk=>?_
  ·rw [Array.getElem?_append_left (by simp;omega),Array.getElem?_append_left (by omega)]
  ·rw [Array.getElem?_append_left (by simp;omega),Array.getElem?_append_right (by omega)]
   congr 1;omega
 have hsize:(old++vs++rest).size=cap*sz:=by
  simp only [Array.size_append,s1,s2,s3,<-Nat.add_mul]
  congr 1;omega
 have hha:HRel own M ι hp w.drew:=hh.keep (.refl M) fun b' L' hL'=>⟨rfl,hh.closed hL'⟩
 refine zUa (w:=w) (w0:=w.drew) ho (.refl M) (.refl _ _) ha hha rfl rfl rfl rfl (e:=⟨.own x,[(x,.row (l++r) sz false)],some x⟩) (d:=x) (B:=.row (l++r) sz false) (sz:=sz) (len:=l.length+r.length) rfl rfl ?_ ?_
 ·refine ⟨_,Ty,zFe w.drew _,rfl,rfl,by simp,?_,hrow,(by intro e;cases e),fun _ o=>zOm ha o⟩;rw [hsize];simp only [List.length_append];exact Nat.mul_le_mul_right _ hcap
 ·exact .own x ⟨w.heap.size,sz,(old++vs++rest).size,l.length+r.length⟩ cap (upd_same _ _ _) hcap (by rw [hsize];exact Nat.le_refl _)
theorem zNi {t t2 e e2 ty:TypeId} (hk:(T t).k=.slice e) (hk2:(T t2).k=.slice e2) {own:Nat->Prop} {M:Mem} {ι:Inj} {hp:Nat->Option Blk} {w:World} (ho:∀ c,w.heap.size<=c->own c) (ha:zBj M w) (hh:HRel own M ι hp w)
  {x:Nat} {base:Option Addr} {r:List (List D)} {a:Option Addr} {c:Nat} {vs:Array Value} (hs:z0f P M w (.slice a r.length c) r (T e).size vs) (r1:r.length*(T e).bytes<=35184372088832) (r2:r.length<=35184372088832):
  ∃ v w',(Builtin.append_ #[t,t2] ty #[.slice base 0 0,.slice a r.length c]).run P w=.ok v w'/\Post own M ι hp w ⟨.own x,[(x,.row r (T e).size false)],some x⟩ v w':=by
 by_cases hr:r=[]
 ·subst hr
  have hvs:vs=#[]:=by
   have:=hs.size
   simpa using this
  subst hvs;refine ⟨.slice base 0 0,w,?_,M,upd ι x (some none),.refl _ _,.refl M,ha,.refl _ _,hh.virtual x _ _,fun b hb=>zAl _ _ fun e=>zTg hb e,.ownE x base (upd_same _ _ _)⟩
  have:=zNr hT (ty:=ty) hk hk2 (w:=w) (w':=w) (base:=base) (sLen:=0) (sCap:=0) (n:=0) (c:=c) (a:=a) (vs:=#[]) (Nat.le_refl _) (hs.run w fun _ _=>rfl) (by
   cases base with
   |none=>rfl
   |some b=>simp [storeCells])
  simpa using this
 ·have hpos:0<r.length:=List.length_pos_iff.2 hr
  have hold:∀ w':World,(∀ x,(w.cell? x).isSome->w'.cell? x=w.cell? x)->(Builtin.firstCells (T e).size 0 (.slice base 0 0)).run P w'=.ok #[] w':=fun w' hw'=>
   (zGm (P:=P) (M:=M) (w:=w) (sz:=(T e).size) base 0).run w' hw'
  obtain ⟨newCap,z,g1,g2,g3⟩:=zLb hT (ty:=ty) hk hk2 (w:=w) (base:=base) (sLen:=0) (sCap:=0) (n:=r.length) (c:=c) (a:=a) (by omega) (by simpa using r1) (by omega) hs.run hold;refine ⟨_,_,g3,?_⟩;have:=zZb hT (x:=x) (Ty:=e) (l:=[]) (r:=r) (sz:=(T e).size) (old:=#[]) (vs:=vs) (rest:=Builtin.zeroCells z.cells (newCap-(0+r.length))) (cap:=newCap) ho ha hh
   ⟨fun i e h=>by simp at h,fun i j e d h=>by simp at h⟩ (by simp) hs.row hs.size (by simpa using g1) (by simp [Builtin.zeroCells,g2])
  simpa using this
theorem zXx {t t2 e e2 ty:TypeId} (hk:(T t).k=.slice e) (hk2:(T t2).k=.slice e2) {own:Nat->Prop} {M:Mem} {ι:Inj} {hp:Nat->Option Blk} {w:World} (ho:∀ c,w.heap.size<=c->own c) (ha:zBj M w) (hh:HRel own M ι hp w)
  {x:Nat} {l r:List (List D)} (hb:hp x=some (.row l (T e).size false)) {s:Value} (hd:DenA M ι (.own x) s) {a:Option Addr} {c:Nat} {vs:Array Value} (hs:z0f P M w (.slice a r.length c) r (T e).size vs) (hone:∀ v∈vs.toList,v.oneCell'=true)
  (r1:(l.length+r.length)*(T e).bytes<=35184372088832) (r2:l.length+r.length<=35184372088832):
  ∃ v w',(Builtin.append_ #[t,t2] ty #[s,.slice a r.length c]).run P w=.ok v w'/\Post own M ι hp w ⟨.own x,[(x,.row (l++r) (T e).size false)],some x⟩ v w':=by
 cases hd with
 |ownL _ _ hL=>rw [(hh.dom x).2 hL] at hb;cases hb
 |ownE _ a0 hL=>
  obtain ⟨sz2,fr2,e0⟩:=hh.virt x hL
  rw [hb] at e0;cases e0
  exact zNi hT hk hk2 ho ha hh hs (by simpa using r1) (by simpa using r2)
 |own _ L cap hL hn hc=>
  obtain ⟨hown1,cs,Ty,hheap,hsz,q1,q2,q3,q4,q5⟩:=hh.at_ x _ L hb hL;have hcl:=hh.closed hL _ hb rfl;rw [<-q1] at hc
  by_cases hfit:l.length+r.length<=cap
  ·have hbnd:l.length*(T e).size+vs.toList.length<=cs.size:=by
    have:vs.toList.length=r.length*(T e).size:=by simpa using hs.size
    rw [this,<-Nat.add_mul,hsz];exact Nat.le_trans (Nat.mul_le_mul_right _ hfit) hc
   obtain ⟨cs',g1,g2,g3,g4,g5,g6,g7⟩:=zKo (P:=P) (own:=own) ha hown1 hcl hheap vs.toList (l.length*(T e).size) hbnd hone
   have hvl:vs.toList.length=r.length*(T e).size:=by simpa using hs.size
   refine ⟨.slice (some ⟨L.blk,0,none⟩) (l.length+r.length) cap,w.setRow L.blk cs',?_,M,upd ι x (some (some ⟨L.blk,(T e).size,cs'.size,l.length+r.length⟩)),g3,.refl M,g2,.refl _ _,?_,fun b hb=>zAl _ _ fun e=>zTg hb e,
    .own x ⟨L.blk,(T e).size,cs'.size,l.length+r.length⟩ cap (upd_same _ _ _) hfit (by show cap*(T e).size<=cs'.size;rw [g5,hsz];exact hc)⟩
   ·rw [<-q2]
    exact zNr hT (ty:=ty) hk hk2 (w:=w) (w':=w.setRow L.blk cs') (base:=some ⟨L.blk,0,none⟩) (sLen:=l.length) (sCap:=cap) (n:=r.length) (c:=c) (a:=a) (vs:=vs) hfit (hs.run w fun _ _=>rfl) (by
     show (storeCells ((⟨L.blk,0,none⟩:Addr).add (l.length*(T e).size)) vs.toList).run P w=.ok () (w.setRow L.blk cs')
     rw [zDk,Nat.zero_add];exact g1)
   ·refine hh.new x _ ⟨L.blk,(T e).size,cs'.size,l.length+r.length⟩ (.refl M) hown1 ?_ fun b' L' hne hL'=>⟨fun e=>hne (hh.inj b' x L' L hL' hL e),g7 _ fun e=>hne (hh.inj b' x L' L hL' hL e),hh.closed hL'⟩
    refine ⟨cs',Ty,g4,rfl,rfl,by simp,?_,?_,(by intro e;cases e),fun _=>hcl⟩
    ·simp only [List.length_append];show _<=cs'.size;rw [g5,hsz];exact Nat.le_trans (Nat.mul_le_mul_right _ hfit) hc
    ·refine zSf q4 hs.row (fun k hk=>?_) fun k hk=>?_
     ·rw [g6,if_neg (by omega)]
     ·rw [g6,hvl,if_pos ⟨by omega,by omega⟩,Nat.add_sub_cancel_left];simp
  ·have hsrc:=zJs (P:=P) (M:=M) (w:=w) L.blk 0 cap (fun i j=>(cs[i*(T e).size+j]?).getD undef) q4.len (fun i j e d he hj=>by
    obtain ⟨v,e1,e2⟩:=q4.den i j e d he hj
    rw [cell_of_heap hheap,Nat.zero_add,e1];rfl) (fun i j e d he hj=>by
    obtain ⟨v,e1,e2⟩:=q4.den i j e d he hj
    simpa [e1] using e2)
   obtain ⟨old,hold⟩:=hsrc;obtain ⟨newCap,z,g1,g2,g3⟩:=zLb hT (ty:=ty) hk hk2 (w:=w) (base:=some ⟨L.blk,0,none⟩) (sLen:=l.length) (sCap:=cap) (n:=r.length) (c:=c) (a:=a) (by omega) r1 r2 hs.run hold.run;rw [<-q2];refine ⟨_,_,g3,?_⟩;exact zZb hT ho ha hh hold.row hold.size hs.row hs.size g1 (by simp [Builtin.zeroCells,g2])
end
def BoxLe (hp hp':Nat->Option Blk):Prop:=∀ b,hp' b=hp b\/ ∃ c fr,hp b=some (.box c fr) /\hp' b=some (.box c true)
theorem zUp {own:Nat->Prop} {ι:Inj} {w:World} {hp:Nat->Option Blk}:∀ {caps:List AV} {cs:List D} {ws:List (Nat×Blk)},opG.capsF hp caps=some (cs,ws)->∀ (M:Mem) (hp1:Nat->Option Blk),BoxLe hp hp1->zBj M w->HRel own M ι hp1 w->
  ∃ M',Sub M M'/\zBj M' w/\zCq own M M'/\HRel own M' ι (zBa hp1 ws) w/\cs.length=caps.length/\ ∀ (i:Nat) (x:AV) (d:D) (v:Value),caps[i]?=some x->cs[i]?=some d->DenA M ι x v->DenD M' d v
 | [],cs,ws,h,M,hp1,hl,ha,hh=>by
  simp only [opG.capsF,Option.some.injEq,Prod.mk.injEq] at h;obtain ⟨rfl,rfl⟩:=h;exact ⟨M,.refl M,ha,.refl _ _,hh,rfl,fun i x d v h1=>by simp at h1⟩
 |x::r,cs,ws,h,M,hp1,hl,ha,hh=>by
  have plain:∀ d0 cs0 ws0,conv.pure1 x=some d0->opG.capsF hp r=some (cs0,ws0)->cs=d0::cs0->ws=ws0->
    ∃ M',Sub M M'/\zBj M' w/\zCq own M M'/\HRel own M' ι (zBa hp1 ws) w/\cs.length=(x::r).length/\ ∀ (i:Nat) (y:AV) (d:D) (v:Value),(x::r)[i]?=some y->cs[i]?=some d->DenA M ι y v->DenD M' d v:=by
   intro d0 cs0 ws0 h1 h2 e1 e2;subst e1 e2;obtain ⟨M',s1,a1,n1,g1,l1,d1⟩:=zUp h2 M hp1 hl ha hh;refine ⟨M',s1,a1,n1,g1,by simp [l1],fun i y d v hy hd hv=>?_⟩
   cases i with
   |zero=>
    simp only [List.getElem?_cons_zero,Option.some.injEq] at hy hd;subst hy hd;exact (den_pure1 h1 hv).mono s1
   |succ i=>exact d1 i y d v (by simpa using hy) (by simpa using hd) hv
  cases x with
  |ptr b i j=>
   simp only [opG.capsF] at h
   cases hb:hp b with
   |none=>simp [hb] at h
   |some B=>
    cases B with
    |row l sz fr=>simp [hb] at h
    |box c fr=>
     simp only [hb] at h
     cases hi:Nat.beq i 0 with
     |false=>simp [hi] at h
     |true=>
      have hi0:=Nat.eq_of_beq_eq_true hi;subst hi0
      cases hp2:conv.pures c with
      |none=>simp [hp2] at h
      |some ds=>
       cases hr:opG.capsF hp r with
       |none=>simp [hp2,hr] at h
       |some q=>
        obtain ⟨cs0,ws0⟩:=q;simp only [hi,hp2,hr,cond_true,Option.some.injEq,Prod.mk.injEq] at h;obtain ⟨rfl,rfl⟩:=h
        have hb1:∃ fr',hp1 b=some (.box c fr'):=by
         rcases hl b with e|⟨c',fr',e1,e2⟩
         ·exact ⟨fr,e.trans hb⟩
         ·rw [hb] at e1;cases e1;exact ⟨true,e2⟩
        obtain ⟨fr',hb1⟩:=hb1;obtain ⟨M1,s1,a1,n1,g1⟩:=yCv ha hh hb1 (B':=.box c true) (.inr ⟨_,_,rfl,rfl⟩)
        have hl1:BoxLe hp (upd hp1 b (some (.box c true))):=by
         intro b'
         by_cases e:b'=b
         ·subst e;rw [upd_same];exact .inr ⟨c,fr,hb,rfl⟩
         ·rw [zAl _ _ e];exact hl b'
        obtain ⟨M',s2,a2,n2,g2,l2,d2⟩:=zUp hr M1 _ hl1 a1 g1;refine ⟨M',s1.trans s2,a2,n1.trans n2,g2,by simp [l2],fun i y d v hy hd hv=>?_⟩
        cases i with
        |succ i=>exact d2 i y d v (by simpa using hy) (by simpa using hd) (hv.mono s1)
        |zero=>
         simp only [List.getElem?_cons_zero,Option.some.injEq] at hy hd;subst hy hd;refine DenD.mono s2 (yCd g1 (x:=.ptr b 0 j) ?_ (hv.mono s1));simp [conv.cap1,upd_same,hp2]
  |d x0=>
   simp only [opG.capsF] at h
   cases hr:opG.capsF hp r with
   |none=>simp [conv.pure1,hr] at h
   |some q=>
    simp only [conv.pure1,hr,Option.some.injEq,Prod.mk.injEq] at h;exact plain x0 q.1 q.2 rfl hr h.1.symm h.2.symm
  |tt=>
   simp only [opG.capsF] at h
   cases hr:opG.capsF hp r with
   |none=>simp [conv.pure1,hr] at h
   |some q=>
    simp only [conv.pure1,hr,Option.some.injEq,Prod.mk.injEq] at h;exact plain _ q.1 q.2 rfl hr h.1.symm h.2.symm
  |ff=>
   simp only [opG.capsF] at h
   cases hr:opG.capsF hp r with
   |none=>simp [conv.pure1,hr] at h
   |some q=>
    simp only [conv.pure1,hr,Option.some.injEq,Prod.mk.injEq] at h;exact plain _ q.1 q.2 rfl hr h.1.symm h.2.symm
  |nil=>
   simp only [opG.capsF] at h
   cases hr:opG.capsF hp r with
   |none=>simp [conv.pure1,hr] at h
   |some q=>
    simp only [conv.pure1,hr,Option.some.injEq,Prod.mk.injEq] at h;exact plain _ q.1 q.2 rfl hr h.1.symm h.2.symm
  |agg c=>simp [opG.capsF,conv.pure1] at h
  |tup c=>simp [opG.capsF,conv.pure1] at h
  |own b=>simp [opG.capsF,conv.pure1] at h
  |win b lo n c=>simp [opG.capsF,conv.pure1] at h
  |fn f c=>simp [opG.capsF,conv.pure1] at h
  |dead=>simp [opG.capsF,conv.pure1] at h
theorem z8z {ρ:Operand->AV}:∀ (l:List Operand) (i:Nat),(evs ρ l)[i]?=(l[i]?).map ρ
 | [],i=>by simp [evs]
 |x::r,0=>by simp [evs]
 |x::r,i+1=>by simpa [evs] using z8z r i
theorem z9a {ρ:Operand->AV}:∀ (l:List Operand),(evs ρ l).length=l.length
 | []=>rfl
 |x::r=>by simp [evs,z9a r]
section
variable {P:Program} {T:Tab} (hT:zFo P T)
theorem z6a {o:Oper} {f:FuncId} {first cap:Array Operand} {ρ:Operand->AV} {hp:Nat->Option Blk} {K:Eff->Prop} (ho:o.op=.makeFunc (.func f) first cap)
  (h:bif Nat.beq first.size 0 then (match opG.capsF hp (evs ρ cap.toList) with
   |some (cs,ws)=>K ⟨.d (.fn f cs),ws,none⟩
   |none=>False) else False):∃ e,K e/\zCr P o ρ hp e:=by
 obtain ⟨hf,h⟩:=bif_one h
 have hf0:first=#[]:=by
  have:=Nat.eq_of_beq_eq_true hf
  simpa using this
 cases hc:opG.capsF hp (evs ρ cap.toList) with
 |none=>simp [hc] at h
 |some q=>
  obtain ⟨cs,ws⟩:=q;simp only [hc] at h;refine ⟨_,h,zCu fun own M ι a w hown ha hh hρ=>?_⟩;obtain ⟨M',s1,a1,n1,g1,l1,d1⟩:=zUp hc M hp (fun _=>.inl rfl) ha hh;refine ⟨.func (.func f) #[] (cap.map a.eval),w,by simp [execOp,ho,hf0,Instr.makeFunc],M',ι,.refl _ _,s1,a1,n1,g1,fun _ _=>rfl,.d _ _ (.fn f cs _ ?_ fun i d v hd hv=>?_)⟩
  ·rw [l1,z9a];simp
  ·simp only [Array.getElem?_map] at hv
   cases hx:cap[i]? with
   |none=>simp [hx] at hv
   |some x=>
    simp only [hx,Option.map_some,Option.some.injEq] at hv;subst hv;exact d1 i (ρ x) d _ (by rw [z8z];simp [hx]) hd (hρ x)
theorem z4z {lo hi:Option Int} (h0:0<=lo.getD 0) (h1:lo.getD 0<=hi.getD ((0:Nat):Int)) (h2:hi.getD ((0:Nat):Int) <= ((0:Nat):Int)):(hi.getD ((0:Nat):Int)).toNat=0/\ (lo.getD 0).toNat=0:=by
 have a1:lo.getD 0<=hi.getD (0:Int):=h1;have a2:hi.getD (0:Int) <= (0:Int):=h2;show (hi.getD (0:Int)).toNat=0/\ (lo.getD 0).toNat=0
 clear h1 h2
 omega
theorem zOf {ρ:Operand->AV} {o:Option Operand} {K:Option Int->Prop} (h:zMe ρ o K):
  ∃ b,K b/\ ((o=none/\b=none) \/ ∃ x k n,o=some x/\b=some n/\ρ x=.d (.int k n)):=by
 unfold zMe at h
 split at h
 ·exact ⟨none,h,.inl ⟨rfl,rfl⟩⟩
 ·rename_i x
  split at h
  ·rename_i k n hx;exact ⟨some n,h,.inr ⟨x,k,n,rfl,rfl,hx⟩⟩
  ·exact h.elim
theorem zEf {M:Mem} {ι:Inj} {ρ:Operand->AV} {a:Act} (hρ:∀ x,DenA M ι (ρ x) (a.eval x)) {o:Option Operand} {b:Option Int} (h:(o=none/\b=none) \/ ∃ x k n,o=some x/\b=some n/\ρ x=.d (.int k n)):
  ∃ k,o.map a.eval=b.map (.int k):=by
 rcases h with ⟨rfl,rfl⟩|⟨x,k,n,rfl,rfl,hx⟩
 ·exact ⟨.i64,rfl⟩
 ·exact ⟨k,by simp [den_int (hx▸hρ x)]⟩
include hT in
theorem zJq {t el:TypeId} (hk:(T t).k=.slice el) {w:World} {base:Option Addr} {len cap:Nat} {lo hi:Option Int} {k1 k2:IntKind} (h0:0<=lo.getD 0) (h1:lo.getD 0<=hi.getD len) (h2:hi.getD len<=len) (hc:len<=cap):
  (Instr.sliceAt t (.slice base len cap) (lo.map (.int k1)) (hi.map (.int k2)) none).run P w=
   .ok (.slice (if cap=(lo.getD 0).toNat then base else base.map (·.add ((lo.getD 0).toNat*(T el).size))) ((hi.getD len).toNat-(lo.getD 0).toNat) (cap-(lo.getD 0).toNat)) w:=by
 obtain ⟨hu,hke⟩:=zBi hT hk;simp [Instr.sliceAt,Instr.slice,run_underlying hu,zKr (P:=P) w h0 h1 h2 hc,zBd hT w hke]
theorem z5y {M:Mem} {r:List (List D)} {b off cap sz:Nat} {val:Nat->Nat->Value} (hl:r.length<=cap) (hs:∀ (i:Nat) (e:List D),r[i]?=some e->e.length=sz)
  (hm:∀ (i j:Nat) (e:List D) (d:D),r[i]?=some e->e[j]?=some d->M b (off+i*sz+j)=some (val i j)) (hd:∀ (i j:Nat) (e:List D) (d:D),r[i]?=some e->e[j]?=some d->DenD M d (val i j))
  (l h:Nat) (h1:l<=h) (h2:h<=r.length):
  DenD M (.lst ((r.take h).drop l)) (.slice (if cap=l then some ⟨b,off,none⟩ else some ⟨b,off+l*sz,none⟩) (h-l) (cap-l)):=by
 have hlen:((r.take h).drop l).length=h-l:=by simp;omega
 by_cases he:h-l=0
 ·have:(r.take h).drop l=[]:=List.eq_nil_of_length_eq_zero (by omega);rw [this,he];exact .emp _ _
 ·rw [if_neg (by omega),<-hlen]
  have hget:∀ (i:Nat) (e:List D),((r.take h).drop l)[i]?=some e->r[l+i]?=some e:=by
   intro i e hi;rw [List.getElem?_drop,List.getElem?_take] at hi
   split at hi
   ·exact hi
   ·cases hi
  refine .lst _ b (off+l*sz) (cap-l) sz (fun i j=>val (l+i) j) (by omega) (fun i e hi=>hs _ e (hget i e hi)) (fun i j e d hi hj=>?_) fun i j e d hi hj=>hd _ j e d (hget i e hi) hj
  have:=hm (l+i) j e d (hget i e hi) hj;rw [Nat.add_mul] at this;rw [show off+l*sz+i*sz+j=off+(l*sz+i*sz)+j by omega];exact this
include hT in
theorem yHu {t el:TypeId} (hk:(T t).k=.slice el) {w:World} {a:Addr} {len cap:Nat} {lo hi:Option Int} {k1 k2:IntKind} (h0:0<=lo.getD 0) (h1:lo.getD 0<=hi.getD len) (h2:hi.getD len<=cap) (hc:len<=cap):
  (Instr.sliceAt t (.slice (some a) len cap) (lo.map (.int k1)) (hi.map (.int k2)) none).run P w=
   .ok (.slice (if cap=(lo.getD 0).toNat then some a else some (a.add ((lo.getD 0).toNat*(T el).size))) ((hi.getD len).toNat-(lo.getD 0).toNat) (cap-(lo.getD 0).toNat)) w:=by
 obtain ⟨hu,hke⟩:=zBi hT hk
 have hb:(Instr.sliceBounds true len cap (lo.map (.int k1)) (hi.map (.int k2)) none).run P w=.ok ((lo.getD 0).toNat,(hi.getD len).toNat,cap) w:=by
  cases lo with
  |none=>
   cases hi with
   |none=>simp [Instr.sliceBounds]
   |some h=>
    simp only [Option.getD_some,Option.getD_none] at h0 h1 h2;simp [Instr.sliceBounds,zBp (P:=P) w (x:=h) (y:=cap) (k:=k2) h1 (by omega)]
  |some l=>
   cases hi with
   |none=>
    simp only [Option.getD_some,Option.getD_none] at h0 h1 h2;simp [Instr.sliceBounds,zBp (P:=P) w (x:=l) (y:=len) (k:=k1) h0 (by omega)]
   |some h=>
    simp only [Option.getD_some] at h0 h1 h2;simp [Instr.sliceBounds,zBp (P:=P) w (x:=h) (y:=cap) (k:=k2) (by omega) (by omega),zBp (P:=P) w (x:=l) (y:=h.toNat) (k:=k1) h0 (by omega)]
 simp [Instr.sliceAt,Instr.slice,run_underlying hu,hb,zBd hT w hke]
include hT in
theorem yHv {t el:TypeId} (hk:(T t).k=.slice el) {w:World} {a:Addr} {len cap:Nat} {lo hi:Option Int} {m:Int} {k1 k2 k3:IntKind} (hs:hi≠none) (hm0:0<=m) (hm:m<=cap) (h0:0<=lo.getD 0) (h1:lo.getD 0<=hi.getD len) (h2:hi.getD len<=m.toNat):
  (Instr.sliceAt t (.slice (some a) len cap) (lo.map (.int k1)) (hi.map (.int k2)) (some (.int k3 m))).run P w=
   .ok (.slice (if m.toNat=(lo.getD 0).toNat then some a else some (a.add ((lo.getD 0).toNat*(T el).size))) ((hi.getD len).toNat-(lo.getD 0).toNat) (m.toNat-(lo.getD 0).toNat)) w:=by
 obtain ⟨hu,hke⟩:=zBi hT hk
 have hb:(Instr.sliceBounds true len cap (lo.map (.int k1)) (hi.map (.int k2)) (some (.int k3 m))).run P w=.ok ((lo.getD 0).toNat,(hi.getD len).toNat,m.toNat) w:=by
  cases hi with
  |none=>exact absurd rfl hs
  |some h=>
   cases lo with
   |none=>
    simp only [Option.getD_some,Option.getD_none] at h0 h1 h2;simp [Instr.sliceBounds,zBp (P:=P) w (x:=m) (y:=cap) (k:=k3) hm0 hm,zBp (P:=P) w (x:=h) (y:=m.toNat) (k:=k2) h1 (by omega)]
   |some l=>
    simp only [Option.getD_some] at h0 h1 h2;simp [Instr.sliceBounds,zBp (P:=P) w (x:=m) (y:=cap) (k:=k3) hm0 hm,zBp (P:=P) w (x:=h) (y:=m.toNat) (k:=k2) (by omega) (by omega),zBp (P:=P) w (x:=l) (y:=h.toNat) (k:=k1) h0 (by omega)]
 simp [Instr.sliceAt,Instr.slice,run_underlying hu,hb,zBd hT w hke]
theorem yOw {M:Mem} {ι:Inj} {b lo n k base:Nat} {L:Loc} (h:ι b=some (some L)) (hk:(lo+k)*L.sz<=L.size) (hb:base=lo*L.sz\/ (k=0/\0<lo)) {l h' kk:Nat} (h1:l<=h') (h2:h'<=kk) (h3:kk<=k) {c:Option Nat} (hc:∀ x,c=some x->kk-l=x):
  DenA M ι (.win b (lo+l) (h'-l) c) (.slice (if kk=l then some ⟨L.blk,base,none⟩ else some ((⟨L.blk,base,none⟩:Addr).add (l*L.sz))) (h'-l) (kk-l)):=by
 have hsz:(lo+l+(kk-l))*L.sz<=L.size:=Nat.le_trans (Nat.mul_le_mul_right _ (by omega)) hk
 by_cases e:kk=l
 ·rw [if_pos e];refine .win b _ _ c L _ base h (by omega) hc hsz ?_
  rcases Nat.eq_zero_or_pos l with z|z
  ·subst z;subst e
   rcases hb with hb|hb
   ·exact .inl (by simpa using hb)
   ·exact .inr ⟨rfl,by omega⟩
  ·exact .inr ⟨by omega,by omega⟩
 ·rw [if_neg e,zDk];refine .win b _ _ c L _ _ h (by omega) hc hsz (.inl ?_)
  rcases hb with hb|hb
  ·rw [hb,Nat.add_mul]
  ·omega
include hT in
theorem yOa {o:Oper} {t:TypeId} {x:Operand} {lo hi mx:Option Operand} {ρ:Operand->AV} {hp:Nat->Option Blk} {K:Eff->Prop} (ho:o.op=.slice t x lo hi mx)
  (h:zMe ρ lo fun lo=>zMe ρ hi fun hi=>zMe ρ mx fun mx=>yNz T t (ρ x) hp lo hi mx K):∃ e,K e/\zCr P o ρ hp e:=by
 obtain ⟨lo',q1,hlo⟩:=zOf h
 clear h
 obtain ⟨hi',q2,hhi⟩:=zOf q1
 clear q1
 obtain ⟨mx',h,hmx⟩:=zOf q2
 clear q2
 have hex:∀ a:Act,(∀ w:World,(execOp a.eval o).run P w=((Instr.sliceAt t (a.eval x) (lo.map a.eval) (hi.map a.eval) (mx.map a.eval)).run P w).andThen fun v w=>.ok (.value v) w):=by
  intro a w;simp [execOp,ho]
 unfold yNz at h
 split at h
 ·have hm0:mx=none:=by
   rcases hmx with ⟨h1,_⟩|⟨_,_,_,_,h2,_⟩
   ·exact h1
   ·cases h2
  subst hm0
  split at h
  ·rename_i s hx
   split at h
   ·rename_i hk;have hu:=zOh hT hk;obtain ⟨h0,h1,h2,h⟩:=zNa h;refine ⟨_,h,opSem_val fun own M ι a w ha hh hρ=>?_⟩;obtain ⟨k1,e1⟩:=zEf hρ hlo;obtain ⟨k2,e2⟩:=zEf hρ hhi;have ex:=den_str (hx▸hρ x);refine ⟨_,?_,.d _ _ (.str _)⟩;rw [hex,e1,e2,ex];simp [Instr.sliceAt,Instr.slice,run_underlying hu,zKr (P:=P) w h0 h1 h2 (Nat.le_refl _)]
   ·exact h.elim
  ·rename_i r hx
   split at h
   ·rename_i el hk;obtain ⟨hsz,h⟩:=zBh h;obtain ⟨h0,h1,h2,h⟩:=zNa h;refine ⟨_,h,opSem_val fun own M ι a w ha hh hρ=>?_⟩;obtain ⟨k1,e1⟩:=zEf hρ hlo;obtain ⟨k2,e2⟩:=zEf hρ hhi;have hd:=hρ x;rw [hx] at hd;generalize hv:a.eval x=v at hd
    cases hd with
    |d _ _ hd=>
     cases hd with
     |emp a0 c=>
      have hh0:(hi'.getD 0).toNat-(lo'.getD 0).toNat=0:=by simp at h2;omega
      refine ⟨_,by rw [hex,e1,e2,hv,Option.map_none,zJq hT hk (len:=0) h0 h1 h2 (Nat.zero_le _)];rfl,?_⟩
      simp only [List.length_nil] at*
      rw [show ((hi'.getD ((0:Nat):Int)).toNat-(lo'.getD 0).toNat)=0 from hh0]
      have:((([]:List (List D)).take (hi'.getD ((0:Nat):Int)).toNat).drop (lo'.getD 0).toNat)=[]:=by simp
      rw [this];exact .d _ _ (.emp _ _)
     |lst _ b off cap sz val hl hs hm hdd=>
      refine ⟨_,by rw [hex,e1,e2,hv,Option.map_none,zJq hT hk h0 h1 h2 hl];rfl,?_⟩;have hlst:=z5y (M:=M) (b:=b) (off:=off) hl hs hm hdd (lo'.getD 0).toNat (hi'.getD r.length).toNat (by omega) (by omega)
      have hadd:(if cap=(lo'.getD 0).toNat then some (⟨b,off,none⟩:Addr) else (some (⟨b,off,none⟩:Addr)).map (·.add ((lo'.getD 0).toNat*(T el).size)))=(if cap=(lo'.getD 0).toNat then some (⟨b,off,none⟩:Addr) else some ⟨b,off+(lo'.getD 0).toNat*(T el).size,none⟩):=by
       split
       ·rfl
       ·simp [zDk]
      by_cases hr:r=[]
      ·subst hr
       have hh0:(hi'.getD ((([]:List (List D)).length:Nat):Int)).toNat-(lo'.getD 0).toNat=0:=by
         have:=z4z h0 h1 h2;show (hi'.getD ((0:Nat):Int)).toNat-(lo'.getD 0).toNat=0
         rw [this.1];exact Nat.zero_sub _
       rw [hh0]
       have:((([]:List (List D)).take (hi'.getD ((([]:List (List D)).length:Nat):Int)).toNat).drop (lo'.getD 0).toNat)=[]:=by simp
       rw [this];exact .d _ _ (.emp _ _)
      ·obtain ⟨e,he⟩:∃ e,r[0]?=some e:=by
        cases r with
        |nil=>exact absurd rfl hr
        |cons e r=>exact ⟨e,rfl⟩
       have:sz=(T el).size:=(hs 0 e he).symm.trans (hsz e (List.mem_of_getElem? he));subst this;rw [hadd];exact .d _ _ hlst
   ·exact h.elim
  ·rename_i b hx
   split at h
   ·rename_i r sz fr hb
    split at h
    ·rename_i el hk;obtain ⟨hsz,h⟩:=bif_one h;have hsz:=Nat.eq_of_beq_eq_true hsz;obtain ⟨h0,h1,h2,h⟩:=zNa h;refine ⟨_,h,zCu fun own M ι a w hown ha hh hρ=>?_⟩;obtain ⟨k1,e1⟩:=zEf hρ hlo;obtain ⟨k2,e2⟩:=zEf hρ hhi;obtain ⟨M1,s1,a1,n1,g1⟩:=yCv ha hh hb (B':=.row r sz true) (.inl ⟨_,_,_,rfl,rfl⟩);have hd:=hρ x;rw [hx] at hd;have hdd:=z0v g1 (upd_same _ _ _) (hd.mono s1);generalize hv:a.eval x=v at hd hdd
     have hrun:∃ u,(Instr.sliceAt t v (lo'.map (.int k1)) (hi'.map (.int k2)) none).run P w=.ok u w/\DenA M1 ι (.d (.lst ((r.take (hi'.getD r.length).toNat).drop (lo'.getD 0).toNat))) u:=by
      cases hdd with
      |emp a0 c=>
       simp only [List.length_nil] at*
       have hh0:(hi'.getD ((0:Nat):Int)).toNat-(lo'.getD 0).toNat=0:=by rw [(z4z h0 h1 h2).1];exact Nat.zero_sub _
       refine ⟨_,zJq hT hk (len:=0) h0 h1 h2 (Nat.zero_le _),?_⟩;rw [hh0]
       have:((([]:List (List D)).take (hi'.getD ((0:Nat):Int)).toNat).drop (lo'.getD 0).toNat)=[]:=by simp
       rw [this];exact .d _ _ (.emp _ _)
      |lst _ b' off cap sz' val hl hs hm hdd=>
       refine ⟨_,zJq hT hk h0 h1 h2 hl,?_⟩;have hlst:=z5y (M:=M1) (b:=b') (off:=off) hl hs hm hdd (lo'.getD 0).toNat (hi'.getD r.length).toNat (by omega) (by omega)
       have hadd:(if cap=(lo'.getD 0).toNat then some (⟨b',off,none⟩:Addr) else (some (⟨b',off,none⟩:Addr)).map (·.add ((lo'.getD 0).toNat*(T el).size)))=(if cap=(lo'.getD 0).toNat then some (⟨b',off,none⟩:Addr) else some ⟨b',off+(lo'.getD 0).toNat*(T el).size,none⟩):=by
        split
        ·rfl
        ·simp [zDk]
       by_cases hr:r=[]
       ·subst hr
        have hh0:(hi'.getD ((([]:List (List D)).length:Nat):Int)).toNat-(lo'.getD 0).toNat=0:=by
         have:=z4z h0 h1 h2;show (hi'.getD ((0:Nat):Int)).toNat-(lo'.getD 0).toNat=0
         rw [this.1];exact Nat.zero_sub _
        rw [hh0]
        have:((([]:List (List D)).take (hi'.getD ((([]:List (List D)).length:Nat):Int)).toNat).drop (lo'.getD 0).toNat)=[]:=by simp
        rw [this];exact .d _ _ (.emp _ _)
       ·obtain ⟨e,he⟩:∃ e,r[0]?=some e:=by
         cases r with
         |nil=>exact absurd rfl hr
         |cons e r=>exact ⟨e,rfl⟩
        have hlen:e.length=sz:=by
         cases hL:ι b with
         |none=>rw [(hh.dom b).2 hL] at hb;cases hb
         |some oL=>
          cases oL with
          |none=>
           obtain ⟨sz2,fr2,e0⟩:=hh.virt b hL
           rw [hb] at e0;cases e0
           exact absurd rfl hr
          |some L=>
           obtain ⟨_,cs,Ty,_,_,_,_,_,q4,_⟩:=hh.at_ b _ L hb hL;exact q4.len 0 e he
        have:sz'=(T el).size:=(hs 0 e he).symm.trans (hlen.trans hsz);subst this;rw [hadd];exact .d _ _ hlst
     obtain ⟨u,hu1,hu2⟩:=hrun;exact ⟨u,w,by rw [hex,hv,e1,e2,Option.map_none,hu1];rfl,M1,ι,.refl _ _,s1,a1,n1,g1,fun _ _=>rfl,hu2⟩
    ·exact h.elim
   ·exact h.elim
  ·rename_i hx
   split at h
   ·rename_i el hk;obtain ⟨h0,h1,h2,h⟩:=zNa h;refine ⟨_,h,opSem_val fun own M ι a w ha hh hρ=>?_⟩;obtain ⟨k1,e1⟩:=zEf hρ hlo;obtain ⟨k2,e2⟩:=zEf hρ hhi;have hd:=hρ x;rw [hx] at hd;generalize hv:a.eval x=v at hd
    cases hd with
    |nil a0=>
     refine ⟨_,by rw [hex,hv,e1,e2,Option.map_none,zJq hT hk (len:=0) (cap:=0) h0 h1 h2 (Nat.le_refl _)];rfl,?_⟩;have hl0:(lo'.getD 0).toNat=0:=(z4z h0 h1 h2).2;have hh0:(hi'.getD ((0:Nat):Int)).toNat=0:=(z4z h0 h1 h2).1;rw [hl0,hh0];exact .nil _
   ·exact h.elim
  ·rename_i b lo0 n c hx
   split at h
   ·rename_i r sz hb
    split at h
    ·rename_i el hk;obtain ⟨hsz,h⟩:=bif_one h;have hsz:=Nat.eq_of_beq_eq_true hsz;obtain ⟨h0,h1,h2,h⟩:=yFw h;refine ⟨_,h,opSem_val fun own M ι a w ha hh hρ=>?_⟩;obtain ⟨k1,e1⟩:=zEf hρ hlo;obtain ⟨k2,e2⟩:=zEf hρ hhi;have hd:=hρ x;rw [hx] at hd;generalize hv:a.eval x=v at hd
     cases hd with
     |winL _ _ _ _ _ hL=>rw [(hh.dom b).2 hL] at hb;cases hb
     |win _ _ _ _ L k base hL hn hc hkk hbb=>
      obtain ⟨_,cs,Ty,_,_,q1,_⟩:=hh.at_ b _ L hb hL
      have hck:c.getD n<=k:=by
       cases c with
       |none=>exact hn
       |some m=>exact Nat.le_of_eq (hc m rfl).symm
      refine ⟨_,by rw [hex,hv,e1,e2,Option.map_none,yHu hT hk (len:=n) (cap:=k) h0 h1 (by omega) hn];rfl,?_⟩;rw [<-hsz,q1];refine yOw (n:=n) hL hkk hbb (by omega) (by omega) (Nat.le_refl _) ?_;intro x hx
      cases c with
      |none=>cases hx
      |some m=>rw [hc m rfl];simpa [subO] using hx
    ·exact h.elim
   ·exact h.elim
  ·exact h.elim
 ·rename_i m
  split at h
  ·rename_i b lo0 n c hx
   split at h
   ·rename_i r sz hb
    split at h
    ·rename_i el hk;obtain ⟨hsz,h⟩:=bif_one h;have hsz:=Nat.eq_of_beq_eq_true hsz;obtain ⟨⟨hs,hm0,hm⟩,h⟩:=zBh h;obtain ⟨h0,h1,h2,h⟩:=yFw h;refine ⟨_,h,opSem_val fun own M ι a w ha hh hρ=>?_⟩;obtain ⟨k1,e1⟩:=zEf hρ hlo;obtain ⟨k2,e2⟩:=zEf hρ hhi;obtain ⟨k3,e3⟩:=zEf hρ hmx;have hd:=hρ x;rw [hx] at hd;generalize hv:a.eval x=v at hd
     cases hd with
     |winL _ _ _ _ _ hL=>rw [(hh.dom b).2 hL] at hb;cases hb
     |win _ _ _ _ L k base hL hn hc hkk hbb=>
      obtain ⟨_,cs,Ty,_,_,q1,_⟩:=hh.at_ b _ L hb hL
      have hck:c.getD n<=k:=by
       cases c with
       |none=>exact hn
       |some m=>exact Nat.le_of_eq (hc m rfl).symm
      refine ⟨_,by rw [hex,hv,e1,e2,e3,Option.map_some,yHv hT hk (len:=n) (cap:=k) hs hm0 (by omega) h0 h1 h2];rfl,?_⟩;rw [<-hsz,q1];exact yOw (n:=n) hL hkk hbb (by omega) (by omega) (by omega) (fun x hx=>by simpa using hx)
    ·exact h.elim
   ·exact h.elim
  ·split at h
   ·rename_i el hk;have hc:=(zBh h).1;have hK:=(zBh h).2
    clear h
    obtain ⟨rfl,rfl,rfl⟩:=hc;have h:=hK
    clear hK
    obtain ⟨hu,hke⟩:=zBi hT hk
    have mk:∀ (own:Nat->Prop) (M:Mem) (ι:Inj) (a:Act) (w:World),(∀ x,DenA M ι (ρ x) (a.eval x))->∀ a0 n c,n<=c->a.eval x=.slice a0 n c->∃ v,(execOp a.eval o).run P w=.ok (.value v) w/\DenA M ι .nil v:=by
     intro own M ι a w hρ a0 n c hnc hv;obtain ⟨k1,e1⟩:=zEf hρ hlo;obtain ⟨k2,e2⟩:=zEf hρ hhi;obtain ⟨k3,e3⟩:=zEf hρ hmx;refine ⟨.slice (if 0=0 then a0 else a0.map (·.add (0*(T el).size))) (0-0) (0-0),?_,.nil _⟩;rw [hex,hv,e1,e2,e3];simp [Instr.sliceAt,Instr.slice,run_underlying hu,Instr.sliceBounds,Instr.sliceBound,asIntOf,zBd hT w hke]
    split at h
    ·rename_i r hx;refine ⟨_,h,opSem_val fun own M ι a w ha hh hρ=>?_⟩;have hd:=hρ x;rw [hx] at hd;generalize hv:a.eval x=v at hd
     cases hd with
     |d _ _ hd=>
      cases hd with
      |emp a0 c=>exact mk own M ι a w hρ a0 0 c (Nat.zero_le _) hv
      |lst _ b off cap sz val hl hs hm hdd=>exact mk own M ι a w hρ _ _ _ hl hv
    ·rename_i hx;refine ⟨_,h,opSem_val fun own M ι a w ha hh hρ=>?_⟩;have hd:=hρ x;rw [hx] at hd;generalize hv:a.eval x=v at hd
     cases hd with
     |nil a0=>exact mk own M ι a w hρ a0 0 0 (Nat.le_refl _) hv
    ·exact h.elim
   ·exact h.elim
end
theorem yHz {P:Program} {sz:Nat} {v:AV} {hp:Nat->Option Blk} {K:List (List D)->Prop} (h:yOe sz v hp K):
  ∃ l,K l/\ ∀ n,okRows sz (l.take n)=true->∀ (own:Nat->Prop) (M:Mem) (ι:Inj) (w:World) (u:Value),zBj M w->HRel own M ι hp w->DenA M ι v u->
   ∃ a c vs,u=.slice a l.length c/\z0f P M w (.slice a (l.take n).length c) (l.take n) sz vs/\ ∀ v∈vs.toList,v.oneCell'=true:=by
 have htk:∀ (l:List (List D)) (n i:Nat) (e:List D),(l.take n)[i]?=some e->l[i]?=some e:=by
  intro l n i e he;rw [List.getElem?_take] at he
  split at he
  ·exact he
  ·cases he
 unfold yOe at h
 split at h
 ·rename_i l;refine ⟨l,h,fun n hok own M ι w u ha hh hd=>?_⟩
  cases hd with
  |d _ _ hd=>
   cases hd with
   |emp a c=>exact ⟨a,c,#[],rfl,by simpa using zGm a c,fun v hv=>by simp at hv⟩
   |lst _ b off cap sz' val hl hs hm hdd=>
    have hsz:∀ i e,(l.take n)[i]?=some e->sz'=sz:=fun i e he=>(hs i e (htk l n i e he)).symm.trans (zHe hok i e he).1
    obtain ⟨vs,hvs⟩:=zJs (P:=P) (M:=M) (w:=w) (l:=l.take n) (sz:=sz) b off cap val (fun i e he=>(zHe hok i e he).1) (fun i j e d he hj=>by
     have:=hsz i e he;subst this
     exact ha _ _ _ (hm i j e d (htk l n i e he) hj)) fun i j e d he hj=>hdd i j e d (htk l n i e he) hj
    exact ⟨_,_,vs,rfl,hvs,hvs.one hok⟩
 ·refine ⟨[],h,fun n hok own M ι w u ha hh hd=>?_⟩
  cases hd with
  |nil a=>exact ⟨a,0,#[],rfl,by simpa using zGm a 0,fun v hv=>by simp at hv⟩
 ·rename_i b
  split at h
  ·rename_i l sz' fr hb;obtain ⟨hs,h2⟩:=bif_one h
   clear h
   have:=Nat.eq_of_beq_eq_true hs;subst this;refine ⟨l,h2,fun n hok own M ι w u ha hh hd=>?_⟩
   cases hd with
   |own _ L cap hL hn hc=>
    obtain ⟨_,cs,Ty,hheap,hsz,q1,q2,q3,q4,q5⟩:=hh.at_ b _ L hb hL
    obtain ⟨vs,hvs⟩:=zJs (P:=P) (M:=M) (w:=w) (l:=l.take n) (sz:=sz') L.blk 0 cap (fun i j=>(cs[i*sz'+j]?).getD undef) (fun i e he=>q4.len i e (htk l n i e he)) (fun i j e d he hj=>by
     obtain ⟨v,e1,e2⟩:=q4.den i j e d (htk l n i e he) hj
     rw [cell_of_heap hheap,Nat.zero_add,e1];rfl) (fun i j e d he hj=>by
     obtain ⟨v,e1,e2⟩:=q4.den i j e d (htk l n i e he) hj
     simpa [e1] using e2)
    rw [<-q2];exact ⟨_,_,vs,rfl,hvs,hvs.one hok⟩
   |ownE _ a hL=>
    obtain ⟨sz2,fr2,e⟩:=hh.virt b hL
    rw [hb] at e;cases e
    exact ⟨a,0,#[],rfl,by simpa using zGm a 0,fun v hv=>by simp at hv⟩
   |ownL _ _ hL=>rw [(hh.dom b).2 hL] at hb;cases hb
  ·exact h.elim
 ·rename_i b lo n0 c
  split at h
  ·rename_i l sz' fr hb;obtain ⟨hs,h2⟩:=bif_one h
   clear h
   have:=Nat.eq_of_beq_eq_true hs;subst this;obtain ⟨hle,h⟩:=zBh h2;refine ⟨_,h,fun n hok own M ι w u ha hh hd=>?_⟩
   have hlen:((l.drop lo).take n0).length=n0:=by simp;omega
   rw [hlen]
   have htt:((l.drop lo).take n0).take n=(l.drop lo).take (min n n0):=by rw [List.take_take]
   rw [htt] at hok⊢
   cases hd with
   |winL _ _ _ _ _ hL=>rw [(hh.dom b).2 hL] at hb;cases hb
   |win _ _ _ _ L k base hL hn hc hk hbb=>
    have hd':DenA M ι (.win b lo (min n n0) none) (.slice (some ⟨L.blk,base,none⟩) (min n n0) k):=.win b lo _ none L k base hL (by omega) (fun _ h=>by cases h) hk hbb;obtain ⟨vs,k',base',L',e1,e2⟩:=z3t (P:=P) hh hb hd' (by omega)
    have hl2:((l.drop lo).take (min n n0)).length=min n n0:=by simp;omega
    rw [hl2];exact ⟨_,_,vs,rfl,e2,e2.one hok⟩
  ·exact h.elim
 ·exact h.elim
theorem yMg {α:Type} (r l:List α) (lo i:Nat) (h:lo+l.length<=r.length):(r.take lo++(l++r.drop (lo+l.length)))[i]?=if lo<=i/\i<lo+l.length then l[i-lo]? else r[i]?:=by
 have h1:(r.take lo).length=lo:=by simp;omega
 by_cases a:i<lo
 ·rw [if_neg (by omega),List.getElem?_append_left (by omega),List.getElem?_take,if_pos a]
 ·rw [List.getElem?_append_right (by omega),h1]
  by_cases b:i<lo+l.length
  ·rw [if_pos ⟨by omega,b⟩,List.getElem?_append_left (by omega)]
  ·rw [if_neg (by omega),List.getElem?_append_right (by omega),List.getElem?_drop]
   congr 1;omega
theorem yXl {α:Type} (r l:List α) (lo:Nat) (h:lo+l.length<=r.length):(r.take lo++(l++r.drop (lo+l.length))).length=r.length:=by
 simp;omega
section
variable {P:Program} {T:Tab} (hT:zFo P T)
theorem zX {own:Nat->Prop} {M:Mem} {ι:Inj} {hp:Nat->Option Blk} {w:World} (ha:zBj M w) (hh:HRel own M ι hp w) {b lo base:Nat} {r l:List (List D)} {sz:Nat} (hb:hp b=some (.row r sz false)) {L:Loc} (hL:ι b=some (some L))
  {vs:Array Value} (hrow:zGv M vs l sz) (hs:vs.size=l.length*sz) (hone:∀ v∈vs.toList,v.oneCell'=true) (hle:lo+l.length<=r.length) (hbase:base=lo*sz\/l=[]):
  ∃ w',(storeCells ⟨L.blk,base,none⟩ vs.toList).run P w=.ok () w'/\ ∀ (av:AV) (v:Value),DenA M ι av v->Post own M ι hp w ⟨av,[(b,.row (r.take lo++(l++r.drop (lo+l.length))) sz false)],none⟩ v w':=by
 by_cases hl0:l=[]
 ·subst hl0
  have hv0:vs=#[]:=by simpa using hs
  subst hv0;refine ⟨w,by simp [storeCells],fun av v hd=>⟨M,ι,.refl _ _,.refl M,ha,.refl _ _,?_,fun _ _=>rfl,hd⟩⟩
  have:upd hp b (some (.row (r.take lo++([]++r.drop (lo+([]:List (List D)).length))) sz false))=hp:=by
   funext x
   by_cases e:x=b
   ·subst e;rw [upd_same,hb];simp
   ·rw [zAl _ _ e]
  show HRel own M ι (upd hp b (some (.row (r.take lo++([]++r.drop (lo+([]:List (List D)).length))) sz false))) w
  rw [this];exact hh
 ·have hbase:base=lo*sz:=hbase.resolve_right hl0;subst hbase;obtain ⟨hown1,cs,Ty,hheap,hsz,q1,q2,q3,q4,q5⟩:=hh.at_ b _ L hb hL;have hcl:=hh.closed hL _ hb rfl
  have hvl:vs.toList.length=l.length*sz:=by simpa using hs
  have hbnd:lo*sz+vs.toList.length<=cs.size:=by
   rw [hvl,<-Nat.add_mul,hsz];exact Nat.le_trans (Nat.mul_le_mul_right _ hle) q3
  obtain ⟨cs',g1,g2,g3,g4,g5,g6,g7⟩:=zKo (P:=P) (own:=own) ha hown1 hcl hheap vs.toList (lo*sz) hbnd hone;refine ⟨w.setRow L.blk cs',g1,fun av v hd=>⟨M,ι,g3,.refl M,g2,.refl _ _,?_,fun _ _=>rfl,hd⟩⟩;show HRel own M ι (upd hp b (some (.row (r.take lo++(l++r.drop (lo+l.length))) sz false))) _
  refine hh.set b _ (by rw [hb];simp) (.refl M) (fun e=>by rw [hL] at e;cases e) (fun L' hL'=>?_) fun b' L' hne hL'=>⟨g7 _ fun e=>hne (hh.inj b' b L' L hL' hL e),hh.closed hL'⟩
  rw [hL] at hL';cases hL'
  have hml:=yXl r l lo hle
  have hlenE:∀ (i:Nat) (e:List D),(r.take lo++(l++r.drop (lo+l.length)))[i]?=some e->e.length=sz:=by
   intro i e he;rw [yMg r l lo i hle] at he
   split at he
   ·exact hrow.len _ e he
   ·exact q4.len _ e he
  refine ⟨cs',Ty,g4,by rw [g5];exact hsz,q1,by rw [hml];exact q2,by rw [hml];exact q3,⟨hlenE,fun i j e d he hj=>?_⟩,(by intro e;cases e),fun _=>hcl⟩
  have hjl:j<sz:=by rw [<-hlenE i e he];exact (List.getElem?_eq_some_iff.1 hj).1
  rw [g6,hvl];rw [yMg r l lo i hle] at he
  split at he
  ·rename_i hin;obtain ⟨x,x1,x2⟩:=hrow.den _ j e d he hj
   have e1:i*sz+j=lo*sz+((i-lo)*sz+j):=by
    rw [<-Nat.add_assoc,<-Nat.add_mul];congr 2;omega
   have h2:(i-lo)*sz+j<l.length*sz:=zVr (by omega) hjl;rw [if_pos ⟨by omega,by omega⟩];refine ⟨x,?_,x2⟩;rw [e1,Nat.add_sub_cancel_left]
   simpa using x1
  ·rename_i hin
   have:¬(lo*sz<=i*sz+j/\i*sz+j<lo*sz+l.length*sz):=by
    rintro ⟨p1,p2⟩
    by_cases a:i<lo
    ·have:=zVr (sz:=sz) a hjl;omega
    ·have h3:lo+l.length<=i:=by omega
     have:=Nat.mul_le_mul_right sz h3;rw [Nat.add_mul] at this;omega
   rw [if_neg this];exact q4.den i j e d he hj
theorem zXv {e:TypeId} {z:Value} (hzc:zEu z.cells.toList (T e).zero=true) (hzl:(T e).zero.length=(T e).size) (hpos:0<(T e).size) (n:Nat) (M:Mem):zGv M (Builtin.zeroCells z.cells n) (List.replicate n (T e).zero) (T e).size/\ (Builtin.zeroCells z.cells n).size=n*(T e).size/\
  (yHj (T e).size (T e).zero=true->∀ v∈(Builtin.zeroCells z.cells n).toList,v.oneCell'=true):=by
 obtain ⟨z1,z2⟩:=zEv hzc
 have hzs:z.cells.size=(T e).size:=by rw [<-hzl,<-z1];simp
 have hget:∀ j d',(T e).zero[j]?=some d'->∀ i,i<n->∃ v,(Builtin.zeroCells z.cells n)[i*(T e).size+j]?=some v/\ ∀ M,DenD M d' v:=by
  intro j d' hd' i hi;have hj:=(List.getElem?_eq_some_iff.1 hd').1;rw [hzl] at hj;obtain ⟨v,g1,g2,_⟩:=z2 j d' hd';refine ⟨v,?_,g2⟩
  have hlt:i*(T e).size+j<n*z.cells.size:=by rw [hzs];exact zVr hi hj
  simp only [Builtin.zeroCells,Array.getElem?_map,Array.getElem?_range,if_pos hlt,Option.map_some,Option.some.injEq];rw [hzs,Nat.mul_comm,Nat.mul_add_mod,Nat.mod_eq_of_lt hj]
  have hlt2:j<z.cells.size:=by omega
  rw [getElem!_pos z.cells _ hlt2]
  have:z.cells[j]?=some v:=by simpa using g1
  rw [Array.getElem?_eq_getElem hlt2] at this
  simpa using this
 have hsize:(Builtin.zeroCells z.cells n).size=n*(T e).size:=by simp [Builtin.zeroCells,hzs]
 refine ⟨⟨fun i el hel=>?_,fun i j el d' hel hd'=>?_⟩,hsize,fun hok v hv=>?_⟩
 ·rw [List.getElem?_replicate] at hel
  split at hel
  ·cases hel;exact hzl
  ·cases hel
 ·rw [List.getElem?_replicate] at hel
  split at hel
  ·rename_i hi
   cases hel
   obtain ⟨v,g1,g2⟩:=hget j d' hd' i hi;exact ⟨v,g1,g2 M⟩
  ·cases hel
 ·obtain ⟨k,hk,rfl⟩:=List.mem_iff_getElem.1 hv
  have hk':k<n*(T e).size:=by rw [<-hsize];simpa using hk
  obtain ⟨i,j,rfl,hi,hj⟩:=z5n hk';have hd:(T e).zero[j]?=some ((T e).zero[j]'(by omega)):=List.getElem?_eq_getElem (by omega);obtain ⟨v,g1,g2⟩:=hget j _ hd i hi
  have:(Builtin.zeroCells z.cells n).toList[i*(T e).size+j]=v:=by
   have h:=g1;rw [<-Array.getElem?_toList,List.getElem?_eq_getElem hk] at h
   simpa using h
  rw [this];simp only [yHj,Bool.and_eq_true,List.all_eq_true] at hok;exact yE (hok.2 _ (List.mem_of_getElem? hd)) (g2 (fun _ _=>none))
include hT in
theorem yPu {o:Oper} {c:Call} {x y:Operand} {t t2 e:TypeId} {ρ:Operand->AV} {hp:Nat->Option Blk} {K:Eff->Prop} (ho:o.op=.call c) (hc:c.callee=.builtin .copy) (ha:c.args.toList=[x,y]) (ht:c.argTypes.toList=[t,t2]) (hk:(T t).k=.slice e)
  (h:yVw T e (ρ x) (ρ y) hp K):∃ e,K e/\zCr P o ρ hp e:=by
 have ha':c.args=#[x,y]:=by rw [<-Array.toList_inj];exact ha
 have ht':c.argTypes=#[t,t2]:=by rw [<-Array.toList_inj];exact ht
 obtain ⟨hu,hke⟩:=zBi hT hk;unfold yVw at h
 split at h
 ·rename_i b lo n cp hx
  split at h
  ·rename_i r sz hb;obtain ⟨hsz,h⟩:=bif_one h;have hsz:=Nat.eq_of_beq_eq_true hsz;subst hsz;obtain ⟨src,h,hsrc⟩:=yHz (P:=P) h;obtain ⟨⟨hle,hok⟩,h⟩:=zBh h;refine ⟨_,h,zCu fun own M ι a w hown hA hh hρ=>?_⟩;obtain ⟨a0,c0,vs,e1,e2,e3⟩:=hsrc _ hok own M ι w _ hA hh (hρ y);have hv:=hρ x;rw [hx] at hv;generalize hvx:a.eval x=v at hv
   cases hv with
   |winL _ _ _ _ _ hL=>rw [(hh.dom b).2 hL] at hb;cases hb
   |win _ _ _ _ L k base hL hn hcc hkk hbb=>
    obtain ⟨_,_,_,_,_,q1,_⟩:=hh.at_ b _ L hb hL
    have hm:(src.take (Nat.min src.length n)).length=Nat.min src.length n:=by
     rw [List.length_take];exact Nat.min_eq_left (Nat.min_le_left _ _)
    have hmn:Nat.min src.length n<=n:=Nat.min_le_right _ _
    obtain ⟨w',g1,g2⟩:=zX (P:=P) hA hh hb hL (lo:=lo) (base:=base) e2.row e2.size e3 (by rw [hm];omega) (by
     rcases hbb with h|h
     ·exact .inl (by rw [h,q1])
     ·right
      apply List.eq_nil_of_length_eq_zero
      rw [hm];omega)
    have hp':=g2 (.d (.int .i64 (Nat.min src.length n))) (.int .i64 (Nat.min src.length n)) (.d _ _ (.int _ _));rw [hm] at hp';refine ⟨_,w',?_,hp'⟩
    have hr:=e2.run w fun _ _=>rfl
    have hfc:(Builtin.firstCells (T e).size (Nat.min src.length n) (.slice a0 src.length c0)).run P w=.ok vs w:=by
     rw [hm] at hr
     cases a0 with
     |none=>exact hr
     |some a0=>exact hr
    simp only [execOp,ho,resolve,hc,invoke,builtin,ha',ht',hvx,e1,Builtin.copy_,run_underlying hu,zBd hT w hke,Builtin.lenOf,hfc,g1,goInt,Array.map,Sem.run_bind,Sem.run_pure,Result.andThen_ok];simp [Builtin.copy_,run_underlying hu,zBd hT w hke,Builtin.lenOf,hfc,g1,goInt,hvx,e1]
  ·exact h.elim
 ·exact h.elim
include hT in
theorem yJq {o:Oper} {c:Call} {x:Operand} {t e:TypeId} {ρ:Operand->AV} {hp:Nat->Option Blk} {K:Eff->Prop} (ho:o.op=.call c) (hc:c.callee=.builtin .clear) (ha:c.args.toList=[x]) (ht:c.argTypes.toList=[t]) (hk:(T t).k=.slice e)
  (h:yJp T e (ρ x) hp K):∃ e,K e/\zCr P o ρ hp e:=by
 have ha':c.args=#[x]:=by rw [<-Array.toList_inj];exact ha
 have ht':c.argTypes=#[t]:=by rw [<-Array.toList_inj];exact ht
 obtain ⟨hu,hke⟩:=zBi hT hk;unfold yJp at h
 split at h
 ·rename_i b lo n cp hx
  split at h
  ·rename_i r sz hb;obtain ⟨hsz,h⟩:=bif_one h;have hsz:=Nat.eq_of_beq_eq_true hsz;subst hsz;obtain ⟨⟨hle,hok⟩,h⟩:=zBh h;refine ⟨_,h,zCu fun own M ι a w hown hA hh hρ=>?_⟩;have hv:=hρ x;rw [hx] at hv;generalize hvx:a.eval x=v at hv
   cases hv with
   |winL _ _ _ _ _ hL=>rw [(hh.dom b).2 hL] at hb;cases hb
   |win _ _ _ _ L k base hL hn hcc hkk hbb=>
    obtain ⟨_,_,_,_,_,q1,_⟩:=hh.at_ b _ L hb hL;obtain ⟨_,ie,_,hie,_,_,_,⟨z,hz,hzc⟩,_⟩:=(zEe hT hke).desc
    have hzr:(zeroValue e).run P w=.ok z w:=by simp [zeroValue,typeInfo,hie,hz]
    obtain ⟨r1,r2,r3⟩:=zXv hzc (zQs hT hke) (zFj hT hke) n M
    have hlr:(List.replicate n (T e).zero).length=n:=List.length_replicate ..
    obtain ⟨w',g1,g2⟩:=zX (P:=P) hA hh hb hL (lo:=lo) (base:=base) r1 (by rw [hlr];exact r2) (r3 hok) (by rw [hlr];omega) (by
     rcases hbb with h|h
     ·exact .inl (by rw [h,q1])
     ·right
      apply List.eq_nil_of_length_eq_zero
      rw [hlr];omega)
    have hp':=g2 (.tup []) (.tuple #[]) (.tup [] #[] rfl fun i x v h=>by simp at h);rw [hlr] at hp';refine ⟨_,w',?_,hp'⟩
    cases n with
    |zero=>
     have:w'=w:=by
      have e0:(storeCells ⟨L.blk,base,none⟩ (Builtin.zeroCells z.cells 0).toList).run P w=.ok () w:=by simp [Builtin.zeroCells,storeCells]
      rw [e0] at g1
      cases g1;rfl
     subst this;simp [execOp,ho,resolve,hc,invoke,builtin,ha',ht',hvx,Builtin.clear_,run_underlying hu]
    |succ n=>
     simp [execOp,ho,resolve,hc,invoke,builtin,ha',ht',hvx,Builtin.clear_,run_underlying hu,hzr,g1]
  ·exact h.elim
 ·exact h.elim
include hT in
theorem yVq {o : Oper} {c : Call} {x : Operand} {t e : TypeId} {ρ : Operand → AV} {hp : Nat → Option Blk} {K : Eff → Prop} (ho : o.op = .call c) (hc : c.callee = .builtin .cap) (ha : c.args.toList = [x]) (ht : c.argTypes.toList = [t]) (hk : (T t).k = .slice e)
    (h : match ρ x with
            | .win b _ _ (some c) => match hp b with
              | some _ => K ⟨.d (.int .i64 c), [], none⟩
              | none => False
            | .nil => K ⟨.d (.int .i64 0), [], none⟩
            | _ => False) : ∃ e, K e ∧ zCr P o ρ hp e := by
  have ha' : c.args = #[x] := by rw [← Array.toList_inj]; exact ha
  have ht' : c.argTypes = #[t] := by rw [← Array.toList_inj]; exact ht
  obtain ⟨hu, hke⟩ := zBi hT hk
  split at h
  · rename_i b lo n cp hx
    split at h
    · rename_i B hb
      refine ⟨_, h, opSem_val fun own M ι a w hA hh hρ => ⟨.int .i64 cp, ?_, .d _ _ (.int _ _)⟩⟩
      have hv := hρ x
      rw [hx] at hv
      generalize hvx : a.eval x = v at hv
      cases hv with
      | winL _ _ _ _ _ hL => rw [(hh.dom b).2 hL] at hb; cases hb
      | win _ _ _ _ L k base hL hn hcc hkk hbb =>
        have := hcc cp rfl
        subst this
        simp [execOp, ho, resolve, hc, invoke, builtin, ha', ht', hvx, Builtin.cap_, run_underlying hu, goInt]
    · exact h.elim
  · rename_i hx
    refine ⟨_, h, opSem_val fun own M ι a w hA hh hρ => ⟨.int .i64 0, ?_, .d _ _ (.int _ _)⟩⟩
    have hv := hρ x
    rw [hx] at hv
    generalize hvx : a.eval x = v at hv
    cases hv with
    | nil base => simp [execOp, ho, resolve, hc, invoke, builtin, ha', ht', hvx, Builtin.cap_, run_underlying hu, goInt]
  · exact h.elim
theorem zVn {own:Nat->Prop} {M:Mem} {ι:Inj} {hp:Nat->Option Blk} {w:World} (ho:∀ c,w.heap.size<=c->own c) (ha:zBj M w) (hh:HRel own M ι hp w) {x:Nat} {l r:List (List D)} {sz:Nat} {old vs rest:Array Value} {Ty:TypeId} {cap:Nat}
  (h1:zGv M old l sz) (s1:old.size=l.length*sz) (h2:zGv M vs r sz) (s2:vs.size=r.length*sz) (hcap:l.length+r.length<=cap) (s3:rest.size=(cap-(l.length+r.length))*sz):
  Post own M ι hp w ⟨.win x 0 (l.length+r.length) none,[(x,.row (l++r) sz false)],some x⟩ (.slice (some ⟨w.heap.size,0,none⟩) (l.length+r.length) cap) (w.drew.alloc (.cells (old++vs++rest) Ty)):=by
 have hrow:zGv M (old++vs++rest) (l++r) sz:=by
  refine zSf h1 h2 (fun k hk=>?_) fun k hk=>?_
  ·rw [Array.getElem?_append_left (by simp;omega),Array.getElem?_append_left (by omega)]
  ·rw [Array.getElem?_append_left (by simp;omega),Array.getElem?_append_right (by omega)]
   congr 1;omega
 have hsize:(old++vs++rest).size=cap*sz:=by
  simp only [Array.size_append,s1,s2,s3,<-Nat.add_mul]
  congr 1;omega
 have hha:HRel own M ι hp w.drew:=hh.keep (.refl M) fun b' L' hL'=>⟨rfl,hh.closed hL'⟩
 refine zUa (w:=w) (w0:=w.drew) ho (.refl M) (.refl _ _) ha hha rfl rfl rfl rfl (e:=⟨.win x 0 (l.length+r.length) none,[(x,.row (l++r) sz false)],some x⟩) (d:=x) (B:=.row (l++r) sz false) (sz:=sz) (len:=l.length+r.length) rfl rfl ?_ ?_
 ·refine ⟨_,Ty,zFe w.drew _,rfl,rfl,by simp,?_,hrow,(by intro e;cases e),fun _ o=>zOm ha o⟩;rw [hsize];simp only [List.length_append];exact Nat.mul_le_mul_right _ hcap
 ·exact .win x 0 _ none ⟨w.heap.size,sz,(old++vs++rest).size,l.length+r.length⟩ cap 0 (upd_same _ _ _) hcap (fun _ h=>by cases h) (by rw [hsize,Nat.zero_add];exact Nat.le_refl _) (.inl (by simp))
include hT in
theorem zXy {o:Oper} {c:Call} {x y:Operand} {t t2 e e2:TypeId} {ρ:Operand->AV} {hp:Nat->Option Blk} {K:Eff->Prop} (ho:o.op=.call c) (hc:c.callee=.builtin .append) (ha:c.args.toList=[x,y]) (ht:c.argTypes.toList=[t,t2]) (hk:(T t).k=.slice e) (hk2:(T t2).k=.slice e2)
  {b lo n cp:Nat} (hx:ρ x=.win b lo n (some cp)) {src:List (List D)} (hsrc:∀ (own:Nat->Prop) (M:Mem) (ι:Inj) (w:World) (u:Value),zBj M w->HRel own M ι hp w->DenA M ι (ρ y) u->∃ a c vs,u=.slice a src.length c/\z0f P M w u src (T e).size vs/\ ∀ v∈vs.toList,v.oneCell'=true)
  (h:z0k T e b lo n cp src hp o.dst K):∃ e,K e/\zCr P o ρ hp e:=by
 have ha':c.args=#[x,y]:=by rw [<-Array.toList_inj];exact ha
 have ht':c.argTypes=#[t,t2]:=by rw [<-Array.toList_inj];exact ht
 have hex:∀ (a:Act) (w w':World) (v:Value),(Builtin.append_ #[t,t2] o.type #[a.eval x,a.eval y]).run P w=.ok v w'->(execOp a.eval o).run P w=.ok (.value v) w':=by
  intro a w w' v hr;simp [execOp,ho,resolve,hc,invoke,builtin,ha',ht',hr]
 unfold z0k at h
 split at h
 ·rename_i r sz hb;obtain ⟨hsz,h⟩:=bif_one h;have hsz:=Nat.eq_of_beq_eq_true hsz;subst hsz
  by_cases hf:n+src.length<=cp
  ·obtain ⟨hle,h⟩:=zBh (h.yes hf);refine ⟨_,h,zCu fun own M ι a w hown hA hh hρ=>?_⟩;obtain ⟨a0,c0,vs,e1,e2,e3⟩:=hsrc own M ι w _ hA hh (hρ y);have hv:=hρ x;rw [hx] at hv;generalize hvx:a.eval x=v at hv
   cases hv with
   |winL _ _ _ _ _ hL=>rw [(hh.dom b).2 hL] at hb;cases hb
   |win _ _ _ _ L k base hL hn hcc hkk hbb=>
    have:=hcc cp rfl;subst this;obtain ⟨_,_,_,_,_,q1,_⟩:=hh.at_ b _ L hb hL
    obtain ⟨w',g1,g2⟩:=zX (P:=P) hA hh hb hL (lo:=lo+n) (base:=base+n*(T e).size) e2.row e2.size e3 (by omega) (by
     rcases hbb with h|h
     ·exact .inl (by rw [h,q1,Nat.add_mul])
     ·right
      apply List.eq_nil_of_length_eq_zero
      omega)
    rw [e1] at e2;refine ⟨.slice (some ⟨L.blk,base,none⟩) (n+src.length) k,w',hex a w w' _ ?_,g2 _ _ ?_⟩
    ·rw [hvx,e1]
     exact zNr hT hk hk2 hf (e2.run w fun _ _=>rfl) (by
      show (storeCells ((⟨L.blk,base,none⟩:Addr).add (n*(T e).size)) vs.toList).run P w=.ok () w'
      rw [zDk];exact g1)
    ·exact .win b lo _ (some k) L k base hL hf (fun m hm=>by cases hm;rfl) hkk hbb
  ·have h:=h.no hf
   split at h
   ·rename_i d hd;obtain ⟨hle,h⟩:=zBh h;obtain ⟨r1,r2,h⟩:=zJp h;refine ⟨_,h,zCu fun own M ι a w hown hA hh hρ=>?_⟩;obtain ⟨a0,c0,vs,e1,e2,e3⟩:=hsrc own M ι w _ hA hh (hρ y);have hd':=hρ x;rw [hx] at hd';obtain ⟨old,k,base,L,f1,f2⟩:=z3t (P:=P) hh hb hd' hle
    have hlen:((r.drop lo).take n).length=n:=by simp;omega
    have hck:cp=k:=by
     rw [f1,hlen] at hd'
     cases hd' with
     |win _ _ _ _ _ _ _ _ _ hcc _ _=>exact (hcc cp rfl).symm
     |winL _ _ _ _ _ hL=>rw [(hh.dom b).2 hL] at hb;cases hb
    subst hck;rw [f1] at f2;rw [e1] at e2;obtain ⟨newCap,z,g1,g2,g3⟩:=zLb hT (ty:=o.type) hk hk2 (w:=w) (base:=some ⟨L,base,none⟩) (sLen:=((r.drop lo).take n).length) (sCap:=cp) (n:=src.length) (c:=c0) (a:=a0) (by omega) (by rw [hlen];exact r1) (by omega) e2.run f2.run;have hp':=zVn (x:=d) (Ty:=e) (l:=(r.drop lo).take n) (r:=src) (sz:=(T e).size) (old:=old) (vs:=vs) (rest:=Builtin.zeroCells z.cells (newCap-(((r.drop lo).take n).length+src.length))) (cap:=newCap) hown hA hh f2.row f2.size e2.row e2.size g1 (by simp [Builtin.zeroCells,g2]);rw [hlen] at g3 hp';rw [hlen] at f1;exact ⟨_,_,hex a w _ _ (by rw [f1,e1];exact g3),hp'⟩
   ·exact h.elim
 ·exact h.elim
include hT in
theorem zOn {t t2 e ty:TypeId} {ki:IntKind} (hk:(T t).k=.slice e) (hk2:(T t2).k=.int ki) {w:World} {base:Option Addr} {sLen sCap:Nat} {k:Int} {kk:IntKind} {old:Array Value}
  (h0:0<=k) (hn:sCap<sLen+k.toNat) (hkp:0<k.toNat) (hroom:(sLen+k.toNat)*(T e).bytes<=35184372088832) (hroom1:sLen+k.toNat<=35184372088832)
  (ho:∀ w':World,(∀ x,(w.cell? x).isSome->w'.cell? x=w.cell? x)->(Builtin.firstCells (T e).size sLen (.slice base sLen sCap)).run P w'=.ok old w'):
  ∃ (newCap:Nat) (z:Value),sLen+k.toNat<=newCap/\z.cells.size=(T e).size/\zEu z.cells.toList (T e).zero=true/\ (Builtin.append_ #[t,t2] ty #[.slice base sLen sCap,.int kk k]).run P w=
   .ok (.slice (some ⟨w.heap.size,0,none⟩) (sLen+k.toNat) newCap) (w.drew.alloc (.cells (old++Builtin.zeroCells z.cells k.toNat++Builtin.zeroCells z.cells (newCap-(sLen+k.toNat))) e)):=by
 obtain ⟨hu,hke⟩:=zBi hT hk;have hu2:=zOg hT hk2;obtain ⟨_,ie,_,hie,_,hs,hb,⟨z,hz,hzc⟩,_,hbm,hzl,_⟩:=(zEe hT hke).desc
 have hzs:z.cells.size=(T e).size:=by
  obtain ⟨z1,_⟩:=zEv hzc
  rw [<-hzl,<-z1];simp
 have h1:¬(sLen+k.toNat<=sCap):=by omega
 have hcap:=zZn hn
 have h2:¬(Builtin.nextslicecap (sLen+k.toNat) sCap*ie.bytes>2^48):=by
  rw [hb];have hm:Builtin.nextslicecap (sLen+k.toNat) sCap*(T e).bytes<= (2*(sLen+k.toNat)+192)*(T e).bytes:=Nat.mul_le_mul_right _ hcap
  have:(2*(sLen+k.toNat)+192)*(T e).bytes=2*((sLen+k.toNat)*(T e).bytes)+192*(T e).bytes:=by rw [Nat.add_mul,Nat.mul_assoc]
  have h48:(2:Nat)^48=281474976710656:=by decide
  rw [h48];omega
 have hkb:k.toNat*(T e).bytes<=35184372088832:=Nat.le_trans (Nat.mul_le_mul_right _ (by omega)) hroom
 have hkn:(k.toNat:Int)=k:=by omega
 have hwrap:IntKind.i64.wrap k=k:=by
  simp only [IntKind.wrap];have e1:IntKind.i64.signed=true:=rfl;have e2:IntKind.i64.bits=64:=rfl;rw [e1,e2]
  have:k<35184372088833:=by omega
  simp;omega
 have hneg:¬k<0:=by omega
 have hbig:¬(k*(ie.bytes:Int)>2^48):=by
  rw [hb,<-hkn]
  have:((k.toNat*(T e).bytes:Nat):Int) <=35184372088832:=by omega
  rw [Int.natCast_mul] at this;omega
 have h3':¬((9223372036854775807:Int)<(sLen:Int)+(k.toNat:Int)):=by omega
 have hd:∀ x,(w.cell? x).isSome->w.drew.cell? x=w.cell? x:=fun x _=>rfl
 refine ⟨sLen+k.toNat+w.tape w.drawn (.appendCap (sLen+k.toNat) sCap e)%(2^63-(sLen+k.toNat)),z,by omega,hzs,hzc,?_⟩;have ho':=ho w.drew hd
 have hzr:(zeroValue e).run P w.drew=.ok z w.drew:=by simp [zeroValue,typeInfo,hie,hz]
 have hns:¬(k.toNat*(T e).size=0):=by
  have:=zFj hT hke;intro h
  rcases Nat.mul_eq_zero.1 h with h|h<;>omega
 have hns':¬(k.toNat=0\/ (T e).size=0):=fun h=>hns (Nat.mul_eq_zero.2 h)
 have h48:(2:Int)^48=281474976710656:=by decide
 have hbig':¬((281474976710656:Int)<k*(ie.bytes:Int)):=fun h=>hbig (by rw [h48];exact h)
 have h3x:¬((9223372036854775807:Int)<(sLen:Int)+max k 0):=by omega
 have h1':¬((sLen:Int)+(k.toNat:Int) <=sCap):=by omega
 simp [Builtin.append_,run_underlying hu,run_underlying hu2,zBd hT,hke,asInt,asIntOf,hwrap,hneg,hbig',h3x,h1,typeInfo,hie,h3',h2,Question.forced,Question.cut,ho',hzr,newRow,hns',hns]
include hT in
theorem z8b {o:Oper} {c:Call} {x y:Operand} {t t2 e:TypeId} {ki ky:IntKind} {q:Int} {ρ:Operand->AV} {hp:Nat->Option Blk} {K:Eff->Prop} (ho:o.op=.call c) (hc:c.callee=.builtin .append) (ha:c.args.toList=[x,y]) (ht:c.argTypes.toList=[t,t2]) (hk:(T t).k=.slice e) (hk2:(T t2).k=.int ki)
  {b lo n cp:Nat} (hx:ρ x=.win b lo n (some cp)) (hy:ρ y=.d (.int ky q))
  (h:z8a T e b lo n cp q hp o.dst K):∃ e,K e/\zCr P o ρ hp e:=by
 have ha':c.args=#[x,y]:=by rw [<-Array.toList_inj];exact ha
 have ht':c.argTypes=#[t,t2]:=by rw [<-Array.toList_inj];exact ht
 have hex:∀ (a:Act) (w w':World) (v:Value),(Builtin.append_ #[t,t2] o.type #[a.eval x,a.eval y]).run P w=.ok v w'->(execOp a.eval o).run P w=.ok (.value v) w':=by
  intro a w w' v hr;simp [execOp,ho,resolve,hc,invoke,builtin,ha',ht',hr]
 obtain ⟨hu,hke⟩:=zBi hT hk;unfold z8a at h
 split at h
 ·rename_i r sz hb;obtain ⟨hsz,h⟩:=bif_one h;have hsz:=Nat.eq_of_beq_eq_true hsz;subst hsz;obtain ⟨⟨h0,hcn,hle⟩,h⟩:=zBh h
  split at h
  ·rename_i d hd;obtain ⟨r1,r2,h⟩:=zJp h;refine ⟨_,h,zCu fun own M ι a w hown hA hh hρ=>?_⟩;have ey:=den_int (hy▸hρ y);have hd':=hρ x;rw [hx] at hd';obtain ⟨old,k,base,L,f1,f2⟩:=z3t (P:=P) hh hb hd' hle
   have hlen:((r.drop lo).take n).length=n:=by simp;omega
   have hck:cp=k/\n<=k:=by
    rw [f1,hlen] at hd'
    cases hd' with
    |win _ _ _ _ _ _ _ _ hn hcc _ _=>exact ⟨(hcc cp rfl).symm,hn⟩
    |winL _ _ _ _ _ hL=>rw [(hh.dom b).2 hL] at hb;cases hb
   obtain ⟨rfl,hnk⟩:=hck;rw [f1] at f2;obtain ⟨newCap,z,g1,g2,hzc,g3⟩:=zOn hT (ty:=o.type) hk hk2 (w:=w) (base:=some ⟨L,base,none⟩) (sLen:=((r.drop lo).take n).length) (sCap:=cp) (k:=q) (kk:=ky) h0 (by omega) (by omega) (by rw [hlen];exact r1) (by omega) f2.run;obtain ⟨z1,z2,_⟩:=zXv hzc (zQs hT hke) (zFj hT hke) q.toNat M
   have hlr:(List.replicate q.toNat (T e).zero).length=q.toNat:=List.length_replicate ..
   have hp':=zVn (x:=d) (Ty:=e) (l:=(r.drop lo).take n) (r:=List.replicate q.toNat (T e).zero) (sz:=(T e).size) (old:=old) (vs:=Builtin.zeroCells z.cells q.toNat) (rest:=Builtin.zeroCells z.cells (newCap-(((r.drop lo).take n).length+q.toNat))) (cap:=newCap) hown hA hh f2.row f2.size z1 (by rw [hlr];exact z2) (by rw [hlr];exact g1) (by simp [Builtin.zeroCells,g2]);rw [hlen] at g3 hp';rw [hlr] at hp';rw [hlen] at f1;exact ⟨_,_,hex a w _ _ (by rw [f1,ey];exact g3),hp'⟩
  ·exact h.elim
 ·exact h.elim
include hT in
theorem z7z {o:Oper} {c:Call} {x y:Operand} {t t2 e:TypeId} {ki ky:IntKind} {q:Int} {ρ:Operand->AV} {hp:Nat->Option Blk} {K:Eff->Prop} (ho:o.op=.call c) (hc:c.callee=.builtin .append) (ha:c.args.toList=[x,y]) (ht:c.argTypes.toList=[t,t2]) (hk:(T t).k=.slice e) (hk2:(T t2).k=.int ki)
  (hx:ρ x=.nil) (hy:ρ y=.d (.int ky q)) (h:z7y T e q o.dst K):∃ e,K e/\zCr P o ρ hp e:=by
 have ha':c.args=#[x,y]:=by rw [<-Array.toList_inj];exact ha
 have ht':c.argTypes=#[t,t2]:=by rw [<-Array.toList_inj];exact ht
 have hex:∀ (a:Act) (w w':World) (v:Value),(Builtin.append_ #[t,t2] o.type #[a.eval x,a.eval y]).run P w=.ok v w'->(execOp a.eval o).run P w=.ok (.value v) w':=by
  intro a w w' v hr;simp [execOp,ho,resolve,hc,invoke,builtin,ha',ht',hr]
 obtain ⟨hu,hke⟩:=zBi hT hk;unfold z7y at h;obtain ⟨h0,h⟩:=zBh h
 split at h
 ·rename_i d hd;obtain ⟨r1,r2,h⟩:=zJp h;refine ⟨_,h,zCu fun own M ι a w hown hA hh hρ=>?_⟩;have ey:=den_int (hy▸hρ y);have hd':=hρ x;rw [hx] at hd';generalize hvx:a.eval x=v at hd'
  cases hd' with
  |nil base=>
   obtain ⟨newCap,z,g1,g2,hzc,g3⟩:=zOn hT (ty:=o.type) hk hk2 (w:=w) (base:=base) (sLen:=0) (sCap:=0) (k:=q) (kk:=ky) (old:=#[]) (by omega) (by omega) (by omega) (by rw [Nat.zero_add];exact r1) (by omega) (fun w' _=>by cases base<;>simp [Builtin.firstCells,loadCells,loadCellsFrom]);obtain ⟨z1,z2,_⟩:=zXv hzc (zQs hT hke) (zFj hT hke) q.toNat M
   have hlr:(List.replicate q.toNat (T e).zero).length=q.toNat:=List.length_replicate ..
   have hp':=zVn (x:=d) (Ty:=e) (l:=[]) (r:=List.replicate q.toNat (T e).zero) (sz:=(T e).size) (old:=#[]) (vs:=Builtin.zeroCells z.cells q.toNat) (rest:=Builtin.zeroCells z.cells (newCap-(0+q.toNat))) (cap:=newCap) hown hA hh ⟨fun i x h=>by simp at h,fun i j x d h=>by simp at h⟩ (by simp) z1 (by rw [hlr];exact z2) (by rw [hlr];exact g1) (by simp [Builtin.zeroCells,g2]);rw [hlr] at hp';simp only [List.length_nil,Nat.zero_add,List.nil_append] at hp' g3;exact ⟨_,_,hex a w _ _ (by rw [ey,hvx];exact g3),hp'⟩
 ·exact h.elim
end
end Go.Lk
