/-
  What is proved here: what functions of the program compute, and what follows; no condition beyond each theorem's own.
-/
import Derived.Test.YtaofmndhdmkgkaaGreatHAf
import Derived.Great.BuildSlice
set_option linter.unusedSimpArgs false
set_option linter.unusedVariables false
set_option linter.unnecessarySimpa false
set_option linter.unusedSectionVars false
namespace Go.Lk
open Go Go.RowKit
theorem fill_fold (vs:Array Value) (off:Nat):∀ (n:Nat) (l:List Value) (k0:Nat) (cells:Array Value),l=vs.toList.drop k0->off+vs.size<=cells.size->
  ∃ cs:Array Value,(l.zipIdx k0).foldl (fun cs (x:Value×Nat)=>cs.setIfInBounds (off+x.2) x.1) cells=cs/\cs.size=cells.size/\ ∀ k,cs[k]?=if off+k0<=k/\k<off+vs.size then vs[k-off]? else cells[k]?
 |_,[],k0,cells,hl,h=>⟨cells,rfl,rfl,fun k=>by
   have:vs.size<=k0:=by
    have:=congrArg List.length hl
    simp at this;omega
   rw [if_neg (by omega)]⟩
 |n,v::r,k0,cells,hl,h=>by
  have hk:k0<vs.size:=by
   have:=congrArg List.length hl
   simp at this;omega
  have hv:vs.toList.drop k0=vs[k0]::vs.toList.drop (k0+1):=by
   rw [List.drop_eq_getElem_cons (by simpa using hk)];simp
  rw [hv] at hl;simp only [List.cons.injEq] at hl;obtain ⟨rfl,hr⟩:=hl;obtain ⟨cs,e1,e2,e3⟩:=fill_fold vs off n r (k0+1) (cells.setIfInBounds (off+k0) vs[k0]) hr (by simpa using h);refine ⟨cs,by simpa [List.zipIdx_cons] using e1,by simpa using e2,fun k=>?_⟩;rw [e3]
  by_cases h1:off+(k0+1) <=k/\k<off+vs.size
  ·rw [if_pos h1,if_pos ⟨by omega,h1.2⟩]
  ·rw [if_neg h1,Array.getElem?_setIfInBounds]
   by_cases h2:off+k0=k
   ·subst h2;rw [if_pos rfl,if_pos (by omega),if_pos ⟨by omega,by omega⟩];simp [show off+k0-off=k0 by omega,hk]
   ·rw [if_neg h2,if_neg (by omega)]
def CDen (M:Mem) (ι:Inj) (c:List AV) (cs:Array Value):Prop:=cs.size=c.length/\ ∀ (i:Nat) (y:AV) (u:Value),c[i]?=some y->cs[i]?=some u->DenA M ι y u
theorem partsA_out {hp:Nat->Option Blk} {ρ:Operand->AV} {off:Nat->Option (Nat×Nat)}:∀ {ps:List (Nat×Operand)} {c:List AV} {K:List AV->Prop},partsA hp ρ off c ps K->
  ∃ c',K c'/\c'.length=c.length/\ ∀ (own:Nat->Prop) (M:Mem) (ι:Inj) (a:Act) (w:World) (cs:Array Value),HRel own M ι hp w->(∀ x,DenA M ι (ρ x) (a.eval x))->CDen M ι c cs->
   ∃ cs',Instr.fill off cs (ps.map fun p=>(p.1,a.eval p.2))=some cs'/\CDen M ι c' cs'
 | [],c,K,h=>⟨c,h,rfl,fun _ M ι a w cs _ _ hc=>⟨cs,rfl,hc⟩⟩
 |(i,x)::r,c,K,h=>by
  simp only [partsA] at h
  cases ho:off i with
  |none=>simp [ho] at h
  |some p=>
   obtain ⟨o,s⟩:=p;simp only [ho] at h;have h:=(force_out h).1
   cases hb:Nat.beq (cellsOf (ρ x)).length s&&Nat.ble (o+s) c.length with
   |false=>simp only [hb,cond_false] at h
   |true=>
    simp only [hb,cond_true] at h;simp only [Bool.and_eq_true] at hb;have hs:=Nat.eq_of_beq_eq_true hb.1;have hle:=Nat.le_of_ble_eq_true hb.2
    cases hc1:cells1 hp (cellsOf (ρ x)) with
    |false=>simp only [hc1,cond_false] at h
    |true=>
     simp only [hc1,cond_true] at h;rw [spliceF_eq (by rw [hs];exact hle)] at h;obtain ⟨c',hK,hl,hd⟩:=partsA_out h;refine ⟨c',hK,by rw [hl,splice_len],fun own M ι a w cs hh hρ hcs=>?_⟩;obtain ⟨e1,e2,_⟩:=cellsOf_den hh hc1 (hρ x);obtain ⟨cs1,g1,g2,g3⟩:=fill_fold (a.eval x).cells o (a.eval x).cells.size (a.eval x).cells.toList 0 cs (by simp) (by rw [e1,hs,hcs.1];exact hle)
     have hcs1:CDen M ι (splice c o (cellsOf (ρ x))) cs1:=by
      refine ⟨by rw [g2,splice_len];exact hcs.1,fun k y u hy hu=>?_⟩;rw [splice_get _ _ _ _ (by rw [hs];exact hle)] at hy;rw [g3] at hu;rw [e1] at hu;simp only [Nat.add_zero] at hu
      split at hy
      ·rename_i hin;rw [if_pos hin] at hu;exact e2 _ y u hy hu
      ·rename_i hin;rw [if_neg hin] at hu;exact hcs.2 k y u hy hu
     obtain ⟨cs',f1,f2⟩:=hd own M ι a w cs1 hh hρ hcs1;refine ⟨cs',?_,f2⟩
     have hsz:¬((a.eval x).cells.size≠s||decide (o+(a.eval x).cells.size>cs.size))=true:=by
      rw [e1,hs,hcs.1];simp;exact hle
     simp only [List.map_cons,Instr.fill,ho];rw [if_neg (by simpa using hsz)]
     have gz:(a.eval x).cells.zipIdx.foldl (fun cs (x:Value×Nat)=>cs.setIfInBounds (o+x.2) x.1) cs=cs1:=by
      rw [<-g1,<-Array.foldl_toList];simp
     have:(a.eval x).cells.zipIdx.foldl (fun cs (x:Value×Nat)=>match x with|(c,j)=>cs.setIfInBounds (o+j) c) cs=cs1:=gz;rw [this];exact f1
theorem bif_one {a:Bool} {A:Prop} (h:bif a then A else False):a=true/\A:=by
 cases a<;>simp_all
section
variable {P:Program} {T:Tab} (hT:TabOk P T)
include hT
omit hT in
theorem zero_cden {t:TypeId} {z:Value} (hz:zeroChk z.cells.toList (T t).zero=true) (M:Mem) (ι:Inj):CDen M ι ((T t).zero.map zA) z.cells:=by
 have hb:=zero_box (T:=T) hz M ι;refine ⟨hb.size,fun i y u hy hu=>?_⟩;obtain ⟨v,e1,e2⟩:=hb.den i y hy
 rw [hu] at e1;cases e1
 exact e2
theorem run_places (F:List Field) (hF:∀ f∈F,(T f.type).k.known=true) (w:World):
  (F.mapM (m:=Sem) fun f=>do pure (f.offset,<-sizeOf f.type)).run P w=.ok (F.map fun f=>(f.offset,(T f.type).size)) w:=by
 induction F with
 |nil=>simp
 |cons f r ih=>
  simp only [List.mapM_cons,Sem.run_bind,run_sizeT hT w (hF f (List.mem_cons_self ..)),Result.andThen_ok,Sem.run_pure,ih fun g hg=>hF g (List.mem_cons_of_mem _ hg),List.map_cons]
theorem build_sem {o:Oper} {t:TypeId} {ps:Array (Nat×Operand)} {ρ:Operand->AV} {hp:Nat->Option Blk} {K:Eff->Prop} (ho:o.op=.build t ps)
  (h:match (T t).k with
  | .struct fs=>partsA hp ρ (offIn T fs) ((T t).zero.map zA) ps.toList fun c=>forceL c fun c=>K ⟨.agg c,[],none⟩
  | .arr _ e=>partsA hp ρ (fun i=>some (i*(T e).size,(T e).size)) ((T t).zero.map zA) ps.toList fun c=>K ⟨.agg c,[],none⟩
  |_=>False):∃ e,K e/\OpSem P o ρ hp e:=by
 split at h
 ·rename_i fs hk;obtain ⟨F,hu,hF,hkn,_⟩:=und_struct hT hk;obtain ⟨c',hK,hl,hd⟩:=partsA_out h;refine ⟨_,forceL_out hK,opSem_val fun own M ι a w ha hh hρ=>?_⟩;obtain ⟨z,hz,hzc⟩:=run_zeroT hT (t:=t) w (by rw [hk];rfl);obtain ⟨cs',f1,f2⟩:=hd own M ι a w z.cells hh hρ (zero_cden hzc M ι);refine ⟨.agg cs',?_,.agg _ _ f2.1 f2.2⟩
  have hpl:(F.mapM (m:=Sem) fun f=>do pure (f.offset,<-sizeOf f.type)).run P w=.ok (F.map fun f=>(f.offset,(T f.type).size)) w:=by
   rw [Array.mapM_eq_mapM_toList,Sem.run_map,run_places hT F.toList (fun f hf=>hkn (f.offset,f.type) (by rw [<-hF];exact List.mem_map.2 ⟨f,hf,rfl⟩)) w];simp [Result.andThen];apply Array.ext';simp
  have hoff:(fun i=>(F.map fun f=>(f.offset,(T f.type).size))[i]?)=offIn T fs:=by
   funext i
   rw [<-hF];unfold offIn;rw [List.getElem?_map,Array.getElem?_map,Array.getElem?_toList]
   cases F[i]?<;>rfl
  have hps:((ps.map fun (x:Nat×Operand)=>(x.1,a.eval x.2)).toList)=ps.toList.map fun p=>(p.1,a.eval p.2):=by simp
  have e0:(execOp a.eval o).run P w=((Instr.build t (ps.map fun (x:Nat×Operand)=>(x.1,a.eval x.2))).run P w).andThen fun v w=>.ok (.value v) w:=by
   simp [execOp,ho]
  rw [e0];simp only [Instr.build,Sem.run_bind,hz,Result.andThen_ok,run_underlying hu,hpl,hoff,hps,f1,Sem.run_pure]
 ·rename_i n e hk;obtain ⟨hu,hke⟩:=und_arr hT hk;obtain ⟨c',hK,hl,hd⟩:=partsA_out h;refine ⟨_,hK,opSem_val fun own M ι a w ha hh hρ=>?_⟩;obtain ⟨z,hz,hzc⟩:=run_zeroT hT (t:=t) w (by rw [hk];rfl);obtain ⟨cs',f1,f2⟩:=hd own M ι a w z.cells hh hρ (zero_cden hzc M ι);refine ⟨.agg cs',?_,.agg _ _ f2.1 f2.2⟩
  have hps:((ps.map fun (x:Nat×Operand)=>(x.1,a.eval x.2)).toList)=ps.toList.map fun p=>(p.1,a.eval p.2):=by simp
  have e0:(execOp a.eval o).run P w=((Instr.build t (ps.map fun (x:Nat×Operand)=>(x.1,a.eval x.2))).run P w).andThen fun v w=>.ok (.value v) w:=by
   simp [execOp,ho]
  rw [e0];simp only [Instr.build,Sem.run_bind,hz,Result.andThen_ok,run_underlying hu,run_sizeT hT w hke,hps,f1,Sem.run_pure]
 ·exact h.elim
omit hT in
theorem chunk_len (sz:Nat):∀ (n:Nat) (xs:List D),(opG.chunk sz n xs).length=n
 |0,_=>rfl
 |n+1,xs=>by simp [opG.chunk,chunk_len sz n]
omit hT in
theorem chunk_get (sz:Nat):∀ (n:Nat) (xs:List D) (i:Nat),i<n->(opG.chunk sz n xs)[i]?=some ((xs.drop (i*sz)).take sz)
 |0,_,_,h=>by omega
 |n+1,xs,0,_=>by simp [opG.chunk]
 |n+1,xs,i+1,h=>by
  simp only [opG.chunk,List.getElem?_cons_succ];rw [chunk_get sz n (xs.drop sz) i (by omega),List.drop_drop];rw [show sz+i*sz=(i+1)*sz by rw [Nat.add_mul,Nat.one_mul,Nat.add_comm]]
theorem zeros_cden {e:TypeId} (hk:(T e).k.known=true) {z:Value} (hz:zeroChk z.cells.toList (T e).zero=true) (n:Nat) (M:Mem) (ι:Inj):
  CDen M ι (zeros T e n) ((Array.range (n*(T e).size)).map (z.cells[·%z.cells.size]!)):=by
 obtain ⟨e1,e2⟩:=zeroChk_get hz;have hzl:=zero_len hT hk;have hpos:=size_pos hT hk
 have hzs:z.cells.size=(T e).size:=by rw [<-hzl,<-e1];simp
 refine ⟨by simp [zeros],fun i y u hy hu=>?_⟩;simp only [zeros,List.getElem?_map] at hy;simp only [Array.getElem?_map] at hu
 by_cases hi:i<n*(T e).size
 ·rw [List.getElem?_range hi] at hy;simp only [Option.map_some,Option.some.injEq] at hy;rw [Array.getElem?_range] at hu;rw [if_pos hi] at hu;simp only [Option.map_some,Option.some.injEq] at hu;have hm:i%(T e).size<(T e).size:=Nat.mod_lt _ hpos;have hd:(T e).zero[i%(T e).size]?=some ((T e).zero[i%(T e).size]'(by omega)):=List.getElem?_eq_getElem (by omega);obtain ⟨v,g1,g2,g3⟩:=e2 _ _ hd
  have hu2:u=v:=by
   rw [<-hu,hzs]
   have:z.cells[i%(T e).size]?=some v:=by simpa using g1
   have hlt:i%(T e).size<z.cells.size:=by omega
   rw [getElem!_pos z.cells _ hlt];rw [Array.getElem?_eq_getElem hlt] at this
   simpa using this
  rw [<-hy,hu2]
  have:(T e).zero.getD (i%(T e).size) .nilp=(T e).zero[i%(T e).size]'(by omega):=by
   simp [List.getD,hd]
  rw [this];exact zA_den (g2 M) g3
 ·rw [List.getElem?_eq_none (by simp;omega)] at hy;simp at hy
omit hT in
theorem cells_den_frz {own:Nat->Prop} {M M1:Mem} {ι:Inj} {hp hp1:Nat->Option Blk} {w:World} (h1:HRel own M1 ι hp1 w) (s1:Sub M M1) (l1:FrzLe hp hp1) {c:List AV} {ds:List D} {cs:Array Value}
  (hf:∀ b l sz fr,b∈openNames.cells hp c->hp b=some (.row l sz fr)->hp1 b=some (.row l sz true)) (hc:conv.cells hp c=some ds) (hd:CDen M ι c cs):
  ds.length=c.length/\ ∀ (k:Nat) (d:D),ds[k]?=some d->∃ u,cs[k]?=some u/\DenD M1 d u:=by
 obtain ⟨x1,x2⟩:=conv_cells_get hc;refine ⟨x1,fun k d hk=>?_⟩;obtain ⟨z,z1,z2,_⟩:=x2 k d hk;have hkl:=(List.getElem?_eq_some_iff.1 z1).1
 have hu:cs[k]?=some (cs[k]'(by rw [hd.1];exact hkl)):=by simp [hd.1,hkl]
 refine ⟨_,hu,den_conv_one h1 (by rw [conv_one_frz l1];exact z2) ?_ ((hd.2 k z _ z1 hu).mono s1)⟩;have:=openNames_frz (hp0:=hp) hf l1 (.agg c) (fun b hb=>by simpa [openNames] using hb)
 have hz:∀ (c:List AV) (hp:Nat->Option Blk),openNames.cells hp c=[]->∀ (k:Nat) (z:AV),c[k]?=some z->openNames.one hp z=[]:=by
  intro c hp
  induction c with
  |nil=>intro _ k z hz;simp at hz
  |cons q r ih=>
   intro hq k z hz;simp only [openNames.cells,List.append_eq_nil_iff] at hq
   cases k with
   |zero=>simp at hz;subst hz;exact hq.1
   |succ k=>exact ih hq.2 k z (by simpa using hz)
 exact hz _ _ (by simpa [openNames] using this) k z z1
omit hT in
theorem post_row {own:Nat->Prop} {M M1:Mem} {ι:Inj} {hp hp1:Nat->Option Blk} {w:World} (ho:∀ c,w.heap.size<=c->own c) (hs:Sub M M1) (hn:NewDom own M M1) (ha:Agree M1 w) (hh:HRel own M1 ι hp1 w)
  {e:Eff} {d:Nat} {l:List (List D)} {sz:Nat} {vs:Array Value} {Ty:TypeId} {cap:Nat} (he:e.hp hp=upd (killH (some d) hp1) d (some (.row l sz false))) (hk:e.kl=some d) (hav:e.av=.own d)
  (hrow:RowAt M1 vs l sz) (hcap:l.length<=cap) (hsz:cap*sz<=vs.size):
  Post own M ι hp w e (.slice (some ⟨w.heap.size,0,none⟩) l.length cap) (w.alloc (.cells vs Ty)):=by
 refine post_new ho hs hn ha hh rfl rfl rfl rfl (d:=d) (B:=.row l sz false) (sz:=sz) (len:=l.length) he hk ?_ ?_
 ·exact ⟨vs,Ty,heap_alloc_size w _,rfl,rfl,rfl,Nat.le_trans (Nat.mul_le_mul_right _ hcap) hsz,hrow,(by intro e;cases e),fun _ o=>agree_new ha o⟩
 ·rw [hav];exact .own d ⟨w.heap.size,sz,vs.size,l.length⟩ cap (upd_same _ _ _) hcap hsz
theorem buildSlice_sem {o:Oper} {t:TypeId} {n:Nat} {ps:Array (Nat×Operand)} {d:Tmp} {ρ:Operand->AV} {hp:Nat->Option Blk} {K:Eff->Prop} (ho:o.op=.buildSlice t n ps)
  (h:match (T t).k with
   | .slice e=>partsA hp ρ (fun i=>some (i*(T e).size,(T e).size)) (zeros T e n) ps.toList fun c=>condK (n*(T e).size<=16777216) (match conv.cells hp c with
    |some xs=>K ⟨.own d,frz hp (openNames.cells hp c)++[(d,.row (opG.chunk (T e).size n xs) (T e).size false)],some d⟩
    |none=>False)
   |_=>False):∃ e,K e/\OpSem P o ρ hp e:=by
 split at h
 ·rename_i e hk;obtain ⟨hu,hke⟩:=und_slice hT hk;obtain ⟨c',h,hl,hd⟩:=partsA_out h;obtain ⟨hsm,h⟩:=condK_out h
  cases hcv:conv.cells hp c' with
  |none=>simp [hcv] at h
  |some xs=>
   simp only [hcv] at h;refine ⟨_,h,opSem_run fun own M ι a w hown ha hh hρ=>?_⟩
   obtain ⟨ie,z,hie,hsz,hz,hzc⟩:∃ ie z,P.info? e=some ie/\ie.size=(T e).size/\ie.zero=some z/\zeroChk z.cells.toList (T e).zero=true:=by
    obtain ⟨_,ie,_,hi,_,hs,_,⟨z,hz,hc⟩,_⟩:=(tyFact hT hke).desc;exact ⟨ie,z,hi,hs,hz,hc⟩
   obtain ⟨M1,s1,a1,n1,h1,l1,f1⟩:=freezeAll (hp0:=hp) (openNames.cells hp c') M hp ha hh (.refl hp);obtain ⟨cs',g1,g2⟩:=hd own M ι a w _ hh hρ (zeros_cden hT hke hzc n M ι)
   have hps:((ps.map fun (x:Nat×Operand)=>(x.1,a.eval x.2)).toList)=ps.toList.map fun p=>(p.1,a.eval p.2):=by simp
   obtain ⟨x1,x2⟩:=cells_den_frz h1 s1 l1 (fun b l sz fr hb e=>f1 b l sz fr (.inl hb) e) hcv g2
   have hcl:c'.length=n*(T e).size:=by rw [hl];simp [zeros]
   have hrow:RowAt M1 cs' (opG.chunk (T e).size n xs) (T e).size:=by
    have hlt:∀ (i:Nat) (el:List D),(opG.chunk (T e).size n xs)[i]?=some el->i<n/\el=(xs.drop (i*(T e).size)).take (T e).size:=by
     intro i el hel
     have hi:i<n:=by
      have:=(List.getElem?_eq_some_iff.1 hel).1
      rwa [chunk_len] at this
     rw [chunk_get _ n xs i hi] at hel;exact ⟨hi,by simpa using hel.symm⟩
    have hbd:∀ i,i<n->i*(T e).size+(T e).size<=xs.length:=by
     intro i hi;rw [x1,hcl]
     calc i*(T e).size+(T e).size=(i+1)*(T e).size:=by rw [Nat.add_mul,Nat.one_mul]
      _<=n*(T e).size:=Nat.mul_le_mul_right _ hi
    refine ⟨fun i el hel=>?_,fun i j el d' hel hd'=>?_⟩
    ·obtain ⟨hi,rfl⟩:=hlt i el hel;have:=hbd i hi
     simp;omega
    ·obtain ⟨hi,rfl⟩:=hlt i el hel;rw [List.getElem?_take] at hd'
     split at hd'
     ·rw [List.getElem?_drop] at hd';exact x2 _ _ hd'
     ·cases hd'
   have hpost:=post_row (d:=d) (Ty:=e) (cap:=n) hown s1 n1 a1 h1 (e:=⟨.own d,frz hp (openNames.cells hp c')++[(d,.row (opG.chunk (T e).size n xs) (T e).size false)],some d⟩) (vs:=cs') (l:=opG.chunk (T e).size n xs) (sz:=(T e).size) (eff_hp_frz _ _ _ _) rfl rfl hrow (by rw [chunk_len];exact Nat.le_refl _) (by rw [g2.1,hcl];exact Nat.le_refl _);rw [chunk_len] at hpost;refine ⟨_,_,?_,hpost⟩
   have e0:(execOp a.eval o).run P w=((Instr.buildSlice t n (ps.map fun (x:Nat×Operand)=>(x.1,a.eval x.2))).run P w).andThen fun v w=>.ok (.value v) w:=by
    simp [execOp,ho]
   rw [e0]
   by_cases hn:n=0
   ·subst hn
    have hcs:((Array.range (0*(T e).size)).map (z.cells[·%z.cells.size]!))=#[]:=by simp
    rw [hcs] at g1;simp only [Instr.buildSlice,Sem.run_bind,run_underlying hu,Result.andThen_ok,run_sizeT hT w hke]
    have hr0:(Array.range 0).map (fun _=>(default:Value))=#[]:=by simp
    have g1':Instr.fill (fun i=>some (i*(T e).size,(T e).size)) #[] (ps.toList.map fun x=>(x.1,a.eval x.2))=some cs':=g1;simp [hps,newRow];rw [hr0,g1'];simp [newObj];rfl
   ·have hp0:¬n*ie.size=0:=by
     rw [hsz];have:=size_pos hT hke;intro h0
     rcases Nat.mul_eq_zero.1 h0 with h|h<;>omega
    have h24:¬n*ie.size>2^24:=by rw [hsz];omega
    rw [run_buildSlice (P:=P) w t e n _ cs' ie z hu hie hz h24 hp0 (by rw [hsz,hps];exact g1)];rfl
 ·exact h.elim
theorem makeSlice_sem {o:Oper} {t:TypeId} {x y:Operand} {d:Tmp} {ρ:Operand->AV} {hp:Nat->Option Blk} {K:Eff->Prop} {n c:Int} {k1 k2:IntKind} (ho:o.op=.makeSlice t x y) (hx:ρ x=.d (.int k1 n)) (hy:ρ y=.d (.int k2 c)) {e:TypeId} (hk:(T t).k=.slice e)
  (h:condK (0<=n/\n<=c) (roomK c.toNat (T e).bytes (K ⟨.own d,[(d,.row (List.replicate n.toNat (T e).zero) (T e).size false)],some d⟩))):∃ e,K e/\OpSem P o ρ hp e:=by
 obtain ⟨hu,hke⟩:=und_slice hT hk;obtain ⟨⟨h0,hnc⟩,h⟩:=condK_out h;obtain ⟨r1,r2,h⟩:=roomK_out h;refine ⟨_,h,opSem_run fun own M ι a w hown ha hh hρ=>?_⟩;have ex:=den_int (hx▸hρ x);have ey:=den_int (hy▸hρ y)
 obtain ⟨ie,z,hie,hsz,hby,hz,hzc⟩:∃ ie z,P.info? e=some ie/\ie.size=(T e).size/\ie.bytes=(T e).bytes/\ie.zero=some z/\zeroChk z.cells.toList (T e).zero=true:=by
  obtain ⟨_,ie,_,hi,_,hs,hb,⟨z,hz,hc⟩,_⟩:=(tyFact hT hke).desc;exact ⟨ie,z,hi,hs,hb,hz,hc⟩
 obtain ⟨z1,z2⟩:=zeroChk_get hzc;have hzl:=zero_len hT hke;have hpos:=size_pos hT hke
 have hzs:z.cells.size=(T e).size:=by rw [<-hzl,<-z1];simp
 have hc0:(c.toNat:Int)=c:=by omega
 have hrun:=run_make (P:=P) w t e ie z hu hie hz k1 k2 n c h0 hnc (by
  rw [hby,<-hc0,Int.mul_comm]
  have:((c.toNat*(T e).bytes:Nat):Int) <=35184372088832:=by omega
  rw [Int.natCast_mul] at this
  omega) (by omega)
 have hrow:RowAt M (madeCells z.cells (c.toNat*ie.size)) (List.replicate n.toNat (T e).zero) (T e).size:=by
  refine ⟨fun i el hel=>?_,fun i j el d' hel hd'=>?_⟩
  ·rw [List.getElem?_replicate] at hel
   split at hel
   ·cases hel;exact hzl
   ·cases hel
  ·rw [List.getElem?_replicate] at hel
   split at hel
   ·rename_i hi
    cases hel
    have hj:=(List.getElem?_eq_some_iff.1 hd').1;rw [hzl] at hj;obtain ⟨v,g1,g2,_⟩:=z2 j d' hd';refine ⟨v,?_,g2 M⟩
    have hlt:i*(T e).size+j<c.toNat*ie.size:=by
     rw [hsz]
     calc i*(T e).size+j<i*(T e).size+(T e).size:=by omega
      _=(i+1)*(T e).size:=by rw [Nat.add_mul,Nat.one_mul]
      _<=c.toNat*(T e).size:=Nat.mul_le_mul_right _ (by omega)
    simp only [madeCells,Array.getElem?_map,Array.getElem?_range,if_pos hlt,Option.map_some,Option.some.injEq];rw [hzs,Nat.mul_comm,Nat.mul_add_mod,Nat.mod_eq_of_lt hj]
    have hlt2:j<z.cells.size:=by omega
    rw [getElem!_pos z.cells _ hlt2]
    have:z.cells[j]?=some v:=by simpa using g1
    rw [Array.getElem?_eq_getElem hlt2] at this
    simpa using this
   ·cases hel
 have hpost:=post_row (d:=d) (Ty:=e) (cap:=c.toNat) (hp:=hp) hown (.refl M) (.refl own M) ha hh (e:=⟨.own d,[(d,.row (List.replicate n.toNat (T e).zero) (T e).size false)],some d⟩) rfl rfl rfl hrow (by simp;omega) (by rw [size_madeCells,hsz];exact Nat.le_refl _);refine ⟨_,_,?_,by simpa using hpost⟩;simp [execOp,ho,ex,ey,hrun]
end
theorem one_cell {M:Mem} {d:D} {v:Value} (h:cell1.one d=true) (hd:DenD M d v):v.oneCell'=true:=by
 cases hd<;>simp [cell1.one] at h<;>rfl
theorem okRows_get {sz:Nat} {l:List (List D)} (h:okRows sz l=true):∀ (i:Nat) (e:List D),l[i]?=some e->e.length=sz/\ ∀ d∈e,cell1.one d=true:=by
 intro i e he;simp only [okRows,List.all_eq_true] at h;have:=h e (List.mem_of_getElem? he);simp only [okRow,Bool.and_eq_true,List.all_eq_true] at this;exact ⟨Nat.eq_of_beq_eq_true this.1,this.2⟩
structure SrcAt (P:Program) (M:Mem) (w:World) (u:Value) (l:List (List D)) (sz:Nat) (vs:Array Value):Prop where
 size:vs.size=l.length*sz
 row:RowAt M vs l sz
 one:okRows sz l=true->∀ v∈vs.toList,v.oneCell'=true
 run:∀ w':World,(∀ a,(w.cell? a).isSome->w'.cell? a=w.cell? a)->(Builtin.firstCells sz l.length u).run P w'=.ok vs w'
theorem idx_lt {i j n sz:Nat} (hi:i<n) (hj:j<sz):i*sz+j<n*sz:=by
 calc i*sz+j<i*sz+sz:=by omega
  _=(i+1)*sz:=by rw [Nat.add_mul,Nat.one_mul]
  _<=n*sz:=Nat.mul_le_mul_right _ hi
theorem idx_split {k n sz:Nat} (hk:k<n*sz):∃ i j,k=i*sz+j/\i<n/\j<sz:=by
 have hs:0<sz:=by
  rcases Nat.eq_zero_or_pos sz with h|h
  ·subst h;simp at hk
  ·exact h
 refine ⟨k/sz,k%sz,?_,?_,Nat.mod_lt _ hs⟩
 ·have:=Nat.div_add_mod k sz
  rw [Nat.mul_comm];omega
 ·exact Nat.div_lt_of_lt_mul (by rwa [Nat.mul_comm])
theorem src_cells {P:Program} {M:Mem} {w:World} {l:List (List D)} {sz:Nat} (blk off cap:Nat) (val:Nat->Nat->Value) (hlen:∀ (i:Nat) (e:List D),l[i]?=some e->e.length=sz)
  (hm:∀ (i j:Nat) (e:List D) (d:D),l[i]?=some e->e[j]?=some d->w.cell? ⟨blk,off+i*sz+j,none⟩=some (val i j))
  (hd:∀ (i j:Nat) (e:List D) (d:D),l[i]?=some e->e[j]?=some d->DenD M d (val i j)):
  ∃ vs,SrcAt P M w (.slice (some ⟨blk,off,none⟩) l.length cap) l sz vs:=by
 have key:∀ k,k<l.length*sz->∃ i j e d,k=i*sz+j/\l[i]?=some e/\e[j]?=some d:=by
  intro k hk;obtain ⟨i,j,hkij,hi,hj⟩:=idx_split hk;have he:l[i]?=some l[i]:=List.getElem?_eq_getElem hi;have hl:=hlen i _ he;exact ⟨i,j,l[i],l[i][j],hkij,he,List.getElem?_eq_getElem (by omega)⟩
 have hs0:∀ i j,j<sz->(i*sz+j)/sz=i/\ (i*sz+j)%sz=j:=by
  intro i j hj
  have:0<sz:=by omega
  rw [Nat.mul_comm i sz];exact ⟨by rw [Nat.mul_add_div this,Nat.div_eq_of_lt hj,Nat.add_zero],by rw [Nat.mul_add_mod,Nat.mod_eq_of_lt hj]⟩
 refine ⟨((List.range (l.length*sz)).map fun k=>val (k/sz) (k%sz)).toArray,by simp,⟨hlen,fun i j e d he hj=>?_⟩,fun hok v hv=>?_,fun w' hw'=>?_⟩
 ·have hi:=(List.getElem?_eq_some_iff.1 he).1;have hjl:=(List.getElem?_eq_some_iff.1 hj).1;rw [hlen i e he] at hjl;refine ⟨val i j,?_,hd i j e d he hj⟩;simp only [List.getElem?_toArray,List.getElem?_map,List.getElem?_range (idx_lt hi hjl),Option.map_some,(hs0 i j hjl).1,(hs0 i j hjl).2]
 ·simp only [List.mem_map,List.mem_range] at hv;obtain ⟨k,hk,rfl⟩:=hv;obtain ⟨i,j,e,d,rfl,he,hj⟩:=key k hk;have hjl:=(List.getElem?_eq_some_iff.1 hj).1;rw [hlen i e he] at hjl;rw [(hs0 i j hjl).1,(hs0 i j hjl).2];exact one_cell ((okRows_get hok i e he).2 d (List.mem_of_getElem? hj)) (hd i j e d he hj)
 ·simp only [Builtin.firstCells];rw [run_loadCells w' ⟨blk,off,none⟩ (l.length*sz) (fun k=>val (k/sz) (k%sz)) fun k hk=>?_];obtain ⟨i,j,e,d,rfl,he,hj⟩:=key k hk;have hjl:=(List.getElem?_eq_some_iff.1 hj).1;rw [hlen i e he] at hjl;rw [(hs0 i j hjl).1,(hs0 i j hjl).2,addr_add,hw' _ (by rw [show off+(i*sz+j)=off+i*sz+j by omega,hm i j e d he hj];rfl)];rw [show off+(i*sz+j)=off+i*sz+j by omega];exact hm i j e d he hj
theorem src_empty {P:Program} {M:Mem} {w:World} {sz:Nat} (a:Option Addr) (c:Nat):SrcAt P M w (.slice a 0 c) [] sz #[]:=by
 refine ⟨by simp,⟨fun i e h=>by simp at h,fun i j e d h=>by simp at h⟩,fun _ v hv=>by simp at hv,fun w' _=>?_⟩
 cases a with
 |none=>simp [Builtin.firstCells]
 |some a=>
  simp only [Builtin.firstCells,List.length_nil,Nat.zero_mul];rw [run_loadCells w' a 0 (fun _=>undef) (fun j hj=>by omega)];rfl
theorem win_src {P:Program} {own:Nat->Prop} {M:Mem} {ι:Inj} {hp:Nat->Option Blk} {w:World} (hh:HRel own M ι hp w) {b lo n:Nat} {c:Option Nat} {l:List (List D)} {sz:Nat} {fr:Bool} (hb:hp b=some (.row l sz fr)) {u:Value} (hd:DenA M ι (.win b lo n c) u) (hle:lo+n<=l.length):
  ∃ vs k base L,u=.slice (some ⟨L,base,none⟩) ((l.drop lo).take n).length k/\SrcAt P M w u ((l.drop lo).take n) sz vs:=by
 have hlen:((l.drop lo).take n).length=n:=by simp;omega
 cases hd with
 |winL _ _ _ _ _ hL=>rw [(hh.dom b).2 hL] at hb;cases hb
 |win _ _ _ _ L k base hL hn hc hk hbb=>
  obtain ⟨_,cs,Ty,hheap,hsz,q1,q2,q3,q4,q5⟩:=hh.at_ b _ L hb hL;rw [hlen]
  by_cases h0:n=0
  ·subst h0;exact ⟨#[],k,base,L.blk,rfl,by rw [List.take_zero];exact src_empty _ k⟩
  ·have hbase:base=lo*L.sz:=by
    rcases hbb with h|h
    ·exact h
    ·omega
   subst hbase
   have hget:∀ (i:Nat) (e:List D),((l.drop lo).take n)[i]?=some e->l[lo+i]?=some e:=by
    intro i e he;rw [List.getElem?_take] at he
    split at he
    ·rwa [List.getElem?_drop] at he
    ·cases he
   obtain ⟨vs,hvs⟩:=src_cells (P:=P) (M:=M) (w:=w) (l:=(l.drop lo).take n) (sz:=sz) L.blk (lo*L.sz) k (fun i j=>(cs[(lo+i)*sz+j]?).getD undef) (fun i e he=>q4.len _ e (hget i e he)) (fun i j e d he hj=>by
     obtain ⟨v,e1,e2⟩:=q4.den _ j e d (hget i e he) hj
     rw [cell_of_heap hheap,<-q1,show lo*sz+i*sz+j=(lo+i)*sz+j by rw [Nat.add_mul],e1];rfl) (fun i j e d he hj=>by
     obtain ⟨v,e1,e2⟩:=q4.den _ j e d (hget i e he) hj
     simpa [e1] using e2)
   rw [hlen] at hvs;exact ⟨vs,k,_,L.blk,rfl,hvs⟩
theorem srcRow_out {P:Program} {sz:Nat} {v:AV} {hp:Nat->Option Blk} {K:List (List D)->Prop} (h:srcRow sz v hp K):
  ∃ l,K l/\ ∀ (own:Nat->Prop) (M:Mem) (ι:Inj) (w:World) (u:Value),Agree M w->HRel own M ι hp w->DenA M ι v u->∃ a c vs,u=.slice a l.length c/\SrcAt P M w u l sz vs/\ ∀ v∈vs.toList,v.oneCell'=true:=by
 unfold srcRow at h
 split at h
 ·rename_i l;obtain ⟨hok,h⟩:=condK_out h;refine ⟨l,h,fun own M ι w u ha hh hd=>?_⟩
  cases hd with
  |d _ _ hd=>
   cases hd with
   |emp a c=>exact ⟨a,c,#[],rfl,src_empty a c,fun v hv=>by simp at hv⟩
   |lst _ b off cap sz' val hl hs hm hdd=>
    have hsz:∀ i e,l[i]?=some e->sz'=sz:=fun i e he=>(hs i e he).symm.trans (okRows_get hok i e he).1
    obtain ⟨vs,hvs⟩:=src_cells (P:=P) (M:=M) (w:=w) b off cap val (fun i e he=>(okRows_get hok i e he).1) (fun i j e d he hj=>by
     have:=hsz i e he;subst this
     exact ha _ _ _ (hm i j e d he hj)) hdd
    exact ⟨_,_,vs,rfl,hvs,hvs.one hok⟩
 ·refine ⟨[],h,fun own M ι w u ha hh hd=>?_⟩
  cases hd with
  |nil a=>exact ⟨a,0,#[],rfl,src_empty a 0,fun v hv=>by simp at hv⟩
 ·rename_i b
  split at h
  ·rename_i l sz' fr hb
   cases hs:Nat.beq sz' sz with
   |false=>simp [hs] at h
   |true=>
    simp only [hs,cond_true] at h;have:=Nat.eq_of_beq_eq_true hs;subst this;obtain ⟨hok,h⟩:=condK_out h;refine ⟨l,h,fun own M ι w u ha hh hd=>?_⟩
    cases hd with
    |own _ L cap hL hn hc=>
     obtain ⟨_,cs,Ty,hheap,hsz,q1,q2,q3,q4,q5⟩:=hh.at_ b _ L hb hL
     obtain ⟨vs,hvs⟩:=src_cells (P:=P) (M:=M) (w:=w) L.blk 0 cap (fun i j=>(cs[i*sz'+j]?).getD undef) q4.len (fun i j e d he hj=>by
      obtain ⟨v,e1,e2⟩:=q4.den i j e d he hj
      rw [cell_of_heap hheap,Nat.zero_add,e1];rfl) (fun i j e d he hj=>by
      obtain ⟨v,e1,e2⟩:=q4.den i j e d he hj
      simpa [e1] using e2)
     rw [<-q2];exact ⟨_,_,vs,rfl,hvs,hvs.one hok⟩
    |ownE _ a hL=>
     obtain ⟨sz2,fr2,e⟩:=hh.virt b hL
     rw [hb] at e;cases e
     exact ⟨a,0,#[],rfl,src_empty a 0,fun v hv=>by simp at hv⟩
    |ownL _ _ hL=>rw [(hh.dom b).2 hL] at hb;cases hb
  ·exact h.elim
 ·rename_i b lo n c
  split at h
  ·rename_i l sz' fr hb
   cases hs:Nat.beq sz' sz with
   |false=>simp [hs] at h
   |true=>
    simp only [hs,cond_true] at h;have:=Nat.eq_of_beq_eq_true hs;subst this;obtain ⟨⟨hle,hok⟩,h⟩:=condK_out h;refine ⟨_,h,fun own M ι w u ha hh hd=>?_⟩;obtain ⟨vs,k,base,L,e1,e2⟩:=win_src (P:=P) hh hb hd hle;exact ⟨_,_,vs,e1,e2,e2.one hok⟩
  ·exact h.elim
 ·exact h.elim
theorem row_append {M:Mem} {cs vs cs':Array Value} {l r:List (List D)} {sz:Nat} (h1:RowAt M cs l sz) (h2:RowAt M vs r sz)
  (e1:∀ k,k<l.length*sz->cs'[k]?=cs[k]?) (e2:∀ k,k<r.length*sz->cs'[l.length*sz+k]?=vs[k]?):RowAt M cs' (l++r) sz:=by
 refine ⟨fun i e he=>?_,fun i j e d he hj=>?_⟩
 ·by_cases hi:i<l.length
  ·rw [List.getElem?_append_left hi] at he;exact h1.len i e he
  ·rw [List.getElem?_append_right (by omega)] at he;exact h2.len _ e he
 ·have hjl:=(List.getElem?_eq_some_iff.1 hj).1
  by_cases hi:i<l.length
  ·rw [List.getElem?_append_left hi] at he;rw [h1.len i e he] at hjl;rw [e1 _ (idx_lt hi hjl)];exact h1.den i j e d he hj
  ·rw [List.getElem?_append_right (by omega)] at he;rw [h2.len _ e he] at hjl;obtain ⟨m,rfl⟩:∃ m,i=l.length+m:=⟨i-l.length,by omega⟩;simp only [Nat.add_sub_cancel_left] at he;have hm:=(List.getElem?_eq_some_iff.1 he).1;rw [Nat.add_mul,Nat.add_assoc,e2 _ (idx_lt hm hjl)];exact h2.den m j e d he hj
theorem growBy_le (newLen:Nat):∀ (r c:Nat),c<=newLen->Builtin.growBy newLen r c<=2*newLen+192
 |0,c,h=>by simp [Builtin.growBy];omega
 |r+1,c,h=>by
  simp only [Builtin.growBy]
  split
  ·omega
  ·by_cases h2:c+(c+768)/4<=newLen
   ·exact growBy_le newLen r _ h2
   ·have hst:∀ (r c:Nat),newLen<=c->Builtin.growBy newLen r c=c:=by
     intro r c hc
     cases r with
     |zero=>rfl
     |succ r=>simp [Builtin.growBy,hc]
    rw [hst _ _ (by omega)];omega
theorem nextcap_le {need old:Nat} (h:old<need):Builtin.nextslicecap need old<=2*need+192:=by
 unfold Builtin.nextslicecap
 split
 ·omega
 ·split
  ·omega
  ·exact growBy_le _ _ _ (by omega)
section
variable {P:Program} {T:Tab} (hT:TabOk P T)
include hT
theorem append_fits {t t2 e e2 ty:TypeId} (hk:(T t).k=.slice e) (hk2:(T t2).k=.slice e2) {w w':World} {base:Option Addr} {sLen sCap n c:Nat} {a:Option Addr} {vs:Array Value}
  (hn:sLen+n<=sCap) (hf:(Builtin.firstCells (T e).size n (.slice a n c)).run P w=.ok vs w)
  (hst:match base with|none=>w'=w|some b=>(storeCells (b.add (sLen*(T e).size)) vs.toList).run P w=.ok () w'):
  (Builtin.append_ #[t,t2] ty #[.slice base sLen sCap,.slice a n c]).run P w=.ok (.slice base (sLen+n) sCap) w':=by
 obtain ⟨hu,hke⟩:=und_slice hT hk;obtain ⟨hu2,_⟩:=und_slice hT hk2;have e1:(#[t,t2]:Array TypeId)[1]?=some t2:=rfl
 cases base with
 |none=>
  subst hst;simp [Builtin.append_,run_underlying hu,run_underlying hu2,run_sizeT hT,hke,Builtin.lenOf,hn,hf]
 |some b=>
  simp [Builtin.append_,run_underlying hu,run_underlying hu2,run_sizeT hT,hke,Builtin.lenOf,hn,hf,hst]
theorem append_grows {t t2 e e2 ty:TypeId} (hk:(T t).k=.slice e) (hk2:(T t2).k=.slice e2) {w:World} {base:Option Addr} {sLen sCap n c:Nat} {a:Option Addr} {vs old:Array Value}
  (hn:sCap<sLen+n) (hroom:(sLen+n)*(T e).bytes<=35184372088832) (hroom1:sLen+n<=35184372088832)
  (hf:∀ w':World,(∀ x,(w.cell? x).isSome->w'.cell? x=w.cell? x)->(Builtin.firstCells (T e).size n (.slice a n c)).run P w'=.ok vs w')
  (ho:∀ w':World,(∀ x,(w.cell? x).isSome->w'.cell? x=w.cell? x)->(Builtin.firstCells (T e).size sLen (.slice base sLen sCap)).run P w'=.ok old w'):
  ∃ (newCap:Nat) (z:Value),sLen+n<=newCap/\z.cells.size=(T e).size/\ (Builtin.append_ #[t,t2] ty #[.slice base sLen sCap,.slice a n c]).run P w=
   .ok (.slice (some ⟨w.heap.size,0,none⟩) (sLen+n) newCap) (w.drew.alloc (.cells (old++vs++Builtin.zeroCells z.cells (newCap-(sLen+n))) e)):=by
 obtain ⟨hu,hke⟩:=und_slice hT hk;obtain ⟨hu2,_⟩:=und_slice hT hk2;obtain ⟨_,ie,_,hie,_,hs,hb,⟨z,hz,hzc⟩,_,hbm,hzl,_⟩:=(tyFact hT hke).desc
 have hzs:z.cells.size=(T e).size:=by
  obtain ⟨z1,_⟩:=zeroChk_get hzc
  rw [<-hzl,<-z1];simp
 have h1:¬(sLen+n<=sCap):=by omega
 have hcap:=nextcap_le hn
 have h2:¬(Builtin.nextslicecap (sLen+n) sCap*ie.bytes>2^48):=by
  rw [hb];have hm:Builtin.nextslicecap (sLen+n) sCap*(T e).bytes<= (2*(sLen+n)+192)*(T e).bytes:=Nat.mul_le_mul_right _ hcap
  have:(2*(sLen+n)+192)*(T e).bytes=2*((sLen+n)*(T e).bytes)+192*(T e).bytes:=by rw [Nat.add_mul,Nat.mul_assoc]
  have h48:(2:Nat)^48=281474976710656:=by decide
  rw [h48];omega
 have h3:¬(((sLen+n:Nat):Int)>IntKind.i64.max):=by
  have:IntKind.i64.max=9223372036854775807:=by decide
  rw [this];omega
 have hd:∀ x,(w.cell? x).isSome->w.drew.cell? x=w.cell? x:=fun x _=>rfl
 refine ⟨sLen+n+w.tape w.drawn (.appendCap (sLen+n) sCap e)%(2^63-(sLen+n)),z,by omega,hzs,?_⟩;have hf':=hf w.drew hd;have ho':=ho w.drew hd
 have hch:(choose (.appendCap (sLen+n) sCap e)).run P w=.ok (sLen+n+w.tape w.drawn (.appendCap (sLen+n) sCap e)%(2^63-(sLen+n))) w.drew:=by
  simp [run_choose,Question.forced,Question.cut]
 have h3':¬(9223372036854775807<(sLen:Int)+(n:Int) /\ie.bytes=0):=by
  rintro ⟨h,_⟩;omega
 have hzr:(zeroValue e).run P w.drew=.ok z w.drew:=by simp [zeroValue,typeInfo,hie,hz]
 simp [Builtin.append_,run_underlying hu,run_underlying hu2,run_sizeT hT,hke,Builtin.lenOf,h1,typeInfo,hie,h3',h2,Question.forced,Question.cut,ho',hf',hzr,newRow]
end
section
variable {P:Program} {T:Tab} (hT:TabOk P T)
include hT
theorem grown_post {own:Nat->Prop} {M:Mem} {ι:Inj} {hp:Nat->Option Blk} {w:World} (ho:∀ c,w.heap.size<=c->own c) (ha:Agree M w) (hh:HRel own M ι hp w) {x:Nat} {l r:List (List D)} {sz:Nat} {old vs rest:Array Value} {Ty:TypeId} {cap:Nat}
  (h1:RowAt M old l sz) (s1:old.size=l.length*sz) (h2:RowAt M vs r sz) (s2:vs.size=r.length*sz) (hcap:l.length+r.length<=cap) (s3:rest.size=(cap-(l.length+r.length))*sz):
  Post own M ι hp w ⟨.own x,[(x,.row (l++r) sz false)],some x⟩ (.slice (some ⟨w.heap.size,0,none⟩) (l.length+r.length) cap) (w.drew.alloc (.cells (old++vs++rest) Ty)):=by
 have hrow:RowAt M (old++vs++rest) (l++r) sz:=by
  refine row_append h1 h2 (fun k hk=>?_) fun k hk=>?_
  ·rw [Array.getElem?_append_left (by simp;omega),Array.getElem?_append_left (by omega)]
  ·rw [Array.getElem?_append_left (by simp;omega),Array.getElem?_append_right (by omega)]
   congr 1;omega
 have hsize:(old++vs++rest).size=cap*sz:=by
  simp only [Array.size_append,s1,s2,s3,<-Nat.add_mul]
  congr 1;omega
 have hha:HRel own M ι hp w.drew:=hh.keep (.refl M) fun b' L' hL'=>⟨rfl,hh.closed hL'⟩
 refine post_new (w:=w) (w0:=w.drew) ho (.refl M) (.refl _ _) ha hha rfl rfl rfl rfl (e:=⟨.own x,[(x,.row (l++r) sz false)],some x⟩) (d:=x) (B:=.row (l++r) sz false) (sz:=sz) (len:=l.length+r.length) rfl rfl ?_ ?_
 ·refine ⟨_,Ty,heap_alloc_size w.drew _,rfl,rfl,by simp,?_,hrow,(by intro e;cases e),fun _ o=>agree_new ha o⟩;rw [hsize];simp only [List.length_append];exact Nat.mul_le_mul_right _ hcap
 ·exact .own x ⟨w.heap.size,sz,(old++vs++rest).size,l.length+r.length⟩ cap (upd_same _ _ _) hcap (by rw [hsize];exact Nat.le_refl _)
theorem append_nil_sem {t t2 e e2 ty:TypeId} (hk:(T t).k=.slice e) (hk2:(T t2).k=.slice e2) {own:Nat->Prop} {M:Mem} {ι:Inj} {hp:Nat->Option Blk} {w:World} (ho:∀ c,w.heap.size<=c->own c) (ha:Agree M w) (hh:HRel own M ι hp w)
  {x:Nat} {base:Option Addr} {r:List (List D)} {a:Option Addr} {c:Nat} {vs:Array Value} (hs:SrcAt P M w (.slice a r.length c) r (T e).size vs) (r1:r.length*(T e).bytes<=35184372088832) (r2:r.length<=35184372088832):
  ∃ v w',(Builtin.append_ #[t,t2] ty #[.slice base 0 0,.slice a r.length c]).run P w=.ok v w'/\Post own M ι hp w ⟨.own x,[(x,.row r (T e).size false)],some x⟩ v w':=by
 by_cases hr:r=[]
 ·subst hr
  have hvs:vs=#[]:=by
   have:=hs.size
   simpa using this
  subst hvs;refine ⟨.slice base 0 0,w,?_,M,upd ι x (some none),.refl _ _,.refl M,ha,.refl _ _,hh.virtual x _ _,fun b hb=>upd_other _ _ fun e=>Kp_ne hb e,.ownE x base (upd_same _ _ _)⟩
  have:=append_fits hT (ty:=ty) hk hk2 (w:=w) (w':=w) (base:=base) (sLen:=0) (sCap:=0) (n:=0) (c:=c) (a:=a) (vs:=#[]) (Nat.le_refl _) (hs.run w fun _ _=>rfl) (by
   cases base with
   |none=>rfl
   |some b=>simp [storeCells])
  simpa using this
 ·have hpos:0<r.length:=List.length_pos_iff.2 hr
  have hold:∀ w':World,(∀ x,(w.cell? x).isSome->w'.cell? x=w.cell? x)->(Builtin.firstCells (T e).size 0 (.slice base 0 0)).run P w'=.ok #[] w':=fun w' hw'=>
   (src_empty (P:=P) (M:=M) (w:=w) (sz:=(T e).size) base 0).run w' hw'
  obtain ⟨newCap,z,g1,g2,g3⟩:=append_grows hT (ty:=ty) hk hk2 (w:=w) (base:=base) (sLen:=0) (sCap:=0) (n:=r.length) (c:=c) (a:=a) (by omega) (by simpa using r1) (by omega) hs.run hold;refine ⟨_,_,g3,?_⟩;have:=grown_post hT (x:=x) (Ty:=e) (l:=[]) (r:=r) (sz:=(T e).size) (old:=#[]) (vs:=vs) (rest:=Builtin.zeroCells z.cells (newCap-(0+r.length))) (cap:=newCap) ho ha hh
   ⟨fun i e h=>by simp at h,fun i j e d h=>by simp at h⟩ (by simp) hs.row hs.size (by simpa using g1) (by simp [Builtin.zeroCells,g2])
  simpa using this
theorem append_own_sem {t t2 e e2 ty:TypeId} (hk:(T t).k=.slice e) (hk2:(T t2).k=.slice e2) {own:Nat->Prop} {M:Mem} {ι:Inj} {hp:Nat->Option Blk} {w:World} (ho:∀ c,w.heap.size<=c->own c) (ha:Agree M w) (hh:HRel own M ι hp w)
  {x:Nat} {l r:List (List D)} (hb:hp x=some (.row l (T e).size false)) {s:Value} (hd:DenA M ι (.own x) s) {a:Option Addr} {c:Nat} {vs:Array Value} (hs:SrcAt P M w (.slice a r.length c) r (T e).size vs) (hone:∀ v∈vs.toList,v.oneCell'=true)
  (r1:(l.length+r.length)*(T e).bytes<=35184372088832) (r2:l.length+r.length<=35184372088832):
  ∃ v w',(Builtin.append_ #[t,t2] ty #[s,.slice a r.length c]).run P w=.ok v w'/\Post own M ι hp w ⟨.own x,[(x,.row (l++r) (T e).size false)],some x⟩ v w':=by
 cases hd with
 |ownL _ _ hL=>rw [(hh.dom x).2 hL] at hb;cases hb
 |ownE _ a0 hL=>
  obtain ⟨sz2,fr2,e0⟩:=hh.virt x hL
  rw [hb] at e0;cases e0
  exact append_nil_sem hT hk hk2 ho ha hh hs (by simpa using r1) (by simpa using r2)
 |own _ L cap hL hn hc=>
  obtain ⟨hown1,cs,Ty,hheap,hsz,q1,q2,q3,q4,q5⟩:=hh.at_ x _ L hb hL;have hcl:=hh.closed hL _ hb rfl;rw [<-q1] at hc
  by_cases hfit:l.length+r.length<=cap
  ·have hbnd:l.length*(T e).size+vs.toList.length<=cs.size:=by
    have:vs.toList.length=r.length*(T e).size:=by simpa using hs.size
    rw [this,<-Nat.add_mul,hsz];exact Nat.le_trans (Nat.mul_le_mul_right _ hfit) hc
   obtain ⟨cs',g1,g2,g3,g4,g5,g6,g7⟩:=write_cells (P:=P) (own:=own) ha hown1 hcl hheap vs.toList (l.length*(T e).size) hbnd hone
   have hvl:vs.toList.length=r.length*(T e).size:=by simpa using hs.size
   refine ⟨.slice (some ⟨L.blk,0,none⟩) (l.length+r.length) cap,w.setRow L.blk cs',?_,M,upd ι x (some (some ⟨L.blk,(T e).size,cs'.size,l.length+r.length⟩)),g3,.refl M,g2,.refl _ _,?_,fun b hb=>upd_other _ _ fun e=>Kp_ne hb e,
    .own x ⟨L.blk,(T e).size,cs'.size,l.length+r.length⟩ cap (upd_same _ _ _) hfit (by show cap*(T e).size<=cs'.size;rw [g5,hsz];exact hc)⟩
   ·rw [<-q2]
    exact append_fits hT (ty:=ty) hk hk2 (w:=w) (w':=w.setRow L.blk cs') (base:=some ⟨L.blk,0,none⟩) (sLen:=l.length) (sCap:=cap) (n:=r.length) (c:=c) (a:=a) (vs:=vs) hfit (hs.run w fun _ _=>rfl) (by
     show (storeCells ((⟨L.blk,0,none⟩:Addr).add (l.length*(T e).size)) vs.toList).run P w=.ok () (w.setRow L.blk cs')
     rw [addr_add,Nat.zero_add];exact g1)
   ·refine hh.new x _ ⟨L.blk,(T e).size,cs'.size,l.length+r.length⟩ (.refl M) hown1 ?_ fun b' L' hne hL'=>⟨fun e=>hne (hh.inj b' x L' L hL' hL e),g7 _ fun e=>hne (hh.inj b' x L' L hL' hL e),hh.closed hL'⟩
    refine ⟨cs',Ty,g4,rfl,rfl,by simp,?_,?_,(by intro e;cases e),fun _=>hcl⟩
    ·simp only [List.length_append];show _<=cs'.size;rw [g5,hsz];exact Nat.le_trans (Nat.mul_le_mul_right _ hfit) hc
    ·refine row_append q4 hs.row (fun k hk=>?_) fun k hk=>?_
     ·rw [g6,if_neg (by omega)]
     ·rw [g6,hvl,if_pos ⟨by omega,by omega⟩,Nat.add_sub_cancel_left];simp
  ·have hsrc:=src_cells (P:=P) (M:=M) (w:=w) L.blk 0 cap (fun i j=>(cs[i*(T e).size+j]?).getD undef) q4.len (fun i j e d he hj=>by
    obtain ⟨v,e1,e2⟩:=q4.den i j e d he hj
    rw [cell_of_heap hheap,Nat.zero_add,e1];rfl) (fun i j e d he hj=>by
    obtain ⟨v,e1,e2⟩:=q4.den i j e d he hj
    simpa [e1] using e2)
   obtain ⟨old,hold⟩:=hsrc;obtain ⟨newCap,z,g1,g2,g3⟩:=append_grows hT (ty:=ty) hk hk2 (w:=w) (base:=some ⟨L.blk,0,none⟩) (sLen:=l.length) (sCap:=cap) (n:=r.length) (c:=c) (a:=a) (by omega) r1 r2 hs.run hold.run;rw [<-q2];refine ⟨_,_,g3,?_⟩;exact grown_post hT ho ha hh hold.row hold.size hs.row hs.size g1 (by simp [Builtin.zeroCells,g2])
end
end Go.Lk
