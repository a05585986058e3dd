/-
  What is proved here: what functions of the program compute, and what follows; no condition beyond each theorem's own.
-/
import Derived.Test.YtaofmndhdmkgkaaGreatGAh
import Derived.Below
import Derived.ChangeArms
import Derived.ChangeSame
import Derived.OpenShut
import Derived.ReadAgain
import Derived.RowKit
import Derived.WideShapes
set_option linter.unusedSimpArgs false
set_option linter.unusedVariables false
set_option linter.unnecessarySimpa false
set_option linter.unusedSectionVars false
namespace Go.Lk
open Go Go.RowKit Go.WideShapes Go.ChangeShapes
def yPh (F:TypeId->List D->Prop):List (Nat×TypeId)->List D->Prop
 | [],ds=>ds=[]
 |(_,t)::r,ds=>∃ a b,ds=a++b/\F t a/\yPh F r b
def FitN (F:List D->Prop):Nat->List D->Prop
 |0,ds=>ds=[]
 |n+1,ds=>∃ a b,ds=a++b/\F a/\FitN F n b
def Fit (T:Tab):Nat->TypeId->List D->Prop
 |0,_,_=>False
 |n+1,t,ds=>match (T t).k with
  | .int k=>∃ x,ds=[.int k x] /\ (Lit.int k x).wf=true
  | .bool=>∃ b,ds=[.bool b]
  | .str=>∃ s:ByteArray,ds=[.str s] /\s.size<=maxLen
  | .slice e=>∃ l:List (List D),ds=[.lst l] /\l.length<=maxLen/\ ∀ x∈l,Fit T n e x
  | .struct fs=>yPh (Fit T n) fs ds
  | .arr m e=>FitN (Fit T n e) m ds
  |_=>False
def plainT (T:Tab):Nat->TypeId->Bool
 |0,_=>false
 |m+1,t=>match (T t).k with
  | .int _=>true
  | .bool=>true
  | .str=>true
  | .slice e=>plainT T m e
  | .arr _ e=>plainT T m e
  | .struct fs=>fs.all fun p=>plainT T m p.2
  |_=>false
theorem zT {T:Tab} {m:Nat} {t:TypeId} (h:plainT T m t=true):(T t).k.known=true:=by
 cases m with
 |zero=>cases h
 |succ m=>
  simp only [plainT] at h
  cases hk:(T t).k<;>simp_all [TK.known]
def FitV (T:Tab) (n:Nat) (t:TypeId) (d:D):Prop:=if (T t).k.agg=true then ∃ ds,d=.agg ds/\Fit T n t ds else Fit T n t [d]
def zKy (M:Mem) (cs:List Value) (ds:List D):Prop:=cs.length=ds.length/\ ∀ (i:Nat) (d:D) (v:Value),ds[i]?=some d->cs[i]?=some v->DenD M d v
theorem zKy.app {M:Mem} {a b:List Value} {x y:List D} (h:zKy M a x) (h':zKy M b y):zKy M (a++b) (x++y):=by
 refine ⟨by simp [h.1,h'.1],fun i d v h1 h2=>?_⟩
 by_cases hi:i<x.length
 ·rw [List.getElem?_append_left hi] at h1;rw [List.getElem?_append_left (by rw [h.1];exact hi)] at h2;exact h.2 i d v h1 h2
 ·rw [List.getElem?_append_right (by omega)] at h1;rw [List.getElem?_append_right (by rw [h.1];omega),h.1] at h2;exact h'.2 _ d v h1 h2
theorem zKy.one {M:Mem} {v:Value} {d:D} (h:DenD M d v):zKy M [v] [d]:=by
 refine ⟨rfl,fun i d' v' h1 h2=>?_⟩
 cases i with
 |zero=>
  simp only [List.getElem?_cons_zero,Option.some.injEq] at h1 h2;subst h1 h2;exact h
 |succ i=>simp at h1
def zWe (w:World):Mem:=fun b o=>w.cell? ⟨b,o,none⟩
section
variable {H:Type} {enc:TypeId×Value->H} {P:Program} {T:Tab} (hT:zFo P T) {w:World} {spare:Nat->Bool} {held:Bool}
include hT in
theorem yGj {t:TypeId} (h:(T t).k.known=true):P.cellsOf t=(T t).size:=by
 obtain ⟨d,i,_,hi,_,hs,_⟩:=(zEe hT h).desc;simp [Program.cellsOf,hi,hs]
include hT in
theorem ySr (K:Kids P (·<P.types.size)):∀ (n:Nat) (t:TypeId) (cs:List Value) (x:DataW H×List MemPlace),t<P.types.size->(∃ m,plainT T m t=true)->
  DataW.trod enc P w 0 spare held n t cs=some x->∃ ds,Fit T n t ds/\zKy (zWe w) cs ds:=by
 intro n
 induction n with
 |zero=>intro t cs x _ _ h;simp [DataW.trod] at h
 |succ n ih=>
  intro t cs x ht hpl h;obtain ⟨q,hpl⟩:=hpl;have hk:=zT hpl
  cases q with
  |zero=>cases hpl
  |succ qq=>
  obtain ⟨d0,i0,hu0,_,hkind,_,_,_,helems,_⟩:=(zEe hT hk).desc
  cases hkt:(T t).k with
  |other=>rw [hkt] at hk;cases hk
  |ptr e=>simp [plainT,hkt] at hpl
  |int k=>
   obtain ⟨m,rfl,_,hw⟩:=DataW.trod_int (zOg hT hkt) h;exact ⟨[.int k m],by simp only [Fit,hkt];exact ⟨m,rfl,hw⟩,.one (.int k m)⟩
  |bool=>
   obtain ⟨b,rfl,_⟩:=DataW.trod_bool (zUg hT hkt) h;exact ⟨[.bool b],by simp only [Fit,hkt];exact ⟨b,rfl⟩,.one (.bool b)⟩
  |str=>
   obtain ⟨s,rfl,_,hs⟩:=DataW.trod_string (zOh hT hkt) h;exact ⟨[.str s],by simp only [Fit,hkt];exact ⟨s,rfl,hs⟩,.one (.str s)⟩
  |slice e=>
   obtain ⟨hu,hke⟩:=zBi hT hkt;have hte:=K.slice ht hu
   rcases DataW.trod_slice hu h with ⟨rfl,_⟩|⟨a,len,cap,elems,rest,m,hm,rfl,_,_,hlc,hcm,hel,hread,_,_⟩
   ·exact ⟨[.lst []],by simp only [Fit,hkt];exact ⟨[],rfl,by simp,by simp⟩,.one (.emp _ _)⟩
   ·obtain rfl:n=m:=by omega
    by_cases hl0:len=0
    ·subst hl0;exact ⟨[.lst []],by simp only [Fit,hkt];exact ⟨[],rfl,by simp,by simp⟩,.one (.emp _ _)⟩
    have hsz:P.cellsOf e=(T e).size:=yGj hT hke;have hpos:=zFj hT hke
    have hex:∀ i,i<len->∃ ds,Fit T n e ds/\ds.length=(T e).size/\a.spot=none/\ ∀ (j:Nat) (d:D),ds[j]?=some d->∃ v,w.cell? ⟨a.block,a.off+i*(T e).size+j,none⟩=some v/\DenD (zWe w) d v:=by
     intro i hi;have hr:=hread i hi
     have he:elems[i]?=some (elems[i]'(by omega)):=by simp
     rw [he] at hr;simp only [Option.bind_eq_some_iff] at hr;obtain ⟨cs',hcells,htrod⟩:=hr;obtain ⟨ds,hfit,hcd⟩:=ih e cs' _ hte ⟨qq,by simpa [plainT,hkt] using hpl⟩ htrod
     have hcl:(List.range (P.cellsOf e)).mapM (fun j=>w.cell? ((a.add (i*P.cellsOf e)).add j))=some cs':=by
      unfold World.cells? at hcells
      split at hcells
      ·exact hcells
      ·cases hcells
     have hlen:cs'.length=(T e).size:=by
      have:=mapM_some_length hcl
      simpa [hsz] using this
     have hcell:∀ j,j<(T e).size->w.cell? ((a.add (i*P.cellsOf e)).add j)=cs'[j]?:=fun j hj=>
      mapM_some_get hcl j j (by rw [List.getElem?_range (by rw [hsz];exact hj)])
     have hspot:∀ b:Addr,w.cell? b≠none->b.spot=none:=by
      intro b hb;unfold World.cell? at hb
      cases hs:b.spot with
      |none=>rfl
      |some s=>
       exfalso;apply hb
       split<;>simp [hs]
     have hsp:a.spot=none:=by
      have hr0:=hread 0 (by omega)
      have he0:elems[0]?=some (elems[0]'(by omega)):=by simp
      rw [he0] at hr0;simp only [Option.bind_eq_some_iff] at hr0;obtain ⟨cs0,hc0,_⟩:=hr0;unfold World.cells? at hc0
      split at hc0
      ·have l0:=mapM_some_length hc0;have:=mapM_some_get hc0 0 0 (by rw [List.getElem?_range (by rw [hsz];exact hpos)])
       have hz:cs0[0]?≠none:=by
        have:0<cs0.length:=by rw [l0];simpa [hsz] using hpos
        rw [List.getElem?_eq_getElem this];simp
       rw [<-this] at hz;have:=hspot _ hz
       simpa [Addr.add] using this
      ·cases hc0
     refine ⟨ds,hfit,by rw [<-hcd.1,hlen],hsp,fun j d hj=>?_⟩
     have hjl:j<(T e).size:=by rw [<-hlen,hcd.1];exact (List.getElem?_eq_some_iff.1 hj).1
     have hv:cs'[j]?=some (cs'[j]'(by omega)):=by simp
     refine ⟨_,?_,hcd.2 j d _ hj hv⟩;rw [<-hv,<-hcell j hjl]
     congr 1
     obtain ⟨ab,ao,as⟩:=a;simp only at hsp;subst hsp;rw [zDk,zDk,hsz]
    obtain ⟨f,hf⟩:∃ f:Nat->List D,∀ i,i<len->Fit T n e (f i) /\ (f i).length=(T e).size/\a.spot=none/\ ∀ (j:Nat) (d:D),(f i)[j]?=some d->∃ v,w.cell? ⟨a.block,a.off+i*(T e).size+j,none⟩=some v/\DenD (zWe w) d v:=by
     refine ⟨fun i=>if h:i<len then Classical.choose (hex i h) else [],fun i hi=>?_⟩;simp only [dif_pos hi];exact Classical.choose_spec (hex i hi)
    have hspn:a.spot=none:=(hf 0 (by omega)).2.2.1;obtain ⟨ab,ao,as⟩:=a;simp only at hspn hf;subst hspn
    let l:List (List D):=(List.range len).map f
    have hget:∀ (i:Nat) (e':List D),l[i]?=some e'->i<len/\e'=f i:=by
     intro i e' hi;simp only [l,List.getElem?_map] at hi
     by_cases h1:i<len
     ·rw [List.getElem?_range h1] at hi;simp only [Option.map_some,Option.some.injEq] at hi;exact ⟨h1,hi.symm⟩
     ·rw [List.getElem?_eq_none (by simp;omega)] at hi;cases hi
    have hll:l.length=len:=by simp [l]
    refine ⟨[.lst l],?_,?_⟩
    ·simp only [Fit,hkt];refine ⟨l,rfl,by rw [hll];omega,fun x hx=>?_⟩;obtain ⟨i,hi,hxi⟩:=List.getElem_of_mem hx;obtain ⟨h1,h2⟩:=hget i x (by rw [List.getElem?_eq_getElem hi,hxi])
     rw [h2];exact (hf i h1).1
    ·refine .one ?_;rw [show len=l.length from hll.symm]
     refine .lst l ab ao cap (T e).size (fun i j=>(w.cell? ⟨ab,ao+i*(T e).size+j,none⟩).getD undef) (by omega) (fun i e' hi=>?_) (fun i j e' d hi hj=>?_) fun i j e' d hi hj=>?_
     ·obtain ⟨h1,h2⟩:=hget i e' hi
      rw [h2];exact (hf i h1).2.1
     ·obtain ⟨h1,h2⟩:=hget i e' hi;subst h2;obtain ⟨v,hv,_⟩:=(hf i h1).2.2.2 j d hj;show w.cell? _=some _
      rw [hv];rfl
     ·obtain ⟨h1,h2⟩:=hget i e' hi;subst h2;obtain ⟨v,hv,hd⟩:=(hf i h1).2.2.2 j d hj
      rw [hv];exact hd
  |struct fs=>
   obtain ⟨F,hu,hF,hkn,_⟩:=zJv hT hkt;obtain ⟨hkids,hcells,hoff⟩:=K.struct ht hu;obtain ⟨xs,m,hm,_,hlen,hxl,hread⟩:=DataW.trod_struct hu h
   obtain rfl:n=m:=by omega
   have key:∀ (G:List Field) (k o:Nat),F.toList.drop k=G->o=((F.toList.take k).map fun f=>P.cellsOf f.type).sum->∃ ds,yPh (Fit T n) (G.map fun f=>(f.offset,f.type)) ds/\zKy (zWe w) ((cs.drop o).take ((G.map fun f=>P.cellsOf f.type).sum)) ds:=by
    intro G
    induction G with
    |nil=>intro k o _ _;exact ⟨[],rfl,by simp [zKy]⟩
    |cons g G ihG=>
     intro k o hG ho
     have hgk:F.toList[k]?=some g:=by
      have:=congrArg (·[0]?) hG
      simpa using this
     have hG':F.toList.drop (k+1)=G:=by
      have:=congrArg (List.drop 1) hG
      simpa [Nat.add_comm] using this
     have hgo:g.offset=o:=by rw [hoff k g hgk,ho]
     have hgm:g∈F.toList:=List.mem_of_getElem? hgk;have hgt:(T g.type).k.known=true:=hkn (g.offset,g.type) (by rw [<-hF];exact List.mem_map.2 ⟨g,hgm,rfl⟩);have hr:=hread k g (by rw [<-Array.getElem?_toList];exact hgk)
     have hxk:xs[k]?=some (xs[k]'(by rw [hxl];have:=(List.getElem?_eq_some_iff.1 hgk).1;simpa using this)):=by simp
     rw [hxk] at hr
     obtain ⟨d1,f1,c1⟩:=ih g.type _ _ (hkids g hgm) ⟨qq,by
      simp only [plainT,hkt,List.all_eq_true] at hpl
      exact hpl (g.offset,g.type) (by rw [<-hF];exact List.mem_map.2 ⟨g,hgm,rfl⟩)⟩ hr
     obtain ⟨d2,f2,c2⟩:=ihG (k+1) (o+P.cellsOf g.type) hG' (by
      rw [ho]
      have:F.toList.take (k+1)=F.toList.take k++[g]:=by
       rw [List.take_add_one,hgk];rfl
      rw [this];simp)
     refine ⟨d1++d2,⟨d1,d2,rfl,f1,f2⟩,?_⟩
     have:(cs.drop o).take (((g::G).map fun f=>P.cellsOf f.type).sum)=(cs.drop g.offset).take (P.cellsOf g.type)++(cs.drop (o+P.cellsOf g.type)).take ((G.map fun f=>P.cellsOf f.type).sum):=by
      rw [hgo];simp only [List.map_cons,List.sum_cons];rw [List.take_add,List.drop_drop]
     rw [this];exact c1.app c2
   obtain ⟨ds,k1,k2⟩:=key F.toList 0 0 rfl rfl;refine ⟨ds,by simp only [Fit,hkt];rw [<-hF];exact k1,?_⟩;rw [<-hcells,<-hlen] at k2
   simpa using k2
  |arr m e=>
   obtain ⟨hu,hke⟩:=zXq hT hkt;obtain ⟨hte,hcells⟩:=K.array ht hu;obtain ⟨xs,m',hm',_,hlen,hxl,hread⟩:=DataW.trod_array hu h
   obtain rfl:n=m':=by omega
   have key:∀ (q k:Nat),k+q=m->∃ ds,FitN (Fit T n e) q ds/\zKy (zWe w) ((cs.drop (k*P.cellsOf e)).take (q*P.cellsOf e)) ds:=by
    intro q
    induction q with
    |zero=>intro k _;exact ⟨[],rfl,by simp [zKy]⟩
    |succ q ihq=>
     intro k hkq;have hr:=hread k (by omega)
     have hxk:xs[k]?=some (xs[k]'(by omega)):=by simp
     rw [hxk] at hr;obtain ⟨d1,f1,c1⟩:=ih e _ _ hte ⟨qq,by simpa [plainT,hkt] using hpl⟩ hr;obtain ⟨d2,f2,c2⟩:=ihq (k+1) (by omega);refine ⟨d1++d2,⟨d1,d2,rfl,f1,f2⟩,?_⟩
     have:(cs.drop (k*P.cellsOf e)).take ((q+1)*P.cellsOf e)=(cs.drop (k*P.cellsOf e)).take (P.cellsOf e)++(cs.drop ((k+1)*P.cellsOf e)).take (q*P.cellsOf e):=by
      rw [show (q+1)*P.cellsOf e=P.cellsOf e+q*P.cellsOf e by rw [Nat.add_mul,Nat.one_mul,Nat.add_comm],List.take_add,List.drop_drop,show k*P.cellsOf e+P.cellsOf e=(k+1)*P.cellsOf e by rw [Nat.add_mul,Nat.one_mul]]
     rw [this];exact c1.app c2
   obtain ⟨ds,k1,k2⟩:=key m 0 (by omega);refine ⟨ds,by simp only [Fit,hkt];exact k1,?_⟩;rw [<-hcells,<-hlen] at k2
   simpa using k2
include hT in
theorem yVg (K:Kids P (·<P.types.size)) {t:TypeId} {v:Value} {d:DataW H} {ps:List MemPlace} {r:Reach} {base:Nat} (ht:t<P.types.size) (hpl:∃ m,plainT T m t=true) (hok:Value.okWide P w r base t v) (h:DataW.Trod enc P w 0 spare held t v d ps):
  ∃ n dd,FitV T n t dd/\DenD (zWe w) dd v:=by
 obtain ⟨n,hn⟩:=h;obtain ⟨ds,hfit,hcd⟩:=ySr hT K n t _ _ ht hpl hn;obtain ⟨m,hpl⟩:=hpl;have hk:=zT hpl
 have aggc:∀ cs:Array Value,v=.agg cs->(T t).k.agg=true->∃ n dd,FitV T n t dd/\DenD (zWe w) dd v:=by
  intro cs hv ha;subst hv;refine ⟨n,.agg ds,by unfold FitV;rw [if_pos ha];exact ⟨ds,rfl,hfit⟩,.agg ds cs (by simpa [Value.cells] using hcd.1) fun i d v h1 h2=>hcd.2 i d v h1 (by simpa [Value.cells] using h2)⟩
 have one:v.cells=#[v]->(T t).k.agg=false->∃ n dd,FitV T n t dd/\DenD (zWe w) dd v:=by
  intro hv ha
  have hl:ds.length=1:=by rw [<-hcd.1,hv];rfl
  obtain ⟨d,rfl⟩:=List.length_eq_one_iff.1 hl;exact ⟨n,d,by unfold FitV;rw [if_neg (by simp [ha])];exact hfit,hcd.2 0 d v rfl (by rw [hv];rfl)⟩
 cases hkt:(T t).k with
 |other=>rw [hkt] at hk;cases hk
 |ptr e=>cases m<;>simp [plainT,hkt] at hpl
 |int k=>obtain ⟨x,rfl⟩:=okWide_int (zOg hT hkt) hok;exact one rfl (by rw [hkt];rfl)
 |bool=>obtain ⟨x,rfl⟩:=okWide_bool (zUg hT hkt) hok;exact one rfl (by rw [hkt];rfl)
 |str=>obtain ⟨x,rfl⟩:=okWide_string (zOh hT hkt) hok;exact one rfl (by rw [hkt];rfl)
 |slice e=>obtain ⟨a,l,c,rfl⟩:=okWide_slice (zBi hT hkt).1 hok;exact one rfl (by rw [hkt];rfl)
 |struct fs=>
  obtain ⟨F,hu,_⟩:=zJv hT hkt;obtain ⟨cs,hv,_⟩:=okWide_struct hu hok;exact aggc cs hv (by rw [hkt];rfl)
 |arr m e=>
  have hu:=(zXq hT hkt).1;unfold Value.okWide at hok;rw [hu] at hok;obtain ⟨cs,hv,_⟩:=hok;exact aggc cs hv (by rw [hkt];rfl)
def yBq (T:Tab):List TypeId->List D->Prop
 | [],ds=>ds=[]
 |t::ts,ds=>∃ n d r,ds=d::r/\FitV T n t d/\yBq T ts r
include hT in
theorem z3z (K:Kids P (·<P.types.size)) {r:Reach} {base:Nat}:∀ {ts:List TypeId} {vs:List Value} {ds:List (DataW H)} {ps:List MemPlace},(∀ t∈ts,t<P.types.size/\ ∃ m,plainT T m t=true)->
  (∀ (j:Nat) t v,ts[j]?=some t->vs[j]?=some v->Value.okWide P w r base t v)->DataW.TrodAll enc P w 0 spare held ts vs ds ps->
  ∃ dds,yBq T ts dds/\dds.length=vs.length/\ds.length=ts.length/\ ∀ (i:Nat) (d:D) (v:Value),dds[i]?=some d->vs[i]?=some v->DenD (zWe w) d v
 | [],vs,ds,ps,_,_,h=>by
  obtain ⟨rfl,rfl,rfl⟩:=trodAll_nil h;exact ⟨[],rfl,rfl,rfl,fun i d v h=>by simp at h⟩
 |t::ts,vs,ds,ps,hts,hok,h=>by
  obtain ⟨v,vs1,d,ds1,a,b,rfl,rfl,rfl,h1,h2⟩:=trodAll_cons h;obtain ⟨n,dd,e1,e2⟩:=yVg hT K (hts t (List.mem_cons_self ..)).1 (hts t (List.mem_cons_self ..)).2 (hok 0 t v rfl rfl) h1;obtain ⟨dds,e3,e4,e6,e5⟩:=z3z K (fun t ht=>hts t (List.mem_cons_of_mem _ ht)) (fun j t v h1 h2=>hok (j+1) t v (by simpa using h1) (by simpa using h2)) h2;refine ⟨dd::dds,⟨n,dd,dds,rfl,e1,e3⟩,by simp [e4],by simp [e6],fun i d' v' g1 g2=>?_⟩
  cases i with
  |zero=>
   simp only [List.getElem?_cons_zero,Option.some.injEq] at g1 g2;subst g1 g2;exact e2
  |succ i=>exact e5 i d' v' (by simpa using g1) (by simpa using g2)
theorem z7w (w:World):zBj (zWe w) w:=fun _ _ _ h=>h
theorem z4b {w w':World} (h:Below w.heap.size w w') {p:MemPlace} (hp:p.block<w.heap.size):w.sameAt w' p:=by
 have:=h.block p.block hp
 cases p with
 |cell b off=>simp only [World.sameAt,World.cell?];simp only [MemPlace.block] at this;rw [this]
 |map b=>exact this
theorem zNo {w':World}:∀ {ts:List TypeId} {vs:List Value} {ds:List (DataW H)} {ps:List MemPlace},DataW.TrodAll enc P w 0 spare held ts vs ds ps->(∀ p∈ps,w.sameAt w' p)->DataW.TrodAll enc P w' 0 spare held ts vs ds ps
 | [],vs,ds,ps,h,_=>by
  obtain ⟨rfl,rfl,rfl⟩:=trodAll_nil h;rfl
 |t::ts,vs,ds,ps,h,hs=>by
  obtain ⟨v,vs1,d,ds1,a,b,rfl,rfl,rfl,⟨n,hn⟩,h2⟩:=trodAll_cons h;exact ⟨a,b,⟨n,DataW.trod_carry n t _ _ hn fun p hp=>hs p (List.mem_append_left _ hp)⟩,zNo h2 fun p hp=>hs p (List.mem_append_right _ hp),rfl⟩
theorem z2l {f:Func} {s:ChangeSpec} {apart fresh handsOn again:Bool} {W W':World} {args:Array Value} {v:Value} {ds gs:List (DataW H)} {before pa pv:List MemPlace}
  (hW:DataW.Whole enc P f.params.toList s.vars apart W args.toList ds gs before)
  (hres:∀ (b:Nat) (sp:Nat->Bool) (hd:Bool),DataW.TrodAll enc P W' b sp hd f.resultTypes.toList (v.resultList f.resultTypes.size) (s.fn H (ds++gs)).results [])
  (hargs:∀ sp:Nat->Bool,(∀ p∈before,sp p.block=true)->DataW.TrodAll enc P W' 0 sp true f.params.toList args.toList (s.fn H (ds++gs)).args pa)
  (hvars:∀ sp:Nat->Bool,(∀ p∈before,sp p.block=true)->DataW.TrodVars enc P W' sp s.vars (s.fn H (ds++gs)).vars pv)
  (hps:before=pa++pv) (hb:Below W.heap.size W W')
  (hok:∀ (j:Nat) (t:TypeId) (r:Value),f.resultTypes[j]?=some t->(v.resultList f.resultTypes.size)[j]?=some r->Value.okWide P W' .any 0 t r):
  s.post enc P f apart fresh handsOn again W args v W':=by
 have hlt:∀ p∈before,p.block<W.heap.size:=fun p hp=>hW.lt p hp
 have hold:∀ p∈before,(fun b=>decide (b<W.heap.size)) p.block=true:=fun p hp=>by simpa using hlt p hp
 refine ⟨ds,gs,before,[],pa,pv,hW,hres _ _ _,hargs _ hold,hvars _ hold,World.keptBut_mono (fun p hp=>⟨hp,?_⟩) (hb.frame (·∈before)),fun _=>?_⟩
 ·rw [hps,List.mem_append] at hp;exact Or.inr hp
 ·obtain ⟨_,_,_,_,_,hz,hn⟩:=hW;refine ⟨hok,_,_,([]++pa)++pv,⟨[]++pa,pv,trodAll_append (hargs _ (fun _ _=>rfl)) (hres _ _ _),hvars _ (fun _ _=>rfl),rfl,?_,?_⟩,?_⟩
  ·intro b off hp
   have hin:MemPlace.cell b off∈before:=by rw [hps];simpa using hp
   rw [hb.frozen (hlt _ hin)];exact hz b off hin
  ·intro ha;have:=hn ha;rw [hps] at this
   simpa using this
  ·intro p hp _;rw [hps]
   simpa using hp
include hT in
theorem z5u (K:Kids P (·<P.types.size)) (hz:∀ t e,t<P.types.size->P.underlying t=some (.slice e)->0<P.cellsOf e) {f:FuncId} {fn:Func} {s:ChangeSpec} {fresh handsOn again:Bool} {tb:TypeId}
  (hts:∀ t∈fn.params.toList,t<P.types.size/\ ∃ m,plainT T m t=true) (hres:fn.resultTypes=#[tb]) (hb:P.underlying tb=some .bool) (hvars:s.vars=[])
  (hs:∀ ds:List (DataW H),ds.length=fn.params.toList.length->s.fn H ds={results:=[.lit (.bool true)],args:=ds})
  (law:∀ dds,yBq T fn.params.toList dds->zAj P f dds (.bool true))
  (W:World) (base:Nat) (args:Array Value) (ds gs:List (DataW H)) (before:List MemPlace)
  (hval:∀ (j:Nat) t v,fn.params[j]?=some t->args[j]?=some v->Value.okWide P W .any base t v)
  (hW:DataW.Whole enc P fn.params.toList s.vars false W args.toList ds gs before):
  Calls P f args W fun e W'=>∃ v,e=.returned v/\s.post enc P fn false fresh handsOn again W args v W':=by
 have hlt:∀ p∈before,p.block<W.heap.size:=fun p hp=>hW.lt p hp
 have hW':=hW;obtain ⟨p,q,hA,hV,rfl,hfz,hnd⟩:=hW;rw [hvars] at hV;obtain ⟨rfl,rfl⟩:=trodVars_none hV;obtain ⟨dds,hfit,hdl,hdsl,hden⟩:=z3z hT K hts (fun j t v h1 h2=>hval j t v (by simpa using h1) (by simpa using h2)) hA;have hlaw:=law dds hfit
 refine (hlaw.2 W (zWe W) args (z7w W) ⟨by simpa using hdl.symm,fun i d v h1 h2=>hden i d v h1 (by simpa using h2)⟩).mono fun e W' hq=>?_
 obtain ⟨v,M',rfl,hbel,_,_,_,hd⟩:=hq
 have hv:v=.bool true:=by cases hd;rfl
 subst hv;refine ⟨_,rfl,?_⟩
 have hsf:s.fn H (ds++[])={results:=[.lit (.bool true)],args:=ds}:=by rw [List.append_nil];exact hs _ hdsl
 refine z2l (pa:=p) (pv:=[]) hW' ?_ ?_ ?_ rfl hbel ?_
 ·intro b sp hd;rw [hsf,hres];exact trodAll_mk1 ⟨1,by simp [DataW.trod,hb,Value.cells]⟩
 ·intro sp hsp;rw [hsf]
  exact DataW.TrodAll.respare K hz (fun t ht=>(hts t ht).1) (zNo hA fun x hx=>z4b hbel (hlt x (by simpa using hx))) fun x hx=>hsp x (by simpa using hx)
 ·intro sp _;rw [hsf,hvars];rfl
 ·exact ok_one hres rfl (okWide_bool_mk hb _)
end
end Go.Lk
namespace Go.Lk
open Go Go.RowKit
theorem w64 {n:Int} (h0:-9223372036854775808<=n) (h1:n<=9223372036854775807):IntKind.i64.wrap n=n:=by
 rw [IntKind.wrap_i64];omega
theorem bF {A B:Prop} (h:B):zJy false A B:=⟨h⟩
theorem bT {A B:Prop} (h:A):zJy true A B:=⟨h⟩
theorem dK {r:List Oper} {q:List Summ} {i:Nat} {done:List Summ} {pm:List Nat} {K:Prop} (k:K) (h:zJa r q i done pm=true:=by kernel_rfl):zEr (zJa r q i done pm=true) K:=zAh h k
theorem cR {α:Type} {a:α} {K:Prop} (k:K):zEr (a=a) K:=⟨⟨rfl,k⟩⟩
theorem cK {c K:Prop} (k:K) (h:c:=by first|decide|omega):zEr c K:=⟨⟨h,k⟩⟩
theorem wK {n:Int} {K:Int->Prop} (k:K n) (h0:-9223372036854775808<=n:=by omega) (h1:n<=9223372036854775807:=by omega):z3u .i64 n K:=zCg (w64 h0 h1) k
theorem zBg {α} {l:List α} {k:Nat} (h:k<l.length):l.drop k=l[k]::l.drop (k+1):=List.drop_eq_getElem_cons h
theorem zAs {α} {l:List α} {k:Nat} (h:k<l.length):l.take (k+1)=l.take k++[l[k]]:=by
 rw [List.take_add_one];simp [h]
theorem zDq {b:Bool} {A:Prop} (h:b=true) (k:A):bif b then A else False:=by rw [h];exact k
theorem ret_of {o:Option D} {d d':D} (h:o=some d') (e:d'=d):o=some d:=by rw [h,e]
@[simp] theorem oneD1 (d:D):oneD [d]=d:=rfl
theorem zAk {n bytes:Nat} {K:Prop} (m c:Nat) (hn:n<=m) (hb:bytes<=c) (h1:m*c<=35184372088832) (h2:m<=35184372088832) (k:K):zTi n bytes K:=
 zKj (Nat.le_trans (Nat.mul_le_mul hn hb) h1) (Nat.le_trans hn h2) k
theorem yMy {P:Program} {T:Tab} {fn:Func} (h:(fn.params.toList.all fun t=>Nat.blt t P.types.size&&plainT T 12 t)=true):∀ t∈fn.params.toList,t<P.types.size/\ ∃ m,plainT T m t=true:=by
 intro t ht;have:=List.all_eq_true.1 h t ht;simp only [Bool.and_eq_true] at this;exact ⟨Nat.le_of_ble_eq_true this.1,12,this.2⟩
def yO (P:Program):Bool:=(List.range P.types.size).all fun t=>match P.underlying t with
 |some (.slice e)=>Nat.blt 0 (P.cellsOf e)
 |_=>true
theorem z3e {P:Program} (h:yO P=true):∀ t e,t<P.types.size->P.underlying t=some (.slice e)->0<P.cellsOf e:=by
 intro t e ht hu;have:=(List.all_eq_true.1 h) t (List.mem_range.2 ht);rw [hu] at this;exact Nat.le_of_ble_eq_true this
theorem zHj {T:Tab} {n:Nat} {t:TypeId} {k:IntKind} {ds:List D} (hk:(T t).k=.int k) (h:Fit T n t ds):∃ x,ds=[.int k x] /\ (Lit.int k x).wf=true:=by
 cases n with
 |zero=>exact h.elim
 |succ n=>simp only [Fit,hk] at h;exact h
theorem yCr {T:Tab} {n:Nat} {t:TypeId} {ds:List D} (hk:(T t).k=.bool) (h:Fit T n t ds):∃ b,ds=[.bool b]:=by
 cases n with
 |zero=>exact h.elim
 |succ n=>simp only [Fit,hk] at h;exact h
theorem yKr {T:Tab} {n:Nat} {t:TypeId} {ds:List D} (hk:(T t).k=.str) (h:Fit T n t ds):∃ s:ByteArray,ds=[.str s] /\s.size<=maxLen:=by
 cases n with
 |zero=>exact h.elim
 |succ n=>simp only [Fit,hk] at h;exact h
theorem z5i {T:Tab} {n:Nat} {t e:TypeId} {ds:List D} (hk:(T t).k=.slice e) (h:Fit T n t ds):∃ m,∃ l:List (List D),ds=[.lst l] /\l.length<=maxLen/\ ∀ x∈l,Fit T m e x:=by
 cases n with
 |zero=>exact h.elim
 |succ n=>simp only [Fit,hk] at h;exact ⟨n,h⟩
theorem zMr {T:Tab} {n:Nat} {t:TypeId} {fs:List (Nat×TypeId)} {ds:List D} (hk:(T t).k=.struct fs) (h:Fit T n t ds):∃ m,yPh (Fit T m) fs ds:=by
 cases n with
 |zero=>exact h.elim
 |succ n=>simp only [Fit,hk] at h;exact ⟨n,h⟩
theorem z1c {T:Tab} {n:Nat} {t:TypeId} {d:D} (ha:(T t).k.agg=false) (h:FitV T n t d):Fit T n t [d]:=by
 unfold FitV at h;rw [ha] at h;simpa using h
theorem yCq {T:Tab} {n:Nat} {t:TypeId} {k:IntKind} {d:D} (hk:(T t).k=.int k) (h:FitV T n t d):∃ x,d=.int k x/\ (Lit.int k x).wf=true:=by
 obtain ⟨x,e,h⟩:=zHj hk (z1c (by rw [hk];rfl) h);exact ⟨x,(List.cons.inj e).1,h⟩
theorem zRi {α:Type} {f:α->List D} {Q:α->Prop}:∀ {l:List (List D)},(∀ x∈l,∃ a,x=f a/\Q a)->∃ r:List α,l=r.map f/\ ∀ a∈r,Q a
 | [],_=>⟨[],rfl,fun a h=>by cases h⟩
 |x::l,h=>by
  obtain ⟨a,rfl,ha⟩:=h x (List.mem_cons_self ..)
  obtain ⟨r,rfl,hr⟩:=zRi (l:=l) fun y hy=>h y (List.mem_cons_of_mem _ hy)
  exact ⟨a::r,rfl,fun b hb=>by
   rcases List.mem_cons.1 hb with rfl|hb
   ·exact ha
   ·exact hr b hb⟩
theorem zHi {α:Type} {f:α->List D} {Q:α->Prop} {T:Tab} {n:Nat} {t e:TypeId} {d:D} (hk:(T t).k=.slice e) (h:FitV T n t d) (hf:∀ m x,Fit T m e x->∃ a,x=f a/\Q a):
  ∃ r:List α,d=.lst (r.map f) /\r.length<=maxLen/\ ∀ a∈r,Q a:=by
 obtain ⟨m,l,e1,e2,e3⟩:=z5i hk (z1c (by rw [hk];rfl) h)
 obtain ⟨r,rfl,hr⟩:=zRi fun x hx=>hf m x (e3 x hx)
 exact ⟨r,(List.cons.inj e1).1,by simpa using e2,hr⟩
theorem ySz {x:Int} (h:(Lit.int .u8 x).wf=true):0<=x/\x<=255:=by
 simpa [Lit.wf,IntKind.min,IntKind.max,IntKind.signed,IntKind.bits] using h
theorem yCs {α:Type} {f:α->List D} {Q:α->Prop} {T:Tab} {n:Nat} {t e:TypeId} {ds:List D} (hk:(T t).k=.slice e) (h:Fit T n t ds) (hf:∀ m x,Fit T m e x->∃ a,x=f a/\Q a):
  ∃ r:List α,ds=[.lst (r.map f)] /\r.length<=maxLen/\ ∀ a∈r,Q a:=by
 obtain ⟨m,l,e1,e2,e3⟩:=z5i hk h
 obtain ⟨r,rfl,hr⟩:=zRi fun x hx=>hf m x (e3 x hx)
 exact ⟨r,e1,by simpa using e2,hr⟩
def encI (p:Int×Int):List D:=[.int .i64 p.1,.int .i64 p.2]
def zCh (l:List (Int×Int)):D:=.lst (l.map encI)
theorem yCl {l:List (Int×Int)} {e:List D} (h:e∈l.map encI):e.length=2:=by
 simp only [List.mem_map] at h;obtain ⟨x,_,rfl⟩:=h;rfl
theorem z0y:∀ (l:List (Int×Int)),okRows 2 (l.map encI)=true
 | []=>rfl
 |_::r=>z0y r
def enc1 (n:Int):List D:=[.int .i64 n]
def yGn (l:List Int):D:=.lst (l.map enc1)
theorem yD {p:Prop} [Decidable p] {A B:Prop} (k:A) (h:p:=by omega):zJy (decide p) A B:=zBw (decide_eq_true h) k
theorem nD {p:Prop} [Decidable p] {A B:Prop} (k:B) (h:¬p:=by omega):zJy (decide p) A B:=zDa (decide_eq_false h) k
theorem nN {p:Prop} [Decidable p] {A B:Prop} (k:B) (h:p:=by omega):zJy (!decide p) A B:=zDa (by rw [decide_eq_true h];rfl) k
structure Bx (K:Prop):Prop where
 k:K
theorem w0 {K G:Prop} (k:K) (h:Bx K->G:=by intro k;(conv=>whnf);exact k.k):G:=h ⟨k⟩
theorem aA {K G:Prop} (k:K) (h:Bx K->G:=by intro k;(repeat ((first|refine bF ?_|refine bT ?_|refine dK ?_|refine cR ?_|refine cK ?_|refine wK ?_);conv=>whnf));exact k.k):G:=h ⟨k⟩
theorem aW {K G:Prop} (k:K) (h:Bx K->G:=by intro k;(conv=>whnf);(repeat ((first|refine bF ?_|refine bT ?_|refine dK ?_|refine cR ?_|refine cK ?_|refine wK ?_);conv=>whnf));exact k.k):G:=h ⟨k⟩
theorem aO {K G:Prop} (k:K) (h:Bx K->G:=by intro k;(conv=>whnf);(repeat ((first|refine bF ?_|refine bT ?_|refine dK ?_|refine cR ?_|refine cK ?_|refine wK ?_|refine nD ?_|refine yD ?_|refine nN ?_|refine yN ?_);conv=>whnf));exact k.k):G:=h ⟨k⟩
abbrev W32:=BitVec 32
def zQo:W32:=0xEDB88320#32
def stp (x:W32):W32:=(x>>>1)^^^(if x.getLsbD 0 then zQo else 0#32)
def stp8 (x:W32):W32:=stp (stp (stp (stp (stp (stp (stp (stp x)))))))
theorem yYw (a b:W32):stp (a^^^b)=stp a^^^stp b:=by
 unfold stp;rw [BitVec.getLsbD_xor,BitVec.ushiftRight_xor_distrib]
 cases a.getLsbD 0<;>cases b.getLsbD 0<;>simp
 ·rw [BitVec.xor_assoc]
 ·rw [BitVec.xor_assoc,BitVec.xor_assoc,BitVec.xor_comm (b>>>1)]
 ·rw [BitVec.xor_assoc,BitVec.xor_comm zQo,BitVec.xor_assoc,BitVec.xor_self,BitVec.xor_zero]
theorem ySh (a b:W32):stp8 (a^^^b)=stp8 a^^^stp8 b:=by
 unfold stp8;simp only [yYw]
theorem zMh (x:W32) (k:Nat) (h:x.toNat*2^(k+1)<4294967296):stp (x<<<(k+1))=x<<<k:=by
 have e0:(x<<<(k+1)).getLsbD 0=false:=by simp
 unfold stp;rw [e0];simp only [Bool.false_eq_true,if_false,BitVec.xor_zero];apply BitVec.eq_of_toNat_eq
 have h2:x.toNat*2^k<4294967296:=by
  have:x.toNat*2^k<=x.toNat*2^(k+1):=Nat.mul_le_mul_left _ (Nat.pow_le_pow_right (by decide) (by omega));omega
 rw [BitVec.toNat_ushiftRight,BitVec.toNat_shiftLeft,BitVec.toNat_shiftLeft,Nat.shiftLeft_eq,Nat.shiftLeft_eq,Nat.shiftRight_eq_div_pow];rw [Nat.mod_eq_of_lt (show x.toNat*2^(k+1)<2^32 by simpa using h),Nat.mod_eq_of_lt (show x.toNat*2^k<2^32 by simpa using h2)];rw [Nat.pow_succ,<-Nat.mul_assoc,Nat.pow_one,Nat.mul_div_cancel _ (by decide)]
theorem ySg (x:W32) (h:x.toNat<16777216):stp8 (x<<<8)=x:=by
 unfold stp8;rw [zMh x 7 (by omega),zMh x 6 (by omega),zMh x 5 (by omega),zMh x 4 (by omega),zMh x 3 (by omega),zMh x 2 (by omega),zMh x 1 (by omega),zMh x 0 (by omega)];simp
def ent (i:Nat):W32:=stp8 (BitVec.ofNat 32 i)
theorem yOn (n:W32) (b:Nat) (hb:b<256):stp8 (n^^^BitVec.ofNat 32 b)=ent ((n.toNat%256)^^^b)^^^(n>>>8):=by
 have e1:n^^^BitVec.ofNat 32 b=BitVec.ofNat 32 ((n.toNat%256)^^^b)^^^((n>>>8)<<<8):=by
  apply BitVec.eq_of_toNat_eq;apply Nat.eq_of_testBit_eq;intro i;simp only [BitVec.toNat_xor,BitVec.toNat_ofNat,BitVec.toNat_shiftLeft,BitVec.toNat_ushiftRight,Nat.testBit_xor,Nat.testBit_mod_two_pow,Nat.testBit_shiftLeft,Nat.testBit_shiftRight,show (256:Nat)=2^8 from rfl]
  by_cases h32:i<32
  ·by_cases h8:i<8
   ·simp [h32,h8,show ¬8<=i by omega]
   ·simp [h32,h8,show 8<=i by omega,show 8+(i-8)=i by omega,Bool.xor_comm]
  ·have:n.toNat.testBit i=false:=Nat.testBit_lt_two_pow (Nat.lt_of_lt_of_le n.isLt (Nat.pow_le_pow_right (by decide) (by omega)));simp [h32,this]
 rw [e1,ySh,ySg]
 ·rfl
 ·rw [BitVec.toNat_ushiftRight,Nat.shiftRight_eq_div_pow];have:=n.isLt;omega
theorem yUy {n:Int}:IntKind.u32.wrap n=n%4294967296:=by simp [IntKind.wrap,IntKind.bits,IntKind.signed]
theorem yTc {n:Int}:IntKind.u8.wrap n=n%256:=by simp [IntKind.wrap,IntKind.bits,IntKind.signed]
theorem z3m {n:Int} (h0:0<=n) (h1:n<=4294967295):IntKind.u32.wrap n=n:=by rw [yUy];omega
theorem u8in {n:Int} (h0:0<=n) (h1:n<=255):IntKind.u8.wrap n=n:=by rw [yTc];omega
theorem lt32 (a:W32):(a.toNat:Int) <=4294967295:=by have:=a.isLt;omega
theorem zRy (a:W32):BitVec.ofInt 32 (a.toNat:Int)=a:=by
 apply BitVec.eq_of_toNat_eq;rw [BitVec.toNat_ofInt];have:=a.isLt;omega
theorem bx32 (a b:W32):zIh .xor .u32 (a.toNat:Int) (b.toNat:Int)=((a^^^b).toNat:Int):=by
 show IntKind.u32.wrap (((BitVec.ofInt 32 (a.toNat:Int)^^^BitVec.ofInt 32 (b.toNat:Int)).toNat:Nat):Int)=_;rw [zRy,zRy,z3m (by omega) (lt32 _)]
theorem bo32 (a b:W32):zIh .or .u32 (a.toNat:Int) (b.toNat:Int)=((a|||b).toNat:Int):=by
 show IntKind.u32.wrap (((BitVec.ofInt 32 (a.toNat:Int)|||BitVec.ofInt 32 (b.toNat:Int)).toNat:Nat):Int)=_;rw [zRy,zRy,z3m (by omega) (lt32 _)]
theorem ba32 (a b:W32):zIh .and .u32 (a.toNat:Int) (b.toNat:Int)=((a&&& b).toNat:Int):=by
 show IntKind.u32.wrap (((BitVec.ofInt 32 (a.toNat:Int)&&& BitVec.ofInt 32 (b.toNat:Int)).toNat:Nat):Int)=_;rw [zRy,zRy,z3m (by omega) (lt32 _)]
theorem not32 (a:W32):zIh .xor .u32 4294967295 (a.toNat:Int)=((~~~ a).toNat:Int):=by
 have:=bx32 (BitVec.allOnes 32) a;rw [show ((BitVec.allOnes 32).toNat:Int)=4294967295 from rfl] at this;rw [this]
 congr 1
theorem odd32 (a:W32):decide (zIh .and .u32 (a.toNat:Int) 1=1)=a.getLsbD 0:=by
 have:=ba32 a 1#32;rw [show (((1#32:W32)).toNat:Int)=1 from rfl] at this;rw [this]
 have e:(a&&& 1#32).toNat=(a.getLsbD 0).toNat:=by
  rw [BitVec.toNat_and,BitVec.getLsbD,Nat.testBit_zero];show a.toNat&&& 1=_;rw [Nat.and_one_is_mod]
  rcases Nat.mod_two_eq_zero_or_one a.toNat with h|h<;>rw [h]<;>rfl
 rw [e]
 cases a.getLsbD 0<;>rfl
theorem odd32' (a:W32):decide ((a.toNat:Int)%2=1)=a.getLsbD 0:=by
 rw [BitVec.getLsbD,Nat.testBit_zero]
 rcases Nat.mod_two_eq_zero_or_one a.toNat with h|h
 ·rw [h];simp;omega
 ·rw [h];simp;omega
theorem yYn (a:W32) (k:Nat):(a.toNat:Int).fdiv (2^k)=((a>>>k).toNat:Int):=by
 rw [BitVec.toNat_ushiftRight,Nat.shiftRight_eq_div_pow,Int.fdiv_eq_ediv_of_nonneg _ (by exact Int.pow_nonneg (by decide))];simp
theorem bx8 {a b:Nat} (ha:a<256) (hb:b<256):zIh .xor .u8 (a:Int) (b:Int)=((a^^^b:Nat):Int):=by
 show IntKind.u8.wrap (((BitVec.ofInt 8 (a:Int)^^^BitVec.ofInt 8 (b:Int)).toNat:Nat):Int)=_;have h:a^^^b<2^8:=Nat.xor_lt_two_pow (by omega) (by omega);rw [BitVec.toNat_xor,BitVec.toNat_ofInt,BitVec.toNat_ofInt];rw [show ((a:Int)%((2^8:Nat):Int)).toNat=a by omega,show ((b:Int)%((2^8:Nat):Int)).toNat=b by omega];exact u8in (by omega) (by omega)
theorem stp_t {a:W32} (h:a.getLsbD 0=true):stp a=(a>>>1)^^^zQo:=by rw [stp,h];rfl
theorem stp_f {a:W32} (h:a.getLsbD 0=false):stp a=a>>>1:=by rw [stp,h];simp
def stpN:Nat->W32->W32
 |0,x=>x
 |k+1,x=>stp (stpN k x)
theorem stpN_8 (x:W32):stpN 8 x=stp8 x:=rfl
def crcS (n:W32) (b:UInt8):W32:=stp8 (n^^^BitVec.ofNat 32 b.toNat)
def crcL (l:List UInt8):W32:=l.foldl crcS (BitVec.allOnes 32)
def crcB (s:ByteArray):W32:= ~~~ crcL s.data.toList
theorem yJw (l:List UInt8) (b:UInt8):crcL (l++[b])=crcS (crcL l) b:=by simp [crcL]
theorem yPv (n:W32) (b:UInt8):crcS n b=ent ((n.toNat%256)^^^b.toNat)^^^(n>>>8):=yOn n b.toNat b.toNat_lt
end Go.Lk
namespace Go.Lk
theorem nB {b:Bool} {A B:Prop} (k:zJy b B A):zJy (!b) A B:=by
 cases b
 ·exact bT k.out
 ·exact bF k.out
theorem aP {K G:Prop} (k:K) (h:Bx K->G:=by intro k;(conv=>whnf);(repeat ((first|with_reducible refine bF ?_|with_reducible refine bT ?_|refine dK ?_|refine cR ?_|refine cK ?_|refine wK ?_|refine nD ?_|refine yD ?_|with_reducible refine nB ?_);conv=>whnf));exact k.k):G:=h ⟨k⟩
end Go.Lk
namespace Go.Lk.St
section
variable {E:Type}
structure TP (le:E->E->Bool):Prop where
 total:∀ x y,le x y=true\/le y x=true
 trans:∀ x y z,le x y=true->le y z=true->le x z=true
def eqv (le:E->E->Bool) (x y:E):Bool:=le x y&&le y x
def zBy (le:E->E->Bool) (l:List E):Prop:=l.Pairwise fun a b=>le a b=true
def Same (le:E->E->Bool) (l r:List E):Prop:=∀ x,r.filter (eqv le x)=l.filter (eqv le x)
variable {le:E->E->Bool}
theorem TP.refl (h:TP le) (x:E):le x x=true:=(h.total x x).elim id id
theorem TP.eqr (h:TP le) (x:E):eqv le x x=true:=by simp [eqv,h.refl x]
theorem zVd {x y:E}:eqv le x y=true↔le x y=true/\le y x=true:=by simp [eqv]
theorem Same.refl (l:List E):Same le l l:=fun _=>rfl
theorem Same.trans {a b c:List E} (h:Same le a b) (h':Same le b c):Same le a c:=fun x=>(h' x).trans (h x)
theorem Same.symm {a b:List E} (h:Same le a b):Same le b a:=fun x=>(h x).symm
theorem Same.app {a b c d:List E} (h:Same le a b) (h':Same le c d):Same le (a++c) (b++d):=fun x=>by
 rw [List.filter_append,List.filter_append,h x,h' x]
theorem Same.mem (h:TP le) {a b:List E} (hs:Same le a b) {x:E} (hx:x∈b):x∈a:=by
 have:x∈b.filter (eqv le x):=List.mem_filter.2 ⟨hx,h.eqr x⟩;rw [hs x] at this;exact (List.mem_filter.1 this).1
theorem uniq (h:TP le):∀ {r r':List E},zBy le r->zBy le r'->Same le r r'->r=r'
 | [],[],_,_,_=>rfl
 | [],b::s,_,_,hf=>by
  have:=hf b;simp [List.filter_cons,h.eqr b] at this
 |a::r,[],_,_,hf=>by
  have:=hf a;simp [List.filter_cons,h.eqr a] at this
 |a::r,b::s,hr,hs,hf=>by
  have hb:b∈a::r:=hf.mem h (List.mem_cons_self ..);have ha:a∈b::s:=hf.symm.mem h (List.mem_cons_self ..)
  have hab:le a b=true:=by
   rcases List.mem_cons.1 hb with e|e
   ·rw [e];exact h.refl a
   ·exact (List.pairwise_cons.1 hr).1 b e
  have hba:le b a=true:=by
   rcases List.mem_cons.1 ha with e|e
   ·rw [e];exact h.refl b
   ·exact (List.pairwise_cons.1 hs).1 a e
  have e:a=b:=by
   have:=hf a;rw [List.filter_cons_of_pos (zVd.2 ⟨hab,hba⟩),List.filter_cons_of_pos (h.eqr a)] at this;exact (List.cons.inj this).1.symm
  subst e;rw [uniq h (List.pairwise_cons.1 hr).2 (List.pairwise_cons.1 hs).2 fun x=>?_];have:=hf x;rw [List.filter_cons,List.filter_cons] at this
  split at this
  ·exact (List.cons.inj this).2
  ·exact this
def ins (le:E->E->Bool) (x:E):List E->List E
 | []=>[x]
 |y::r=>if le x y=true then x::y::r else y::ins le x r
def srt (le:E->E->Bool):List E->List E
 | []=>[]
 |x::r=>ins le x (srt le r)
theorem yLn {x z:E}:∀ {l:List E},z∈ins le x l↔z=x\/z∈l
 | []=>by simp [ins]
 |y::r=>by
  simp only [ins]
  split
  ·simp
  ·simp only [List.mem_cons,yLn]
   constructor
   ·rintro (e|e|e)
    ·exact .inr (.inl e)
    ·exact .inl e
    ·exact .inr (.inr e)
   ·rintro (e|e|e)
    ·exact .inr (.inl e)
    ·exact .inl e
    ·exact .inr (.inr e)
theorem zZe (h:TP le) {x:E}:∀ {l:List E},zBy le l->zBy le (ins le x l)
 | [],_=>by simp [ins,zBy]
 |y::r,hs=>by
  have hp:=List.pairwise_cons.1 hs;simp only [ins]
  split
  ·rename_i hx;refine List.pairwise_cons.2 ⟨fun z hz=>?_,hs⟩
   rcases List.mem_cons.1 hz with e|e
   ·rw [e];exact hx
   ·exact h.trans _ _ _ hx (hp.1 z e)
  ·rename_i hx;refine List.pairwise_cons.2 ⟨fun z hz=>?_,zZe h hp.2⟩
   rcases yLn.1 hz with e|e
   ·rw [e];exact (h.total y x).resolve_right hx
   ·exact hp.1 z e
theorem yDf (h:TP le) {x:E}:∀ {l:List E},Same le (x::l) (ins le x l)
 | []=>Same.refl _
 |y::r=>fun z=>by
  simp only [ins]
  split
  ·rfl
  ·rename_i hx;have ih:=yDf h (x:=x) (l:=r) z
   by_cases h1:eqv le z y=true
   ·by_cases h2:eqv le z x=true
    ·exact absurd (h.trans _ _ _ (zVd.1 h2).2 (zVd.1 h1).1) hx
    ·rw [List.filter_cons_of_neg h2] at ih;rw [List.filter_cons_of_neg h2,List.filter_cons_of_pos h1,List.filter_cons_of_pos h1,ih]
   ·rw [List.filter_cons_of_neg h1,ih,List.filter_cons,List.filter_cons,List.filter_cons_of_neg h1]
theorem zBx (h:TP le):∀ (l:List E),zBy le (srt le l)
 | []=>.nil
 |x::r=>zZe h (zBx h r)
theorem zFk (h:TP le):∀ (l:List E),Same le l (srt le l)
 | []=>Same.refl _
 |x::r=>(Same.app (Same.refl [x]) (zFk h r)).trans (yDf h)
theorem zQj (h:TP le) {l r:List E} (hs:zBy le r) (hf:Same le l r):r=srt le l:=
 uniq h hs (zBx h l) (hf.symm.trans (zFk h l))
theorem yOh (h:TP le) {a b:List E} (hf:Same le a b):srt le a=srt le b:=zQj h (zBx h a) (hf.symm.trans (zFk h a))
theorem yEy (h:TP le) {l:List E} (hs:zBy le l):srt le l=l:=(zQj h hs (Same.refl l)).symm
theorem yOf (h:TP le) (a b:List E):srt le (srt le a++srt le b)=srt le (a++b):=(yOh h ((zFk h a).app (zFk h b))).symm
theorem yLm {x:E}:∀ {l:List E},(ins le x l).length=l.length+1
 | []=>rfl
 |y::r=>by
  simp only [ins]
  split
  ·rfl
  ·simp [yLm]
theorem zAm:∀ (l:List E),(srt le l).length=l.length
 | []=>rfl
 |x::r=>by rw [srt,yLm,zAm r];rfl
theorem yOg (h:TP le) {l:List E} {x:E}:x∈srt le l↔x∈l:=⟨fun hx=>(zFk h l).mem h hx,fun hx=>(zFk h l).symm.mem h hx⟩
theorem zCi {a b:List E}:zBy le (a++b)↔zBy le a/\zBy le b/\ ∀ x∈a,∀ y∈b,le x y=true:=List.pairwise_append
theorem zXf (h:TP le) {a b:List E} (hs:∀ x∈a,∀ y∈b,le x y=false):Same le (a++b) (b++a):=fun z=>by
 rw [List.filter_append,List.filter_append]
 have:a.filter (eqv le z)=[] \/b.filter (eqv le z)=[]:=by
  rcases List.eq_nil_or_concat (a.filter (eqv le z)) with e|⟨r,x,e⟩
  ·exact .inl e
  ·refine .inr (List.filter_eq_nil_iff.2 fun y hy hz=>?_)
   have hx:x∈a.filter (eqv le z):=by rw [e];simp
   obtain ⟨h1,h2⟩:=List.mem_filter.1 hx;have:=hs x h1 y hy;rw [h.trans _ _ _ (zVd.1 h2).2 (zVd.1 hz).1] at this
   cases this
 rcases this with e|e<;>rw [e]<;>simp
theorem zSx (h:TP le) {l1 l2 r1 r2:List E} (hl:zBy le (l1++l2)) (hr:zBy le (r1++r2)) (h1:∀ x∈l2,∀ y∈r1,le x y=false) (h2:∀ x∈l1,∀ y∈r2,le x y=true):
  srt le (l1++r1)++srt le (l2++r2)=srt le ((l1++l2)++(r1++r2)):=by
 obtain ⟨a1,a2,a3⟩:=zCi.1 hl;obtain ⟨b1,b2,b3⟩:=zCi.1 hr;refine zQj h (zCi.2 ⟨zBx h _,zBx h _,fun x hx y hy=>?_⟩) ?_
 ·rw [yOg h,List.mem_append] at hx hy
  rcases hx with hx|hx
  ·rcases hy with hy|hy
   ·exact a3 x hx y hy
   ·exact h2 x hx y hy
  ·rcases hy with hy|hy
   ·exact (h.total x y).resolve_right (by rw [h1 y hy x hx];decide)
   ·exact b3 x hx y hy
 ·refine Same.trans ?_ ((zFk h (l1++r1)).app (zFk h (l2++r2)));have:=(Same.refl (le:=le) l1).app ((zXf h h1).app (Same.refl r2))
  simpa [List.append_assoc] using this
theorem yLk (h:TP le) {a b:List E} {x:E} (hs:zBy le (a++b)) (h1:∀ y∈a,le y x=true) (h2:∀ y∈b,le y x=false):a++x::b=srt le ((a++b)++[x]):=by
 obtain ⟨a1,a2,a3⟩:=zCi.1 hs;refine zQj h (zCi.2 ⟨a1,List.pairwise_cons.2 ⟨fun y hy=>(h.total x y).resolve_right (by rw [h2 y hy];decide),a2⟩,fun y hy z hz=>?_⟩) ?_
 ·rcases List.mem_cons.1 hz with e|e
  ·rw [e];exact h1 y hy
  ·exact a3 y hy z e
 ·have:=(Same.refl (le:=le) a).app (zXf h (a:=b) (b:=[x]) fun y hy z hz=>by rw [List.mem_singleton.1 hz];exact h2 y hy)
  simpa [List.append_assoc] using this
theorem yLl (h:TP le) {a b:List E} {x:E} (hs:zBy le (a++b)) (h1:∀ y∈a,le x y=false) (h2:∀ y∈b,le x y=true):a++x::b=srt le (x::(a++b)):=by
 obtain ⟨a1,a2,a3⟩:=zCi.1 hs;refine zQj h (zCi.2 ⟨a1,List.pairwise_cons.2 ⟨fun y hy=>h2 y hy,a2⟩,fun y hy z hz=>?_⟩) ?_
 ·rcases List.mem_cons.1 hz with e|e
  ·rw [e];exact (h.total y x).resolve_right (by rw [h1 y hy];decide)
  ·exact a3 y hy z e
 ·have:=(zXf h (a:=[x]) (b:=a) fun y hy z hz=>by rw [List.mem_singleton.1 hy];exact h1 z hz).app (Same.refl b)
  simpa [List.append_assoc] using this
def cs (le:E->E->Bool) (B:Nat):Nat->List E->List E
 |0,l=>srt le l
 |n+1,l=>if l.length<=B then srt le l else srt le (l.take B)++cs le B n (l.drop B)
theorem yTm {B:Nat}:∀ (n:Nat) (l:List E),(cs le B n l).length=l.length
 |0,l=>zAm l
 |n+1,l=>by
  rw [cs]
  split
  ·exact zAm l
  ·rw [List.length_append,zAm,yTm n,List.length_take,List.length_drop];omega
theorem zOx {B n:Nat} {l:List E} (h:l.length<=B):cs le B n l=srt le l:=by
 cases n with
 |zero=>rfl
 |succ n=>rw [cs,if_pos h]
theorem yTl {B:Nat} {l:List E}:∀ {n m:Nat},0<B->l.length<=n->l.length<=m->cs le B n l=cs le B m l
 |0,m,hB,hn,hm=>by rw [zOx (show l.length<=B by omega),zOx (show l.length<=B by omega)]
 |n+1,0,hB,hn,hm=>by rw [zOx (show l.length<=B by omega),zOx (show l.length<=B by omega)]
 |n+1,m+1,hB,hn,hm=>by
  rw [cs,cs]
  split
  ·rfl
  ·rw [yTl (l:=l.drop B) (n:=n) (m:=m) hB (by rw [List.length_drop];omega) (by rw [List.length_drop];omega)]
end
end Go.Lk.St
namespace Go.Lk
open Go
theorem zIm (b:Nat):∀ l:List D,zBl.cells b (l.map AV.d)=l.map AV.d
 | []=>rfl
 |x::r=>by rw [List.map_cons,zBl.cells,zIm b r];rfl
end Go.Lk
