/-
  What is proved here: what functions of the program compute, and what follows; no condition beyond each theorem's own.
-/
import Derived.Test.YtaofmndhdmkgkaaGreatHAl
import Derived.Below
import Derived.ChangeArms
import Derived.ChangeSame
import Derived.OpenShut
import Derived.ReadAgain
import Derived.RowKit
import Derived.WideShapes
set_option linter.unusedSimpArgs false
set_option linter.unusedVariables false
set_option linter.unnecessarySimpa false
set_option linter.unusedSectionVars false
namespace Go.Lk
open Go Go.RowKit Go.WideShapes Go.ChangeShapes
def FitFs (F:TypeId->List D->Prop):List (Nat×TypeId)->List D->Prop
 | [],ds=>ds=[]
 |(_,t)::r,ds=>∃ a b,ds=a++b/\F t a/\FitFs F r b
def FitN (F:List D->Prop):Nat->List D->Prop
 |0,ds=>ds=[]
 |n+1,ds=>∃ a b,ds=a++b/\F a/\FitN F n b
def Fit (T:Tab):Nat->TypeId->List D->Prop
 |0,_,_=>False
 |n+1,t,ds=>match (T t).k with
  | .int k=>∃ x,ds=[.int k x] /\ (Lit.int k x).wf=true
  | .bool=>∃ b,ds=[.bool b]
  | .str=>∃ s:ByteArray,ds=[.str s] /\s.size<=maxLen
  | .slice e=>∃ l:List (List D),ds=[.lst l] /\l.length<=maxLen/\ ∀ x∈l,Fit T n e x
  | .struct fs=>FitFs (Fit T n) fs ds
  | .arr m e=>FitN (Fit T n e) m ds
  |_=>False
def plainT (T:Tab):Nat->TypeId->Bool
 |0,_=>false
 |m+1,t=>match (T t).k with
  | .int _=>true
  | .bool=>true
  | .str=>true
  | .slice e=>plainT T m e
  | .arr _ e=>plainT T m e
  | .struct fs=>fs.all fun p=>plainT T m p.2
  |_=>false
theorem plainT_known {T:Tab} {m:Nat} {t:TypeId} (h:plainT T m t=true):(T t).k.known=true:=by
 cases m with
 |zero=>cases h
 |succ m=>
  simp only [plainT] at h
  cases hk:(T t).k<;>simp_all [TK.known]
def FitV (T:Tab) (n:Nat) (t:TypeId) (d:D):Prop:=if (T t).k.agg=true then ∃ ds,d=.agg ds/\Fit T n t ds else Fit T n t [d]
def CellsD (M:Mem) (cs:List Value) (ds:List D):Prop:=cs.length=ds.length/\ ∀ (i:Nat) (d:D) (v:Value),ds[i]?=some d->cs[i]?=some v->DenD M d v
theorem CellsD.app {M:Mem} {a b:List Value} {x y:List D} (h:CellsD M a x) (h':CellsD M b y):CellsD M (a++b) (x++y):=by
 refine ⟨by simp [h.1,h'.1],fun i d v h1 h2=>?_⟩
 by_cases hi:i<x.length
 ·rw [List.getElem?_append_left hi] at h1;rw [List.getElem?_append_left (by rw [h.1];exact hi)] at h2;exact h.2 i d v h1 h2
 ·rw [List.getElem?_append_right (by omega)] at h1;rw [List.getElem?_append_right (by rw [h.1];omega),h.1] at h2;exact h'.2 _ d v h1 h2
theorem CellsD.one {M:Mem} {v:Value} {d:D} (h:DenD M d v):CellsD M [v] [d]:=by
 refine ⟨rfl,fun i d' v' h1 h2=>?_⟩
 cases i with
 |zero=>
  simp only [List.getElem?_cons_zero,Option.some.injEq] at h1 h2;subst h1 h2;exact h
 |succ i=>simp at h1
def memOf (w:World):Mem:=fun b o=>w.cell? ⟨b,o,none⟩
section
variable {H:Type} {enc:TypeId×Value->H} {P:Program} {T:Tab} (hT:TabOk P T) {w:World} {spare:Nat->Bool} {held:Bool}
include hT in
theorem cells_size {t:TypeId} (h:(T t).k.known=true):P.cellsOf t=(T t).size:=by
 obtain ⟨d,i,_,hi,_,hs,_⟩:=(tyFact hT h).desc;simp [Program.cellsOf,hi,hs]
include hT in
theorem trod_den (K:Kids P (·<P.types.size)):∀ (n:Nat) (t:TypeId) (cs:List Value) (x:DataW H×List MemPlace),t<P.types.size->(∃ m,plainT T m t=true)->
  DataW.trod enc P w 0 spare held n t cs=some x->∃ ds,Fit T n t ds/\CellsD (memOf w) cs ds:=by
 intro n
 induction n with
 |zero=>intro t cs x _ _ h;simp [DataW.trod] at h
 |succ n ih=>
  intro t cs x ht hpl h;obtain ⟨q,hpl⟩:=hpl;have hk:=plainT_known hpl
  cases q with
  |zero=>cases hpl
  |succ qq=>
  obtain ⟨d0,i0,hu0,_,hkind,_,_,_,helems,_⟩:=(tyFact hT hk).desc
  cases hkt:(T t).k with
  |other=>rw [hkt] at hk;cases hk
  |ptr e=>simp [plainT,hkt] at hpl
  |int k=>
   obtain ⟨m,rfl,_,hw⟩:=DataW.trod_int (und_int hT hkt) h;exact ⟨[.int k m],by simp only [Fit,hkt];exact ⟨m,rfl,hw⟩,.one (.int k m)⟩
  |bool=>
   obtain ⟨b,rfl,_⟩:=DataW.trod_bool (und_bool hT hkt) h;exact ⟨[.bool b],by simp only [Fit,hkt];exact ⟨b,rfl⟩,.one (.bool b)⟩
  |str=>
   obtain ⟨s,rfl,_,hs⟩:=DataW.trod_string (und_str hT hkt) h;exact ⟨[.str s],by simp only [Fit,hkt];exact ⟨s,rfl,hs⟩,.one (.str s)⟩
  |slice e=>
   obtain ⟨hu,hke⟩:=und_slice hT hkt;have hte:=K.slice ht hu
   rcases DataW.trod_slice hu h with ⟨rfl,_⟩|⟨a,len,cap,elems,rest,m,hm,rfl,_,_,hlc,hcm,hel,hread,_,_⟩
   ·exact ⟨[.lst []],by simp only [Fit,hkt];exact ⟨[],rfl,by simp,by simp⟩,.one (.emp _ _)⟩
   ·obtain rfl:n=m:=by omega
    by_cases hl0:len=0
    ·subst hl0;exact ⟨[.lst []],by simp only [Fit,hkt];exact ⟨[],rfl,by simp,by simp⟩,.one (.emp _ _)⟩
    have hsz:P.cellsOf e=(T e).size:=cells_size hT hke;have hpos:=size_pos hT hke
    have hex:∀ i,i<len->∃ ds,Fit T n e ds/\ds.length=(T e).size/\a.spot=none/\ ∀ (j:Nat) (d:D),ds[j]?=some d->∃ v,w.cell? ⟨a.block,a.off+i*(T e).size+j,none⟩=some v/\DenD (memOf w) d v:=by
     intro i hi;have hr:=hread i hi
     have he:elems[i]?=some (elems[i]'(by omega)):=by simp
     rw [he] at hr;simp only [Option.bind_eq_some_iff] at hr;obtain ⟨cs',hcells,htrod⟩:=hr;obtain ⟨ds,hfit,hcd⟩:=ih e cs' _ hte ⟨qq,by simpa [plainT,hkt] using hpl⟩ htrod
     have hcl:(List.range (P.cellsOf e)).mapM (fun j=>w.cell? ((a.add (i*P.cellsOf e)).add j))=some cs':=by
      unfold World.cells? at hcells
      split at hcells
      ·exact hcells
      ·cases hcells
     have hlen:cs'.length=(T e).size:=by
      have:=mapM_some_length hcl
      simpa [hsz] using this
     have hcell:∀ j,j<(T e).size->w.cell? ((a.add (i*P.cellsOf e)).add j)=cs'[j]?:=fun j hj=>
      mapM_some_get hcl j j (by rw [List.getElem?_range (by rw [hsz];exact hj)])
     have hspot:∀ b:Addr,w.cell? b≠none->b.spot=none:=by
      intro b hb;unfold World.cell? at hb
      cases hs:b.spot with
      |none=>rfl
      |some s=>
       exfalso;apply hb
       split<;>simp [hs]
     have hsp:a.spot=none:=by
      have hr0:=hread 0 (by omega)
      have he0:elems[0]?=some (elems[0]'(by omega)):=by simp
      rw [he0] at hr0;simp only [Option.bind_eq_some_iff] at hr0;obtain ⟨cs0,hc0,_⟩:=hr0;unfold World.cells? at hc0
      split at hc0
      ·have l0:=mapM_some_length hc0;have:=mapM_some_get hc0 0 0 (by rw [List.getElem?_range (by rw [hsz];exact hpos)])
       have hz:cs0[0]?≠none:=by
        have:0<cs0.length:=by rw [l0];simpa [hsz] using hpos
        rw [List.getElem?_eq_getElem this];simp
       rw [<-this] at hz;have:=hspot _ hz
       simpa [Addr.add] using this
      ·cases hc0
     refine ⟨ds,hfit,by rw [<-hcd.1,hlen],hsp,fun j d hj=>?_⟩
     have hjl:j<(T e).size:=by rw [<-hlen,hcd.1];exact (List.getElem?_eq_some_iff.1 hj).1
     have hv:cs'[j]?=some (cs'[j]'(by omega)):=by simp
     refine ⟨_,?_,hcd.2 j d _ hj hv⟩;rw [<-hv,<-hcell j hjl]
     congr 1
     obtain ⟨ab,ao,as⟩:=a;simp only at hsp;subst hsp;rw [addr_add,addr_add,hsz]
    obtain ⟨f,hf⟩:∃ f:Nat->List D,∀ i,i<len->Fit T n e (f i) /\ (f i).length=(T e).size/\a.spot=none/\ ∀ (j:Nat) (d:D),(f i)[j]?=some d->∃ v,w.cell? ⟨a.block,a.off+i*(T e).size+j,none⟩=some v/\DenD (memOf w) d v:=by
     refine ⟨fun i=>if h:i<len then Classical.choose (hex i h) else [],fun i hi=>?_⟩;simp only [dif_pos hi];exact Classical.choose_spec (hex i hi)
    have hspn:a.spot=none:=(hf 0 (by omega)).2.2.1;obtain ⟨ab,ao,as⟩:=a;simp only at hspn hf;subst hspn
    let l:List (List D):=(List.range len).map f
    have hget:∀ (i:Nat) (e':List D),l[i]?=some e'->i<len/\e'=f i:=by
     intro i e' hi;simp only [l,List.getElem?_map] at hi
     by_cases h1:i<len
     ·rw [List.getElem?_range h1] at hi;simp only [Option.map_some,Option.some.injEq] at hi;exact ⟨h1,hi.symm⟩
     ·rw [List.getElem?_eq_none (by simp;omega)] at hi;cases hi
    have hll:l.length=len:=by simp [l]
    refine ⟨[.lst l],?_,?_⟩
    ·simp only [Fit,hkt];refine ⟨l,rfl,by rw [hll];omega,fun x hx=>?_⟩;obtain ⟨i,hi,hxi⟩:=List.getElem_of_mem hx;obtain ⟨h1,h2⟩:=hget i x (by rw [List.getElem?_eq_getElem hi,hxi])
     rw [h2];exact (hf i h1).1
    ·refine .one ?_;rw [show len=l.length from hll.symm]
     refine .lst l ab ao cap (T e).size (fun i j=>(w.cell? ⟨ab,ao+i*(T e).size+j,none⟩).getD undef) (by omega) (fun i e' hi=>?_) (fun i j e' d hi hj=>?_) fun i j e' d hi hj=>?_
     ·obtain ⟨h1,h2⟩:=hget i e' hi
      rw [h2];exact (hf i h1).2.1
     ·obtain ⟨h1,h2⟩:=hget i e' hi;subst h2;obtain ⟨v,hv,_⟩:=(hf i h1).2.2.2 j d hj;show w.cell? _=some _
      rw [hv];rfl
     ·obtain ⟨h1,h2⟩:=hget i e' hi;subst h2;obtain ⟨v,hv,hd⟩:=(hf i h1).2.2.2 j d hj
      rw [hv];exact hd
  |struct fs=>
   obtain ⟨F,hu,hF,hkn,_⟩:=und_struct hT hkt;obtain ⟨hkids,hcells,hoff⟩:=K.struct ht hu;obtain ⟨xs,m,hm,_,hlen,hxl,hread⟩:=DataW.trod_struct hu h
   obtain rfl:n=m:=by omega
   have key:∀ (G:List Field) (k o:Nat),F.toList.drop k=G->o=((F.toList.take k).map fun f=>P.cellsOf f.type).sum->∃ ds,FitFs (Fit T n) (G.map fun f=>(f.offset,f.type)) ds/\CellsD (memOf w) ((cs.drop o).take ((G.map fun f=>P.cellsOf f.type).sum)) ds:=by
    intro G
    induction G with
    |nil=>intro k o _ _;exact ⟨[],rfl,by simp [CellsD]⟩
    |cons g G ihG=>
     intro k o hG ho
     have hgk:F.toList[k]?=some g:=by
      have:=congrArg (·[0]?) hG
      simpa using this
     have hG':F.toList.drop (k+1)=G:=by
      have:=congrArg (List.drop 1) hG
      simpa [Nat.add_comm] using this
     have hgo:g.offset=o:=by rw [hoff k g hgk,ho]
     have hgm:g∈F.toList:=List.mem_of_getElem? hgk;have hgt:(T g.type).k.known=true:=hkn (g.offset,g.type) (by rw [<-hF];exact List.mem_map.2 ⟨g,hgm,rfl⟩);have hr:=hread k g (by rw [<-Array.getElem?_toList];exact hgk)
     have hxk:xs[k]?=some (xs[k]'(by rw [hxl];have:=(List.getElem?_eq_some_iff.1 hgk).1;simpa using this)):=by simp
     rw [hxk] at hr
     obtain ⟨d1,f1,c1⟩:=ih g.type _ _ (hkids g hgm) ⟨qq,by
      simp only [plainT,hkt,List.all_eq_true] at hpl
      exact hpl (g.offset,g.type) (by rw [<-hF];exact List.mem_map.2 ⟨g,hgm,rfl⟩)⟩ hr
     obtain ⟨d2,f2,c2⟩:=ihG (k+1) (o+P.cellsOf g.type) hG' (by
      rw [ho]
      have:F.toList.take (k+1)=F.toList.take k++[g]:=by
       rw [List.take_add_one,hgk];rfl
      rw [this];simp)
     refine ⟨d1++d2,⟨d1,d2,rfl,f1,f2⟩,?_⟩
     have:(cs.drop o).take (((g::G).map fun f=>P.cellsOf f.type).sum)=(cs.drop g.offset).take (P.cellsOf g.type)++(cs.drop (o+P.cellsOf g.type)).take ((G.map fun f=>P.cellsOf f.type).sum):=by
      rw [hgo];simp only [List.map_cons,List.sum_cons];rw [List.take_add,List.drop_drop]
     rw [this];exact c1.app c2
   obtain ⟨ds,k1,k2⟩:=key F.toList 0 0 rfl rfl;refine ⟨ds,by simp only [Fit,hkt];rw [<-hF];exact k1,?_⟩;rw [<-hcells,<-hlen] at k2
   simpa using k2
  |arr m e=>
   obtain ⟨hu,hke⟩:=und_arr hT hkt;obtain ⟨hte,hcells⟩:=K.array ht hu;obtain ⟨xs,m',hm',_,hlen,hxl,hread⟩:=DataW.trod_array hu h
   obtain rfl:n=m':=by omega
   have key:∀ (q k:Nat),k+q=m->∃ ds,FitN (Fit T n e) q ds/\CellsD (memOf w) ((cs.drop (k*P.cellsOf e)).take (q*P.cellsOf e)) ds:=by
    intro q
    induction q with
    |zero=>intro k _;exact ⟨[],rfl,by simp [CellsD]⟩
    |succ q ihq=>
     intro k hkq;have hr:=hread k (by omega)
     have hxk:xs[k]?=some (xs[k]'(by omega)):=by simp
     rw [hxk] at hr;obtain ⟨d1,f1,c1⟩:=ih e _ _ hte ⟨qq,by simpa [plainT,hkt] using hpl⟩ hr;obtain ⟨d2,f2,c2⟩:=ihq (k+1) (by omega);refine ⟨d1++d2,⟨d1,d2,rfl,f1,f2⟩,?_⟩
     have:(cs.drop (k*P.cellsOf e)).take ((q+1)*P.cellsOf e)=(cs.drop (k*P.cellsOf e)).take (P.cellsOf e)++(cs.drop ((k+1)*P.cellsOf e)).take (q*P.cellsOf e):=by
      rw [show (q+1)*P.cellsOf e=P.cellsOf e+q*P.cellsOf e by rw [Nat.add_mul,Nat.one_mul,Nat.add_comm],List.take_add,List.drop_drop,show k*P.cellsOf e+P.cellsOf e=(k+1)*P.cellsOf e by rw [Nat.add_mul,Nat.one_mul]]
     rw [this];exact c1.app c2
   obtain ⟨ds,k1,k2⟩:=key m 0 (by omega);refine ⟨ds,by simp only [Fit,hkt];exact k1,?_⟩;rw [<-hcells,<-hlen] at k2
   simpa using k2
include hT in
theorem arg_den (K:Kids P (·<P.types.size)) {t:TypeId} {v:Value} {d:DataW H} {ps:List MemPlace} {r:Reach} {base:Nat} (ht:t<P.types.size) (hpl:∃ m,plainT T m t=true) (hok:Value.okWide P w r base t v) (h:DataW.Trod enc P w 0 spare held t v d ps):
  ∃ n dd,FitV T n t dd/\DenD (memOf w) dd v:=by
 obtain ⟨n,hn⟩:=h;obtain ⟨ds,hfit,hcd⟩:=trod_den hT K n t _ _ ht hpl hn;obtain ⟨m,hpl⟩:=hpl;have hk:=plainT_known hpl
 have aggc:∀ cs:Array Value,v=.agg cs->(T t).k.agg=true->∃ n dd,FitV T n t dd/\DenD (memOf w) dd v:=by
  intro cs hv ha;subst hv;refine ⟨n,.agg ds,by unfold FitV;rw [if_pos ha];exact ⟨ds,rfl,hfit⟩,.agg ds cs (by simpa [Value.cells] using hcd.1) fun i d v h1 h2=>hcd.2 i d v h1 (by simpa [Value.cells] using h2)⟩
 have one:v.cells=#[v]->(T t).k.agg=false->∃ n dd,FitV T n t dd/\DenD (memOf w) dd v:=by
  intro hv ha
  have hl:ds.length=1:=by rw [<-hcd.1,hv];rfl
  obtain ⟨d,rfl⟩:=List.length_eq_one_iff.1 hl;exact ⟨n,d,by unfold FitV;rw [if_neg (by simp [ha])];exact hfit,hcd.2 0 d v rfl (by rw [hv];rfl)⟩
 cases hkt:(T t).k with
 |other=>rw [hkt] at hk;cases hk
 |ptr e=>cases m<;>simp [plainT,hkt] at hpl
 |int k=>obtain ⟨x,rfl⟩:=okWide_int (und_int hT hkt) hok;exact one rfl (by rw [hkt];rfl)
 |bool=>obtain ⟨x,rfl⟩:=okWide_bool (und_bool hT hkt) hok;exact one rfl (by rw [hkt];rfl)
 |str=>obtain ⟨x,rfl⟩:=okWide_string (und_str hT hkt) hok;exact one rfl (by rw [hkt];rfl)
 |slice e=>obtain ⟨a,l,c,rfl⟩:=okWide_slice (und_slice hT hkt).1 hok;exact one rfl (by rw [hkt];rfl)
 |struct fs=>
  obtain ⟨F,hu,_⟩:=und_struct hT hkt;obtain ⟨cs,hv,_⟩:=okWide_struct hu hok;exact aggc cs hv (by rw [hkt];rfl)
 |arr m e=>
  have hu:=(und_arr hT hkt).1;unfold Value.okWide at hok;rw [hu] at hok;obtain ⟨cs,hv,_⟩:=hok;exact aggc cs hv (by rw [hkt];rfl)
def FitAll (T:Tab):List TypeId->List D->Prop
 | [],ds=>ds=[]
 |t::ts,ds=>∃ n d r,ds=d::r/\FitV T n t d/\FitAll T ts r
include hT in
theorem args_den' (K:Kids P (·<P.types.size)) {r:Reach} {base:Nat}:∀ {ts:List TypeId} {vs:List Value} {ds:List (DataW H)} {ps:List MemPlace},(∀ t∈ts,t<P.types.size/\ ∃ m,plainT T m t=true)->
  (∀ (j:Nat) t v,ts[j]?=some t->vs[j]?=some v->Value.okWide P w r base t v)->DataW.TrodAll enc P w 0 spare held ts vs ds ps->
  ∃ dds,FitAll T ts dds/\dds.length=vs.length/\ds.length=ts.length/\ ∀ (i:Nat) (d:D) (v:Value),dds[i]?=some d->vs[i]?=some v->DenD (memOf w) d v
 | [],vs,ds,ps,_,_,h=>by
  obtain ⟨rfl,rfl,rfl⟩:=trodAll_nil h;exact ⟨[],rfl,rfl,rfl,fun i d v h=>by simp at h⟩
 |t::ts,vs,ds,ps,hts,hok,h=>by
  obtain ⟨v,vs1,d,ds1,a,b,rfl,rfl,rfl,h1,h2⟩:=trodAll_cons h;obtain ⟨n,dd,e1,e2⟩:=arg_den hT K (hts t (List.mem_cons_self ..)).1 (hts t (List.mem_cons_self ..)).2 (hok 0 t v rfl rfl) h1;obtain ⟨dds,e3,e4,e6,e5⟩:=args_den' K (fun t ht=>hts t (List.mem_cons_of_mem _ ht)) (fun j t v h1 h2=>hok (j+1) t v (by simpa using h1) (by simpa using h2)) h2;refine ⟨dd::dds,⟨n,dd,dds,rfl,e1,e3⟩,by simp [e4],by simp [e6],fun i d' v' g1 g2=>?_⟩
  cases i with
  |zero=>
   simp only [List.getElem?_cons_zero,Option.some.injEq] at g1 g2;subst g1 g2;exact e2
  |succ i=>exact e5 i d' v' (by simpa using g1) (by simpa using g2)
theorem agree_memOf (w:World):Agree (memOf w) w:=fun _ _ _ h=>h
theorem below_sameAt {w w':World} (h:Below w.heap.size w w') {p:MemPlace} (hp:p.block<w.heap.size):w.sameAt w' p:=by
 have:=h.block p.block hp
 cases p with
 |cell b off=>simp only [World.sameAt,World.cell?];simp only [MemPlace.block] at this;rw [this]
 |map b=>exact this
theorem trodAll_carry' {w':World}:∀ {ts:List TypeId} {vs:List Value} {ds:List (DataW H)} {ps:List MemPlace},DataW.TrodAll enc P w 0 spare held ts vs ds ps->(∀ p∈ps,w.sameAt w' p)->DataW.TrodAll enc P w' 0 spare held ts vs ds ps
 | [],vs,ds,ps,h,_=>by
  obtain ⟨rfl,rfl,rfl⟩:=trodAll_nil h;rfl
 |t::ts,vs,ds,ps,h,hs=>by
  obtain ⟨v,vs1,d,ds1,a,b,rfl,rfl,rfl,⟨n,hn⟩,h2⟩:=trodAll_cons h;exact ⟨a,b,⟨n,DataW.trod_carry n t _ _ hn fun p hp=>hs p (List.mem_append_left _ hp)⟩,trodAll_carry' h2 fun p hp=>hs p (List.mem_append_right _ hp),rfl⟩
theorem post_of_below {f:Func} {s:ChangeSpec} {apart fresh handsOn again:Bool} {W W':World} {args:Array Value} {v:Value} {ds gs:List (DataW H)} {before pa pv:List MemPlace}
  (hW:DataW.Whole enc P f.params.toList s.vars apart W args.toList ds gs before)
  (hres:∀ (b:Nat) (sp:Nat->Bool) (hd:Bool),DataW.TrodAll enc P W' b sp hd f.resultTypes.toList (v.resultList f.resultTypes.size) (s.fn H (ds++gs)).results [])
  (hargs:∀ sp:Nat->Bool,(∀ p∈before,sp p.block=true)->DataW.TrodAll enc P W' 0 sp true f.params.toList args.toList (s.fn H (ds++gs)).args pa)
  (hvars:∀ sp:Nat->Bool,(∀ p∈before,sp p.block=true)->DataW.TrodVars enc P W' sp s.vars (s.fn H (ds++gs)).vars pv)
  (hps:before=pa++pv) (hb:Below W.heap.size W W')
  (hok:∀ (j:Nat) (t:TypeId) (r:Value),f.resultTypes[j]?=some t->(v.resultList f.resultTypes.size)[j]?=some r->Value.okWide P W' .any 0 t r):
  s.post enc P f apart fresh handsOn again W args v W':=by
 have hlt:∀ p∈before,p.block<W.heap.size:=fun p hp=>hW.lt p hp
 have hold:∀ p∈before,(fun b=>decide (b<W.heap.size)) p.block=true:=fun p hp=>by simpa using hlt p hp
 refine ⟨ds,gs,before,[],pa,pv,hW,hres _ _ _,hargs _ hold,hvars _ hold,World.keptBut_mono (fun p hp=>⟨hp,?_⟩) (hb.frame (·∈before)),fun _=>?_⟩
 ·rw [hps,List.mem_append] at hp;exact Or.inr hp
 ·obtain ⟨_,_,_,_,_,hz,hn⟩:=hW;refine ⟨hok,_,_,([]++pa)++pv,⟨[]++pa,pv,trodAll_append (hargs _ (fun _ _=>rfl)) (hres _ _ _),hvars _ (fun _ _=>rfl),rfl,?_,?_⟩,?_⟩
  ·intro b off hp
   have hin:MemPlace.cell b off∈before:=by rw [hps];simpa using hp
   rw [hb.frozen (hlt _ hin)];exact hz b off hin
  ·intro ha;have:=hn ha;rw [hps] at this
   simpa using this
  ·intro p hp _;rw [hps]
   simpa using hp
include hT in
theorem law_contract (K:Kids P (·<P.types.size)) (hz:∀ t e,t<P.types.size->P.underlying t=some (.slice e)->0<P.cellsOf e) {f:FuncId} {fn:Func} {s:ChangeSpec} {fresh handsOn again:Bool} {tb:TypeId}
  (hts:∀ t∈fn.params.toList,t<P.types.size/\ ∃ m,plainT T m t=true) (hres:fn.resultTypes=#[tb]) (hb:P.underlying tb=some .bool) (hvars:s.vars=[])
  (hs:∀ ds:List (DataW H),ds.length=fn.params.toList.length->s.fn H ds={results:=[.lit (.bool true)],args:=ds})
  (law:∀ dds,FitAll T fn.params.toList dds->ACall P f dds (.bool true))
  (W:World) (base:Nat) (args:Array Value) (ds gs:List (DataW H)) (before:List MemPlace)
  (hval:∀ (j:Nat) t v,fn.params[j]?=some t->args[j]?=some v->Value.okWide P W .any base t v)
  (hW:DataW.Whole enc P fn.params.toList s.vars false W args.toList ds gs before):
  Calls P f args W fun e W'=>∃ v,e=.returned v/\s.post enc P fn false fresh handsOn again W args v W':=by
 have hlt:∀ p∈before,p.block<W.heap.size:=fun p hp=>hW.lt p hp
 have hW':=hW;obtain ⟨p,q,hA,hV,rfl,hfz,hnd⟩:=hW;rw [hvars] at hV;obtain ⟨rfl,rfl⟩:=trodVars_none hV;obtain ⟨dds,hfit,hdl,hdsl,hden⟩:=args_den' hT K hts (fun j t v h1 h2=>hval j t v (by simpa using h1) (by simpa using h2)) hA;have hlaw:=law dds hfit
 refine (hlaw.2 W (memOf W) args (agree_memOf W) ⟨by simpa using hdl.symm,fun i d v h1 h2=>hden i d v h1 (by simpa using h2)⟩).mono fun e W' hq=>?_
 obtain ⟨v,M',rfl,hbel,_,_,_,hd⟩:=hq
 have hv:v=.bool true:=by cases hd;rfl
 subst hv;refine ⟨_,rfl,?_⟩
 have hsf:s.fn H (ds++[])={results:=[.lit (.bool true)],args:=ds}:=by rw [List.append_nil];exact hs _ hdsl
 refine post_of_below (pa:=p) (pv:=[]) hW' ?_ ?_ ?_ rfl hbel ?_
 ·intro b sp hd;rw [hsf,hres];exact trodAll_mk1 ⟨1,by simp [DataW.trod,hb,Value.cells]⟩
 ·intro sp hsp;rw [hsf]
  exact DataW.TrodAll.respare K hz (fun t ht=>(hts t ht).1) (trodAll_carry' hA fun x hx=>below_sameAt hbel (hlt x (by simpa using hx))) fun x hx=>hsp x (by simpa using hx)
 ·intro sp _;rw [hsf,hvars];rfl
 ·exact ok_one hres rfl (okWide_bool_mk hb _)
end
end Go.Lk
namespace Go.Lk
open Go Go.RowKit
theorem w64 {n:Int} (h0:-9223372036854775808<=n) (h1:n<=9223372036854775807):IntKind.i64.wrap n=n:=by
 rw [IntKind.wrap_i64];omega
theorem bF {A B:Prop} (h:B):bcase false A B:=⟨h⟩
theorem bT {A B:Prop} (h:A):bcase true A B:=⟨h⟩
theorem dK {r:List Oper} {q:List Summ} {i:Nat} {done:List Summ} {pm:List Nat} {K:Prop} (k:K) (h:drawOk r q i done pm=true:=by kernel_rfl):condK (drawOk r q i done pm=true) K:=condK_of h k
theorem cR {α:Type} {a:α} {K:Prop} (k:K):condK (a=a) K:=⟨⟨rfl,k⟩⟩
theorem cK {c K:Prop} (k:K) (h:c:=by first|decide|omega):condK c K:=⟨⟨h,k⟩⟩
theorem wK {n:Int} {K:Int->Prop} (k:K n) (h0:-9223372036854775808<=n:=by omega) (h1:n<=9223372036854775807:=by omega):wrapK .i64 n K:=wrapK_in (w64 h0 h1) k
theorem drop_cons {α} {l:List α} {k:Nat} (h:k<l.length):l.drop k=l[k]::l.drop (k+1):=List.drop_eq_getElem_cons h
theorem take_snoc {α} {l:List α} {k:Nat} (h:k<l.length):l.take (k+1)=l.take k++[l[k]]:=by
 rw [List.take_add_one];simp [h]
theorem getC_of {c:List AV} {j:Nat} {K:AV->Prop} {x:AV} (h:c[j]?=some x) (k:force x K):getC c j K:=by
 unfold getC;rw [h];exact k
theorem bif_of {b:Bool} {A:Prop} (h:b=true) (k:A):bif b then A else False:=by rw [h];exact k
theorem ret_of {o:Option D} {d d':D} (h:o=some d') (e:d'=d):o=some d:=by rw [h,e]
@[simp] theorem oneD1 (d:D):oneD [d]=d:=rfl
theorem roomK_le {n bytes:Nat} {K:Prop} (m c:Nat) (hn:n<=m) (hb:bytes<=c) (h1:m*c<=35184372088832) (h2:m<=35184372088832) (k:K):roomK n bytes K:=
 roomK_of (Nat.le_trans (Nat.mul_le_mul hn hb) h1) (Nat.le_trans hn h2) k
theorem params_ok {P:Program} {T:Tab} {fn:Func} (h:(fn.params.toList.all fun t=>Nat.blt t P.types.size&&plainT T 12 t)=true):∀ t∈fn.params.toList,t<P.types.size/\ ∃ m,plainT T m t=true:=by
 intro t ht;have:=List.all_eq_true.1 h t ht;simp only [Bool.and_eq_true] at this;exact ⟨Nat.le_of_ble_eq_true this.1,12,this.2⟩
def sliceSize (P:Program):Bool:=(List.range P.types.size).all fun t=>match P.underlying t with
 |some (.slice e)=>Nat.blt 0 (P.cellsOf e)
 |_=>true
theorem sliceSize_out {P:Program} (h:sliceSize P=true):∀ t e,t<P.types.size->P.underlying t=some (.slice e)->0<P.cellsOf e:=by
 intro t e ht hu;have:=(List.all_eq_true.1 h) t (List.mem_range.2 ht);rw [hu] at this;exact Nat.le_of_ble_eq_true this
theorem fit_int {T:Tab} {n:Nat} {t:TypeId} {k:IntKind} {ds:List D} (hk:(T t).k=.int k) (h:Fit T n t ds):∃ x,ds=[.int k x] /\ (Lit.int k x).wf=true:=by
 cases n with
 |zero=>exact h.elim
 |succ n=>simp only [Fit,hk] at h;exact h
theorem fit_bool {T:Tab} {n:Nat} {t:TypeId} {ds:List D} (hk:(T t).k=.bool) (h:Fit T n t ds):∃ b,ds=[.bool b]:=by
 cases n with
 |zero=>exact h.elim
 |succ n=>simp only [Fit,hk] at h;exact h
theorem fit_str {T:Tab} {n:Nat} {t:TypeId} {ds:List D} (hk:(T t).k=.str) (h:Fit T n t ds):∃ s:ByteArray,ds=[.str s] /\s.size<=maxLen:=by
 cases n with
 |zero=>exact h.elim
 |succ n=>simp only [Fit,hk] at h;exact h
theorem fit_slice {T:Tab} {n:Nat} {t e:TypeId} {ds:List D} (hk:(T t).k=.slice e) (h:Fit T n t ds):∃ m,∃ l:List (List D),ds=[.lst l] /\l.length<=maxLen/\ ∀ x∈l,Fit T m e x:=by
 cases n with
 |zero=>exact h.elim
 |succ n=>simp only [Fit,hk] at h;exact ⟨n,h⟩
theorem fit_struct {T:Tab} {n:Nat} {t:TypeId} {fs:List (Nat×TypeId)} {ds:List D} (hk:(T t).k=.struct fs) (h:Fit T n t ds):∃ m,FitFs (Fit T m) fs ds:=by
 cases n with
 |zero=>exact h.elim
 |succ n=>simp only [Fit,hk] at h;exact ⟨n,h⟩
theorem fitV_one {T:Tab} {n:Nat} {t:TypeId} {d:D} (ha:(T t).k.agg=false) (h:FitV T n t d):Fit T n t [d]:=by
 unfold FitV at h;rw [ha] at h;simpa using h
theorem fitV_int {T:Tab} {n:Nat} {t:TypeId} {k:IntKind} {d:D} (hk:(T t).k=.int k) (h:FitV T n t d):∃ x,d=.int k x/\ (Lit.int k x).wf=true:=by
 obtain ⟨x,e,h⟩:=fit_int hk (fitV_one (by rw [hk];rfl) h);exact ⟨x,(List.cons.inj e).1,h⟩
theorem exists_map {α:Type} {f:α->List D} {Q:α->Prop}:∀ {l:List (List D)},(∀ x∈l,∃ a,x=f a/\Q a)->∃ r:List α,l=r.map f/\ ∀ a∈r,Q a
 | [],_=>⟨[],rfl,fun a h=>by cases h⟩
 |x::l,h=>by
  obtain ⟨a,rfl,ha⟩:=h x (List.mem_cons_self ..)
  obtain ⟨r,rfl,hr⟩:=exists_map (l:=l) fun y hy=>h y (List.mem_cons_of_mem _ hy)
  exact ⟨a::r,rfl,fun b hb=>by
   rcases List.mem_cons.1 hb with rfl|hb
   ·exact ha
   ·exact hr b hb⟩
theorem fitV_rows {α:Type} {f:α->List D} {Q:α->Prop} {T:Tab} {n:Nat} {t e:TypeId} {d:D} (hk:(T t).k=.slice e) (h:FitV T n t d) (hf:∀ m x,Fit T m e x->∃ a,x=f a/\Q a):
  ∃ r:List α,d=.lst (r.map f) /\r.length<=maxLen/\ ∀ a∈r,Q a:=by
 obtain ⟨m,l,e1,e2,e3⟩:=fit_slice hk (fitV_one (by rw [hk];rfl) h)
 obtain ⟨r,rfl,hr⟩:=exists_map fun x hx=>hf m x (e3 x hx)
 exact ⟨r,(List.cons.inj e1).1,by simpa using e2,hr⟩
theorem wf_u8 {x:Int} (h:(Lit.int .u8 x).wf=true):0<=x/\x<=255:=by
 simpa [Lit.wf,IntKind.min,IntKind.max,IntKind.signed,IntKind.bits] using h
theorem fit_rows {α:Type} {f:α->List D} {Q:α->Prop} {T:Tab} {n:Nat} {t e:TypeId} {ds:List D} (hk:(T t).k=.slice e) (h:Fit T n t ds) (hf:∀ m x,Fit T m e x->∃ a,x=f a/\Q a):
  ∃ r:List α,ds=[.lst (r.map f)] /\r.length<=maxLen/\ ∀ a∈r,Q a:=by
 obtain ⟨m,l,e1,e2,e3⟩:=fit_slice hk h
 obtain ⟨r,rfl,hr⟩:=exists_map fun x hx=>hf m x (e3 x hx)
 exact ⟨r,e1,by simpa using e2,hr⟩
def encI (p:Int×Int):List D:=[.int .i64 p.1,.int .i64 p.2]
def encIs (l:List (Int×Int)):D:=.lst (l.map encI)
theorem encI_len {l:List (Int×Int)} {e:List D} (h:e∈l.map encI):e.length=2:=by
 simp only [List.mem_map] at h;obtain ⟨x,_,rfl⟩:=h;rfl
theorem encI_ok:∀ (l:List (Int×Int)),okRows 2 (l.map encI)=true
 | []=>rfl
 |_::r=>encI_ok r
def enc1 (n:Int):List D:=[.int .i64 n]
def encNs (l:List Int):D:=.lst (l.map enc1)
theorem yD {p:Prop} [Decidable p] {A B:Prop} (k:A) (h:p:=by omega):bcase (decide p) A B:=bcase_t (decide_eq_true h) k
theorem nD {p:Prop} [Decidable p] {A B:Prop} (k:B) (h:¬p:=by omega):bcase (decide p) A B:=bcase_f (decide_eq_false h) k
theorem nN {p:Prop} [Decidable p] {A B:Prop} (k:B) (h:p:=by omega):bcase (!decide p) A B:=bcase_f (by rw [decide_eq_true h];rfl) k
structure Bx (K:Prop):Prop where
 k:K
theorem w0 {K G:Prop} (k:K) (h:Bx K->G:=by intro k;(conv=>whnf);exact k.k):G:=h ⟨k⟩
theorem aA {K G:Prop} (k:K) (h:Bx K->G:=by intro k;(repeat ((first|refine bF ?_|refine bT ?_|refine dK ?_|refine cR ?_|refine cK ?_|refine wK ?_);conv=>whnf));exact k.k):G:=h ⟨k⟩
theorem aW {K G:Prop} (k:K) (h:Bx K->G:=by intro k;(conv=>whnf);(repeat ((first|refine bF ?_|refine bT ?_|refine dK ?_|refine cR ?_|refine cK ?_|refine wK ?_);conv=>whnf));exact k.k):G:=h ⟨k⟩
theorem aO {K G:Prop} (k:K) (h:Bx K->G:=by intro k;(conv=>whnf);(repeat ((first|refine bF ?_|refine bT ?_|refine dK ?_|refine cR ?_|refine cK ?_|refine wK ?_|refine nD ?_|refine yD ?_|refine nN ?_|refine yN ?_);conv=>whnf));exact k.k):G:=h ⟨k⟩
abbrev W32:=BitVec 32
def turner:W32:=0xEDB88320#32
def stp (x:W32):W32:=(x>>>1)^^^(if x.getLsbD 0 then turner else 0#32)
def stp8 (x:W32):W32:=stp (stp (stp (stp (stp (stp (stp (stp x)))))))
theorem stp_xor (a b:W32):stp (a^^^b)=stp a^^^stp b:=by
 unfold stp;rw [BitVec.getLsbD_xor,BitVec.ushiftRight_xor_distrib]
 cases a.getLsbD 0<;>cases b.getLsbD 0<;>simp
 ·rw [BitVec.xor_assoc]
 ·rw [BitVec.xor_assoc,BitVec.xor_assoc,BitVec.xor_comm (b>>>1)]
 ·rw [BitVec.xor_assoc,BitVec.xor_comm turner,BitVec.xor_assoc,BitVec.xor_self,BitVec.xor_zero]
theorem stp8_xor (a b:W32):stp8 (a^^^b)=stp8 a^^^stp8 b:=by
 unfold stp8;simp only [stp_xor]
theorem stp_shl (x:W32) (k:Nat) (h:x.toNat*2^(k+1)<4294967296):stp (x<<<(k+1))=x<<<k:=by
 have e0:(x<<<(k+1)).getLsbD 0=false:=by simp
 unfold stp;rw [e0];simp only [Bool.false_eq_true,if_false,BitVec.xor_zero];apply BitVec.eq_of_toNat_eq
 have h2:x.toNat*2^k<4294967296:=by
  have:x.toNat*2^k<=x.toNat*2^(k+1):=Nat.mul_le_mul_left _ (Nat.pow_le_pow_right (by decide) (by omega));omega
 rw [BitVec.toNat_ushiftRight,BitVec.toNat_shiftLeft,BitVec.toNat_shiftLeft,Nat.shiftLeft_eq,Nat.shiftLeft_eq,Nat.shiftRight_eq_div_pow];rw [Nat.mod_eq_of_lt (show x.toNat*2^(k+1)<2^32 by simpa using h),Nat.mod_eq_of_lt (show x.toNat*2^k<2^32 by simpa using h2)];rw [Nat.pow_succ,<-Nat.mul_assoc,Nat.pow_one,Nat.mul_div_cancel _ (by decide)]
theorem stp8_shl (x:W32) (h:x.toNat<16777216):stp8 (x<<<8)=x:=by
 unfold stp8;rw [stp_shl x 7 (by omega),stp_shl x 6 (by omega),stp_shl x 5 (by omega),stp_shl x 4 (by omega),stp_shl x 3 (by omega),stp_shl x 2 (by omega),stp_shl x 1 (by omega),stp_shl x 0 (by omega)];simp
def ent (i:Nat):W32:=stp8 (BitVec.ofNat 32 i)
theorem stp8_byte (n:W32) (b:Nat) (hb:b<256):stp8 (n^^^BitVec.ofNat 32 b)=ent ((n.toNat%256)^^^b)^^^(n>>>8):=by
 have e1:n^^^BitVec.ofNat 32 b=BitVec.ofNat 32 ((n.toNat%256)^^^b)^^^((n>>>8)<<<8):=by
  apply BitVec.eq_of_toNat_eq;apply Nat.eq_of_testBit_eq;intro i;simp only [BitVec.toNat_xor,BitVec.toNat_ofNat,BitVec.toNat_shiftLeft,BitVec.toNat_ushiftRight,Nat.testBit_xor,Nat.testBit_mod_two_pow,Nat.testBit_shiftLeft,Nat.testBit_shiftRight,show (256:Nat)=2^8 from rfl]
  by_cases h32:i<32
  ·by_cases h8:i<8
   ·simp [h32,h8,show ¬8<=i by omega]
   ·simp [h32,h8,show 8<=i by omega,show 8+(i-8)=i by omega,Bool.xor_comm]
  ·have:n.toNat.testBit i=false:=Nat.testBit_lt_two_pow (Nat.lt_of_lt_of_le n.isLt (Nat.pow_le_pow_right (by decide) (by omega)));simp [h32,this]
 rw [e1,stp8_xor,stp8_shl]
 ·rfl
 ·rw [BitVec.toNat_ushiftRight,Nat.shiftRight_eq_div_pow];have:=n.isLt;omega
theorem wrap32 {n:Int}:IntKind.u32.wrap n=n%4294967296:=by simp [IntKind.wrap,IntKind.bits,IntKind.signed]
theorem wrap8 {n:Int}:IntKind.u8.wrap n=n%256:=by simp [IntKind.wrap,IntKind.bits,IntKind.signed]
theorem u32in {n:Int} (h0:0<=n) (h1:n<=4294967295):IntKind.u32.wrap n=n:=by rw [wrap32];omega
theorem u8in {n:Int} (h0:0<=n) (h1:n<=255):IntKind.u8.wrap n=n:=by rw [wrap8];omega
theorem lt32 (a:W32):(a.toNat:Int) <=4294967295:=by have:=a.isLt;omega
theorem ofInt32 (a:W32):BitVec.ofInt 32 (a.toNat:Int)=a:=by
 apply BitVec.eq_of_toNat_eq;rw [BitVec.toNat_ofInt];have:=a.isLt;omega
theorem bx32 (a b:W32):bitsV .xor .u32 (a.toNat:Int) (b.toNat:Int)=((a^^^b).toNat:Int):=by
 show IntKind.u32.wrap (((BitVec.ofInt 32 (a.toNat:Int)^^^BitVec.ofInt 32 (b.toNat:Int)).toNat:Nat):Int)=_;rw [ofInt32,ofInt32,u32in (by omega) (lt32 _)]
theorem bo32 (a b:W32):bitsV .or .u32 (a.toNat:Int) (b.toNat:Int)=((a|||b).toNat:Int):=by
 show IntKind.u32.wrap (((BitVec.ofInt 32 (a.toNat:Int)|||BitVec.ofInt 32 (b.toNat:Int)).toNat:Nat):Int)=_;rw [ofInt32,ofInt32,u32in (by omega) (lt32 _)]
theorem ba32 (a b:W32):bitsV .and .u32 (a.toNat:Int) (b.toNat:Int)=((a&&& b).toNat:Int):=by
 show IntKind.u32.wrap (((BitVec.ofInt 32 (a.toNat:Int)&&& BitVec.ofInt 32 (b.toNat:Int)).toNat:Nat):Int)=_;rw [ofInt32,ofInt32,u32in (by omega) (lt32 _)]
theorem not32 (a:W32):bitsV .xor .u32 4294967295 (a.toNat:Int)=((~~~ a).toNat:Int):=by
 have:=bx32 (BitVec.allOnes 32) a;rw [show ((BitVec.allOnes 32).toNat:Int)=4294967295 from rfl] at this;rw [this]
 congr 1
theorem odd32 (a:W32):decide (bitsV .and .u32 (a.toNat:Int) 1=1)=a.getLsbD 0:=by
 have:=ba32 a 1#32;rw [show (((1#32:W32)).toNat:Int)=1 from rfl] at this;rw [this]
 have e:(a&&& 1#32).toNat=(a.getLsbD 0).toNat:=by
  rw [BitVec.toNat_and,BitVec.getLsbD,Nat.testBit_zero];show a.toNat&&& 1=_;rw [Nat.and_one_is_mod]
  rcases Nat.mod_two_eq_zero_or_one a.toNat with h|h<;>rw [h]<;>rfl
 rw [e]
 cases a.getLsbD 0<;>rfl
theorem odd32' (a:W32):decide ((a.toNat:Int)%2=1)=a.getLsbD 0:=by
 rw [BitVec.getLsbD,Nat.testBit_zero]
 rcases Nat.mod_two_eq_zero_or_one a.toNat with h|h
 ·rw [h];simp;omega
 ·rw [h];simp;omega
theorem shr32 (a:W32) (k:Nat):(a.toNat:Int).fdiv (2^k)=((a>>>k).toNat:Int):=by
 rw [BitVec.toNat_ushiftRight,Nat.shiftRight_eq_div_pow,Int.fdiv_eq_ediv_of_nonneg _ (by exact Int.pow_nonneg (by decide))];simp
theorem bx8 {a b:Nat} (ha:a<256) (hb:b<256):bitsV .xor .u8 (a:Int) (b:Int)=((a^^^b:Nat):Int):=by
 show IntKind.u8.wrap (((BitVec.ofInt 8 (a:Int)^^^BitVec.ofInt 8 (b:Int)).toNat:Nat):Int)=_;have h:a^^^b<2^8:=Nat.xor_lt_two_pow (by omega) (by omega);rw [BitVec.toNat_xor,BitVec.toNat_ofInt,BitVec.toNat_ofInt];rw [show ((a:Int)%((2^8:Nat):Int)).toNat=a by omega,show ((b:Int)%((2^8:Nat):Int)).toNat=b by omega];exact u8in (by omega) (by omega)
theorem stp_t {a:W32} (h:a.getLsbD 0=true):stp a=(a>>>1)^^^turner:=by rw [stp,h];rfl
theorem stp_f {a:W32} (h:a.getLsbD 0=false):stp a=a>>>1:=by rw [stp,h];simp
def stpN:Nat->W32->W32
 |0,x=>x
 |k+1,x=>stp (stpN k x)
theorem stpN_8 (x:W32):stpN 8 x=stp8 x:=rfl
def crcS (n:W32) (b:UInt8):W32:=stp8 (n^^^BitVec.ofNat 32 b.toNat)
def crcL (l:List UInt8):W32:=l.foldl crcS (BitVec.allOnes 32)
def crcB (s:ByteArray):W32:= ~~~ crcL s.data.toList
theorem crcL_snoc (l:List UInt8) (b:UInt8):crcL (l++[b])=crcS (crcL l) b:=by simp [crcL]
theorem crcS_tab (n:W32) (b:UInt8):crcS n b=ent ((n.toNat%256)^^^b.toNat)^^^(n>>>8):=stp8_byte n b.toNat b.toNat_lt
end Go.Lk
namespace Go.Lk
theorem nB {b:Bool} {A B:Prop} (k:bcase b B A):bcase (!b) A B:=by
 cases b
 ·exact bT k.out
 ·exact bF k.out
theorem aP {K G:Prop} (k:K) (h:Bx K->G:=by intro k;(conv=>whnf);(repeat ((first|with_reducible refine bF ?_|with_reducible refine bT ?_|refine dK ?_|refine cR ?_|refine cK ?_|refine wK ?_|refine nD ?_|refine yD ?_|with_reducible refine nB ?_);conv=>whnf));exact k.k):G:=h ⟨k⟩
end Go.Lk
namespace Go.Lk
open Go
theorem forceL_d:∀ (l:List D) (K:List AV->Prop),forceL (l.map AV.d) K=K (l.map AV.d)
 | [],_=>rfl
 |x::r,K=>by
  show (forceL (r.map AV.d) fun q=>K (AV.d x::q))=_
  rw [forceL_d r];rfl
theorem killC_d (b:Nat):∀ l:List D,killB.cells b (l.map AV.d)=l.map AV.d
 | []=>rfl
 |x::r=>by rw [List.map_cons,killB.cells,killC_d b r];rfl
theorem splice_d:∀ (l2 l:List D) (j:Nat),splice (l.map AV.d) j (l2.map AV.d)=(splice l j l2).map AV.d
 | [],_,_=>rfl
 |x::r,l,j=>by
  show splice ((l.map AV.d).set j (.d x)) (j+1) (r.map AV.d)=_
  rw [<-List.map_set,splice_d r];rfl
theorem part_agg {l l2:List D} {c:List AV} {j s:Nat} {K:List AV->Prop} (hc:c=l.map AV.d) (h1:j+s<=l.length) (h2:(l.drop j).take s=l2) (k:K (l2.map AV.d)):
  bif Nat.ble (j+s) c.length then forceL ((c.drop j).take s) K else False:=by
 subst hc;rw [List.length_map,Nat.ble_eq_true_of_le h1];show forceL _ K
 rw [<-List.map_drop,<-List.map_take,forceL_d,h2];exact k
theorem part_one {l:List D} {c:List AV} {j:Nat} {K:AV->Prop} (x:D) (hc:c=l.map AV.d) (h:l[j]?=some x) (k:K (.d x)):getC c j K:=by
 subst hc;unfold getC
 rw [List.getElem?_map,h];exact k
theorem store_at {l l2 l3:List D} {c c2:List AV} {j s:Nat} {K:List AV->Prop} (hc:c=l.map AV.d) (hc2:c2=l2.map AV.d) (h1:j+s<=l.length) (hlt:s<l.length) (h2:l2.length=s) (h3:splice l j l2=l3) (k:K (l3.map AV.d)):
  bif Nat.ble (j+s) c.length then storeK c j (.agg c2) K else False:=by
 subst hc hc2;rw [List.length_map,Nat.ble_eq_true_of_le h1]
 show bif Nat.beq (l2.map AV.d).length (l.map AV.d).length then forceL (l2.map AV.d) K else K (spliceF (l.map AV.d) j (l2.map AV.d))
 rw [spliceF_eq (by rw [List.length_map,List.length_map];omega),splice_d,h3,List.length_map,List.length_map,h2,show Nat.beq s l.length=false from Bool.eq_false_iff.2 fun h=>absurd (Nat.eq_of_beq_eq_true h) (by omega)];exact k
theorem store_one {l l3:List D} {x:D} {c:List AV} {j:Nat} {K:List AV->Prop} (hc:c=l.map AV.d) (h1:j<l.length) (h3:l.set j x=l3) (k:K (l3.map AV.d)):
  bif Nat.ble (j+1) c.length then storeK c j (.d x) K else False:=by
 subst hc;rw [List.length_map,Nat.ble_eq_true_of_le (by omega)];show K (splice (l.map AV.d) j [.d x])
 have:splice (l.map AV.d) j [AV.d x]=l3.map AV.d:=by
  rw [<-h3,List.map_set];rfl
 rw [this];exact k
end Go.Lk
