/-
  What is proved here: what functions of the program compute, and what follows; no condition beyond each theorem's own.
-/
import Derived.Test.YtaofmndhdmkgkaaGreatHAz
set_option linter.unusedSimpArgs false
set_option linter.unusedVariables false
set_option linter.unnecessarySimpa false
set_option linter.unusedSectionVars false
namespace Go.Lk
theorem cut_at {α:Type} {l:List α} {i:Nat} {j:α} (h:l[i]?=some j):∃ A B,l=A++j::B/\l.eraseIdx i=A++B:=by
 have hi:=(List.getElem?_eq_some_iff.1 h).1;have hj:=(List.getElem?_eq_some_iff.1 h).2;refine ⟨l.take i,l.drop (i+1),?_,List.eraseIdx_eq_take_drop_succ l i⟩;rw [<-hj,<-List.drop_eq_getElem_cons hi,List.take_append_drop]
structure Cut (s:SA) (i:Nat) (j:Fly) (A B:List Fly):Prop where
 o:s.out=A++j::B
 e:s.out.eraseIdx i=A++B
 w:∀ f∈A++B,f.who≠j.who
theorem cut_ok {s:SA} (h:SU s) {i:Nat} {j:Fly} (hj:s.out[i]?=some j):∃ A B,Cut s i j A B:=by
 obtain ⟨A,B,h1,h2⟩:=cut_at hj;refine ⟨A,B,h1,h2,fun f hf=>?_⟩;have hn:=h.nd;rw [h1,List.map_append,List.map_cons] at hn;obtain ⟨n1,n2,n3⟩:=List.nodup_append.1 hn;have n4:=(List.nodup_cons.1 n2).1
 rcases List.mem_append.1 hf with hf|hf
 ·exact n3 f.who (List.mem_map_of_mem (f:=(·.who)) hf) j.who (.head _)
 ·exact fun e=>n4 (e▸List.mem_map_of_mem (f:=(·.who)) hf)
theorem Cut.mem {s:SA} {i:Nat} {j:Fly} {A B:List Fly} (c:Cut s i j A B) (f:Fly):f∈s.out↔f=j\/f∈A++B:=by
 rw [c.o];simp only [List.mem_append,List.mem_cons];exact ⟨fun h=>h.elim (fun q=>.inr (.inl q)) fun h=>h.elim .inl fun q=>.inr (.inr q),fun h=>h.elim (fun q=>.inr (.inl q)) fun h=>h.elim .inl fun q=>.inr (.inr q)⟩
theorem su_drop {s:SA} (h:SU s) {i:Nat} {j:Fly} {A B:List Fly} (c:Cut s i j A B):SU {s with out:=A++B}:=by
 have hsub:(A++B).Sublist s.out:=by rw [c.o];exact List.Sublist.append (List.Sublist.refl A) (List.sublist_cons_self _ _)
 exact ⟨⟨h.n1,h.n4,h.at1,h.pg,h.nx,Nat.le_trans hsub.length_le h.fl,h.up.sublist (hsub.map _),fun f hf=>h.lt f (hsub.mem hf)⟩,h.nd.sublist (hsub.map _),fun f hf=>h.ex f (hsub.mem hf)⟩
theorem wj_drop {s:SA} (h:SU s) {i:Nat} {j:Fly} {A B:List Fly} (c:Cut s i j A B) (w:Nat) (q:Int):WJ {s with out:=A++B} w q↔WJ s w q/\w≠j.who:=by
 unfold WJ;show (s.jobs[w]?=_\/ ∃ f∈A++B,_)↔_
 constructor
 ·rintro (h1|⟨f,hf,h1,h2⟩)
  ·refine ⟨.inl h1,fun e=>?_⟩;have:=h.ex j ((c.mem j).2 (.inl rfl));rw [<-e,h1] at this
   cases this
  ·exact ⟨.inr ⟨f,(c.mem f).2 (.inr hf),h1,h2⟩,fun e=>c.w f hf (h1.trans e)⟩
 ·rintro ⟨h1|⟨f,hf,h1,h2⟩,hw⟩
  ·exact .inl h1
  ·rcases (c.mem f).1 hf with rfl|hf
   ·exact absurd h1.symm hw
   ·exact .inr ⟨f,hf,h1,h2⟩
theorem su_again {s:SA} (h:SU s) {i:Nat} {j:Fly} {A B:List Fly} (c:Cut s i j A B) (ht:j.tr<3) (hn:s.next<2147483647):SU {s with next:=s.next+1,out:=(A++B)++[⟨s.next,j.who,j.pg,j.tr+1⟩]}:=by
 have h0:=su_drop h c;have hj:=h.lt j ((c.mem j).2 (.inl rfl))
 have hl:(A++B).length+1=s.out.length:=by rw [c.o];simp;omega
 have hfl:=h.fl;refine ⟨⟨h.n1,h.n4,h.at1,h.pg,by show s.next+1<=_;omega,by show (A++B++_).length<=4;rw [List.length_append];show (A++B).length+1<=4;omega,?_,fun f hf=>?_⟩,?_,fun f hf=>?_⟩
 ·show (((A++B)++_).map (·.tk)).Pairwise _;rw [List.map_append];refine List.pairwise_append.2 ⟨h0.up,by simp,fun a ha b hb=>?_⟩;rw [List.mem_singleton.1 hb];obtain ⟨f,hf,rfl⟩:=List.mem_map.1 ha;exact (h0.lt f hf).1
 ·rcases List.mem_append.1 hf with hf|hf
  ·have:=h0.lt f hf;exact ⟨Nat.lt_succ_of_lt this.1,this.2⟩
  ·rw [List.mem_singleton.1 hf];exact ⟨Nat.lt_succ_self _,hj.2.1,hj.2.2.1,by show 1<=j.tr+1;omega,by show j.tr+1<=3;omega⟩
 ·show (((A++B)++_).map (·.who)).Nodup;rw [List.map_append];refine List.nodup_append.2 ⟨h0.nd,by simp,fun a ha b hb=>?_⟩;rw [List.mem_singleton.1 hb];obtain ⟨f,hf,rfl⟩:=List.mem_map.1 ha;exact c.w f hf
 ·rcases List.mem_append.1 hf with hf|hf
  ·exact h0.ex f hf
  ·rw [List.mem_singleton.1 hf];exact h.ex j ((c.mem j).2 (.inl rfl))
theorem wj_again {s:SA} {i:Nat} {j:Fly} {A B:List Fly} (c:Cut s i j A B) (w:Nat) (q:Int):WJ {s with next:=s.next+1,out:=(A++B)++[⟨s.next,j.who,j.pg,j.tr+1⟩]} w q↔WJ s w q:=by
 unfold WJ;show (s.jobs[w]?=_\/ ∃ f∈A++B++_,_)↔_
 constructor
 ·rintro (h1|⟨f,hf,h1,h2⟩)
  ·exact .inl h1
  ·rcases List.mem_append.1 hf with hf|hf
   ·exact .inr ⟨f,(c.mem f).2 (.inr hf),h1,h2⟩
   ·rw [List.mem_singleton.1 hf] at h1 h2;exact .inr ⟨j,(c.mem j).2 (.inl rfl),h1,h2⟩
 ·rintro (h1|⟨f,hf,h1,h2⟩)
  ·exact .inl h1
  ·rcases (c.mem f).1 hf with rfl|hf
   ·exact .inr ⟨_,List.mem_append.2 (.inr (.head _)),h1,h2⟩
   ·exact .inr ⟨f,List.mem_append.2 (.inl hf),h1,h2⟩
end Go.Lk
namespace Go.Lk
def LA.all (l:LA):List Nat:=l.hs++l.q.map (·.1)
structure WOk (h:HA) (lat:List LA) (s:SA) (k:Nat) (w:WA):Prop where
 st6:w.st<=6
 en:w.ended<=w.todo.length
 bu:w.st≠0->w.ended<w.todo.length
 hal:k∈h.all↔w.st≠0
 cl:2<=w.st->isCl h k=true
 held:heldW h k=w.pinned
 pin:w.st=4\/w.st=5->w.pinned=true
 npin:w.st<4->w.pinned=false
 ask:2<=w.st->w.st<=5->w.asked=true
 nask:w.st<2->w.asked=false
 val:w.asked=true->refB w.op=false
 lt:∀ (j:Nat) (l:LA),lat[j]?=some l->(k∈l.all↔w.asked=true/\w.op.2.1=j)
 hold:w.asked=true->3<=w.st->∀ (l:LA),lat[w.op.2.1.toNat]?=some l->k∈l.hs
 job:∀ p,WJ s k p↔w.st=4/\p=w.op.2.1
structure SmH (h h':HA) (k:Nat):Prop where
 hal:k∈h'.all↔k∈h.all
 cl:isCl h k=true->isCl h' k=true
 held:heldW h' k=heldW h k
def SmL (lat lat':List LA) (k:Nat):Prop:=∀ (j:Nat) (l':LA),lat'[j]?=some l'->∃ l,lat[j]?=some l/\ (k∈l'.all↔k∈l.all) /\ (k∈l.hs->k∈l'.hs)
def SmJ (s s':SA) (k:Nat):Prop:=∀ p,WJ s' k p↔WJ s k p
theorem SmH.rfl' (h:HA) (k:Nat):SmH h h k:=⟨Iff.rfl,id,rfl⟩
theorem SmL.rfl' (l:List LA) (k:Nat):SmL l l k:=fun j l' h=>⟨l',h,Iff.rfl,id⟩
theorem SmJ.rfl' (s:SA) (k:Nat):SmJ s s k:=fun _=>Iff.rfl
theorem WOk.frame {h h':HA} {lat lat':List LA} {s s':SA} {k:Nat} {w:WA} (o:WOk h lat s k w) (a:SmH h h' k) (b:SmL lat lat' k) (c:SmJ s s' k):WOk h' lat' s' k w:=
 ⟨o.st6,o.en,o.bu,a.hal.trans o.hal,fun q=>a.cl (o.cl q),a.held.trans o.held,o.pin,o.npin,o.ask,o.nask,o.val,
  fun j l hl=>by obtain ⟨l0,h0,h1,_⟩:=b j l hl;exact h1.trans (o.lt j l0 h0),
  fun q1 q2 l hl=>by obtain ⟨l0,h0,_,h2⟩:=b _ l hl;exact h2 (o.hold q1 q2 l0 h0),
  fun p=>(c p).trans (o.job p)⟩
theorem smH_begin {h:HA} {k j:Nat} (hj:j≠k):SmH h (beginH h k) j:=
 ⟨by rw [begin_all];simp [hj],fun q=>enter_isCl q,by show heldW (mkH _ _) j=_;rw [enter_heldW];rfl⟩
theorem all_pin (h:HA) (k:Nat) (b:Bool):(⟨h.n,setH h.cl k b,h.q⟩:HA).all=h.all:=by
 show (setH h.cl k b).map (·.1)++h.q=_
 rw [setH_fst];rfl
theorem isCl_set (h:HA) (k j:Nat) (b:Bool):isCl ⟨h.n,setH h.cl k b,h.q⟩ j=isCl h j:=by
 rw [Bool.eq_iff_iff,isCl_t,isCl_t];show j∈(setH h.cl k b).map (·.1)↔_;rw [setH_fst]
theorem heldW_set {h:HA} {k j:Nat} {b:Bool} (hj:j≠k):heldW ⟨h.n,setH h.cl k b,h.q⟩ j=heldW h j:=by
 show (setH h.cl k b).any _=h.cl.any _;rw [setH,List.any_map]
 congr 1
 funext c
 show ((if c.1=k then (c.1,b) else c).1==j&&(if c.1=k then (c.1,b) else c).2)=_
 split
 ·rename_i e
  have:(c.1==j)=false:=by rw [e];simpa using fun q=>hj q.symm
  rw [this];rfl
 ·rfl
theorem smH_set {h:HA} {k j:Nat} {b:Bool} (hj:j≠k):SmH h ⟨h.n,setH h.cl k b,h.q⟩ j:=
 ⟨by rw [all_pin],fun q=>(isCl_set h k j b).trans q,heldW_set hj⟩
theorem heldW_at {h:HA} {k:Nat} {b:Bool} (hc:isCl h k=true):heldW ⟨h.n,setH h.cl k b,h.q⟩ k=b:=by
 show (setH h.cl k b).any _=b;rw [setH,List.any_map]
 cases b with
 |true=>
  rw [List.any_eq_true];obtain ⟨c,h1,h2⟩:=List.any_eq_true.1 hc;refine ⟨c,h1,?_⟩
  have h2:c.1=k:=by simpa using h2
  simp [h2]
 |false=>
  rw [List.any_eq_false];intro c hc;show ¬((if c.1=k then (c.1,false) else c).1==k&&(if c.1=k then (c.1,false) else c).2)=true
  split
  ·simp
  ·rename_i e;simp [e]
theorem end_all (h:HA) (k:Nat):(endH h k).all=h.all.filter fun x=>x !=k:=by
 show (enterHA _ _ _).1.map (·.1)++(enterHA _ _ _).2=_;rw [enterH_all,HA.all,List.filter_append,List.filter_map];rfl
theorem smH_end {h:HA} {k j:Nat} (hj:j≠k):SmH h (endH h k) j:=by
 refine ⟨by rw [end_all];simp [hj],fun q=>enter_isCl ?_,?_⟩
 ·rw [List.any_filter];obtain ⟨c,h1,h2⟩:=List.any_eq_true.1 q;refine List.any_eq_true.2 ⟨c,h1,?_⟩
  have h2:c.1=j:=by simpa using h2
  simp [h2,hj]
 ·show heldW (mkH _ _) j=_;rw [enter_heldW,List.any_filter];show h.cl.any _=h.cl.any _
  congr 1
  funext c
  by_cases e:c.1=j
  ·simp [e,hj]
  ·simp [e]
end Go.Lk
namespace Go.Lk
theorem mem_all {l:LA} {w:Nat}:w∈l.all↔w∈l.hs\/w∈l.q.map (·.1):=List.mem_append
theorem LI.congr {x y:Nat->Bool} {hs:List Nat} {ex:Bool} {q:List (Nat×Bool)} (h:LI x hs ex q) (e:∀ w,w∈hs\/w∈q.map (·.1)->y w=x w):LI y hs ex q:=
 ⟨h.up,h.nd,h.one,fun p hp=>(h.fl p hp).trans (e p.1 (.inr (List.mem_map_of_mem (f:=(·.1)) hp))).symm,fun w hw=>(e w (.inl hw)).trans (h.hd w hw)⟩
theorem li_ask {x:Nat->Bool} {l:LA} {k:Nat} {b:Bool} (h:LI x l.hs l.ex l.q) (hn:k∉l.all) (hb:b=x k):LI x l.hs l.ex (l.q++[(k,b)]):=by
 refine ⟨h.up,?_,h.one,fun p hp=>?_,h.hd⟩
 ·rw [List.map_append,<-List.append_assoc];refine List.nodup_append.2 ⟨h.nd,by simp,fun a ha c hc=>?_⟩
  have:c=k:=by simpa using hc
  rw [this]
  exact fun e=>hn (e▸ha)
 ·rcases List.mem_append.1 hp with hp|hp
  ·exact h.fl p hp
  ·rw [List.mem_singleton.1 hp];exact hb
theorem li_cut {x:Nat->Bool} {l:LA} {k:Nat} (h:LI x l.hs l.ex l.q):LI x (l.hs.filter fun y=>y !=k) (if (l.hs.filter fun y=>y !=k)=[] then false else l.ex) (l.q.filter fun y=>y.1 !=k):=by
 have s1:(l.hs.filter fun y=>y !=k).Sublist l.hs:=List.filter_sublist;have s2:((l.q.filter fun y=>y.1 !=k).map (·.1)).Sublist (l.q.map (·.1)):=List.filter_sublist.map _;refine ⟨h.up.sublist s1,h.nd.sublist (s1.append s2),fun hx=>?_,fun p hp=>h.fl p (List.mem_filter.1 hp).1,fun w hw=>?_⟩
 ·split at hx
  ·cases hx
  ·rename_i hne;have h1:=h.one hx;have h2:=s1.length_le;have h3:0<(l.hs.filter fun y=>y !=k).length:=List.length_pos_iff.2 hne;omega
 ·rw [if_neg (fun e=>by rw [e] at hw;cases hw)];exact h.hd w (List.mem_filter.1 hw).1
theorem ask_lo {x:Nat->Bool} {l:LA} {k:Nat} {b:Bool} (h:LI x l.hs l.ex l.q) (hn:k∉l.all) (hb:b=x k):LO x l.hs (l.q++[(k,b)]) (askL l k b):=enterL_ok (li_ask h hn hb)
theorem drop_lo {x:Nat->Bool} {l:LA} {k:Nat} (h:LI x l.hs l.ex l.q):LO x (l.hs.filter fun y=>y !=k) (l.q.filter fun y=>y.1 !=k) (dropL l k):=enterL_ok (li_cut h)
theorem all_ask {x:Nat->Bool} {l:LA} {k:Nat} {b:Bool} (h:LI x l.hs l.ex l.q) (hn:k∉l.all) (hb:b=x k) (w:Nat):w∈(askL l k b).all↔w∈l.all\/w=k:=by
 rw [mem_all,(ask_lo h hn hb).mem,mem_all];simp only [List.map_append,List.map_cons,List.map_nil,List.mem_append,List.mem_singleton];exact ⟨fun q=>q.elim (fun q=>.inl (.inl q)) fun q=>q.elim (fun q=>.inl (.inr q)) .inr,fun q=>q.elim (fun q=>q.elim .inl fun q=>.inr (.inl q)) fun q=>.inr (.inr q)⟩
theorem all_drop {x:Nat->Bool} {l:LA} {k:Nat} (h:LI x l.hs l.ex l.q) (w:Nat):w∈(dropL l k).all↔w∈l.all/\w≠k:=by
 rw [mem_all,(drop_lo h).mem,mem_all]
 have:(w∈(l.q.filter fun y=>y.1 !=k).map (·.1))↔(w∈l.q.map (·.1) /\w≠k):=by
  simp only [List.mem_map,List.mem_filter,bne_iff_ne,ne_eq]
  constructor
  ·rintro ⟨p,⟨h1,h2⟩,rfl⟩;exact ⟨⟨p,h1,rfl⟩,h2⟩
  ·rintro ⟨⟨p,h1,rfl⟩,h2⟩;exact ⟨p,⟨h1,h2⟩,rfl⟩
 rw [this,List.mem_filter];simp only [bne_iff_ne,ne_eq];exact ⟨fun q=>q.elim (fun q=>⟨.inl q.1,q.2⟩) fun q=>⟨.inr q.1,q.2⟩,fun q=>q.1.elim (fun r=>.inl ⟨r,q.2⟩) fun r=>.inr ⟨r,q.2⟩⟩
theorem smL_set {lat:List LA} {i j:Nat} {l r:LA} (hl:lat[i]?=some l) (h1:j∈r.all↔j∈l.all) (h2:j∈l.hs->j∈r.hs):SmL lat (lat.set i r) j:=by
 intro i' l' h;rw [List.getElem?_set] at h
 split at h
 ·rename_i e;subst e
  split at h
  ·cases h;exact ⟨l,hl,h1,h2⟩
  ·cases h
 ·exact ⟨l',h,Iff.rfl,id⟩
theorem smL_ask {x:Nat->Bool} {lat:List LA} {i j k:Nat} {l:LA} {b:Bool} (hl:lat[i]?=some l) (h:LI x l.hs l.ex l.q) (hn:k∉l.all) (hb:b=x k) (hj:j≠k):SmL lat (lat.set i (askL l k b)) j:=
 smL_set hl ((all_ask h hn hb j).trans ⟨fun q=>q.resolve_right hj,.inl⟩) fun q=>(ask_lo h hn hb).sub j q
theorem smL_drop {x:Nat->Bool} {lat:List LA} {i j k:Nat} {l:LA} (hl:lat[i]?=some l) (h:LI x l.hs l.ex l.q) (hj:j≠k):SmL lat (lat.set i (dropL l k)) j:=
 smL_set hl ((all_drop h j).trans ⟨fun q=>q.1,fun q=>⟨q,hj⟩⟩) fun q=>(drop_lo h).sub j (List.mem_filter.2 ⟨q,by simpa using hj⟩)
end Go.Lk
namespace Go.Lk
def xk (ws:List WA) (k:Nat):Bool:=match ws[k]? with|some w=>decide (w.op.1≠2)|none=>false
structure LSh (x:Nat->Bool) (n:Nat) (l:LA):Prop where
 li:LI x l.hs l.ex l.q
 shut:l.q=[] \/ (l.hs≠[] /\ (l.ex=true\/ ∀ y,l.q.head? =some y->y.2=true))
 lt:∀ w∈l.all,w<n
structure MOk (m:MS):Prop where
 n1:1<=m.ws.length
 n4:m.ws.length<=4
 hall:HOk m.h
 hw:∀ k∈m.h.all,k<m.ws.length
 ll:m.lat.length=17
 li:∀ (j:Nat) (l:LA),m.lat[j]?=some l->LSh (xk m.ws) m.ws.length l
 su:SU m.s
 sj:m.s.jobs.length=m.ws.length
 fr:m.h.n=m.p.f.fr.length
 w:∀ (k:Nat) (w:WA),m.ws[k]?=some w->WOk m.h m.lat m.s k w
theorem xk_set {ws:List WA} {k j:Nat} {w:WA} (h:j≠k):xk (ws.set k w) j=xk ws j:=by
 rw [xk,xk,List.getElem?_set,if_neg (Ne.symm h)]
theorem xk_op {ws:List WA} {k:Nat} {w w':WA} (hk:ws[k]?=some w) (e:w'.op=w.op):∀ j,xk (ws.set k w') j=xk ws j:=by
 intro j
 by_cases h:j=k
 ·subst h;have hlt:=(List.getElem?_eq_some_iff.1 hk).1;rw [xk,xk,List.getElem?_set,if_pos rfl,if_pos hlt,hk];show decide (w'.op.1≠2)=decide (w.op.1≠2);rw [e]
 ·exact xk_set h
theorem LSh.same {ws:List WA} {k:Nat} {w w':WA} {n:Nat} {l:LA} (hk:ws[k]?=some w) (e:w'.op=w.op) (h:LSh (xk ws) n l):LSh (xk (ws.set k w')) n l:=
 ⟨h.li.congr fun j _=>xk_op hk e j,h.shut,h.lt⟩
structure Upd (m:MS) (k:Nat) (w':WA) (p':PS) (h':HA) (lat':List LA) (s':SA):Prop where
 hh:HOk h'
 ha:∀ j∈h'.all,j∈m.h.all\/j=k
 ll:lat'.length=m.lat.length
 hl:∀ (j:Nat) (l:LA),lat'[j]?=some l->LSh (xk (m.ws.set k w')) m.ws.length l
 su:SU s'
 sj:s'.jobs.length=m.s.jobs.length
 fr:h'.n=p'.f.fr.length
 self:WOk h' lat' s' k w'
 oth:∀ j,j≠k->SmH m.h h' j/\SmL m.lat lat' j/\SmJ m.s s' j
theorem MOk.upd {m:MS} (o:MOk m) {k:Nat} {w w':WA} {p':PS} {h':HA} {lat':List LA} {s':SA} {c':Int} {ev':List EvA} (hk:m.ws[k]?=some w) (u:Upd m k w' p' h' lat' s'):MOk ⟨m.ws.set k w',p',h',lat',s',c',ev'⟩:=by
 have hlt:=(List.getElem?_eq_some_iff.1 hk).1;have hlen:(m.ws.set k w').length=m.ws.length:=List.length_set;refine ⟨by show 1<= (m.ws.set k w').length;rw [hlen];exact o.n1,by show (m.ws.set k w').length<=4;rw [hlen];exact o.n4,u.hh,fun j hj=>?_,u.ll.trans o.ll,fun j l hl=>?_,u.su,?_,u.fr,fun j v hv=>?_⟩
 ·show j<(m.ws.set k w').length;rw [hlen]
  rcases u.ha j hj with h|rfl
  ·exact o.hw j h
  ·exact hlt
 ·have:=u.hl j l hl;show LSh _ (m.ws.set k w').length l
  rw [hlen];exact this
 ·show s'.jobs.length=(m.ws.set k w').length;rw [hlen,u.sj,o.sj]
 ·replace hv:(m.ws.set k w')[j]?=some v:=hv;rw [List.getElem?_set] at hv
  split at hv
  ·rename_i e;subst e
   cases hv
   exact u.self
  ·rename_i e;obtain ⟨a,b,c⟩:=u.oth j (Ne.symm e);exact (o.w j v hv).frame a b c
end Go.Lk
namespace Go.Lk
theorem oth0 (h:HA) (lat:List LA) (s:SA) (j:Nat):SmH h h j/\SmL lat lat j/\SmJ s s j:=⟨.rfl' _ _,.rfl' _ _,.rfl' _ _⟩
theorem up_begin {m:MS} (o:MOk m) {k:Nat} {w:WA} (hk:m.ws[k]?=some w) (hs:w.st=0) (hl:w.ended<w.todo.length) (now:Int):Upd m k {w with began:=now,st:=1} m.p (beginH m.h k) m.lat m.s:=by
 have hlt:=(List.getElem?_eq_some_iff.1 hk).1;have v:=o.w k w hk
 have hn:k∉m.h.all:=fun q=>v.hal.1 q hs
 have h4:k<4:=by have:=o.n4;omega
 have hlen:m.h.cl.length+m.h.q.length<4:=by
  have h1:=o.hall.len
  by_cases h:m.h.cl.length+m.h.q.length=4
  ·exact absurd (full4 (l:=m.h.all) (by simpa [HA.all] using h) o.hall.nd o.hall.lt h4) hn
  ·omega
 have hnp:w.pinned=false:=v.npin (by omega);have hna:w.asked=false:=v.nask (by omega);refine ⟨begin_ok o.hall h4 hn hlen,fun j hj=>by rw [begin_all] at hj;simpa using hj,rfl,fun j l hl=>(o.li j l hl).same hk rfl,o.su,rfl,o.fr,?_,fun j hj=>⟨smH_begin hj,.rfl' _ _,.rfl' _ _⟩⟩;refine ⟨by show 1<=6;decide,v.en,fun _=>hl,by rw [begin_all];simp,fun q=>absurd (show 2<=1 from q) (by decide),?_,fun q=>absurd q (by simp),fun _=>hnp,fun q=>absurd (show 2<=1 from q) (by decide),fun _=>hna,v.val,v.lt,fun q=>absurd (hna.symm.trans q) (by decide),fun p=>?_⟩
 ·show heldW (mkH _ _) k=w.pinned;rw [enter_heldW];exact v.held
 ·rw [v.job,hs];simp
theorem up_refuse {m:MS} (o:MOk m) {k:Nat} {w:WA} (hk:m.ws[k]?=some w) (hs:w.st=1) (hc:isCl m.h k=true) (r:MRes) (now:Int):Upd m k (tellW w r now) m.p m.h m.lat m.s:=by
 have v:=o.w k w hk;refine ⟨o.hall,fun j hj=>.inl hj,rfl,fun j l hl=>(o.li j l hl).same hk rfl,o.su,rfl,o.fr,?_,fun j hj=>oth0 ..⟩;refine ⟨Nat.le_refl 6,v.en,fun _=>v.bu (by omega),⟨fun _=>by show 6≠0;decide,fun _=>v.hal.2 (by omega)⟩,fun _=>hc,v.held,fun q=>absurd q (by show ¬(6=4\/6=5);decide),fun q=>absurd (show 6<4 from q) (by decide),fun _ q=>absurd (show 6<=5 from q) (by decide),fun q=>absurd (show 6<2 from q) (by decide),v.val,v.lt,fun q=>?_,fun p=>?_⟩
 ·exact absurd ((v.nask (by omega)).symm.trans q) (by decide)
 ·rw [v.job,hs];show _↔6=4/\_;simp
theorem up_pass {m:MS} (o:MOk m) {k:Nat} {w:WA} (hk:m.ws[k]?=some w) (hs:w.st=2) (hh:∀ l,m.lat[w.op.2.1.toNat]?=some l->k∈l.hs):Upd m k {w with st:=3} m.p m.h m.lat m.s:=by
 have v:=o.w k w hk;refine ⟨o.hall,fun j hj=>.inl hj,rfl,fun j l hl=>(o.li j l hl).same hk rfl,o.su,rfl,o.fr,?_,fun j hj=>oth0 ..⟩;refine ⟨by show 3<=6;decide,v.en,fun _=>v.bu (by omega),⟨fun _=>by show 3≠0;decide,fun _=>v.hal.2 (by omega)⟩,fun _=>v.cl (by omega),v.held,fun q=>absurd q (by show ¬(3=4\/3=5);decide),fun _=>v.npin (by omega),fun _ _=>v.ask (by omega) (by omega),fun q=>absurd (show 3<2 from q) (by decide),v.val,v.lt,fun _ _=>hh,fun p=>?_⟩
 rw [v.job,hs];show _↔3=4/\_;simp
end Go.Lk
namespace Go.Lk
theorem refB_f {o:MOp} (h:refB o=false):(1<=o.1/\o.1<=4) /\1<=o.2.1/\o.2.1<=16:=by
 simp only [refB,Bool.or_eq_false_iff,decide_eq_false_iff_not] at h;omega
theorem xk_at {ws:List WA} {k:Nat} {w:WA} (hk:ws[k]?=some w):xk ws k=decide (w.op.1≠2):=by
 rw [xk,hk]
theorem up_ask {m:MS} (o:MOk m) {k:Nat} {w:WA} (hk:m.ws[k]?=some w) (hs:w.st=1) (hc:isCl m.h k=true) (hr:refB w.op=false):Upd m k {w with asked:=true,st:=2} m.p m.h (lsetM m.lat w.op.2.1 (askL (latM m w.op.2.1) k (decide (w.op.1≠2)))) m.s:=by
 have v:=o.w k w hk;have hlt:=(List.getElem?_eq_some_iff.1 hk).1;obtain ⟨_,r1,r2⟩:=refB_f hr
 have hi:w.op.2.1.toNat<m.lat.length:=by rw [o.ll];omega
 obtain ⟨l,hl⟩:∃ l,m.lat[w.op.2.1.toNat]?=some l:=⟨_,List.getElem?_eq_getElem hi⟩
 have hlm:latM m w.op.2.1=l:=by rw [latM,hl];rfl
 have hna:w.asked=false:=v.nask (by omega)
 have hn:k∉l.all:=fun q=>by have:=(v.lt _ l hl).1 q;rw [hna] at this;exact absurd this.1 (by decide)
 have hL:=o.li _ l hl;have hx:=(xk_at hk).symm;rw [hlm];have hO:=ask_lo hL.li hn hx;refine ⟨o.hall,fun j hj=>.inl hj,List.length_set,fun j l' hl'=>?_,o.su,rfl,o.fr,?_,fun j hj=>⟨.rfl' _ _,smL_ask hl hL.li hn hx hj,.rfl' _ _⟩⟩
 ·rw [lsetM,List.getElem?_set] at hl'
  split at hl'
  ·rename_i e
   cases hl'
   refine LSh.same hk rfl ⟨hO.li,hO.shut,fun x hx'=>?_⟩
   rcases (all_ask hL.li hn hx x).1 hx' with h|rfl
   ·exact hL.lt x h
   ·exact hlt
  ·exact (o.li j l' hl').same hk rfl
 ·refine ⟨by show 2<=6;decide,v.en,fun _=>v.bu (by omega),⟨fun _=>by show 2≠0;decide,fun _=>v.hal.2 (by omega)⟩,fun _=>hc,v.held,fun q=>absurd q (by show ¬(2=4\/2=5);decide),fun _=>v.npin (by omega),fun _ _=>rfl,fun q=>absurd (show 2<2 from q) (by decide),fun _=>hr,fun j l' hl'=>?_,fun _ q=>absurd (show 3<=2 from q) (by decide),fun p=>?_⟩
  ·show _↔true=true/\w.op.2.1=j;rw [lsetM,List.getElem?_set] at hl'
   split at hl'
   ·rename_i e
    cases hl'
    exact ⟨fun _=>⟨rfl,by omega⟩,fun _=>(all_ask hL.li hn hx k).2 (.inr rfl)⟩
   ·rename_i e;rw [v.lt j l' hl',hna];exact ⟨fun q=>absurd q.1 (by decide),fun q=>absurd q.2 (by omega)⟩
  ·rw [v.job,hs];show _↔2=4/\_;simp
end Go.Lk
namespace Go.Lk
theorem hok_pin {h:HA} (o:HOk h) {k:Nat} (hc:isCl h k=true) (hh:heldW h k=false) (hf:heldN h.cl<h.n):HOk (pinH h k):=by
 have hm:(k,false)∈h.cl:=by
  obtain ⟨⟨a,b⟩,h1,h2⟩:=List.mem_map.1 (isCl_t.1 hc)
  cases h2
  cases b with
  |false=>exact h1
  |true=>rw [heldW_t.2 h1] at hh;cases hh
 have hd:=(List.nodup_append.1 o.nd).1;have:=held_set (b:=true) hd hm;simp only [if_pos,Bool.false_eq_true,if_false] at this;refine ⟨o.n1,o.n8,by show (setH h.cl k true).length+h.q.length<=4;rw [setH,List.length_map];exact o.len,?_,?_,by show heldN (setH h.cl k true) <=h.n;omega,?_⟩
 ·show ((setH h.cl k true).map (·.1)++h.q).Nodup;rw [setH_fst];exact o.nd
 ·show ∀ w∈(setH h.cl k true).map (·.1)++h.q,w<4;rw [setH_fst];exact o.lt
 ·show h.q=[] \/2*h.n<= (setH h.cl k true).length;rw [setH,List.length_map];exact o.shut
theorem up_pin5 {m:MS} (o:MOk m) {k:Nat} {w:WA} (hk:m.ws[k]?=some w) (hs:w.st=3) (hf:heldN m.h.cl<m.h.n):Upd m k {w with pinned:=true,st:=5} m.p (pinH m.h k) m.lat m.s:=by
 have v:=o.w k w hk;have hc:=v.cl (by omega)
 have hh:heldW m.h k=false:=by rw [v.held];exact v.npin (by omega)
 have ha:w.asked=true:=v.ask (by omega) (by omega);refine ⟨hok_pin o.hall hc hh hf,fun j hj=>.inl (by rw [pinH,all_pin] at hj;exact hj),rfl,fun j l hl=>(o.li j l hl).same hk rfl,o.su,rfl,o.fr,?_,fun j hj=>⟨smH_set hj,.rfl' _ _,.rfl' _ _⟩⟩;refine ⟨by show 5<=6;decide,v.en,fun _=>v.bu (by omega),⟨fun _=>by show 5≠0;decide,fun _=>by rw [pinH,all_pin];exact v.hal.2 (by omega)⟩,fun _=>(isCl_set ..).trans hc,heldW_at hc,fun _=>rfl,fun q=>absurd (show 5<4 from q) (by decide),fun _ _=>ha,fun q=>absurd (show 5<2 from q) (by decide),v.val,v.lt,fun q1 _=>v.hold ha (by omega),fun p=>?_⟩
 rw [v.job,hs];show _↔5=4/\_;simp
theorem up_pin4 {m:MS} (o:MOk m) {k:Nat} {w:WA} (hk:m.ws[k]?=some w) (hs:w.st=3) (hf:heldN m.h.cl<m.h.n):Upd m k {w with pinned:=true,st:=4} m.p (pinH m.h k) m.lat (askS m.s k w.op.2.1):=by
 have v:=o.w k w hk;have hlt:=(List.getElem?_eq_some_iff.1 hk).1;have hc:=v.cl (by omega)
 have hh:heldW m.h k=false:=by rw [v.held];exact v.npin (by omega)
 have ha:w.asked=true:=v.ask (by omega) (by omega);have hr:=(refB_f (v.val ha)).2
 have hnj:∀ q,¬WJ m.s k q:=fun q h=>by have:=(v.job q).1 h;omega
 have hkj:k<m.s.jobs.length:=by rw [o.sj];exact hlt
 refine ⟨hok_pin o.hall hc hh hf,fun j hj=>.inl (by rw [pinH,all_pin] at hj;exact hj),rfl,fun j l hl=>(o.li j l hl).same hk rfl,askS_ok o.su hkj hr hnj,List.length_set,o.fr,?_,fun j hj=>⟨smH_set hj,.rfl' _ _,fun q=>(askS_wj hkj hnj j q).trans ⟨fun h=>h.resolve_right fun e=>hj e.1,.inl⟩⟩⟩;refine ⟨by show 4<=6;decide,v.en,fun _=>v.bu (by omega),⟨fun _=>by show 4≠0;decide,fun _=>by rw [pinH,all_pin];exact v.hal.2 (by omega)⟩,fun _=>(isCl_set ..).trans hc,heldW_at hc,fun _=>rfl,fun q=>absurd (show 4<4 from q) (by decide),fun _ _=>ha,fun q=>absurd (show 4<2 from q) (by decide),v.val,v.lt,fun q1 _=>v.hold ha (by omega),fun p=>?_⟩;refine (askS_wj hkj hnj k p).trans ⟨fun h=>h.elim (fun h=>absurd h (hnj p)) fun h=>⟨rfl,h.2⟩,fun h=>.inr ⟨rfl,h.2⟩⟩
theorem up_work {m:MS} (o:MOk m) {k:Nat} {w:WA} (hk:m.ws[k]?=some w) (hs:w.st=5) (r:MRes) (now:Int) (p':PS) (hp:p'.f.fr.length=m.p.f.fr.length):Upd m k (tellW w r now) p' m.h m.lat m.s:=by
 have v:=o.w k w hk;refine ⟨o.hall,fun j hj=>.inl hj,rfl,fun j l hl=>(o.li j l hl).same hk rfl,o.su,rfl,o.fr.trans hp.symm,?_,fun j hj=>oth0 ..⟩;refine ⟨Nat.le_refl 6,v.en,fun _=>v.bu (by omega),⟨fun _=>by show 6≠0;decide,fun _=>v.hal.2 (by omega)⟩,fun _=>v.cl (by omega),v.held,fun q=>absurd q (by show ¬(6=4\/6=5);decide),fun q=>absurd (show 6<4 from q) (by decide),fun _ q=>absurd (show 6<=5 from q) (by decide),fun q=>absurd (show 6<2 from q) (by decide),v.val,v.lt,fun q _=>v.hold q (by omega),fun p=>?_⟩
 rw [v.job,hs];show _↔6=4/\_;simp
end Go.Lk
namespace Go.Lk
theorem hok_unpin {h:HA} (o:HOk h) (k:Nat):HOk (unpinH h k):=by
 have hle:heldN (setH h.cl k false) <=heldN h.cl:=by
  rw [heldN,heldN,setH,List.countP_map]
  refine List.countP_mono_left fun c _ hc=>?_
  show c.2=true;replace hc:(if c.1=k then (c.1,false) else c).2=true:=hc
  split at hc
  ·cases hc
  ·exact hc
 refine ⟨o.n1,o.n8,by show (setH h.cl k false).length+h.q.length<=4;rw [setH,List.length_map];exact o.len,?_,?_,Nat.le_trans hle o.held,?_⟩
 ·show ((setH h.cl k false).map (·.1)++h.q).Nodup;rw [setH_fst];exact o.nd
 ·show ∀ w∈(setH h.cl k false).map (·.1)++h.q,w<4;rw [setH_fst];exact o.lt
 ·show h.q=[] \/2*h.n<= (setH h.cl k false).length;rw [setH,List.length_map];exact o.shut
theorem hok_end {h:HA} (o:HOk h) (k:Nat):HOk (endH h k):=by
 have he:h.cl.filter (fun c=>c.1 !=k)=h.cl.filter (fun c=>c.1 !=k):=rfl
 have hall:(h.cl.filter fun c=>c.1 !=k).map (·.1)++(h.q.filter fun x=>x !=k)=h.all.filter fun x=>x !=k:=by
  rw [HA.all,List.filter_append,List.filter_map];rfl
 have l1:=List.length_filter_le (fun c:Nat×Bool=>c.1 !=k) h.cl;have l2:=List.length_filter_le (fun x=>x !=k) h.q;refine hok_enter o.n1 o.n8 (by have:=o.len;omega) ?_ ?_ (Nat.le_trans (List.Sublist.countP_le List.filter_sublist) o.held)
 ·rw [hall];exact (show h.all.Nodup from o.nd).sublist List.filter_sublist
 ·rw [hall];exact fun w hw=>o.lt w (List.mem_filter.1 hw).1
end Go.Lk
namespace Go.Lk
def leftW (w:WA):WA:=⟨w.todo,w.ended+1,0,false,false,0,0,(0,zP)⟩
noncomputable def leaveHA (m:MS) (k:Nat) (w:WA):HA:=endH (if w.pinned=true then unpinH m.h k else m.h) k
def leaveL (m:MS) (k:Nat) (w:WA):List LA:=if w.asked=true then lsetM m.lat w.op.2.1 (dropL (latM m w.op.2.1) k) else m.lat
theorem up_leave {m:MS} (o:MOk m) {k:Nat} {w:WA} (hk:m.ws[k]?=some w) (hs:w.st=6):Upd m k (leftW w) m.p (leaveHA m k w) (leaveL m k w) m.s:=by
 have v:=o.w k w hk;have hlt:=(List.getElem?_eq_some_iff.1 hk).1
 obtain ⟨h1,e1,hO1,hall1,hs1⟩:∃ h1,h1=(if w.pinned=true then unpinH m.h k else m.h) /\HOk h1/\h1.all=m.h.all/\ (h1.n=m.h.n/\ ∀ j,j≠k->SmH m.h h1 j):=by
  refine ⟨_,rfl,?_⟩
  split
  ·exact ⟨hok_unpin o.hall k,all_pin ..,rfl,fun j hj=>smH_set hj⟩
  ·exact ⟨o.hall,rfl,rfl,fun j hj=>.rfl' _ _⟩
 have eH:leaveHA m k w=endH h1 k:=by rw [leaveHA,<-e1]
 rw [eH]
 have hallE:(endH h1 k).all=m.h.all.filter fun x=>x !=k:=by rw [end_all,hall1]
 have hx:∀ j,j≠k->xk (m.ws.set k (leftW w)) j=xk m.ws j:=fun j hj=>xk_set hj
 have key:(leaveL m k w).length=m.lat.length/\ (∀ (j:Nat) (l:LA),(leaveL m k w)[j]?=some l->LSh (xk (m.ws.set k (leftW w))) m.ws.length l/\k∉l.all) /\ ∀ j,j≠k->SmL m.lat (leaveL m k w) j:=by
  unfold leaveL
  split
  ·rename_i ha;obtain ⟨_,r1,r2⟩:=refB_f (v.val ha)
   have hi:w.op.2.1.toNat<m.lat.length:=by rw [o.ll];omega
   obtain ⟨l,hl⟩:∃ l,m.lat[w.op.2.1.toNat]?=some l:=⟨_,List.getElem?_eq_getElem hi⟩
   have hlm:latM m w.op.2.1=l:=by rw [latM,hl];rfl
   have hL:=o.li _ l hl;rw [hlm];have hD:=drop_lo (k:=k) hL.li;refine ⟨List.length_set,fun j l' hl'=>?_,fun j hj=>smL_drop hl hL.li hj⟩;rw [lsetM,List.getElem?_set] at hl'
   split at hl'
   ·cases hl'
    refine ⟨⟨hD.li.congr fun j hj=>hx j fun e=>?_,hD.shut,fun x hx'=>hL.lt x ((all_drop hL.li x).1 hx').1⟩,fun q=>((all_drop hL.li k).1 q).2 rfl⟩;exact ((all_drop hL.li j).1 (mem_all.2 hj)).2 e
   ·rename_i e
    have hn:k∉l'.all:=fun q=>e (by have:=((v.lt j l' hl').1 q).2;omega)
    have hL':=o.li j l' hl';exact ⟨⟨hL'.li.congr fun i hi'=>hx i fun e'=>hn (e'▸mem_all.2 hi'),hL'.shut,hL'.lt⟩,hn⟩
  ·rename_i ha;refine ⟨rfl,fun j l' hl'=>?_,fun j hj=>.rfl' _ _⟩
   have hn:k∉l'.all:=fun q=>ha ((v.lt j l' hl').1 q).1
   have hL':=o.li j l' hl';exact ⟨⟨hL'.li.congr fun i hi'=>hx i fun e'=>hn (e'▸mem_all.2 hi'),hL'.shut,hL'.lt⟩,hn⟩
 have hkn:k∉(endH h1 k).all:=by rw [hallE];simp
 refine ⟨hok_end hO1 k,fun j hj=>.inl (by rw [hallE] at hj;exact (List.mem_filter.1 hj).1),key.1,fun j l hl=>(key.2.1 j l hl).1,o.su,rfl,hs1.1.trans o.fr,?_,fun j hj=>⟨?_,key.2.2 j hj,.rfl' _ _⟩⟩
 ·refine ⟨Nat.zero_le 6,v.bu (by omega),fun q=>absurd rfl q,⟨fun q=>absurd q hkn,fun q=>absurd rfl q⟩,fun q=>absurd (show 2<=0 from q) (by decide),?_,fun q=>absurd q (by show ¬(0=4\/0=5);decide),fun _=>rfl,fun q=>absurd (show 2<=0 from q) (by decide),fun _=>rfl,fun q=>absurd (show false=true from q) (by decide),fun j l hl=>⟨fun q=>absurd q (key.2.1 j l hl).2,fun q=>absurd (show false=true from q.1) (by decide)⟩,fun q=>absurd (show false=true from q) (by decide),fun p=>?_⟩
  ·show heldW (endH h1 k) k=false
   cases hq:heldW (endH h1 k) k with
   |false=>rfl
   |true=>exact absurd (List.mem_append.2 (.inl (List.mem_map_of_mem (f:=(·.1)) (heldW_t.1 hq)))) hkn
  ·rw [v.job,hs];show _↔0=4/\_;simp
 ·have a:=hs1.2 j hj;have b:=smH_end (h:=h1) hj;exact ⟨b.hal.trans a.hal,fun q=>b.cl (a.cl q),b.held.trans a.held⟩
end Go.Lk
namespace Go.Lk
theorem MOk.sched {m:MS} (o:MOk m) {s':SA} (su:SU s') (hl:s'.jobs.length=m.s.jobs.length) (hj:∀ k q,WJ s' k q↔WJ m.s k q):MOk {m with s:=s'}:=
 ⟨o.n1,o.n4,o.hall,o.hw,o.ll,o.li,su,hl.trans o.sj,o.fr,fun k w hk=>(o.w k w hk).frame (.rfl' _ _) (.rfl' _ _) (hj k)⟩
theorem MOk.pump {m:MS} (o:MOk m):MOk (pumpM m):=
 have h:=pumpG_ok 5 o.su
 o.sched h.su h.len h.wj
theorem up_wait {m:MS} (o:MOk m) {k:Nat} {w w':WA} {s':SA} (hk:m.ws[k]?=some w) (hs:w.st=4) (su:SU s') (hl:s'.jobs.length=m.s.jobs.length) (hj:∀ j q,WJ s' j q↔WJ m.s j q/\j≠k)
  (e1:w'.todo=w.todo) (e2:w'.ended=w.ended) (e3:w'.asked=w.asked) (e4:w'.pinned=w.pinned) (e5:w'.st=5\/w'.st=6):Upd m k w' m.p m.h m.lat s':=by
 have v:=o.w k w hk
 have eo:w'.op=w.op:=by rw [WA.op,WA.op,e1,e2]
 have ha:w.asked=true:=v.ask (by omega) (by omega);refine ⟨o.hall,fun j hj=>.inl hj,rfl,fun j l hl=>(o.li j l hl).same hk eo,su,hl,o.fr,?_,fun j hj'=>⟨.rfl' _ _,.rfl' _ _,fun q=>(hj j q).trans ⟨fun h=>h.1,fun h=>⟨h,hj'⟩⟩⟩⟩;refine ⟨by omega,by rw [e1,e2];exact v.en,fun _=>by rw [e1,e2];exact v.bu (by omega),⟨fun _=>by omega,fun _=>v.hal.2 (by omega)⟩,fun _=>v.cl (by omega),by rw [e4];exact v.held,fun _=>by rw [e4];exact v.pin (by omega),fun q=>absurd q (by omega),fun _ _=>by rw [e3];exact ha,fun q=>absurd q (by omega),fun _=>by rw [eo];exact v.val ha,by rw [e3,eo];exact v.lt,fun _ _=>by rw [eo];exact v.hold ha (by omega),fun p=>?_⟩;rw [hj];exact ⟨fun h=>absurd rfl h.2,fun h=>absurd h.1 (by omega)⟩
end Go.Lk
namespace Go.Lk
theorem MOk.fin {m:MS} (o:MOk m) (i:Int) (fault:Bool):MOk (finM m i fault).1:=by
 rw [finM]
 split
 ·exact o
 ·rename_i hi;obtain ⟨j,hj⟩:∃ j,m.s.out[i.toNat]?=some j:=⟨_,List.getElem?_eq_getElem (by omega)⟩;obtain ⟨A,B,c⟩:=cut_ok o.su hj;rw [doneS,hj];simp only [];rw [c.e]
  split
  ·rename_i s hd
   split at hd
   ·rename_i hc
    cases hd
    exact o.sched (su_again o.su c hc.2.1 hc.2.2) rfl (wj_again c)
   ·cases hd
  ·rename_i s k bad hd
   split at hd
   ·cases hd
   ·cases hd
    have hw:=wj_drop o.su c;have hsu:=su_drop o.su c;have hjo:=(c.mem j).2 (.inl rfl);have hwj:WJ m.s j.who j.pg:=.inr ⟨j,hjo,rfl,rfl⟩
    have hlt:j.who<m.ws.length:=by have:=(o.su.lt j hjo).2.1;rw [o.sj] at this;exact this
    obtain ⟨w,hk⟩:∃ w,m.ws[j.who]?=some w:=⟨_,List.getElem?_eq_getElem hlt⟩;have h4:=((o.w _ w hk).job _).1 hwj;rw [hk];simp only [];rw [if_neg (fun q=>q h4.1)];refine o.upd hk (up_wait o hk h4.1 hsu rfl hw ?_ ?_ ?_ ?_ ?_)
    all_goals (unfold toldW;split<;>first|rfl|exact .inr rfl|exact .inl rfl)
end Go.Lk
namespace Go.Lk
theorem new_mok {p:PS} {n:Nat} {todo:List (List MOp)} (n1:1<=n) (n8:n<=8) (hp:p.f.fr.length=n) (t1:1<=todo.length) (t4:todo.length<=4):MOk (newMS p n todo):=by
 have hnoall:(noLA).all=[]:=rfl
 have hlat:∀ (j:Nat) (l:LA),(List.replicate 17 noLA)[j]?=some l->l=noLA:=fun j l h=>List.eq_of_mem_replicate (List.mem_of_getElem? h)
 have hjob:∀ (k:Nat) (q:Int),¬WJ (newMS p n todo).s k q:=by
  rintro k q (h|⟨f,hf,_⟩)
  ·cases List.eq_of_mem_replicate (List.mem_of_getElem? (show (List.replicate todo.length (none:Option Int))[k]?=_ from h))
  ·cases hf
 have hl:(newMS p n todo).ws.length=todo.length:=by simp [newMS]
 refine ⟨by rw [hl];exact t1,by rw [hl];exact t4,⟨n1,n8,by show 0+0<=4;decide,List.nodup_nil,fun w hw=>(by cases hw),Nat.zero_le _,.inl rfl⟩,fun k hk=>(by cases hk),rfl,fun j l h=>?_,?_,by simp [newMS],hp.symm,fun k w hk=>?_⟩
 ·rw [hlat j l h];exact ⟨⟨List.Pairwise.nil,List.nodup_nil,fun q=>(by cases q),fun _ q=>(by cases q),fun _ q=>(by cases q)⟩,.inl rfl,fun _ q=>(by cases q)⟩
 ·refine ⟨⟨by simpa [newMS] using t1,by simpa [newMS] using t4,by show 0<(List.replicate todo.length none).length;rw [List.length_replicate];exact t1,fun q hq=>?_,by show 0<=_;decide,by show 0<=4;decide,List.Pairwise.nil,fun f hf=>(by cases hf)⟩,List.nodup_nil,fun f hf=>by cases hf⟩
  cases List.eq_of_mem_replicate (show some q∈List.replicate todo.length (none:Option Int) from hq)
 ·replace hk:(todo.map newWA)[k]?=some w:=hk;rw [List.getElem?_map] at hk;obtain ⟨l,hl1,rfl⟩:=Option.map_eq_some_iff.1 hk;exact ⟨Nat.zero_le 6,Nat.zero_le _,fun q=>absurd rfl q,⟨fun q=>(by cases q),fun q=>absurd rfl q⟩,fun q=>absurd (show 2<=0 from q) (by decide),rfl,fun q=>absurd q (by show ¬(0=4\/0=5);decide),fun _=>rfl,fun q=>absurd (show 2<=0 from q) (by decide),fun _=>rfl,fun q=>absurd (show false=true from q) (by decide),fun j l h=>by rw [hlat j l h];exact ⟨fun q=>(by cases q),fun q=>absurd (show false=true from q.1) (by decide)⟩,fun q=>absurd (show false=true from q) (by decide),fun p=>⟨fun q=>absurd q (hjob k p),fun q=>absurd (show 0=4 from q.1) (by decide)⟩⟩
end Go.Lk
namespace Go.Lk
theorem MOk.clk {m:MS} (o:MOk m) (c:Int):MOk {m with clk:=c}:=⟨o.n1,o.n4,o.hall,o.hw,o.ll,o.li,o.su,o.sj,o.fr,o.w⟩
theorem MOk.stepW {m:MS} (o:MOk m) {k:Nat} {w:WA} (hk:m.ws[k]?=some w) (now:Int) (hp:(workP m.p w.op).1.f.fr.length=m.p.f.fr.length):MOk (stepW m k w now).1:=by
 have v:=o.w k w hk;unfold Go.Lk.stepW
 split
 ·rename_i hs
  split
  ·exact o
  ·exact o.upd hk (up_begin o hk hs (by omega) now)
 ·rename_i hs
  split
  ·exact o
  ·rename_i hc
   replace hc:isCl m.h k=true:=by simpa using hc
   split
   ·exact o.upd hk (up_refuse o hk hs hc _ now)
   ·rename_i hr;exact o.upd hk (up_ask o hk hs hc (by simpa using hr))
 ·rename_i hs
  split
  ·exact o
  ·rename_i hc;refine o.upd hk (up_pass o hk hs fun l hl=>?_)
   have hlm:latM m w.op.2.1=l:=by rw [latM,hl];rfl
   rw [hlm] at hc
   simpa [holdsL] using hc
 ·rename_i hs
  split
  ·exact o
  ·split
   ·exact o.upd hk (up_pin4 o hk hs (by omega))
   ·exact o.upd hk (up_pin5 o hk hs (by omega))
 ·rename_i hs;exact o.upd hk (up_work o hk hs _ now _ hp)
 ·rename_i hs;exact o.upd hk (up_leave o hk hs)
 ·exact o
end Go.Lk
namespace Go.Lk
open Go Go.Proofs Go.RowKit
def ixF {α:Type} (p:α->Bool):List α->Nat->Int
 | [],_=>-1
 |x::r,k=>if p x=true then (k:Int) else ixF p r (k+1)
theorem ixF_no {α:Type} {p:α->Bool}:∀ {l:List α} {k:Nat},(∀ x∈l,p x=false)->ixF p l k=-1
 | [],_,_=>rfl
 |x::r,k,h=>by
  rw [ixF,h x (.head _),if_neg (by decide)]
  exact ixF_no fun y hy=>h y (.tail _ hy)
theorem ixF_yes {α:Type} {p:α->Bool}:∀ {l:List α} {k:Nat},(∃ x∈l,p x=true)->∃ i,∃ hi:i<l.length,ixF p l k=((k+i:Nat):Int) /\p l[i]=true
 | [],_,h=>by obtain ⟨x,hx,_⟩:=h;cases hx
 |x::r,k,h=>by
  rw [ixF]
  by_cases e:p x=true
  ·rw [if_pos e];exact ⟨0,Nat.zero_lt_succ _,rfl,e⟩
  ·rw [if_neg e];obtain ⟨y,hy,hp⟩:=h
   cases hy with
   |head=>exact absurd hp e
   |tail _ hy=>
    obtain ⟨i,hi,h1,h2⟩:=ixF_yes (k:=k+1) ⟨y,hy,hp⟩;exact ⟨i+1,by simpa using hi,by rw [h1];omega,h2⟩
theorem ixF_ge {α:Type} (p:α->Bool) (l:List α) (k:Nat):0<=ixF p l k↔l.any p=true:=by
 rw [List.any_eq_true]
 constructor
 ·intro h
  refine Classical.byContradiction fun g=>?_
  rw [ixF_no fun x hx=>?_] at h
  ·exact absurd h (by decide)
  ·cases e:p x with
   |false=>rfl
   |true=>exact absurd ⟨x,hx,e⟩ g
 ·intro h;obtain ⟨i,_,e,_⟩:=ixF_yes (k:=k) h
  rw [e];exact Int.natCast_nonneg _
theorem encCl_ok:∀ (l:List (Nat×Bool)),okRows 3 (l.map encCl)=true
 | []=>rfl
 |_::r=>encCl_ok r
theorem encTk_ok:∀ (l:List Nat),okRows 2 (l.map encTk)=true
 | []=>rfl
 |_::r=>encTk_ok r
def isC (who:Int) (c:Nat×Bool):Bool:=decide ((c.1:Int)=who)
def isT (who:Int) (w:Nat):Bool:=decide ((w:Int)=who)
theorem isC_ok (who:Int) (c:Nat×Bool):ACall Tryz.prog 255 [.agg (encCl c),.dp [.int .i64 who] 0] (.bool (isC who c)):=by
 refine acall_of Tryz.func255 2 rfl (by kernel_rfl) (aO ?_);exact ret_of rfl rfl
theorem isT_ok (who:Int) (c:Nat):ACall Tryz.prog 257 [.agg (encTk c),.dp [.int .i64 who] 0] (.bool (isT who c)):=by
 refine acall_of Tryz.func257 2 rfl (by kernel_rfl) (aO ?_);exact ret_of rfl rfl
theorem ixCl_ok (g:FuncId) (cs:List D) (p:Nat×Bool->Bool) (hg:∀ c,ACall Tryz.prog g (.agg (encCl c)::cs) (.bool (p c))) (l:List (Nat×Bool)) (hl:l.length<=1000000):ACall Tryz.prog 254 [.lst (l.map encCl),.fn g cs] (.int .i64 (ixF p l 0)):=by
 refine acall_of Tryz.func254 2 rfl (by kernel_rfl) (w0 ?_);refine aloop (ι:=Nat) (fun k=>[(0,.d (.lst (l.map encCl))),(1,.d (.fn g cs)),(7,.d (.int .i64 (l.map encCl).length)),(8,.d (.int .i64 k))]) (fun _=>[])
  (fun k=>k<=l.length/\ixF p (l.drop k) k=ixF p l 0) (fun k=>l.length-k) 0 ⟨Nat.zero_le _,rfl⟩ (le0 (le_of_cov ⟨rfl,rfl,rfl,rfl,trivial⟩ trivial ⟨rfl,rfl,rfl,rfl⟩)) ?_
 rintro k ⟨hk,hR⟩
 conv=>whnf
 refine bcase_p (fun h=>?_) (fun h=>?_)<;>conv=>whnf
 ·have hk2:k<l.length:=by simpa using h
  refine idxK_nat (by omega) (w0 ?_);refine getRow_of (x:=encCl l[k]) (by simp [hk2]) (aW ?_);rw [drop_cons hk2,ixF] at hR;refine callX_pure (hg l[k]) (w0 ?_)
  refine bcase_intro (fun h2=>?_) (fun h2=>?_)<;>conv=>whnf
  ·rw [if_pos h2] at hR;exact ret_of rfl (by rw [<-hR];rfl)
  ·rw [if_neg (by rw [h2];decide)] at hR;refine aA ?_;exact ⟨k+1,⟨by omega,hR⟩,by omega,(le0 (le_of_cov ⟨rfl,rfl,rfl,rfl,trivial⟩ trivial ⟨rfl,rfl,rfl,rfl⟩))⟩
 ·have:k=l.length:=by simp at h;omega
  subst this;simp [ixF] at hR;exact ret_of rfl (by rw [<-hR];rfl)
theorem ixTk_ok (g:FuncId) (cs:List D) (p:Nat->Bool) (hg:∀ c,ACall Tryz.prog g (.agg (encTk c)::cs) (.bool (p c))) (l:List Nat) (hl:l.length<=1000000):ACall Tryz.prog 256 [.lst (l.map encTk),.fn g cs] (.int .i64 (ixF p l 0)):=by
 refine acall_of Tryz.func256 2 rfl (by kernel_rfl) (w0 ?_);refine aloop (ι:=Nat) (fun k=>[(0,.d (.lst (l.map encTk))),(1,.d (.fn g cs)),(7,.d (.int .i64 (l.map encTk).length)),(8,.d (.int .i64 k))]) (fun _=>[])
  (fun k=>k<=l.length/\ixF p (l.drop k) k=ixF p l 0) (fun k=>l.length-k) 0 ⟨Nat.zero_le _,rfl⟩ (le0 (le_of_cov ⟨rfl,rfl,rfl,rfl,trivial⟩ trivial ⟨rfl,rfl,rfl,rfl⟩)) ?_
 rintro k ⟨hk,hR⟩
 conv=>whnf
 refine bcase_p (fun h=>?_) (fun h=>?_)<;>conv=>whnf
 ·have hk2:k<l.length:=by simpa using h
  refine idxK_nat (by omega) (w0 ?_);refine getRow_of (x:=encTk l[k]) (by simp [hk2]) (aW ?_);rw [drop_cons hk2,ixF] at hR;refine callX_pure (hg l[k]) (w0 ?_)
  refine bcase_intro (fun h2=>?_) (fun h2=>?_)<;>conv=>whnf
  ·rw [if_pos h2] at hR;exact ret_of rfl (by rw [<-hR];rfl)
  ·rw [if_neg (by rw [h2];decide)] at hR;refine aA ?_;exact ⟨k+1,⟨by omega,hR⟩,by omega,(le0 (le_of_cov ⟨rfl,rfl,rfl,rfl,trivial⟩ trivial ⟨rfl,rfl,rfl,rfl⟩))⟩
 ·have:k=l.length:=by simp at h;omega
  subst this;simp [ixF] at hR;exact ret_of rfl (by rw [<-hR];rfl)
theorem client_ok (who:Int) (l:List (Nat×Bool)) (hl:l.length<=1000000):ACall Tryz.prog 194 [.lst (l.map encCl),.int .i64 who] (.int .i64 (ixF (isC who) l 0)):=by
 refine acall_of Tryz.func194 2 rfl (by kernel_rfl) (aO ?_);refine callX_pure (ixCl_ok 255 _ _ (isC_ok who) l hl) (aW ?_);exact ret_of rfl rfl
theorem ticket_ok (who:Int) (l:List Nat) (hl:l.length<=1000000):ACall Tryz.prog 195 [.lst (l.map encTk),.int .i64 who] (.int .i64 (ixF (isT who) l 0)):=by
 refine acall_of Tryz.func195 2 rfl (by kernel_rfl) (aO ?_);refine callX_pure (ixTk_ok 257 _ _ (isT_ok who) l hl) (aW ?_);exact ret_of rfl rfl
theorem ixN_ok (g:FuncId) (cs:List D) (p:Nat->Bool) (hg:∀ c:Nat,ACall Tryz.prog g (.int .i64 c::cs) (.bool (p c))) (l:List Nat) (hl:l.length<=1000000):ACall Tryz.prog 265 [.lst (l.map encN),.fn g cs] (.int .i64 (ixF p l 0)):=by
 refine acall_of Tryz.func265 2 rfl (by kernel_rfl) (w0 ?_);refine aloop (ι:=Nat) (fun k=>[(0,.d (.lst (l.map encN))),(1,.d (.fn g cs)),(7,.d (.int .i64 (l.map encN).length)),(8,.d (.int .i64 k))]) (fun _=>[])
  (fun k=>k<=l.length/\ixF p (l.drop k) k=ixF p l 0) (fun k=>l.length-k) 0 ⟨Nat.zero_le _,rfl⟩ (le0 (le_of_cov ⟨rfl,rfl,rfl,rfl,trivial⟩ trivial ⟨rfl,rfl,rfl,rfl⟩)) ?_
 rintro k ⟨hk,hR⟩
 conv=>whnf
 refine bcase_p (fun h=>?_) (fun h=>?_)<;>conv=>whnf
 ·have hk2:k<l.length:=by simpa using h
  refine idxK_nat (by omega) (w0 ?_);refine getRow_of (x:=encN l[k]) (by simp [hk2]) (aW ?_);rw [drop_cons hk2,ixF] at hR;refine callX_pure (hg l[k]) (w0 ?_)
  refine bcase_intro (fun h2=>?_) (fun h2=>?_)<;>conv=>whnf
  ·rw [if_pos h2] at hR;exact ret_of rfl (by rw [<-hR];rfl)
  ·rw [if_neg (by rw [h2];decide)] at hR;refine aA ?_;exact ⟨k+1,⟨by omega,hR⟩,by omega,(le0 (le_of_cov ⟨rfl,rfl,rfl,rfl,trivial⟩ trivial ⟨rfl,rfl,rfl,rfl⟩))⟩
 ·have:k=l.length:=by simp at h;omega
  subst this;simp [ixF] at hR;exact ret_of rfl (by rw [<-hR];rfl)
theorem ixWt_ok (g:FuncId) (cs:List D) (p:Nat×Bool->Bool) (hg:∀ c,ACall Tryz.prog g (.agg (encWt c)::cs) (.bool (p c))) (l:List (Nat×Bool)) (hl:l.length<=1000000):ACall Tryz.prog 266 [.lst (l.map encWt),.fn g cs] (.int .i64 (ixF p l 0)):=by
 refine acall_of Tryz.func266 2 rfl (by kernel_rfl) (w0 ?_);refine aloop (ι:=Nat) (fun k=>[(0,.d (.lst (l.map encWt))),(1,.d (.fn g cs)),(7,.d (.int .i64 (l.map encWt).length)),(8,.d (.int .i64 k))]) (fun _=>[])
  (fun k=>k<=l.length/\ixF p (l.drop k) k=ixF p l 0) (fun k=>l.length-k) 0 ⟨Nat.zero_le _,rfl⟩ (le0 (le_of_cov ⟨rfl,rfl,rfl,rfl,trivial⟩ trivial ⟨rfl,rfl,rfl,rfl⟩)) ?_
 rintro k ⟨hk,hR⟩
 conv=>whnf
 refine bcase_p (fun h=>?_) (fun h=>?_)<;>conv=>whnf
 ·have hk2:k<l.length:=by simpa using h
  refine idxK_nat (by omega) (w0 ?_);refine getRow_of (x:=encWt l[k]) (by simp [hk2]) (aW ?_);rw [drop_cons hk2,ixF] at hR;refine callX_pure (hg l[k]) (w0 ?_)
  refine bcase_intro (fun h2=>?_) (fun h2=>?_)<;>conv=>whnf
  ·rw [if_pos h2] at hR;exact ret_of rfl (by rw [<-hR];rfl)
  ·rw [if_neg (by rw [h2];decide)] at hR;refine aA ?_;exact ⟨k+1,⟨by omega,hR⟩,by omega,(le0 (le_of_cov ⟨rfl,rfl,rfl,rfl,trivial⟩ trivial ⟨rfl,rfl,rfl,rfl⟩))⟩
 ·have:k=l.length:=by simp at h;omega
  subst this;simp [ixF] at hR;exact ret_of rfl (by rw [<-hR];rfl)
theorem encCl_len {l:List (Nat×Bool)} {e:List D} (h:e∈l.map encCl):e.length=3:=by
 obtain ⟨x,_,rfl⟩:=List.mem_map.1 h;rfl
theorem encTk_len {l:List Nat} {e:List D} (h:e∈l.map encTk):e.length=2:=by
 obtain ⟨x,_,rfl⟩:=List.mem_map.1 h;rfl
theorem claimable_ok (h:HA) (h1:1<=h.n):ACall Tryz.prog 193 [encHA h,.int .i64 1] (.bool true):=by
 refine acall_of Tryz.func193 2 rfl (by kernel_rfl) (aO ?_);exact ret_of rfl (by simp;omega)
theorem heldN_snoc (l:List (Nat×Bool)) {k:Nat} (hk:k<l.length):heldN (l.take (k+1))=heldN (l.take k)+(if l[k].2=true then 1 else 0):=by
 rw [heldN,take_snoc hk,List.countP_append,List.countP_singleton];rfl
theorem heldN_le (l:List (Nat×Bool)):heldN l<=l.length:=List.countP_le_length
theorem left_ok (h:HA) (hl:h.cl.length<=1000) (hn:h.n<=1000):ACall Tryz.prog 202 [encHA h] (.int .i64 ((h.n:Int)-heldN h.cl)):=by
 have hm:(h.cl.map encCl).length=h.cl.length:=List.length_map ..
 refine acall_of Tryz.func202 1 rfl (by kernel_rfl) (aO ?_);refine aloop (ι:=Nat) (fun k=>[(3,.d (.int .i64 ((h.n:Int)-heldN (h.cl.take k)))),(9,.d (.lst (h.cl.map encCl))),(10,.d (.int .i64 (h.cl.map encCl).length)),(11,.d (.int .i64 k))]) (fun _=>[])
  (fun k=>k<=h.cl.length) (fun k=>h.cl.length-k) 0 (Nat.zero_le _) (le0 (le_of_cov ⟨by simp [heldN];kernel_rfl,rfl,rfl,rfl,trivial⟩ trivial ⟨rfl,rfl,rfl,rfl⟩)) ?_
 intro k hk
 conv=>whnf
 refine bcase_p (fun h5=>?_) (fun h5=>?_)<;>conv=>whnf
 ·have hk2:k<h.cl.length:=by omega
  refine idxK_nat (by omega) (w0 ?_);refine getRow_of (x:=encCl h.cl[k]) (by simp [hk2]) (aW ?_);have e:=heldN_snoc h.cl hk2;have e2:=heldN_le (h.cl.take k)
  have e3:(h.cl.take k).length=k:=by simp;omega
  have e4:((h.n:Int)-heldN (h.cl.take k))-(if h.cl[k].2=true then 1 else 0)=(h.n:Int)-heldN (h.cl.take (k+1)):=by rw [e];split<;>omega
  rw [e4];have e5:=heldN_le (h.cl.take (k+1))
  have e6:(h.cl.take (k+1)).length=k+1:=by simp;omega
  refine aA ?_;exact ⟨k+1,by omega,by omega,(le0 (le_of_cov ⟨rfl,rfl,rfl,rfl,trivial⟩ trivial ⟨rfl,rfl,rfl,rfl⟩))⟩
 ·have:k=h.cl.length:=by omega
  subst this;rw [List.take_length];refine aA ?_;exact ret_of rfl rfl
def openH (h:HA):Bool:=match h.q with
 | []=>false
 |_::_=>decide ((h.cl.length:Int)+1<=2*h.n)
theorem openH_ok (h:HA) (hl:h.cl.length<=7) (hn:h.n<=1000):ACall Tryz.prog 253 [encHA h] (.bool (openH h)):=by
 have hm:(h.cl.map encCl).length=h.cl.length:=List.length_map ..
 obtain ⟨n,cl,q⟩:=h;simp only [] at hl hn hm
 cases q with
 |nil=>
  refine acall_of Tryz.func253 1 rfl (by kernel_rfl) (aO ?_);exact ret_of rfl rfl
 |cons t q=>
  have hn2:(HA.mk n cl (t::q)).n<=1000:=hn;refine acall_of Tryz.func253 1 rfl (by kernel_rfl) (aO ?_)
  refine bcase_p (fun h1=>?_) (fun h1=>?_)<;>conv=>whnf
  ·simp at h1;omega
  refine aO ?_;refine idxK_nat (i:=0) (by simp) (w0 ?_);refine getRow_of (x:=encTk t) rfl (aO ?_);refine aloop (ι:=Nat) (fun k=>[(1,.ptr 1 0 0),(3,.d (.int .i64 ((k:Int)+1))),(22,.d (.lst (cl.map encCl))),(23,.d (.int .i64 (cl.map encCl).length)),(24,.d (.int .i64 k))]) (fun _=>[(1,.box ((HA.cells ⟨n,cl,t::q⟩).map AV.d) false)])
   (fun k=>k<=cl.length) (fun k=>cl.length-k) 0 (Nat.zero_le _) (le0 (le_of_cov ⟨rfl,rfl,rfl,rfl,rfl,trivial⟩ ⟨rfl,trivial⟩ ⟨rfl,rfl,rfl,rfl⟩)) ?_
  intro k hk
  conv=>whnf
  refine bcase_p (fun h5=>?_) (fun h5=>?_)<;>conv=>whnf
  ·have hk2:k<cl.length:=by omega
   refine idxK_nat (by omega) (w0 ?_);refine getRow_of (x:=encCl cl[k]) (by simp [hk2]) (aW ?_);rw [show (k:Int)+1+1=((k+1:Nat):Int)+1 by omega];exact ⟨k+1,by omega,by omega,(le0 (le_of_cov ⟨rfl,rfl,rfl,rfl,rfl,trivial⟩ ⟨rfl,trivial⟩ ⟨rfl,rfl,rfl,rfl⟩))⟩
  ·have:k=cl.length:=by omega
   subst this;refine aA ?_;exact ret_of rfl rfl
structure ClOk (l:List (Nat×Bool)):Prop where
 len:l.length<=8
 lt:∀ c∈l,c.1<4
 nd:(l.map (·.1)).Nodup
theorem nd_ne {α:Type} {l:List α} (h:l.Nodup) {i j:Nat} (hi:i<j) (hj:j<l.length):l[i]≠l[j]:=by
 intro e;have:=(List.nodup_iff_pairwise_ne.1 h);exact (List.pairwise_iff_getElem.1 this) i j (by omega) hj hi e
theorem ClOk.ne {l:List (Nat×Bool)} (h:ClOk l) {i j:Nat} (hi:i<j) (hj:j<l.length):l[i].1≠l[j].1:=by
 have:=nd_ne h.nd hi (by rw [List.length_map];exact hj)
 simpa using this
theorem bankR_ok (l:List (Nat×Bool)) (h:ClOk l):ACall Tryz.prog 252 [.lst (l.map encCl)] (.bool true):=by
 have hm:(l.map encCl).length=l.length:=List.length_map ..
 have h8:=h.len;refine acall_of Tryz.func252 1 rfl (by kernel_rfl) (aO ?_);refine aloop (ι:=Nat) (fun k=>[(0,.d (.lst (l.map encCl))),(10,.d (.lst (l.map encCl))),(11,.d (.int .i64 (l.map encCl).length)),(12,.d (.int .i64 k))]) (fun _=>[])
  (fun k=>k<=l.length) (fun k=>l.length-k) 0 (Nat.zero_le _) (le0 (le_of_cov ⟨rfl,rfl,rfl,rfl,trivial⟩ trivial ⟨rfl,rfl,rfl,rfl⟩)) ?_
 intro k hk
 conv=>whnf
 refine bcase_p (fun h5=>?_) (fun h5=>?_)<;>conv=>whnf
 ·have hk2:k<l.length:=by omega
  have hlt:=h.lt _ (List.getElem_mem hk2)
  have hb:(0:Int) <= (if l[k].2=true then 1 else 0) /\ (if l[k].2=true then 1 else 0) <= (1:Int):=by split<;>omega
  refine idxK_nat (by omega) (w0 ?_);refine getRow_of (x:=encCl l[k]) (by simp [hk2]) (aW ?_);refine aO ?_;refine condK_of (fun e he=>encCl_len he) (w0 ?_);refine sliceK_hi (by omega) (aW ?_)
  have hl2:((l.map encCl).take k).length=k:=by rw [List.length_take];omega
  refine aloop (ι:=Nat) (fun q=>[(0,.d (.lst (l.map encCl))),(4,.ptr 4 0 0),(10,.d (.lst (l.map encCl))),(11,.d (.int .i64 (l.map encCl).length)),(12,.d (.int .i64 k)),(47,.d (.lst (((l.map encCl).take k).drop 0))),(48,.d (.int .i64 (((l.map encCl).take k).drop 0).length)),(49,.d (.int .i64 q))]) (fun _=>[(4,.box ((encCl l[k]).map AV.d) false)])
   (fun q=>q<=k) (fun q=>k-q) 0 (Nat.zero_le _) (le0 (le_of_cov ⟨rfl,rfl,rfl,rfl,rfl,rfl,rfl,rfl,trivial⟩ ⟨rfl,trivial⟩ ⟨rfl,rfl,rfl,rfl⟩)) ?_
  intro q hq;rw [List.drop_zero]
  conv=>whnf
  refine bcase_p (fun h6=>?_) (fun h6=>?_)<;>conv=>whnf
  ·have hq2:q<k:=by omega
   have hq3:q<l.length:=by omega
   have hne:=h.ne hq2 hk2;refine idxK_nat (by omega) (w0 ?_);refine getRow_of (x:=encCl l[q]) (by simp [hq2,hq3]) (aW ?_);refine aO ?_;exact ⟨q+1,by omega,by omega,(le0 (le_of_cov ⟨rfl,rfl,rfl,rfl,rfl,rfl,rfl,rfl,trivial⟩ ⟨rfl,trivial⟩ ⟨rfl,rfl,rfl,rfl⟩))⟩
  ·refine aA ?_;exact ⟨k+1,by omega,by omega,(le0 (le_of_cov ⟨rfl,rfl,rfl,rfl,trivial⟩ trivial ⟨rfl,rfl,rfl,rfl⟩))⟩
 ·refine aA ?_;exact ret_of rfl rfl
abbrev CS:=(Nat×Bool)×Bool
def hN (c:Nat×Bool):Int:=if c.2=true then 1 else 0
def pz (free:Int) (x:CS):Bool:=!x.2&&decide (1-hN x.1<=free)
def encS (x:CS):List D:=[.bool x.2]
theorem next_ok (free:Int) (z:List CS) (hz:z.length<=8) {i:Nat} (hi:ixF (pz free) z 0=(i:Int)):ACall Tryz.prog 287 [.int .i64 free,.lst ((z.map (·.1)).map encCl),.lst (z.map encS)] (.tup [.int .i64 i,.bool true]):=by
 have hm:((z.map (·.1)).map encCl).length=z.length:=by rw [List.length_map,List.length_map]
 have hm2:(z.map encS).length=z.length:=List.length_map ..
 refine acall_of Tryz.func287 3 rfl (by kernel_rfl) (aO ?_);refine aloop (ι:=Nat) (fun k=>[(0,.d (.int .i64 free)),(2,.d (.lst (z.map encS))),(10,.d (.lst ((z.map (·.1)).map encCl))),(11,.d (.int .i64 ((z.map (·.1)).map encCl).length)),(12,.d (.int .i64 k))]) (fun _=>[])
  (fun k=>k<=z.length/\ixF (pz free) (z.drop k) k=(i:Int)) (fun k=>z.length-k) 0 ⟨Nat.zero_le _,hi⟩ (le0 (le_of_cov ⟨rfl,rfl,rfl,rfl,rfl,trivial⟩ trivial ⟨rfl,rfl,rfl,rfl⟩)) ?_
 rintro k ⟨hk,hR⟩
 conv=>whnf
 refine bcase_p (fun h=>?_) (fun h=>?_)<;>conv=>whnf
 ·have hk2:k<z.length:=by omega
  rw [drop_cons hk2,ixF] at hR
  have hb:0<=hN z[k].1/\hN z[k].1<=1:=by unfold hN;split<;>omega
  refine idxK_nat (by omega) (w0 ?_);refine getRow_of (x:=encCl z[k].1) (by simp [hk2]) (aW ?_);refine idxK_nat (by omega) (w0 ?_);refine getRow_of (x:=encS z[k]) (by simp [hk2]) (aW ?_)
  refine bcase_intro (fun h2=>?_) (fun h2=>?_)<;>conv=>whnf
  ·refine aA ?_
   replace h2:z[k].2=false:=by simpa using h2
   refine bcase_p (fun h3=>?_) (fun h3=>?_)<;>conv=>whnf
   ·replace h3:1-hN z[k].1<=free:=h3;rw [if_pos (by rw [pz,h2];simpa using h3)] at hR;refine aA ?_;exact ret_of rfl (by rw [<-hR];rfl)
   ·replace h3:¬(1-hN z[k].1<=free):=h3;rw [if_neg (by rw [pz,decide_eq_false h3];simp)] at hR;refine aA ?_;exact ⟨k+1,⟨by omega,hR⟩,by omega,(le0 (le_of_cov ⟨rfl,rfl,rfl,rfl,rfl,trivial⟩ trivial ⟨rfl,rfl,rfl,rfl⟩))⟩
  ·rw [if_neg (by rw [pz];simp at h2;simp [h2])] at hR;refine aA ?_;exact ⟨k+1,⟨by omega,hR⟩,by omega,(le0 (le_of_cov ⟨rfl,rfl,rfl,rfl,rfl,trivial⟩ trivial ⟨rfl,rfl,rfl,rfl⟩))⟩
 ·have:k=z.length:=by omega
  subst this;simp [ixF] at hR
theorem set_mid' {α:Type} {P Q:List α} {x y:α} {i:Nat} (h:i=P.length):(P++x::Q).set i y=P++y::Q:=by subst h;simp
theorem countP_set' {α:Type} (p:α->Bool) {l:List α} {i:Nat} (x:α) (hi:i<l.length):(l.set i x).countP p+(if p l[i]=true then 1 else 0)=l.countP p+(if p x=true then 1 else 0):=by
 have e:l=l.take i++l[i]::l.drop (i+1):=by rw [<-drop_cons hi,List.take_append_drop]
 have e2:l.set i x=l.take i++x::l.drop (i+1):=by
  conv=>lhs;rw [e]
  exact set_mid' (by simp;omega)
 rw [e2]
 conv=>rhs;rw [e]
 simp only [List.countP_append,List.countP_cons];omega
def unh (z:List CS):Nat:=z.countP fun x=>x.1.2&&!x.2
def uns (z:List CS):Nat:=z.countP fun x=>!x.2
def ordG:Nat->Int->List CS->List Int->List Int
 |0,_,_,o=>o
 |m+1,f,z,o=>match z[(ixF (pz f) z 0).toNat]? with
  |some x=>ordG m (f+hN x.1) (z.set (ixF (pz f) z 0).toNat (x.1,true)) (o++[ixF (pz f) z 0])
  |none=>o
structure OrdI (l:List (Nat×Bool)) (f0:Int) (s:Int×List CS×List Int):Prop where
 fst:s.2.1.map (·.1)=l
 fnn:0<=s.1
 tot:1<=s.1+unh s.2.1
 top:s.1+unh s.2.1<=16
 len:s.2.2.length<=l.length
 cnt:uns s.2.1+s.2.2.length=l.length
 eq:ordG (l.length-s.2.2.length) s.1 s.2.1 s.2.2=ordG l.length f0 (l.map fun c=>(c,false)) []
theorem OrdI.next {l f0 s} (h:OrdI l f0 s) (hl:s.2.2.length<l.length):∃ i:Nat,∃ hi:i<s.2.1.length,ixF (pz s.1) s.2.1 0=(i:Int) /\ (s.2.1[i]).2=false/\OrdI l f0 (s.1+hN (s.2.1[i]).1,s.2.1.set i ((s.2.1[i]).1,true),s.2.2++[(i:Int)]):=by
 obtain ⟨f,z,o⟩:=s;obtain ⟨h1,h2,h3,h4,h5,h6,h7⟩:=h;simp only [] at h1 h2 h3 h4 h5 h6 h7 hl⊢
 have hex:∃ x∈z,pz f x=true:=by
  by_cases hf:1<=f
  ·have:0<z.countP fun x=>!x.2:=by show 0<uns z;omega
   obtain ⟨x,hx,hp⟩:=List.countP_pos_iff.1 this;refine ⟨x,hx,?_⟩
   have:1-hN x.1<=f:=by unfold hN;split<;>omega
   rw [pz,hp,decide_eq_true this];rfl
  ·have:0<z.countP fun x=>x.1.2&&!x.2:=by show 0<unh z;omega
   obtain ⟨x,hx,hp⟩:=List.countP_pos_iff.1 this;refine ⟨x,hx,?_⟩;simp only [Bool.and_eq_true] at hp
   have:1-hN x.1<=f:=by rw [hN,if_pos hp.1];omega
   rw [pz,hp.2,decide_eq_true this];rfl
 obtain ⟨i,hi,e,hp⟩:=ixF_yes (k:=0) hex;rw [Nat.zero_add] at e
 have hz2:(z[i]).2=false:=by
  rw [pz] at hp;simp only [Bool.and_eq_true] at hp
  simpa using hp.1
 have c1:=countP_set' (fun x:CS=>x.1.2&&!x.2) ((z[i]).1,true) hi;have c2:=countP_set' (fun x:CS=>!x.2) ((z[i]).1,true) hi;simp only [hz2,Bool.not_false,Bool.and_true,Bool.not_true,Bool.and_false,if_true] at c1 c2
 have eu:(unh (z.set i ((z[i]).1,true)):Int)+hN (z[i]).1=unh z:=by
  unfold unh hN
  split
  ·rename_i g;simp only [g,if_true,Bool.false_eq_true,if_false] at c1;omega
  ·rename_i g;simp only [g,if_true,Bool.false_eq_true,if_false] at c1;omega
 have eh:0<=hN (z[i]).1:=by unfold hN;split<;>omega
 have es:uns (z.set i ((z[i]).1,true))+1=uns z:=by
  unfold uns
  simpa using c2
 refine ⟨i,hi,e,hz2,?_,?_,?_,?_,?_,?_,?_⟩
 ·rw [List.map_set,h1];subst h1
  have hi2:i<(z.map (·.1)).length:=by rw [List.length_map];exact hi
  have e:(z[i]).1=(z.map (·.1))[i]:=by simp
  show (z.map (·.1)).set i (z[i]).1=_;rw [e];exact List.set_getElem_self hi2
 ·dsimp only;omega
 ·dsimp only;omega
 ·dsimp only;omega
 ·simp only [List.length_append,List.length_singleton];omega
 ·simp only [List.length_append,List.length_singleton];omega
 ·simp only [List.length_append,List.length_singleton];rw [<-h7,show l.length-o.length=(l.length-(o.length+1))+1 by omega,ordG,e,Int.toNat_natCast,List.getElem?_eq_getElem hi]
theorem order_ok (f0:Int) (l:List (Nat×Bool)) (h:ClOk l) (hf0:0<=f0) (h1:1<=f0+heldN l) (h16:f0+heldN l<=16):
  ACall Tryz.prog 264 [.int .i64 f0,.lst (l.map encCl)] (.tup [encNs (ordG l.length f0 (l.map fun c=>(c,false)) []),.bool true]):=by
 have h8:=h.len
 have hm:(l.map encCl).length=l.length:=List.length_map ..
 have e0:(l.map fun c=>((c,false):CS)).map (·.1)=l:=by rw [List.map_map];exact List.map_id l
 have e1:unh (l.map fun c=>(c,false))=heldN l:=by
  unfold unh heldN;rw [List.countP_map];congr 1;funext c;simp
 have e2:uns (l.map fun c=>(c,false))=l.length:=by
  unfold uns;rw [List.countP_map];exact List.countP_eq_length.2 fun _ _=>rfl
 have e3:List.replicate l.length [D.bool false]=(l.map fun c=>((c,false):CS)).map encS:=by
  rw [List.map_map];exact (List.eq_replicate_iff.2 ⟨List.length_map ..,fun b hb=>by obtain ⟨c,_,rfl⟩:=List.mem_map.1 hb;rfl⟩).symm
 refine acall_of Tryz.func264 2 rfl (by kernel_rfl) (w0 ?_);refine callX_pure (bankR_ok l h) (aW ?_);refine aO ?_;rw [hm,Int.toNat_natCast];refine roomK_le 1000 100 (by omega) (by decide) (by decide) (by decide) (w0 ?_);refine aloop (ι:=Int×List CS×List Int) (fun s=>[(0,.d (.int .i64 s.1)),(1,.d (.lst (l.map encCl))),(6,.own 52),(7,.own 23)]) (fun s=>[(23,.row (s.2.1.map encS) 1 false),(52,.row (s.2.2.map enc1) 1 false)])
  (OrdI l f0) (fun s=>l.length-s.2.2.length) (f0,l.map fun c=>(c,false),[]) ⟨e0,hf0,by rw [e1];exact h1,by rw [e1];exact h16,Nat.zero_le _,by rw [e2];rfl,rfl⟩
  (le1 (.row 6 52 1) ⟨rfl,rfl⟩ (le_of_cov ⟨rfl,rfl,rfl,rfl,trivial⟩ ⟨by rw [<-e3];rfl,rfl,trivial⟩ ⟨rfl,rfl,rfl,rfl⟩)) ?_
 rintro ⟨f,z,o⟩ hI;have q1:=hI.fst;have q3:=hI.top;have q4:=hI.len;have q5:=hI.fnn;have q6:=hI.eq;simp only [] at q1 q3 q4 q5 q6⊢
 have hmo:(o.map enc1).length=o.length:=List.length_map ..
 have hmz:(z.map encS).length=z.length:=List.length_map ..
 have hzl:z.length=l.length:=by rw [<-q1,List.length_map]
 conv=>whnf
 refine bcase_p (fun h5=>?_) (fun h5=>?_)<;>conv=>whnf
 ·obtain ⟨i,hi,ei,ez,hJ⟩:=hI.next (by dsimp only;omega);simp only [] at hi ei ez hJ;have hc:=next_ok f z (by omega) ei;rw [q1] at hc;refine callX_pure hc (aW ?_);refine idxK_nat (by omega) (w0 ?_);refine getRow_of (x:=encS z[i]) (by simp [hi]) (aW ?_)
  have hil:i<l.length:=by omega
  have el:(z[i]).1=l[i]:=by subst q1;simp
  have eh:0<=hN l[i] /\hN l[i] <=1:=by unfold hN;split<;>omega
  refine idxK_nat (by omega) (w0 ?_);refine getRow_of (x:=encCl l[i]) (by simp [hil]) (aW ?_);refine roomK_le 1000 1000 (by show (o.map enc1).length+1<=1000;omega) (by decide) (by decide) (by decide) (aW ?_);rw [el] at hJ
  have em:(z.map encS).set i (splice (encS z[i]) 0 [D.bool true])=(z.set i (l[i],true)).map encS:=by rw [List.map_set];rfl
  refine ⟨(f+hN l[i],z.set i (l[i],true),o++[(i:Int)]),hJ,by dsimp only;rw [List.length_append];simp;omega,le0 (le_of_cov ⟨rfl,rfl,rfl,rfl,trivial⟩ ⟨by rw [<-em];rfl,by rw [List.map_append];rfl,trivial⟩ ⟨rfl,rfl,rfl,rfl⟩)⟩
 ·have:o.length=l.length:=by omega
  rw [this,Nat.sub_self,ordG] at q6;refine aA ?_;exact ret_of rfl (by rw [<-q6];rfl)
theorem safe_ok (f0:Int) (l:List (Nat×Bool)) (h:ClOk l) (hf0:0<=f0) (h1:1<=f0+heldN l) (h16:f0+heldN l<=16):ACall Tryz.prog 203 [.int .i64 f0,.lst (l.map encCl)] (.bool true):=by
 refine acall_of Tryz.func203 2 rfl (by kernel_rfl) (w0 ?_);refine callX_pure (order_ok f0 l h hf0 h1 h16) (aW ?_);exact ret_of rfl rfl
end Go.Lk
