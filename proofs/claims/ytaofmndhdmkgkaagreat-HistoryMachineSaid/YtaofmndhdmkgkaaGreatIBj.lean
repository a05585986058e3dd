/-
  What is proved here: what functions of the program compute, and what follows; no condition beyond each theorem's own.
-/
import Derived.Test.YtaofmndhdmkgkaaGreatIAv
import Derived.Test.YtaofmndhdmkgkaaGreatIAw
import Derived.Test.YtaofmndhdmkgkaaGreatIBe
import Derived.Test.YtaofmndhdmkgkaaGreatIBi
set_option linter.unusedSimpArgs false
set_option linter.unusedVariables false
set_option linter.unnecessarySimpa false
set_option linter.unusedSectionVars false
namespace Go.Lk
open Go Go.Proofs Go.RowKit
theorem yVv {s:ByteArray} (h:(zFd s).2=0):pgR (zFd s).1=true:=by
 rw [zFd] at h⊢
 split at h
 ·cases h
 rw [if_neg (by assumption)]
 split at h
 ·cases h
 rw [if_neg (by assumption)]
 split at h
 ·cases h
 rw [if_neg (by assumption)]
 split at h
 ·rename_i g;rw [if_pos g];exact g.1
 ·cases h
theorem getR_r {s:List ByteArray} {q:Nat} (h:(getR s q).2=0):pgR (getR s q).1=true/\ (getR s q).1.1=(q:Int):=by
 rw [getR] at h⊢
 split at h
 ·rename_i g;exact absurd h g
 rename_i g;rw [if_neg g]
 split at h
 ·cases h
 rename_i g2;rw [if_neg g2];exact ⟨yVv (by simpa using g),by simpa using g2⟩
theorem zMk {f:Nat->Option Pg} (hf:∀ k x,f k=some x->x.1=(k:Int)+1) (n:Nat):((List.range n).filterMap f).Pairwise fun a b=>a.1<b.1:=by
 rw [List.pairwise_filterMap]
 refine List.pairwise_lt_range.imp fun {a b} hab x hx y hy=>?_
 have:=hf a x hx;have:=hf b y hy;omega
theorem mr_of {l:List Pg} (h1:∀ x∈l,pgR x=true) (h2:l.Pairwise fun a b=>a.1<b.1):Hy.MRight l:=
 ⟨h1,fun i hi=>(List.pairwise_iff_getElem.1 h2) i (i+1) (by omega) hi (by omega)⟩
theorem yNk {l:List Pg} (h1:∀ x∈l,pgR x=true) (h2:l.Pairwise fun a b=>a.1<b.1) {x:Pg} (hx:x∈l):getO l x.1=(x,true):=by
 obtain ⟨i,hi,rfl⟩:=List.mem_iff_getElem.1 hx
 have e:Hy.plN l l[i].1=i:=Hy.plN_at hi (Int.le_refl _) fun j hj hjl=>(List.pairwise_iff_getElem.1 h2) j i hjl hi hj
 rw [getO,if_pos ⟨Hy.mapB_t.2 (mr_of h1 h2),by rw [Hy.plB,e,List.getElem?_eq_getElem hi];simp⟩,e,List.getElem?_eq_getElem hi];rfl
theorem yTg {l:List Pg} {id:Int} (h:∀ x∈l,x.1≠id):getO l id=(zP,false):=by
 rw [getO,if_neg];rintro ⟨_,g⟩;rw [Hy.plB] at g
 split at g
 ·rename_i p hp;exact h p (List.mem_of_getElem? hp) (by simpa using g)
 ·cases g
theorem z9h {d:DS} {k:Nat} {x:Pg} (hd:∀ q:Nat,1<=q->q<=16->getS d q=getR d.sec q) (hk:k<16) (h:stAt d k=some x):pgR x=true/\x.1=(k:Int)+1:=by
 have e:=hd (k+1) (by omega) (by omega);rw [show (((k+1:Nat):Int))=(k:Int)+1 by omega] at e;rw [stAt,e] at h
 split at h
 ·rename_i g
  cases h
  have:=getR_r g;exact ⟨this.1,by omega⟩
 ·cases h
theorem lsN_mem {d:DS} {x:Pg}:x∈lsN d 16↔∃ k,k<16/\stAt d k=some x:=by
 rw [lsN,List.mem_filterMap];simp [List.mem_range]
theorem fm_congr {f g:Nat->Option Pg} {n:Nat} (h:∀ k,k<n->f k=g k):(List.range n).filterMap f=(List.range n).filterMap g:=by
 induction n with
 |zero=>rfl
 |succ n ih=>rw [zQh,zQh,ih fun k hk=>h k (by omega),h n (by omega)]
theorem zVi {m:MS} {P:Nat->Pg} {n:Nat} (h:DocI m.p P n):yRi m=bgN P 16:=by
 have hi:=h.inv
 have hd:∀ q:Nat,1<=q->q<=16->getS m.p.d q=getR m.p.d.sec q:=fun q h1 h16=>hi.pj.get h1 h16
 have r1:∀ x∈lsN m.p.d 16,pgR x=true:=fun x hx=>by
  obtain ⟨k,hk,e⟩:=lsN_mem.1 hx;exact (z9h hd hk e).1
 have r2:(lsN m.p.d 16).Pairwise fun a b=>a.1<b.1:=by
  have e:lsN m.p.d 16=(List.range 16).filterMap fun k=>if k<16 then stAt m.p.d k else none:=fm_congr fun k hk=>by rw [if_pos hk]
  rw [e];refine zMk (fun k x hx=>?_) 16
  split at hx
  ·rename_i hk;exact (z9h hd hk hx).2
  ·cases hx
 refine fm_congr fun k hk=>?_
 rw [pgAt,bgAt,show ((k:Int)+1)=((k+1:Nat):Int) by omega]
 rcases hi.where (q:=k+1) (by omega) with hn|⟨i,hA⟩
 ·rw [zCp hi.pj.fm hn (by omega),if_neg (by decide)];have e:=hi.on.dsk (k+1) (by omega) (by omega) (hi.out (by omega) hn)
  by_cases hz:(P (k+1)).1=0
  ·rw [if_pos hz] at e;rw [yTg,if_neg (by decide),if_neg (show ¬(P (k+1)).1≠0 from fun g=>g hz)];intro x hx ex;obtain ⟨j,hj,ej⟩:=lsN_mem.1 hx;have h2:=(z9h hd hj ej).2
   have:j=k:=by omega
   subst this;rw [stAt,show ((j:Int)+1)=((j+1:Nat):Int) by omega,hd (j+1) (by omega) (by omega),e,if_neg (by decide)] at ej
   cases ej
  ·rw [if_neg hz] at e;rw [if_pos hz]
   have hm:P (k+1)∈lsN m.p.d 16:=lsN_mem.2 ⟨k,hk,by
    rw [stAt,show ((k:Int)+1)=((k+1:Nat):Int) by omega,hd (k+1) (by omega) (by omega),e,if_pos rfl]⟩
   have:=yNk r1 r2 hm;rw [(hi.on.nz (q:=k+1) (by omega) (by omega) hz).2] at this;rw [this,if_pos rfl]
 ·rw [findF_at hA,if_pos rfl,if_pos (hi.nz hA)];simp only [Int.toNat_natCast];rw [zDq hA.hp,hi.at_ (k+1) i hA]
theorem MG.new {p:PS} {n:Nat} {work:List (List MOp)} (n1:1<=n) (n8:n<=8) (hp:p.f.fr.length=n) (hg:Gd 0 p) (t1:1<=work.length) (t4:work.length<=4):MG work 0 (zSi p n work):=
 ⟨yUj n1 n8 hp t1 t4,hg,by
  show (work.map zN).map (·.todo)=work;rw [List.map_map]
  exact List.map_id'' (fun _=>rfl) _,Int.le_refl _⟩
theorem DocI.gd {p P n} (h:DocI p P n):Gd p.now p:=⟨h.inv.pj.fm,by
 have:=h.inv.pj.rest.us
 rw [<-h.inv.pj.d] at this;exact this,rfl⟩
def mCk (k:Nat) (m:MS):List AV:=.own (k+1)::(m.p.box++(m.h.cells.map AV.d++(latC m.lat++((m.s.cells m.p.d).map AV.d++[.d (.int .i64 m.clk),.own (k+2)]))))
def stV (m:MS) (k:Nat):Int:=match m.ws[k]? with|some w=>(w.st:Int)|none=>0
theorem zWd (m:MS) (k:Nat):zBa Tryz.prog 35 [.ptr 1000000 0 0,.d (.int .i64 k)] (mH m) (mH m) (.int .i64 (stV m k)):=by
 have h:=yCs m k;rw [if_pos (by omega),Int.toNat_natCast] at h;exact h
open Classical in
noncomputable def quB (m:MS):Bool:=decide (∀ k,k<4->stV m k≠6)
theorem yKn {m:MS}:quB m=true↔∀ k,k<4->stV m k≠6:=by simp [quB]
noncomputable def zKa (m:MS) (l:List (Int×Int)):MS:=l.foldl (fun m a=>(doMS m a).1) m
theorem yOw {l:List (Int×Int)} {k:Nat} (hk:k<l.length) (m:MS):zKa m (l.take (k+1))=(doMS (zKa m (l.take k)) l[k]).1:=by
 rw [zKa,zAs hk,List.foldl_append];rfl
theorem z8y {Q:MS->Prop} (hQ:∀ m a,Q m->Q (doMS m a).1):∀ (l:List (Int×Int)) {m:MS},Q m->Q (zKa m l)
 | [],m,h=>h
 |a::l,m,h=>z8y hQ l (m:=(doMS m a).1) (hQ m a h)
theorem yKv:∀ (l:List (Int×Int)) (m:MS),(zKa m l).clk<=m.clk+l.length/\m.clk<= (zKa m l).clk
 | [],m=>by constructor<;>simp [zKa]
 |a::l,m=>by
  have h1:=yMy m a;have h2:=yKv l (doMS m a).1;have e:zKa m (a::l)=zKa (doMS m a).1 l:=rfl;rw [e,List.length_cons];omega
theorem zZb (n:Nat) (n1:1<=n) (n8:n<=8) (pages:List Pg) (work:List (List MOp)):DocI (begM n pages work).p (new9 pages).2 n:=
 ⟨Inv.new n1 n8 (NI9.ofG pages).rest (NI9.ofG pages).z (NI9.ofG pages).on (Int.le_refl 0),List.length_replicate ..⟩
theorem ySf (n:Nat) (n1:1<=n) (n8:n<=8) (pages:List Pg) (work:List (List MOp)) (h1:1<=work.length) (h4:work.length<=4):MG work 0 (begM n pages work):=
 MG.new n1 n8 (List.length_replicate ..) (zZb n n1 n8 pages work).gd h1 h4
theorem yMl (n:Nat) (n1:1<=n) (n8:n<=8) (pages:List Pg) (work:List (List MOp)) (h1:1<=work.length) (h4:work.length<=4):MGE work (begM n pages work):=
 ⟨0,Int.le_refl 0,by decide,ySf n n1 n8 pages work h1 h4⟩
inductive Tr (m:MS):MS->Prop
 |same (h':HA) (lat':List LA) (s':SA) (c':Int) (hc:c'=m.clk\/c'=m.clk+1):Tr m ⟨m.ws,m.p,h',lat',s',c',m.ev⟩
 |age (a:Int):Tr m (ageM m a)
 |beg (k:Nat) (w:WA) (h':HA) (hk:m.ws[k]?=some w) (hs:w.st=0) (he:w.ended<w.todo.length):Tr m ⟨m.ws.set k {w with began:=m.clk,st:=1},m.p,h',m.lat,m.s,m.clk+1,m.ev⟩
 |mid (k:Nat) (w:WA) (a p:Bool) (s:Nat) (h':HA) (lat':List LA) (s':SA) (hk:m.ws[k]?=some w) (h1:1<=w.st) (h5:w.st<6) (h2:2<=s) (h6:s<=5):Tr m ⟨m.ws.set k {w with asked:=a,pinned:=p,st:=s},m.p,h',lat',s',m.clk+1,m.ev⟩
 |wake (k:Nat) (w:WA) (s':SA) (hk:m.ws[k]?=some w) (hs:w.st=4):Tr m ⟨m.ws.set k {w with st:=5},m.p,m.h,m.lat,s',m.clk,m.ev⟩
 |fail (k:Nat) (w:WA) (s':SA) (hk:m.ws[k]?=some w) (hs:w.st=4):Tr m ⟨m.ws.set k (zKc w (8,zP) (m.clk-1)),m.p,m.h,m.lat,s',m.clk,m.ev⟩
 |refuse (k:Nat) (w:WA) (hk:m.ws[k]?=some w) (hs:w.st=1) (hr:refB w.op=true):Tr m ⟨m.ws.set k (zKc w (1,zP) m.clk),m.p,m.h,m.lat,m.s,m.clk+1,m.ev⟩
 |work (k:Nat) (w:WA) (hk:m.ws[k]?=some w) (hs:w.st=5) (hr:refB w.op=false):Tr m ⟨m.ws.set k (zKc w (workP m.p w.op).2 m.clk),(workP m.p w.op).1,m.h,m.lat,m.s,m.clk+1,m.ev⟩
 |leave (k:Nat) (w:WA) (h':HA) (lat':List LA) (hk:m.ws[k]?=some w) (hs:w.st=6):Tr m ⟨m.ws.set k (z4f w),m.p,h',lat',m.s,m.clk+1,m.ev++[⟨k,w.op,w.res,w.began,w.done,m.clk⟩]⟩
theorem z9n {m:MS} (o:MOk m) (k:Int):Tr m (zBt m k).1:=by
 rw [zBt]
 split
 ·exact .same m.h m.lat m.s m.clk (.inl rfl)
 split
 ·exact .same m.h m.lat m.s m.clk (.inl rfl)
 ·rename_i w hk;have v:=o.w _ w hk;have no:Tr m {m with clk:=m.clk+1}:=.same m.h m.lat m.s (m.clk+1) (.inr rfl);unfold stepW
  split
  ·rename_i hs
   split
   ·exact no
   ·exact .beg _ w _ hk hs (by omega)
  ·rename_i hs
   split
   ·exact no
   split
   ·rename_i hr;exact .refuse _ w hk hs hr
   ·exact .mid _ w true w.pinned 2 _ _ _ hk (by omega) (by omega) (by omega) (by omega)
  ·rename_i hs
   split
   ·exact no
   ·exact .mid _ w w.asked w.pinned 3 _ _ _ hk (by omega) (by omega) (by omega) (by omega)
  ·rename_i hs
   split
   ·exact no
   split
   ·exact .mid _ w w.asked true 4 _ _ _ hk (by omega) (by omega) (by omega) (by omega)
   ·exact .mid _ w w.asked true 5 _ _ _ hk (by omega) (by omega) (by omega) (by omega)
  ·rename_i hs;exact .work _ w hk hs (v.val (v.ask (by omega) (by omega)))
  ·rename_i hs;exact .leave _ w _ _ hk hs
  ·exact no
theorem tr_fin {m:MS} (o:MOk m) (i:Int) (b:Bool):Tr m (finM m i b).1:=by
 rw [finM]
 split
 ·exact .same m.h m.lat m.s m.clk (.inl rfl)
 split
 ·exact .same m.h m.lat _ m.clk (.inl rfl)
 ·split
  ·exact .same m.h m.lat _ m.clk (.inl rfl)
  ·rename_i w hk
   split
   ·exact .same m.h m.lat _ m.clk (.inl rfl)
   ·rename_i hs;unfold yFo
    split
    ·exact .fail _ w _ hk (by omega)
    ·exact .wake _ w _ hk (by omega)
theorem tr_do {m:MS} (o:MOk m) (a:Int×Int):Tr m (doMS m a).1:=by
 rw [doMS];repeat' split
 ·exact .same m.h m.lat _ m.clk (.inl rfl)
 ·exact tr_fin o _ _
 ·exact .age _
 ·exact z9n o _
 ·exact z9n o _
structure OkP (P:Nat->Pg):Prop where
 ok:∀ q:Nat,1<=q->q<=16->P q=zP\/ (pgR (P q)=true/\ (P q).1=(q:Int))
theorem DocI.okp {p P n} (h:DocI p P n):OkP P:=⟨h.inv.on.okp⟩
theorem OkP.zz {P} (h:OkP P) {q:Nat} (h1:1<=q) (h16:q<=16) (hz:(P q).1=0):P q=zP:=by
 rcases h.ok q h1 h16 with e|⟨_,e⟩
 ·exact e
 ·omega
theorem OkP.nz {P} (h:OkP P) {q:Nat} (h1:1<=q) (h16:q<=16) (hz:(P q).1≠0):pgR (P q)=true/\ (P q).1=(q:Int):=by
 rcases h.ok q h1 h16 with e|e
 ·rw [e] at hz;exact absurd rfl hz
 ·exact e
theorem OkP.ud {P} (h:OkP P) {q:Nat} {x:Pg} (hx:x=zP\/ (pgR x=true/\x.1=(q:Int))):OkP (ud P q x):=⟨fun k k1 k16=>by
 by_cases e:k=q
 ·subst e;rw [zDk];exact hx
 ·rw [zDo _ _ e];exact h.ok k k1 k16⟩
def zHz (P:Nat->Pg) (o:MOp):(Nat->Pg)×MRes:=if refB o=true then (P,(1,zP)) else mdoc P o
theorem yBm {P} (h:OkP P) (o:MOp):OkP (zHz P o).1:=by
 rw [zHz]
 split
 ·exact h
 rename_i hr;obtain ⟨⟨k1,k4⟩,q1,q16⟩:=zSa (by simpa using hr)
 rw [mdoc];repeat' split
 all_goals first|exact h|skip
 ·exact h.ud (.inr ⟨yBz (by omega) (by omega),rfl⟩)
 ·rename_i g1 g2 g3 g4 g5 g6;obtain ⟨r1,r2⟩:=h.nz (q:=o.2.1.toNat) (by omega) (by omega) g2;have:=pgR_out.1 r1;exact h.ud (.inr ⟨pgR_out.2 ⟨this.1,this.2.1,by show 1<= (P o.2.1.toNat).2.1+1;omega,by show (P o.2.1.toNat).2.1+1<=_;omega,by show o.2.2.size<=16;omega⟩,r2⟩)
 ·exact h.ud (.inl rfl)
theorem yUf (P:Nat->Pg) (o:MOp):(zHz P o).2.1≠8:=by
 rw [zHz]
 split
 ·exact (by decide:(1:Int)≠8)
 rw [mdoc];repeat' split
 all_goals first|exact (by decide:(4:Int)≠8)|exact (by decide:(0:Int)≠8)|exact (by decide:(3:Int)≠8)|exact (by decide:(5:Int)≠8)|exact (by decide:(7:Int)≠8)
theorem yA {P:Nat->Pg} {x:Pg}:x∈bgN P 16↔∃ q:Nat,1<=q/\q<=16/\ (P q).1≠0/\x=P q:=by
 rw [bgN,List.mem_filterMap];simp only [List.mem_range,bgAt]
 constructor
 ·rintro ⟨k,hk,e⟩
  split at e
  ·rename_i g;cases e;exact ⟨k+1,by omega,by omega,g,rfl⟩
  ·cases e
 ·rintro ⟨q,h1,h16,hz,rfl⟩;exact ⟨q-1,by omega,by rw [show q-1+1=q by omega,if_pos hz]⟩
theorem yMn {P} (h:OkP P):(bgN P 16).Pairwise fun a b=>a.1<b.1:=by
 have e:bgN P 16=(List.range 16).filterMap fun k=>if k<16 then bgAt P k else none:=fm_congr fun k hk=>by rw [if_pos hk]
 rw [e];refine zMk (fun k x hx=>?_) 16
 split at hx
 ·rw [bgAt] at hx
  split at hx
  ·rename_i hk g
   cases hx
   have:=(h.nz (q:=k+1) (by omega) (by omega) g).2;omega
  ·cases hx
 ·cases hx
theorem bg_mr {P} (h:OkP P):Hy.MRight (bgN P 16):=mr_of (fun x hx=>by
 obtain ⟨q,h1,h16,hz,rfl⟩:=yA.1 hx
 exact (h.nz h1 h16 hz).1) (yMn h)
theorem z2m (P:Nat->Pg):(bgN P 16).length<=16:=zXq _ _
theorem yGl {P} (h:OkP P) {q:Nat} (h1:1<=q) (h16:q<=16):(Hy.findP (bgN P 16) q).getD Hy.zP=P q:=by
 by_cases hz:(P q).1=0
 ·rw [h.zz h1 h16 hz]
  cases e:Hy.findP (bgN P 16) q with
  |none=>rfl
  |some x=>
   obtain ⟨hm,hx⟩:=(Hy.findP_iff (yMn h)).1 e;obtain ⟨k,k1,k16,kz,rfl⟩:=yA.1 hm;have:=(h.nz k1 k16 kz).2
   have:k=q:=by omega
   subst this;exact absurd hz kz
 ·rw [(Hy.findP_iff (yMn h)).2 ⟨yA.2 ⟨q,h1,h16,hz,rfl⟩,(h.nz h1 h16 hz).2⟩];rfl
theorem ySg {P} (h:OkP P):(Hy.findP (bgN P 16) 0).getD Hy.zP=zP:=by
 cases e:Hy.findP (bgN P 16) 0 with
 |none=>rfl
 |some x=>
  obtain ⟨hm,hx⟩:=(Hy.findP_iff (yMn h)).1 e;obtain ⟨k,k1,k16,kz,rfl⟩:=yA.1 hm;have:=(h.nz k1 k16 kz).2;omega
theorem bg_tab {P} (h:OkP P):Hy.tabOf (bgN P 16)=(List.range 17).map fun j=>if j=0 then zP else P j:=by
 rw [Hy.tabOf]
 refine List.map_congr_left fun j hj=>?_
 have hj:=List.mem_range.1 hj
 by_cases e:j=0
 ·subst e;rw [if_pos rfl];exact ySg h
 ·rw [if_neg e];exact yGl h (by omega) (by omega)
theorem bg_set {P:Nat->Pg} {n:Nat} (h1:1<=n) (x:Pg):((List.range 17).map fun j=>if j=0 then zP else P j).set n x=(List.range 17).map fun j=>if j=0 then zP else ud P n x j:=by
 refine List.ext_getElem (by simp) fun i hi hi2=>?_
 rw [List.getElem_set];simp only [List.getElem_map,List.getElem_range]
 by_cases e:n=i
 ·subst e;rw [if_pos rfl,if_neg (by omega),zDk]
 ·rw [if_neg e]
  by_cases e0:i=0
  ·rw [if_pos e0,if_pos e0]
  ·rw [if_neg e0,if_neg e0,zDo _ _ (fun g=>e g.symm)]
theorem z2l (P:Nat->Pg):∀ l:List Nat,l.filterMap (bgAt P)=(l.map fun k=>P (k+1)).filter fun p=>!decide (p.1=0)
 | []=>rfl
 |k::l=>by
  rw [List.filterMap_cons,List.map_cons,List.filter_cons,bgAt,z2l P l]
  by_cases e:(P (k+1)).1=0
  ·rw [if_neg (fun g=>g e),decide_eq_true e];rfl
  ·rw [if_pos e,decide_eq_false e];rfl
theorem bg_col (P:Nat->Pg):Hy.colN ((List.range 17).map fun j=>if j=0 then zP else P j) 17=bgN P 16:=by
 rw [bgN,z2l];rfl
theorem yQr {P} (h : OkP P) (o : MOp) : Hy.doM (bgN P 16) o = (bgN (zHz P o).1 16, (zHz P o).2) := by
  have hm : Hy.mapB (bgN P 16) = true := Hy.mapB_t.2 (bg_mr h)
  rw [← Hy.rdM_eq, Hy.rdM, zHz]
  by_cases hr : refB o = true
  · rw [if_pos hr, if_pos]
    · rfl
    · right
      simp only [refB, Bool.or_eq_true, decide_eq_true_eq] at hr
      omega
  rw [if_neg hr]
  obtain ⟨⟨k1, k4⟩, q1, q16⟩ := zSa (by simpa using hr)
  rw [if_neg (by rw [hm]; rintro (g | g)
                 · cases g
                 · omega)]
  have q1' : 1 ≤ o.2.1.toNat := by omega
  have q16' : o.2.1.toNat ≤ 16 := by omega
  simp only [yGl h q1' q16', bg_tab h, bg_set q1', bg_col]
  rw [mdoc]
  have hzz : Hy.zP = zP := rfl
  by_cases a1 : o.1 = 1
  · by_cases hz : (P o.2.1.toNat).1 = 0
    · have e : newP o.2.1.toNat = (o.2.1, 1, ByteArray.empty) := by rw [newP]; congr 1; omega
      simp [a1, hz, e]
    · simp [a1, hz, hzz]
  · have k2 : 1 < o.1 := by omega
    by_cases hz : (P o.2.1.toNat).1 = 0
    · simp [a1, hz, hzz, k2]
    · by_cases a3 : o.1 = 3
      · by_cases hb : 16 < o.2.2.size
        · simp [a3, hz, hzz, hb]
        · by_cases hv : (P o.2.1.toNat).2.1 = 2147483647
          · simp [a3, hz, hzz, hb, hv]
          · simp [a3, hz, hb, hv, wrPg]
      · by_cases a2 : o.1 = 2
        · simp [a2, hz, z1w]
        · have a4 : o.1 = 4 := by omega
          simp [a4, hz, hzz]
theorem zFu {ws:List WA} {k j:Nat} {w v:WA} (h:(ws.set k w)[j]?=some v):(j=k/\v=w) \/ (j≠k/\ws[j]?=some v):=by
 rw [List.getElem?_set] at h
 split at h
 ·rename_i e;subst e
  split at h
  ·cases h;exact .inl ⟨rfl,rfl⟩
  ·cases h
 ·rename_i e;exact .inr ⟨fun g=>e g.symm,h⟩
def opsK (l:List EvA) (k:Nat):List MOp:=(l.filter fun e=>e.who==k).map (·.op)
theorem z4x (l:List EvA) (e:EvA) (k:Nat):opsK (l++[e]) k=opsK l k++(if e.who=k then [e.op] else []):=by
 rw [opsK,List.filter_append,List.map_append,<-opsK]
 by_cases h:e.who=k
 ·rw [if_pos h];simp [h]
 ·rw [if_neg h];simp [h]
structure PG (m:MS):Prop where
 who:∀ e∈m.ev,e.who<m.ws.length
 ops:∀ (k:Nat) (w:WA),m.ws[k]?=some w->opsK m.ev k=w.todo.take w.ended
 bu:∀ (k:Nat) (w:WA),m.ws[k]?=some w->w.st≠0->w.ended<w.todo.length
theorem PG.upd {m:MS} (g:PG m) {k:Nat} {w w':WA} {p':PS} {h':HA} {lat':List LA} {s':SA} {c':Int} (hk:m.ws[k]?=some w) (e1:w'.todo=w.todo) (e2:w'.ended=w.ended) (hb:w.ended<w.todo.length):PG ⟨m.ws.set k w',p',h',lat',s',c',m.ev⟩:=by
 refine ⟨fun e he=>by show e.who<(m.ws.set k w').length;rw [List.length_set];exact g.who e he,fun j v hj=>?_,fun j v hj hs=>?_⟩
 ·rcases zFu hj with ⟨rfl,rfl⟩|⟨_,h⟩
  ·rw [e1,e2];exact g.ops _ w hk
  ·exact g.ops j v h
 ·rcases zFu hj with ⟨rfl,rfl⟩|⟨_,h⟩
  ·rw [e1,e2];exact hb
  ·exact g.bu j v h hs
theorem PG.tr {m m':MS} (g:PG m) (t:Tr m m'):PG m':=by
 cases t with
 |same h' lat' s' c' hc=>exact ⟨g.who,g.ops,g.bu⟩
 |age a=>exact ⟨g.who,g.ops,g.bu⟩
 |beg k w h' hk hs he=>exact g.upd hk rfl rfl he
 |mid k w a p s h' lat' s' hk h1 h5 h2 h6=>exact g.upd hk rfl rfl (g.bu k w hk (by omega))
 |wake k w s' hk hs=>exact g.upd hk rfl rfl (g.bu k w hk (by omega))
 |fail k w s' hk hs=>exact g.upd hk rfl rfl (g.bu k w hk (by omega))
 |refuse k w hk hs hr=>exact g.upd hk rfl rfl (g.bu k w hk (by omega))
 |work k w hk hs hr=>exact g.upd hk rfl rfl (g.bu k w hk (by omega))
 |leave k w h' lat' hk hs=>
  have hlt:=(List.getElem?_eq_some_iff.1 hk).1;have hb:=g.bu k w hk (by omega);refine ⟨fun e he=>?_,fun j v hj=>?_,fun j v hj hs'=>?_⟩
  ·show e.who<(m.ws.set k (z4f w)).length;rw [List.length_set]
   rcases List.mem_append.1 he with he|he
   ·exact g.who e he
   ·rw [List.mem_singleton.1 he];exact hlt
  ·show opsK (m.ev++[_]) j=_;rw [z4x]
   rcases zFu hj with ⟨rfl,rfl⟩|⟨hne,h⟩
   ·rw [if_pos rfl,g.ops _ w hk];show _++[w.op]=w.todo.take (w.ended+1)
    rw [zAs hb,WA.op,List.getElem?_eq_getElem hb];rfl
   ·rw [if_neg (fun e=>hne e.symm),List.append_nil];exact g.ops j v h
  ·rcases zFu hj with ⟨rfl,rfl⟩|⟨_,h⟩
   ·exact absurd rfl hs'
   ·exact g.bu j v h hs'
structure TG (m:MS):Prop where
 c0:0<=m.clk
 n4:m.ws.length<=4
 ev:∀ e∈m.ev,e.who<4/\0<=e.began/\e.began<e.done/\e.done<e.ended/\e.ended<m.clk
 up:m.ev.Pairwise fun a b=>a.ended<b.ended
 seq:m.ev.Pairwise fun a b=>a.who=b.who->a.ended<b.began
 w1:∀ (k:Nat) (w:WA),m.ws[k]?=some w->w.st≠0->0<=w.began/\w.began<m.clk/\ ∀ e∈m.ev,e.who=k->e.ended<w.began
 w2:∀ (k:Nat) (w:WA),m.ws[k]?=some w->2<=w.st->w.began+1<m.clk
 w6:∀ (k:Nat) (w:WA),m.ws[k]?=some w->w.st=6->w.began<w.done/\w.done<m.clk
theorem TG.upd {m:MS} (g:TG m) {k:Nat} {w':WA} {p':PS} {h':HA} {lat':List LA} {s':SA} {c':Int} (hc:m.clk<=c')
  (h1:w'.st≠0->0<=w'.began/\w'.began<c'/\ ∀ e∈m.ev,e.who=k->e.ended<w'.began) (h2:2<=w'.st->w'.began+1<c') (h6:w'.st=6->w'.began<w'.done/\w'.done<c'):TG ⟨m.ws.set k w',p',h',lat',s',c',m.ev⟩:=by
 refine ⟨by have:=g.c0;show 0<=c';omega,by show (m.ws.set k w').length<=4;rw [List.length_set];exact g.n4,fun e he=>?_,g.up,g.seq,fun j v hj hs=>?_,fun j v hj hs=>?_,fun j v hj hs=>?_⟩
 ·have:=g.ev e he;show _/\_/\_/\_/\e.ended<c';omega
 ·rcases zFu hj with ⟨rfl,rfl⟩|⟨_,h⟩
  ·exact h1 hs
  ·have:=g.w1 j v h hs;exact ⟨this.1,by show _<c';omega,this.2.2⟩
 ·rcases zFu hj with ⟨rfl,rfl⟩|⟨_,h⟩
  ·exact h2 hs
  ·have:=g.w2 j v h hs
   show _<c';omega
 ·rcases zFu hj with ⟨rfl,rfl⟩|⟨_,h⟩
  ·exact h6 hs
  ·have:=g.w6 j v h hs;exact ⟨this.1,by show _<c';omega⟩
theorem TG.tr {m m':MS} (g:TG m) (t:Tr m m'):TG m':=by
 have c0:=g.c0
 cases t with
 |same h' lat' s' c' hc=>
  refine ⟨by show 0<=c';omega,g.n4,fun e he=>?_,g.up,g.seq,fun j v hj hs=>?_,fun j v hj hs=>?_,fun j v hj hs=>?_⟩
  ·have:=g.ev e he;show _/\_/\_/\_/\e.ended<c';omega
  ·have:=g.w1 j v hj hs;exact ⟨this.1,by show _<c';omega,this.2.2⟩
  ·have:=g.w2 j v hj hs
   show _<c';omega
  ·have:=g.w6 j v hj hs;exact ⟨this.1,by show _<c';omega⟩
 |age a=>exact ⟨g.c0,g.n4,g.ev,g.up,g.seq,g.w1,g.w2,g.w6⟩
 |beg k w h' hk hs he=>
  refine g.upd (by omega) (fun _=>⟨c0,by show m.clk<m.clk+1;omega,fun e he _=>(g.ev e he).2.2.2.2⟩) (fun q=>absurd (show 2<=1 from q) (by decide)) (fun q=>absurd (show 1=6 from q) (by decide))
 |mid k w a p s h' lat' s' hk h1 h5 h2 h6=>
  have a1:=g.w1 k w hk (by omega);refine g.upd (by omega) (fun _=>⟨a1.1,by show w.began<m.clk+1;omega,a1.2.2⟩) (fun _=>by show w.began+1<m.clk+1;omega) (fun q=>absurd (show s=6 from q) (by omega))
 |wake k w s' hk hs=>
  have a1:=g.w1 k w hk (by omega);have a2:=g.w2 k w hk (by omega);exact g.upd (by omega) (fun _=>a1) (fun _=>a2) (fun q=>absurd (show 5=6 from q) (by decide))
 |fail k w s' hk hs=>
  have a1:=g.w1 k w hk (by omega);have a2:=g.w2 k w hk (by omega);exact g.upd (by omega) (fun _=>a1) (fun _=>a2) (fun _=>⟨by show w.began<m.clk-1;omega,by show m.clk-1<m.clk;omega⟩)
 |refuse k w hk hs hr=>
  have a1:=g.w1 k w hk (by omega);exact g.upd (by omega) (fun _=>⟨a1.1,by show w.began<m.clk+1;omega,a1.2.2⟩) (fun _=>by show w.began+1<m.clk+1;omega) (fun _=>⟨a1.2.1,by show m.clk<m.clk+1;omega⟩)
 |work k w hk hs hr=>
  have a1:=g.w1 k w hk (by omega);exact g.upd (by omega) (fun _=>⟨a1.1,by show w.began<m.clk+1;omega,a1.2.2⟩) (fun _=>by show w.began+1<m.clk+1;omega) (fun _=>⟨a1.2.1,by show m.clk<m.clk+1;omega⟩)
 |leave k w h' lat' hk hs=>
  have hlt:=(List.getElem?_eq_some_iff.1 hk).1;have n4:=g.n4;have a1:=g.w1 k w hk (by omega);have a6:=g.w6 k w hk hs;refine ⟨by show 0<=m.clk+1;omega,by show (m.ws.set k _).length<=4;rw [List.length_set];exact g.n4,fun e he=>?_,?_,?_,fun j v hj hs'=>?_,fun j v hj hs'=>?_,fun j v hj hs'=>?_⟩
  ·rcases List.mem_append.1 he with he|he
   ·have:=g.ev e he;show _/\_/\_/\_/\e.ended<m.clk+1;omega
   ·rw [List.mem_singleton.1 he];exact ⟨by show k<4;omega,a1.1,a6.1,a6.2,by show m.clk<m.clk+1;omega⟩
  ·refine List.pairwise_append.2 ⟨g.up,by simp,fun a ha b hb=>?_⟩;rw [List.mem_singleton.1 hb];exact (g.ev a ha).2.2.2.2
  ·refine List.pairwise_append.2 ⟨g.seq,by simp,fun a ha b hb hw=>?_⟩;rw [List.mem_singleton.1 hb] at hw⊢;exact a1.2.2 a ha hw
  ·rcases zFu hj with ⟨rfl,rfl⟩|⟨hne,h⟩
   ·exact absurd rfl hs'
   ·have:=g.w1 j v h hs';refine ⟨this.1,by show _<m.clk+1;omega,fun e he hw=>?_⟩
    rcases List.mem_append.1 he with he|he
    ·exact this.2.2 e he hw
    ·rw [List.mem_singleton.1 he] at hw;exact absurd hw.symm hne
  ·rcases zFu hj with ⟨rfl,rfl⟩|⟨hne,h⟩
   ·exact absurd (show 2<=0 from hs') (by decide)
   ·have:=g.w2 j v h hs'
    show _<m.clk+1;omega
  ·rcases zFu hj with ⟨rfl,rfl⟩|⟨hne,h⟩
   ·exact absurd (show 0=6 from hs') (by decide)
   ·have:=g.w6 j v h hs';exact ⟨this.1,by show _<m.clk+1;omega⟩
structure Rc where
 op:MOp
 res:MRes
 done:Int
def evR (e:EvA):Rc:=⟨e.op,e.res,e.done⟩
def wR (w:WA):Option Rc:=if w.st=6 then some ⟨w.op,w.res,w.done⟩ else none
def zEo (ws:List WA):List Rc:=ws.filterMap wR
def allR (m:MS):List Rc:=m.ev.map evR++zEo m.ws
def zKv (r:Rc):Bool:=decide (r.res.1≠8)
def zMf:(Nat->Pg)->List Rc->(Nat->Pg)->Prop
 |P,[],P'=>P'=P
 |P,r::G,P'=>(zHz P r.op).2=r.res/\zMf (zHz P r.op).1 G P'
theorem zMf.snoc {o:MOp} {r:MRes} {d:Int}:∀ {G:List Rc} {P P':Nat->Pg},zMf P G P'->(zHz P' o).2=r->zMf P (G++[⟨o,r,d⟩]) (zHz P' o).1
 | [],P,P',h,hr=>by
  cases (show P'=P from h)
  exact ⟨hr,rfl⟩
 |x::G,P,P',h,hr=>⟨h.1,zMf.snoc (G:=G) h.2 hr⟩
theorem ySt {ws:List WA} {k:Nat} {w:WA} (h:ws[k]?=some w):∃ A B,ws=A++w::B/\ ∀ w',ws.set k w'=A++w'::B:=by
 have hi:=(List.getElem?_eq_some_iff.1 h).1;have hj:=(List.getElem?_eq_some_iff.1 h).2;refine ⟨ws.take k,ws.drop (k+1),?_,fun w'=>?_⟩
 ·rw [<-hj,<-List.drop_eq_getElem_cons hi,List.take_append_drop]
 ·rw [List.set_eq_take_append_cons_drop,if_pos hi]
theorem z8p {ws:List WA} {k:Nat} {w:WA} (h:ws[k]?=some w):∃ A B:List Rc,zEo ws=A++((wR w).toList++B) /\ ∀ w',zEo (ws.set k w')=A++((wR w').toList++B):=by
 obtain ⟨A,B,e1,e2⟩:=ySt h
 have key:∀ v:WA,zEo (A++v::B)=zEo A++((wR v).toList++zEo B):=fun v=>by
  rw [zEo,List.filterMap_append,List.filterMap_cons]
  cases e:wR v<;>simp [zEo]
 exact ⟨zEo A,zEo B,(congrArg zEo e1).trans (key w),
  fun w'=>by rw [e2];exact key w'⟩
theorem z8q {ws:List WA} {k:Nat} {w w':WA} (h:ws[k]?=some w) (h1:w.st≠6) (h2:w'.st≠6):zEo (ws.set k w')=zEo ws:=by
 obtain ⟨A,B,e1,e2⟩:=z8p h;rw [e1,e2,wR,wR,if_neg h1,if_neg h2]
theorem z0u {ws:List WA} {k:Nat} {w w':WA} (h:ws[k]?=some w) (h1:w.st≠6) (h2:w'.st=6):(zEo (ws.set k w')).Perm (zEo ws++[⟨w'.op,w'.res,w'.done⟩]):=by
 obtain ⟨A,B,e1,e2⟩:=z8p h;rw [e1,e2,wR,wR,if_neg h1,if_pos h2];show (A++(_::B)).Perm ((A++B)++[_]);exact List.perm_middle.trans (List.perm_append_singleton _ _).symm
theorem yOm {ws:List WA} {k:Nat} {w w':WA} (h:ws[k]?=some w) (h1:w.st=6) (h2:w'.st≠6):(zEo ws).Perm (⟨w.op,w.res,w.done⟩::zEo (ws.set k w')):=by
 obtain ⟨A,B,e1,e2⟩:=z8p h;rw [e1,e2,wR,wR,if_pos h1,if_neg h2];show (A++(_::B)).Perm (_::(A++B));exact List.perm_middle
structure OG (P0:Nat->Pg) (n:Nat) (m:MS):Prop where
 n1:1<=n
 ex:∃ (G:List Rc) (P:Nat->Pg),zMf P0 G P/\DocI m.p P n/\G.Pairwise (fun a b=>a.done<b.done) /\ (∀ r∈G,r.done<m.clk) /\ ((allR m).filter zKv).Perm G
 bad:∀ r∈allR m,r.res.1=8->r.res=(8,zP)
theorem OG.keep {P0 n} {m m':MS} (g:OG P0 n m) (hp:m'.p=m.p) (hc:m.clk<=m'.clk) (ha:(allR m').Perm (allR m)):OG P0 n m':=by
 obtain ⟨G,P,g1,g2,g3,g4,g5⟩:=g.ex;refine ⟨g.n1,⟨G,P,g1,by rw [hp];exact g2,g3,fun r hr=>by have:=g4 r hr;omega,(ha.filter _).trans g5⟩,fun r hr=>g.bad r (ha.mem_iff.1 hr)⟩
theorem OG.same {P0 n} {m m':MS} (g:OG P0 n m) (hp:m'.p=m.p) (hc:m.clk<=m'.clk) (ha:allR m'=allR m):OG P0 n m':=g.keep hp hc (by rw [ha])
theorem OG.add {P0 n} {m m':MS} (g:OG P0 n m) {o:MOp} {r:MRes} (hw:∀ P,DocI m.p P n->r=(zHz P o).2/\DocI m'.p (zHz P o).1 n) (hc:m.clk<m'.clk) (ha:(allR m').Perm (allR m++[⟨o,r,m.clk⟩])):OG P0 n m':=by
 obtain ⟨G,P,g1,g2,g3,g4,g5⟩:=g.ex;obtain ⟨h1,h2⟩:=hw P g2
 have hne:r.1≠8:=by rw [h1];exact yUf P o
 refine ⟨g.n1,⟨G++[⟨o,r,m.clk⟩],(zHz P o).1,g1.snoc h1.symm,h2,?_,fun x hx=>?_,?_⟩,fun x hx h8=>?_⟩
 ·refine List.pairwise_append.2 ⟨g3,by simp,fun a ha b hb=>?_⟩
  rw [List.mem_singleton.1 hb];exact g4 a ha
 ·rcases List.mem_append.1 hx with hx|hx
  ·have:=g4 x hx;omega
  ·rw [List.mem_singleton.1 hx];exact hc
 ·refine (ha.filter _).trans ?_;rw [List.filter_append];refine g5.append ?_
  have:zKv ⟨o,r,m.clk⟩=true:=by simp [zKv,hne]
  rw [List.filter_cons,if_pos this,List.filter_nil]
 ·rcases List.mem_append.1 (ha.mem_iff.1 hx) with hx|hx
  ·exact g.bad x hx h8
  ·rw [List.mem_singleton.1 hx] at h8;exact absurd h8 hne
theorem DocI.age {p P n} (h:DocI p P n) (a:Int) (b:ByteArray):DocI (zBb (zKd p 1) (8,a,b)).1 P n:=by
 have ht:DocI (zKd p 1) P n:=by
  refine ⟨?_,?_⟩
  ·have hi:=h.inv;have n0:=hi.pj.n0;have n1:=hi.pj.n1
   have mk:∀ t:Int,p.now<=t->t<=2147483647->Inv ⟨p.f,p.d,t⟩ P (fun _=>0) 2147483647 0:=fun t t0 t1=>
    ⟨⟨hi.pj.fm,hi.pj.rest,hi.pj.ca,hi.pj.z0,by show 0<=t;omega,t1,fun x hx=>by have:=hi.pj.dt x hx;show x.2<=t;omega⟩,hi.pins,hi.at_,hi.on,hi.ub⟩
   rw [zKd];repeat' split
   ·exact hi
   ·exact mk _ (by omega) (Int.le_refl _)
   ·exact mk _ (by omega) (by omega)
  ·rw [zKd];repeat' split
   all_goals exact h.len
 have d:=(yFz ht.inv a).1;obtain ⟨q,l,e,i1,n1,m1,_⟩:=d.eq
 have e2:zBb (zKd p 1) (8,a,b)=zJn (zKd p 1) a:=by
  rw [zBb,if_neg (show ¬((8:Int)<1\/ (8:Int)<8) by decide),if_neg (show ¬((8:Int)≠8/\_) from fun g=>g.1 rfl)];rfl
 rw [e2,e];exact ⟨i1,m1.trans ht.len⟩
theorem OG.tr {P0 n} {m m':MS} (g:OG P0 n m) (t:Tr m m'):OG P0 n m':=by
 cases t with
 |same h' lat' s' c' hc=>exact g.same rfl (by show m.clk<=c';omega) rfl
 |age a=>
  obtain ⟨G,P,g1,g2,g3,g4,g5⟩:=g.ex;exact ⟨g.n1,⟨G,P,g1,g2.age a _,g3,g4,g5⟩,g.bad⟩
 |beg k w h' hk hs he=>exact g.same rfl (by show m.clk<=m.clk+1;omega) (congrArg (m.ev.map evR++·) (z8q hk (by omega) (show 1≠6 by decide)))
 |mid k w a p s h' lat' s' hk h1 h5 h2 h6=>exact g.same rfl (by show m.clk<=m.clk+1;omega) (congrArg (m.ev.map evR++·) (z8q hk (by omega) (show s≠6 by omega)))
 |wake k w s' hk hs=>exact g.same rfl (Int.le_refl _) (congrArg (m.ev.map evR++·) (z8q hk (by omega) (show 5≠6 by decide)))
 |fail k w s' hk hs=>
  obtain ⟨G,P,g1,g2,g3,g4,g5⟩:=g.ex;have ha:=List.Perm.append_left (m.ev.map evR) (z0u (w':=zKc w (8,zP) (m.clk-1)) hk (by omega) rfl);rw [<-List.append_assoc] at ha;refine ⟨g.n1,⟨G,P,g1,g2,g3,g4,(ha.filter _).trans ?_⟩,fun r hr h8=>?_⟩
  ·rw [List.filter_append];have:List.filter zKv [(⟨w.op,(8,zP),m.clk-1⟩:Rc)]=[]:=rfl;rw [show ([⟨(zKc w (8,zP) (m.clk-1)).op,(zKc w (8,zP) (m.clk-1)).res,(zKc w (8,zP) (m.clk-1)).done⟩]:List Rc)=[⟨w.op,(8,zP),m.clk-1⟩] from rfl,this,List.append_nil];exact g5
  ·rcases List.mem_append.1 (ha.mem_iff.1 hr) with hr|hr
   ·exact g.bad r hr h8
   ·rw [List.mem_singleton.1 hr];rfl
 |refuse k w hk hs hr=>
  have ha:=List.Perm.append_left (m.ev.map evR) (z0u (w':=zKc w (1,zP) m.clk) hk (by omega) rfl);rw [<-List.append_assoc] at ha;refine g.add (o:=w.op) (r:=(1,zP)) (fun P hP=>?_) (by show m.clk<m.clk+1;omega) ha;rw [zHz,if_pos hr];exact ⟨rfl,hP⟩
 |work k w hk hs hr=>
  have ha:=List.Perm.append_left (m.ev.map evR) (z0u (w':=zKc w (workP m.p w.op).2 m.clk) hk (by omega) rfl);rw [<-List.append_assoc] at ha;refine g.add (o:=w.op) (r:=(workP m.p w.op).2) (fun P hP=>?_) (by show m.clk<m.clk+1;omega) ha;rw [zHz,if_neg (by rw [hr];decide)];exact work9 hP g.n1 w.op hr
 |leave k w h' lat' hk hs=>
  refine g.keep rfl (by show m.clk<=m.clk+1;omega) ?_;have hp:=yOm (w':=z4f w) hk hs (show 0≠6 by decide);show ((m.ev++[_]).map evR++zEo (m.ws.set k (z4f w))).Perm (m.ev.map evR++zEo m.ws);rw [List.map_append,List.append_assoc];exact List.Perm.append_left _ hp.symm
structure HI (P0:Nat->Pg) (n:Nat) (work:List (List MOp)) (m:MS):Prop where
 g:MGE work m
 pg:PG m
 tg:TG m
 og:OG P0 n m
theorem MGE.ok {work m} (h:MGE work m):MOk m:=by obtain ⟨t,_,_,g⟩:=h.ex;exact g.ok
theorem HI.do_ {P0 n work m} (h:HI P0 n work m) (a:Int×Int):HI P0 n work (doMS m a).1:=
 have t:=tr_do h.g.ok a
 ⟨h.g.do_ a,h.pg.tr t,h.tg.tr t,h.og.tr t⟩
theorem MGE.step {work m} (h:MGE work m) (k:Int):MGE work (zBt m k).1:=by
 obtain ⟨t,h0,h1,g⟩:=h.ex;exact ⟨t,h0,h1,g.step k⟩
theorem HI.step {P0 n work m} (h:HI P0 n work m) (k:Int):HI P0 n work (zBt m k).1:=
 have t:=z9n h.g.ok k
 ⟨h.g.step k,h.pg.tr t,h.tg.tr t,h.og.tr t⟩
theorem HI.run {P0 n work m} (h:HI P0 n work m) (l:List (Int×Int)):HI P0 n work (zKa m l):=z8y (fun m a h=>h.do_ a) l h
theorem HI.new {n:Nat} (n1:1<=n) (n8:n<=8) (pages:List Pg) {work:List (List MOp)} (h1:1<=work.length) (h4:work.length<=4):HI (new9 pages).2 n work (begM n pages work):=by
 have hws:∀ (k:Nat) (w:WA),(work.map zN)[k]?=some w->w.st=0/\w.ended=0:=fun k w h=>by
  rw [List.getElem?_map] at h;obtain ⟨l,_,rfl⟩:=Option.map_eq_some_iff.1 h;exact ⟨rfl,rfl⟩
 refine ⟨yMl n n1 n8 pages work h1 h4,⟨fun e he=>(by cases he),fun k w hk=>?_,fun k w hk hs=>absurd (hws k w hk).1 hs⟩,⟨Int.le_refl 0,by show (work.map zN).length<=4;rw [List.length_map];exact h4,fun e he=>(by cases he),.nil,.nil,fun k w hk hs=>absurd (hws k w hk).1 hs,fun k w hk hs=>?_,fun k w hk hs=>?_⟩,⟨n1,⟨[],_,rfl,zZb n n1 n8 pages work,.nil,fun r hr=>(by cases hr),?_⟩,fun r hr=>?_⟩⟩
 ·rw [(hws k w hk).2];rfl
 ·have:=(hws k w hk).1;omega
 ·have:=(hws k w hk).1;omega
 ·have:zEo (work.map zN)=[]:=by
   rw [zEo,List.filterMap_eq_nil_iff];intro w hw;obtain ⟨l,_,rfl⟩:=List.mem_map.1 hw;rfl
  show ((([]:List EvA).map evR++zEo (work.map zN)).filter zKv).Perm []
  rw [this];exact .nil
 ·have:zEo (work.map zN)=[]:=by
   rw [zEo,List.filterMap_eq_nil_iff];intro w hw;obtain ⟨l,_,rfl⟩:=List.mem_map.1 hw;rfl
  rw [allR] at hr;rw [show zEo (begM n pages work).ws=[] from this] at hr
  cases hr
theorem HI.evl {P0 n work m} (h:HI P0 n work m):(m.ev.length:Int) <=m.clk:=by
 obtain ⟨t,_,_,g⟩:=h.g.ex;exact g.ev
theorem zYs {m:MS} {k:Nat} {w:WA} (hk:m.ws[k]?=some w):stV m k=w.st:=by rw [stV,hk]
theorem kids:Kids Tryz.prog (·<Tryz.prog.types.size):=kids_rows (by kernel_rfl) (by kernel_rfl)
theorem sizes:∀ t e,t<Tryz.prog.types.size->Tryz.prog.underlying t=some (.slice e)->0<Tryz.prog.cellsOf e:=z1o (by kernel_rfl)
theorem own:ownKnob Tryz.prog.godebug=none:=by kernel_rfl
theorem yQt {m:Nat} {ds:List D} (h:Fit T m 57 ds):∃ x:Pg,ds=encP x/\True:=by
 obtain ⟨k,a,r,rfl,ha,b,r2,rfl,hb,c,r3,rfl,hc,rfl⟩:=zLr (fs:=[(0,3),(1,3),(2,9)]) rfl h;obtain ⟨x,rfl,_⟩:=zGx (k:=.i64) rfl ha;obtain ⟨y,rfl,_⟩:=zGx (k:=.i64) rfl hb;obtain ⟨z,rfl,_⟩:=yHy rfl hc;exact ⟨(x,y,z),rfl,trivial⟩
theorem fit_mo {m:Nat} {ds:List D} (h:Fit T m 75 ds):∃ x:MOp,ds=zGl x/\True:=by
 obtain ⟨k,a,r,rfl,ha,b,r2,rfl,hb,c,r3,rfl,hc,rfl⟩:=zLr (fs:=[(0,3),(1,3),(2,9)]) rfl h;obtain ⟨x,rfl,_⟩:=zGx (k:=.i64) rfl ha;obtain ⟨y,rfl,_⟩:=zGx (k:=.i64) rfl hb;obtain ⟨z,rfl,_⟩:=yHy rfl hc;exact ⟨(x,y,z),rfl,trivial⟩
theorem fit_ac {m:Nat} {ds:List D} (h:Fit T m 33 ds):∃ x:Int×Int,ds=encI x/\True:=by
 obtain ⟨k,a,r,rfl,ha,b,r2,rfl,hb,rfl⟩:=zLr (fs:=[(0,3),(1,3)]) rfl h;obtain ⟨x,rfl,_⟩:=zGx (k:=.i64) rfl ha;obtain ⟨y,rfl,_⟩:=zGx (k:=.i64) rfl hb;exact ⟨(x,y),rfl,trivial⟩
theorem yQu {m:Nat} {ds:List D} (h:Fit T m 83 ds):∃ x:List MOp,ds=zEb x/\x.length<=9223372036854775807:=by
 obtain ⟨l,rfl,b,_⟩:=yAt (f:=zGl) (Q:=fun _=>True) (e:=75) rfl h fun m x h=>fit_mo h
 exact ⟨l,rfl,b⟩
theorem yKb {n:Nat} {d:D} (h:FitV T n 22 d):∃ l:List Pg,d=.lst (l.map encP) /\l.length<=9223372036854775807:=by
 obtain ⟨l,rfl,b,_⟩:=zGw (f:=encP) (Q:=fun _=>True) (e:=57) rfl h fun m x h=>yQt h
 exact ⟨l,rfl,b⟩
theorem yQb {n:Nat} {d:D} (h:FitV T n 23 d):∃ l:List (List MOp),d=.lst (l.map zEb) /\l.length<=9223372036854775807/\ ∀ x∈l,x.length<=9223372036854775807:=by
 obtain ⟨l,rfl,b,q⟩:=zGw (f:=zEb) (Q:=fun x=>x.length<=9223372036854775807) (e:=83) rfl h fun m x h=>yQu h
 exact ⟨l,rfl,b,q⟩
theorem yMg {n:Nat} {d:D} (h:FitV T n 24 d):∃ l:List (Int×Int),d=.lst (l.map encI) /\l.length<=9223372036854775807:=by
 obtain ⟨l,rfl,b,_⟩:=zGw (f:=encI) (Q:=fun _=>True) (e:=33) rfl h fun m x h=>fit_ac h
 exact ⟨l,rfl,b⟩
theorem u8_arg {n:Nat} {d:D} (h:FitV T n 5 d):∃ a:Int,d=.int .u8 a/\0<=a/\a<=255:=by
 obtain ⟨a,rfl,w⟩:=yAr (k:=.u8) rfl h;exact ⟨a,rfl,(yQ w).1,(yQ w).2⟩
structure TiOk (l:List EvA) (c:Int):Prop where
 ev:∀ e∈l,e.who<4/\0<=e.began/\e.began<e.done/\e.done<e.ended/\e.ended<c
 up:l.Pairwise fun a b=>a.ended<b.ended
 seq:l.Pairwise fun a b=>a.who=b.who->a.ended<b.began
def toE (e:EvA):Hy.Ev:=⟨e.who,e.op.1,e.op.2.1,e.op.2.2,e.res.1,e.res.2.1,e.res.2.2.1,e.res.2.2.2,e.began,e.done,e.ended⟩
theorem zZo (l:List EvA):(l.map toE).map Hy.encE=l.map zAw:=by rw [List.map_map];rfl
theorem step6 {m:MS} {k:Nat} {w:WA} (hk:m.ws[k]?=some w) (hs:w.st=6):(zBt m k).1.ws=m.ws.set k (z4f w):=by
 rw [zBt,if_neg (by omega),Int.toNat_natCast,hk];simp only [stepW,hs];rfl
theorem yVo {m:MS} {k:Nat} (h:stV m k=6):∃ w,m.ws[k]?=some w/\w.st=6:=by
 rw [stV] at h
 cases e:m.ws[k]? with
 |none=>rw [e] at h;exact absurd (show (0:Int)=6 from h) (by decide)
 |some w=>rw [e] at h;exact ⟨w,rfl,by have h:(w.st:Int)=6:=h;omega⟩
theorem yCr {m:MS} {k j:Nat} (h:stV m k=6) (hj:j=k\/stV m j≠6):stV (zBt m k).1 j≠6:=by
 obtain ⟨w,hk,hs⟩:=yVo h;have hlt:=(List.getElem?_eq_some_iff.1 hk).1;rw [stV,step6 hk hs,List.getElem?_set]
 by_cases e:k=j
 ·subst e;rw [if_pos rfl,if_pos hlt];exact (by decide:(0:Int)≠6)
 ·rw [if_neg e]
  exact hj.resolve_left fun q=>e q.symm
theorem yCv (m:MS) (k:Int):(zBt m k).1.clk<=m.clk+1:=(zPj m k).1
theorem TG.ti {m:MS} (g:TG m):TiOk m.ev m.clk:=⟨g.ev,g.up,g.seq⟩
end Go.Lk
namespace Go.Lk
open Go Go.Proofs Go.RowKit Go.Lk.St
def evH (v:Hy.Ev):Rc:=⟨Hy.opE v,Hy.resE v,v.done⟩
theorem yAc {P:Nat->Pg}:∀ {S:List Hy.Ev} {i:Nat} {P':Nat->Pg},OkP P'->zMf P' (S.map evH) P->(∀ v∈S,(Hy.resE v).1≠8)->Hy.chkGo (bgN P' 16) i S=(bgN P 16,i+S.length,0)
 | [],i,P',_,h,_=>by
  cases (show P=P' from h)
  rfl
 |v::S,i,P',hk,h,h8=>by
  have hne:Hy.resE v≠Hy.failR:=fun e=>h8 v (.head _) (by rw [e];rfl)
  have hd:=yQr hk (Hy.opE v);obtain ⟨h1,h2⟩:=h
  have e:(Hy.doM (bgN P' 16) (Hy.opE v)).2=Hy.resE v:=by rw [hd];exact h1
  have e2:(Hy.doM (bgN P' 16) (Hy.opE v)).1=bgN (zHz P' (Hy.opE v)).1 16:=by rw [hd]
  have ih:=yAc (S:=S) (i:=i+1) (P':=(zHz P' (Hy.opE v)).1) (yBm hk _) h2 fun v hv=>h8 v (.tail _ hv)
  rw [Hy.chkGo,if_neg hne,if_pos e,e2,ih];rw [List.length_cons]
  congr 2;omega
def okE (e:EvA):Bool:=decide (e.res.1≠8)
def okEs (l:List EvA):List EvA:=l.filter okE
theorem yBt (l:List EvA):((okEs l).map toE).map evH=(l.map evR).filter zKv:=by
 rw [List.map_map,List.filter_map];rfl
theorem ap_of {l:List EvA} {c:Int} (h:TiOk l c) {G:List Rc} (g:G.Pairwise fun a b=>a.done<b.done) (hp:((l.map evR).filter zKv).Perm G):Hy.AP ((okEs l).map toE):=by
 have hm:∀ e∈okEs l,e∈l:=fun e he=>(List.mem_filter.1 he).1
 refine ⟨fun x hx=>?_,?_,?_⟩
 ·obtain ⟨e,he,rfl⟩:=List.mem_map.1 hx;have:=h.ev e (hm e he);exact ⟨this.2.2.1,this.2.2.2.1⟩
 ·rw [<-yBt] at hp
  have h1:(((okEs l).map toE).map evH).Pairwise fun a b=>a.done≠b.done:=(hp.pairwise_iff fun {a b} e e2=>e e2.symm).2 (g.imp fun e=>by omega)
  rw [List.pairwise_map] at h1;exact h1
 ·have h1:(okEs l).Pairwise fun a b=>a.who=b.who->a.ended<b.began:=h.seq.sublist List.filter_sublist
  rw [List.pairwise_map]
  exact h1.imp fun {a b} e hw=>.inl (e (by have hw:(a.who:Int)=(b.who:Int):=hw;omega))
theorem tpH:TP Hy.leD:=⟨fun x y=>by simp only [Hy.leD,decide_eq_true_eq];omega,fun x y z=>by simp only [Hy.leD,decide_eq_true_eq];omega⟩
theorem yQn {l:List EvA} {c:Int} (h:TiOk l c) {P0 P:Nat->Pg} (hk:OkP P0) {G:List Rc} (hG:zMf P0 G P) (g:G.Pairwise fun a b=>a.done<b.done) (hp:((l.map evR).filter zKv).Perm G) (hl:l.length<=400):
  Hy.chkM (bgN P0 16) ((okEs l).map toE)=(bgN P 16,(okEs l).length,0):=by
 have hlen:((okEs l).map toE).length<=400:=by
  have:=List.length_filter_le okE l;rw [List.length_map]
  show (l.filter okE).length<=400;omega
 have hap:=ap_of h g hp;rw [Hy.chkM,if_neg (by omega),if_neg (by rw [Hy.mapB_t.2 (bg_mr hk)];decide),if_neg (by rw [Hy.apB_t.2 hap];decide)];have hsp:=Hy.srt_perm (le:=Hy.leD) ((okEs l).map toE)
 have hS:(srt Hy.leD ((okEs l).map toE)).map evH=G:=by
  refine List.Perm.eq_of_pairwise (le:=fun a b=>a.done<b.done) (fun a b _ _ h1 h2=>by omega) ?_ g (((hsp.map evH).trans (by rw [yBt])).trans hp);rw [List.pairwise_map];have h1:=(Hy.pw_srt (R:=Hy.RD) (fun {x y} e=>Hy.rd_sym e) Hy.leD ((okEs l).map toE)).2 hap.rd;have h2:=zBw tpH ((okEs l).map toE)
  refine (List.Pairwise.and h1 h2).imp fun {a b} q=>?_
  have q1:a.done≠b.done:=q.1
  have q2:a.done<=b.done:=by simpa [Hy.leD] using q.2
  show a.done<b.done;omega
 have hcp:=yAc (S:=srt Hy.leD ((okEs l).map toE)) (i:=0) hk (by rw [hS];exact hG) fun v hv=>?_
 ·rw [hcp,hsp.length_eq,List.length_map,Nat.zero_add]
 ·obtain ⟨e,he,rfl⟩:=List.mem_map.1 (hsp.mem_iff.1 hv);have:=(List.mem_filter.1 he).2
  have this:e.res.1≠8:=by simpa [okE] using this
  exact this
def nm14:List (Nat×Nat):=[(1000000,2000224),(1000001,2000225),(1000004,2000226)]
theorem HI.rpG {P0 n work m} (h:HI P0 n work m) (hq:∀ k,k<4->stV m k≠6):∃ P G,DocI m.p P n/\zMf P0 G P/\G.Pairwise (fun a b=>a.done<b.done) /\ ((m.ev.map evR).filter zKv).Perm G:=by
 obtain ⟨G,P,g1,g2,g3,g4,g5⟩:=h.og.ex
 have hp:zEo m.ws=[]:=by
  rw [zEo,List.filterMap_eq_nil_iff];intro w hw;obtain ⟨k,hk,rfl⟩:=List.mem_iff_getElem.1 hw;have:=hq k (by have:=h.tg.n4;omega);rw [zYs (List.getElem?_eq_getElem hk)] at this;rw [wR,if_neg (fun e=>this (by rw [e];rfl))]
 rw [allR,hp,List.append_nil] at g5;exact ⟨P,G,g2,g1,g3,g5⟩
theorem z4t {l:List EvA} {i:Nat} (hi:i<l.length):okEs (l.take (i+1))=okEs (l.take i)++(if l[i].res.1≠8 then [l[i]] else []):=by
 rw [okEs,zAs hi,List.filter_append,<-okEs]
 by_cases e:l[i].res.1≠8
 ·rw [if_pos e,List.filter_cons,if_pos (by simpa [okE] using e),List.filter_nil]
 ·rw [if_neg e,List.filter_cons,if_neg (by simpa [okE] using e),List.filter_nil]
set_option maxRecDepth 20000 in
set_option maxHeartbeats 16000000 in
theorem z3t (many:Int) (m0:0<=many) (m1:many<=255) (pages:List Pg) (hp:pages.length<=9223372036854775807) (work:List (List MOp)) (hl:work.length<=9223372036854775807) (hl2:∀ l∈work,l.length<=9223372036854775807) (acts:List (Int×Int)) (ha:acts.length<=9223372036854775807):
  zAi Tryz.prog 14 [.int .u8 many,.lst (pages.map encP),.lst (work.map zEb),.lst (acts.map encI)] (.bool true):=by
 have hma:(acts.map encI).length=acts.length:=List.length_map ..
 have hmw:(work.map zEb).length=work.length:=List.length_map ..
 refine zAe Tryz.func14 4 rfl (by kernel_rfl) (aP ?_);refine zAa (yFi work hl hl2) (aW ?_)
 refine bcase_p (fun q0=>?_) (fun q0=>?_)<;>conv=>whnf
 ·refine aP ?_;refine zAa Hy.awake_ok (aP ?_);exact ret_of rfl rfl
 have hS:SmOk work:=by
  rcases Classical.em (SmOk work) with h|h
  ·exact h
  ·rw [z5o h] at q0;exact absurd (by decide) q0
 obtain ⟨n,hn⟩:∃ n:Nat,1+many%8=n:=⟨(1+many%8).toNat,by omega⟩
 have n1:1<=n:=by omega
 have n8:n<=8:=by omega
 have h60:∀ l∈work,l.length<=60:=fun l h=>by have:=(hS.one l h).len;omega
 have hw:∀ l∈work,l.length<=1000:=fun l h=>by have:=(hS.one l h).len;omega
 have hB:=yDt many m0 m1 pages hp work hS.n1 hS.n4 h60 n hn;have hI0:=HI.new n1 n8 pages hS.n1 hS.n4;have hc0:(begM n pages work).clk=0:=rfl;have hd0:=zZb n n1 n8 pages work;obtain ⟨M0,hM⟩:∃ M0,begM n pages work=M0:=⟨_,rfl⟩;rw [hM] at hB hI0 hc0 hd0;refine aP ?_;refine zNp hB (Nat.le_of_ble_eq_true rfl) (aP ?_);have hokp:=hd0.okp;refine zAq (ι:=Nat) (fun k=>[(3,.d (.lst (acts.map encI))),(9,.ptr 2000224 0 0),(10,.d (.lst ((bg19 pages).map encP))),(12,.d (.int .i64 k))])
  (fun k=>[(2000224,.box (mCk 2000224 (zKa M0 (acts.take k))) false),(2000225,.row ((zKa M0 (acts.take k)).ws.map zDn) 11 false),(2000226,.row ((zKa M0 (acts.take k)).ev.map zAw) 11 false)])
  (fun k=>k<=acts.length/\k<=200) (fun k=>200-k) 0 ⟨by omega,by decide⟩ (le0 (zAb ⟨rfl,rfl,rfl,rfl,trivial⟩ ⟨rfl,rfl,rfl,trivial⟩ ⟨rfl,rfl,rfl,rfl⟩)) ?_
 rintro k ⟨hk,hk3⟩;have hI:=hI0.run (acts.take k)
 have hck:(zKa M0 (acts.take k)).clk<=k:=by
  have:=(yKv (acts.take k) M0).1
  have:(acts.take k).length<=k:=by rw [List.length_take];omega
  omega
 have es:∀ hk2:k<acts.length,zKa M0 (acts.take (k+1))=(doMS (zKa M0 (acts.take k)) acts[k]).1:=fun hk2=>yOw hk2 M0
 obtain ⟨M,hM2⟩:∃ M,zKa M0 (acts.take k)=M:=⟨_,rfl⟩;rw [hM2] at hI hck;rw [hM2]
 conv=>whnf
 refine bcase_p (fun h5=>?_) (fun h5=>?_)<;>conv=>whnf
 rotate_left
 ·refine aP ?_;refine zAq (ι:=Nat×MS) (fun k=>[(9,.ptr 2000224 0 0),(10,.d (.lst ((bg19 pages).map encP))),(50,.d (.int .i64 k.1))])
   (fun k=>[(2000224,.box (mCk 2000224 k.2) false),(2000225,.row (k.2.ws.map zDn) 11 false),(2000226,.row (k.2.ev.map zAw) 11 false)])
   (fun k=>k.1<=4/\HI (new9 pages).2 n work k.2/\k.2.clk<=200+4*k.1/\ (k.1=0\/quB k.2=true)) (fun k=>4-k.1) (0,M) ⟨Nat.zero_le _,hI,by simp only [];omega,.inl rfl⟩ (le0 (zAb ⟨rfl,rfl,rfl,trivial⟩ ⟨rfl,rfl,rfl,trivial⟩ ⟨rfl,rfl,rfl,rfl⟩)) ?_
  rintro ⟨q,M3⟩ ⟨hq,hI3,hc3,hqu⟩;simp only at hq hI3 hc3 hqu⊢
  conv=>whnf
  refine bcase_p (fun g1=>?_) (fun g1=>?_)<;>conv=>whnf
  rotate_left
  ·have hqq:quB M3=true:=hqu.resolve_left (by omega);obtain ⟨P,G,hP,hG1,hG2,hG3⟩:=hI3.rpG (yKn.1 hqq);have hev:=hI3.evl
   have hme:(M3.ev.map zAw).length=M3.ev.length:=List.length_map ..
   have hpg:=zR M3 hP.inv.pj.fm;rw [zVi hP] at hpg;have hchk:=yQn hI3.tg.ti hokp hG1 hG2 hG3 (by omega);have hck2:=Hy.check_ok (bgN (new9 pages).2 16) ((okEs M3.ev).map toE) (by have:=z2m (new9 pages).2;omega) (by rw [List.length_map];have:=List.length_filter_le okE M3.ev;show (M3.ev.filter okE).length<=1000;omega);rw [hchk,zZo] at hck2;replace hck2:zAi Tryz.prog 32 [.agg [.lst ((bgN (new9 pages).2 16).map encP)],.lst ((okEs M3.ev).map zAw)] (.tup [.agg [.lst ((bgN P 16).map encP)],.int .i64 (okEs M3.ev).length,.int .i64 0]):=hck2;refine aP ?_;refine zAl (zQn M3 (by omega)) nm14 rfl ⟨rfl,rfl,rfl,trivial⟩ rfl (aP ?_);refine zAq (ι:=Nat) (fun i=>[(9,.ptr 2000224 0 0),(10,.d (.lst ((bg19 pages).map encP))),(14,.own 78),(65,.d (.lst (M3.ev.map zAw))),(66,.d (.int .i64 (M3.ev.map zAw).length)),(67,.d (.int .i64 i))])
    (fun i=>[(2000224,.box (mCk 2000224 M3) false),(2000225,.row (M3.ws.map zDn) 11 false),(2000226,.row (M3.ev.map zAw) 11 false),(78,.row ((okEs (M3.ev.take i)).map zAw) 11 false)])
    (fun i=>i<=M3.ev.length) (fun i=>M3.ev.length-i) 0 (Nat.zero_le _) (le1 (.row 14 78 11) ⟨rfl,rfl⟩ (zAb ⟨rfl,rfl,rfl,rfl,rfl,rfl,trivial⟩ ⟨rfl,rfl,rfl,rfl,trivial⟩ ⟨rfl,rfl,rfl,rfl⟩)) ?_
   intro i hi;have hfl:=List.length_filter_le okE (M3.ev.take i);rw [List.length_take] at hfl
   have hfm:((okEs (M3.ev.take i)).map zAw).length=(okEs (M3.ev.take i)).length:=List.length_map ..
   replace hfl:(okEs (M3.ev.take i)).length<=1000:=by show (List.filter _ _).length<=1000;omega
   conv=>whnf
   refine bcase_p (fun z1=>?_) (fun z1=>?_)<;>conv=>whnf
   ·have hi2:i<M3.ev.length:=by omega
    have es:=z4t hi2;refine zAd (by omega) (w0 ?_);refine zAc (x:=zAw M3.ev[i]) (by simp [hi2]) (aW ?_)
    refine bcase_n (fun c8=>?_) (fun c8=>?_)<;>conv=>whnf
    ·rw [if_pos c8] at es;refine aP ?_;refine zAj 1100 1000 (by show ((okEs (M3.ev.take i)).map zAw).length+1<=1100;omega) (by decide) (by decide) (by decide) (aP ?_);exact ⟨i+1,by omega,by omega,le0 (zAb ⟨rfl,rfl,rfl,rfl,rfl,rfl,trivial⟩ ⟨rfl,rfl,rfl,by rw [es,List.map_append];rfl,trivial⟩ ⟨rfl,rfl,rfl,rfl⟩)⟩
    ·rw [if_neg (by simpa using c8),List.append_nil] at es;refine aP ?_;refine ⟨i+1,by omega,by omega,?_⟩;rw [es];exact (le0 (zAb ⟨rfl,rfl,rfl,rfl,rfl,rfl,trivial⟩ ⟨rfl,rfl,rfl,rfl,trivial⟩ ⟨rfl,rfl,rfl,rfl⟩))
   have hil:i=M3.ev.length:=by omega
   subst hil;rw [List.take_length] at hfm⊢;refine zAa hck2 (aP ?_);refine zAl hpg nm14 rfl ⟨rfl,rfl,rfl,trivial⟩ rfl (aP ?_);refine zAa (Hy.same_ok (bgN P 16) (bgN P 16) (by have:=z2m P;omega)) (w0 ?_);refine zDr (by simp) (aP ?_);refine zAa Hy.awake_ok (aP ?_)
   first|exact ret_of rfl rfl|exact rfl
  refine aP ?_;refine zAq (ι:=Nat×MS) (fun k=>[(9,.ptr 2000224 0 0),(10,.d (.lst ((bg19 pages).map encP))),(50,.d (.int .i64 q)),(52,.d (.int .i64 k.1))])
   (fun k=>[(2000224,.box (mCk 2000224 k.2) false),(2000225,.row (k.2.ws.map zDn) 11 false),(2000226,.row (k.2.ev.map zAw) 11 false)])
   (fun k=>k.1<=4/\HI (new9 pages).2 n work k.2/\k.2.clk<=200+4*q+k.1/\ ∀ j,j<k.1->stV k.2 j≠6) (fun k=>4-k.1) (0,M3) ⟨Nat.zero_le _,hI3,by simp only [];omega,fun j hj=>absurd hj (Nat.not_lt_zero _)⟩ (le0 (zAb ⟨rfl,rfl,rfl,rfl,trivial⟩ ⟨rfl,rfl,rfl,trivial⟩ ⟨rfl,rfl,rfl,rfl⟩)) ?_
  rintro ⟨u,M4⟩ ⟨hu,hI4,hc4,hn4⟩;simp only at hu hI4 hc4 hn4⊢
  conv=>whnf
  refine bcase_p (fun g3=>?_) (fun g3=>?_)<;>conv=>whnf
  rotate_left
  ·refine aP ?_;exact ⟨(q+1,M4),⟨by simp only [];omega,hI4,by simp only [];omega,.inr (yKn.2 fun j hj=>hn4 j (by omega))⟩,by simp only [];omega,(le0 (zAb ⟨rfl,rfl,rfl,trivial⟩ ⟨rfl,rfl,rfl,trivial⟩ ⟨rfl,rfl,rfl,rfl⟩))⟩
  refine aP ?_;refine zAl (zWd M4 u) nm14 rfl ⟨rfl,rfl,rfl,trivial⟩ rfl (w0 ?_)
  refine bcase_p (fun g4=>?_) (fun g4=>?_)<;>conv=>whnf
  ·obtain ⟨t,t0,t1,gM⟩:=hI4.g.ex;have hst:=zPk gM t1 hw (by omega) u;have hIs:=hI4.step u;have hcs:=yCv M4 u
   have hns:∀ j,j<u+1->stV (zBt M4 u).1 j≠6:=fun j hj=>yCr g4 (by
    by_cases e:j=u
    ·exact .inl e
    ·exact .inr (hn4 j (by omega)))
   refine aP ?_;refine zAl hst nm14 rfl ⟨rfl,rfl,rfl,trivial⟩ rfl (aP ?_);exact ⟨(u+1,(zBt M4 u).1),⟨by simp only [];omega,hIs,by simp only [];omega,hns⟩,by simp only [];omega,(le0 (zAb ⟨rfl,rfl,rfl,rfl,trivial⟩ ⟨rfl,rfl,rfl,trivial⟩ ⟨rfl,rfl,rfl,rfl⟩))⟩
  ·refine aP ?_
   exact ⟨(u+1,M4),⟨by simp only [];omega,hI4,by simp only [];omega,fun j hj=>by
    by_cases e:j=u
    ·rw [e];exact g4
    ·exact hn4 j (by simp only [] at hj;omega)⟩,by simp only [];omega,(le0 (zAb ⟨rfl,rfl,rfl,rfl,trivial⟩ ⟨rfl,rfl,rfl,trivial⟩ ⟨rfl,rfl,rfl,rfl⟩))⟩
 refine bcase_p (fun h6=>?_) (fun h6=>?_)<;>conv=>whnf
 rotate_left
 ·refine aP ?_;refine zAq (ι:=Nat×MS) (fun k=>[(9,.ptr 2000224 0 0),(10,.d (.lst ((bg19 pages).map encP))),(50,.d (.int .i64 k.1))])
   (fun k=>[(2000224,.box (mCk 2000224 k.2) false),(2000225,.row (k.2.ws.map zDn) 11 false),(2000226,.row (k.2.ev.map zAw) 11 false)])
   (fun k=>k.1<=4/\HI (new9 pages).2 n work k.2/\k.2.clk<=200+4*k.1/\ (k.1=0\/quB k.2=true)) (fun k=>4-k.1) (0,M) ⟨Nat.zero_le _,hI,by simp only [];omega,.inl rfl⟩ (le0 (zAb ⟨rfl,rfl,rfl,trivial⟩ ⟨rfl,rfl,rfl,trivial⟩ ⟨rfl,rfl,rfl,rfl⟩)) ?_
  rintro ⟨q,M3⟩ ⟨hq,hI3,hc3,hqu⟩;simp only at hq hI3 hc3 hqu⊢
  conv=>whnf
  refine bcase_p (fun g1=>?_) (fun g1=>?_)<;>conv=>whnf
  rotate_left
  ·have hqq:quB M3=true:=hqu.resolve_left (by omega);obtain ⟨P,G,hP,hG1,hG2,hG3⟩:=hI3.rpG (yKn.1 hqq);have hev:=hI3.evl
   have hme:(M3.ev.map zAw).length=M3.ev.length:=List.length_map ..
   have hpg:=zR M3 hP.inv.pj.fm;rw [zVi hP] at hpg;have hchk:=yQn hI3.tg.ti hokp hG1 hG2 hG3 (by omega);have hck2:=Hy.check_ok (bgN (new9 pages).2 16) ((okEs M3.ev).map toE) (by have:=z2m (new9 pages).2;omega) (by rw [List.length_map];have:=List.length_filter_le okE M3.ev;show (M3.ev.filter okE).length<=1000;omega);rw [hchk,zZo] at hck2;replace hck2:zAi Tryz.prog 32 [.agg [.lst ((bgN (new9 pages).2 16).map encP)],.lst ((okEs M3.ev).map zAw)] (.tup [.agg [.lst ((bgN P 16).map encP)],.int .i64 (okEs M3.ev).length,.int .i64 0]):=hck2;refine aP ?_;refine zAl (zQn M3 (by omega)) nm14 rfl ⟨rfl,rfl,rfl,trivial⟩ rfl (aP ?_);refine zAq (ι:=Nat) (fun i=>[(9,.ptr 2000224 0 0),(10,.d (.lst ((bg19 pages).map encP))),(14,.own 78),(65,.d (.lst (M3.ev.map zAw))),(66,.d (.int .i64 (M3.ev.map zAw).length)),(67,.d (.int .i64 i))])
    (fun i=>[(2000224,.box (mCk 2000224 M3) false),(2000225,.row (M3.ws.map zDn) 11 false),(2000226,.row (M3.ev.map zAw) 11 false),(78,.row ((okEs (M3.ev.take i)).map zAw) 11 false)])
    (fun i=>i<=M3.ev.length) (fun i=>M3.ev.length-i) 0 (Nat.zero_le _) (le1 (.row 14 78 11) ⟨rfl,rfl⟩ (zAb ⟨rfl,rfl,rfl,rfl,rfl,rfl,trivial⟩ ⟨rfl,rfl,rfl,rfl,trivial⟩ ⟨rfl,rfl,rfl,rfl⟩)) ?_
   intro i hi;have hfl:=List.length_filter_le okE (M3.ev.take i);rw [List.length_take] at hfl
   have hfm:((okEs (M3.ev.take i)).map zAw).length=(okEs (M3.ev.take i)).length:=List.length_map ..
   replace hfl:(okEs (M3.ev.take i)).length<=1000:=by show (List.filter _ _).length<=1000;omega
   conv=>whnf
   refine bcase_p (fun z1=>?_) (fun z1=>?_)<;>conv=>whnf
   ·have hi2:i<M3.ev.length:=by omega
    have es:=z4t hi2;refine zAd (by omega) (w0 ?_);refine zAc (x:=zAw M3.ev[i]) (by simp [hi2]) (aW ?_)
    refine bcase_n (fun c8=>?_) (fun c8=>?_)<;>conv=>whnf
    ·rw [if_pos c8] at es;refine aP ?_;refine zAj 1100 1000 (by show ((okEs (M3.ev.take i)).map zAw).length+1<=1100;omega) (by decide) (by decide) (by decide) (aP ?_);exact ⟨i+1,by omega,by omega,le0 (zAb ⟨rfl,rfl,rfl,rfl,rfl,rfl,trivial⟩ ⟨rfl,rfl,rfl,by rw [es,List.map_append];rfl,trivial⟩ ⟨rfl,rfl,rfl,rfl⟩)⟩
    ·rw [if_neg (by simpa using c8),List.append_nil] at es;refine aP ?_;refine ⟨i+1,by omega,by omega,?_⟩;rw [es];exact (le0 (zAb ⟨rfl,rfl,rfl,rfl,rfl,rfl,trivial⟩ ⟨rfl,rfl,rfl,rfl,trivial⟩ ⟨rfl,rfl,rfl,rfl⟩))
   have hil:i=M3.ev.length:=by omega
   subst hil;rw [List.take_length] at hfm⊢;refine zAa hck2 (aP ?_);refine zAl hpg nm14 rfl ⟨rfl,rfl,rfl,trivial⟩ rfl (aP ?_);refine zAa (Hy.same_ok (bgN P 16) (bgN P 16) (by have:=z2m P;omega)) (w0 ?_);refine zDr (by simp) (aP ?_);refine zAa Hy.awake_ok (aP ?_)
   first|exact ret_of rfl rfl|exact rfl
  refine aP ?_;refine zAq (ι:=Nat×MS) (fun k=>[(9,.ptr 2000224 0 0),(10,.d (.lst ((bg19 pages).map encP))),(50,.d (.int .i64 q)),(52,.d (.int .i64 k.1))])
   (fun k=>[(2000224,.box (mCk 2000224 k.2) false),(2000225,.row (k.2.ws.map zDn) 11 false),(2000226,.row (k.2.ev.map zAw) 11 false)])
   (fun k=>k.1<=4/\HI (new9 pages).2 n work k.2/\k.2.clk<=200+4*q+k.1/\ ∀ j,j<k.1->stV k.2 j≠6) (fun k=>4-k.1) (0,M3) ⟨Nat.zero_le _,hI3,by simp only [];omega,fun j hj=>absurd hj (Nat.not_lt_zero _)⟩ (le0 (zAb ⟨rfl,rfl,rfl,rfl,trivial⟩ ⟨rfl,rfl,rfl,trivial⟩ ⟨rfl,rfl,rfl,rfl⟩)) ?_
  rintro ⟨u,M4⟩ ⟨hu,hI4,hc4,hn4⟩;simp only at hu hI4 hc4 hn4⊢
  conv=>whnf
  refine bcase_p (fun g3=>?_) (fun g3=>?_)<;>conv=>whnf
  rotate_left
  ·refine aP ?_;exact ⟨(q+1,M4),⟨by simp only [];omega,hI4,by simp only [];omega,.inr (yKn.2 fun j hj=>hn4 j (by omega))⟩,by simp only [];omega,(le0 (zAb ⟨rfl,rfl,rfl,trivial⟩ ⟨rfl,rfl,rfl,trivial⟩ ⟨rfl,rfl,rfl,rfl⟩))⟩
  refine aP ?_;refine zAl (zWd M4 u) nm14 rfl ⟨rfl,rfl,rfl,trivial⟩ rfl (w0 ?_)
  refine bcase_p (fun g4=>?_) (fun g4=>?_)<;>conv=>whnf
  ·obtain ⟨t,t0,t1,gM⟩:=hI4.g.ex;have hst:=zPk gM t1 hw (by omega) u;have hIs:=hI4.step u;have hcs:=yCv M4 u
   have hns:∀ j,j<u+1->stV (zBt M4 u).1 j≠6:=fun j hj=>yCr g4 (by
    by_cases e:j=u
    ·exact .inl e
    ·exact .inr (hn4 j (by omega)))
   refine aP ?_;refine zAl hst nm14 rfl ⟨rfl,rfl,rfl,trivial⟩ rfl (aP ?_);exact ⟨(u+1,(zBt M4 u).1),⟨by simp only [];omega,hIs,by simp only [];omega,hns⟩,by simp only [];omega,(le0 (zAb ⟨rfl,rfl,rfl,rfl,trivial⟩ ⟨rfl,rfl,rfl,trivial⟩ ⟨rfl,rfl,rfl,rfl⟩))⟩
  ·refine aP ?_
   exact ⟨(u+1,M4),⟨by simp only [];omega,hI4,by simp only [];omega,fun j hj=>by
    by_cases e:j=u
    ·rw [e];exact g4
    ·exact hn4 j (by simp only [] at hj;omega)⟩,by simp only [];omega,(le0 (zAb ⟨rfl,rfl,rfl,rfl,trivial⟩ ⟨rfl,rfl,rfl,trivial⟩ ⟨rfl,rfl,rfl,rfl⟩))⟩
 have hk2:k<acts.length:=by omega
 refine aP ?_;refine zAd (by omega) (w0 ?_);refine zAc (x:=encI acts[k]) (by simp [hk2]) (aW ?_);refine zAl (doL_ok hI.g hw (by omega) acts[k]) nm14 rfl ⟨rfl,rfl,rfl,trivial⟩ rfl (aP ?_);have e:=es hk2;rw [hM2] at e;refine ⟨k+1,⟨by omega,by omega⟩,by omega,?_⟩;rw [e];exact (le0 (zAb ⟨rfl,rfl,rfl,rfl,trivial⟩ ⟨rfl,rfl,rfl,trivial⟩ ⟨rfl,rfl,rfl,rfl⟩))
end Go.Lk
