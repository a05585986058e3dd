/-
  What is proved here: what functions of the program compute, and what follows; no condition beyond each theorem's own.
-/
import Derived.Test.YtaofmndhdmkgkaaGreatFAi
import Derived.Test.YtaofmndhdmkgkaaGreatFAk
import Derived.Test.YtaofmndhdmkgkaaGreatFAm
import Derived.Test.YtaofmndhdmkgkaaGreatFAn
import Derived.Test.YtaofmndhdmkgkaaGreatFAt
import Derived.Test.YtaofmndhdmkgkaaGreatFAv
set_option linter.unusedSimpArgs false
set_option linter.unusedVariables false
set_option linter.unnecessarySimpa false
set_option linter.unusedSectionVars false
namespace Go.Lk
open Go Go.Proofs Go.RowKit
theorem HI.evl {P0 n work m} (h:HI P0 n work m):(m.ev.length:Int) <=m.clk:=by
 obtain ⟨t,_,_,g⟩:=h.g.ex;exact g.ev
theorem HI.td {P0 n work m} (h:HI P0 n work m):m.ws.map (·.todo)=work:=by
 obtain ⟨t,_,_,g⟩:=h.g.ex;exact g.td
theorem HI.wl {P0 n work m} (h:HI P0 n work m):m.ws.length=work.length:=by
 rw [<-h.td,List.length_map]
theorem HI.todo {P0 n work m} (h:HI P0 n work m) {k:Nat} {w:WA} (hk:m.ws[k]?=some w) (hk2:k<work.length:=by omega):w.todo=work[k]:=by
 have e:(m.ws.map (·.todo))[k]?=some w.todo:=by rw [List.getElem?_map,hk];rfl
 rw [h.td,List.getElem?_eq_getElem hk2] at e;exact (Option.some.inj e).symm
theorem HI.doc {P0 n work m} (h:HI P0 n work m):∃ P,DocI m.p P n:=by
 obtain ⟨G,P,g1,g2,g3,g4,g5⟩:=h.og.ex;exact ⟨P,g2⟩
def wkR:List (List MOp):=[[],[]]
theorem lane_none {jobs:List (Option Int)} (h:∀ j∈jobs,j=none):∀ (n k:Nat),laneFrom jobs n k=none
 |0,_=>rfl
 |n+1,k=>by
  rw [laneFrom,if_neg,lane_none h n]
  cases e:jobs[k%jobs.length]? with
  |none=>simp
  |some j=>rw [h j (List.mem_of_getElem? e)];simp
def nm11:List (Nat×Nat):=[(1000000,2000144),(1000001,2000145),(1000004,2000146)]
theorem stepW_2 (m:MS) (c:Int) (k:Nat) (w:WA) (now now':Int):(stepW {m with clk:=c} k w now').2=(stepW m k w now).2:=by
 unfold stepW;repeat' split
 all_goals first|rfl|(exfalso;simp only [latM] at*;simp_all;done)
theorem stepM_2 (m:MS) (c:Int) (k:Int):(stepM {m with clk:=c} k).2=(stepM m k).2:=by
 rw [stepM,stepM]
 split
 ·rfl
 ·show (match m.ws[k.toNat]? with|none=>({m with clk:=c},false)|some w=>stepW {m with clk:=c+1} k.toNat w c).2=_
  cases h:m.ws[k.toNat]? with
  |none=>rfl
  |some w=>exact (stepW_2 m (c+1) _ w 0 c).trans (stepW_2 m (m.clk+1) _ w 0 m.clk).symm
theorem stepW_no (m:MS) (k:Nat) (w:WA) (now:Int):(stepW m k w now).2=false->(stepW m k w now).1=m:=by
 unfold stepW;repeat' split
 all_goals first|exact fun _=>rfl|exact fun h=>by cases h
theorem stepM_no {m:MS} {k:Int} (h:(stepM m k).2=false):∃ c,(stepM m k).1={m with clk:=c} /\m.clk<=c/\c<=m.clk+1:=by
 rw [stepM] at h⊢
 split
 ·exact ⟨m.clk,rfl,by omega,by omega⟩
 ·rename_i hk;rw [if_neg hk] at h
  cases e:m.ws[k.toNat]? with
  |none=>exact ⟨m.clk,rfl,by omega,by omega⟩
  |some w=>
   rw [e] at h;exact ⟨m.clk+1,stepW_no _ _ _ _ h,by omega,by omega⟩
def goB (m:MS) (k:Nat):Prop:=(stepM m k).2=true\/stV m k=4
def lfV (m:MS) (k:Nat):Int:=match m.ws[k]? with|some w=>(w.todo.length:Int)-w.ended|none=>0
theorem step_at {m:MS} {k:Nat} {w:WA} (hk:m.ws[k]?=some w):(stepM m k).2=(stepW m k w 0).2:=by
 rw [stepM,if_neg (by omega),Int.toNat_natCast,hk];exact stepW_2 m _ _ w 0 _
theorem stV_at {m:MS} {k:Nat} {w:WA} (hk:m.ws[k]?=some w):stV m k=w.st:=by rw [stV,hk]
theorem goes3 {m:MS} (o:MOk m) (hz:∀ k,¬goB m k) {k:Nat} {w:WA} (hk:m.ws[k]?=some w):w.st<3:=by
 have v:=o.w k w hk;have h6:=v.st6;have hg:=hz k;rw [goB,step_at hk,stV_at hk] at hg
 refine Classical.byContradiction fun hn=>hg ?_
 have hst:w.st=3\/w.st=4\/w.st=5\/w.st=6:=by omega
 rcases hst with hs|hs|hs|hs
 ·left
  simp only [stepW,hs]
  split
  ·rename_i hf
   have hf1:0<heldN m.h.cl:=by have:=o.hall.n1;omega
   obtain ⟨c,hc,hb⟩:=List.countP_pos_iff.1 hf1;have hm:c.1∈m.h.all:=List.mem_append.2 (.inl (List.mem_map_of_mem (f:=(·.1)) hc));have hlt:=o.hw _ hm;obtain ⟨w2,hw2⟩:∃ w2,m.ws[c.1]?=some w2:=⟨_,List.getElem?_eq_getElem hlt⟩;have v2:=o.w _ w2 hw2
   have hp:w2.pinned=true:=by
    rw [<-v2.held];exact heldW_t.2 (by rw [<-hb];exact hc)
   have h4:¬w2.st<4:=fun g=>by rw [v2.npin g] at hp;cases hp
   have h62:=v2.st6;have hg2:=hz c.1;rw [goB,step_at hw2,stV_at hw2] at hg2;refine absurd ?_ hg2
   have hst:w2.st=4\/w2.st=5\/w2.st=6:=by omega
   rcases hst with hs2|hs2|hs2
   ·right;omega
   ·left;simp only [stepW,hs2]
   ·left;simp only [stepW,hs2]
  ·split<;>rfl
 ·right;omega
 ·left;simp only [stepW,hs]
 ·left;simp only [stepW,hs]
theorem goes2 {m:MS} (o:MOk m) (hz:∀ k,¬goB m k) {k:Nat} {w:WA} (hk:m.ws[k]?=some w):w.st<2:=by
 have h3:=goes3 o hz hk
 refine Classical.byContradiction fun hn=>?_
 have hs:w.st=2:=by omega
 have v:=o.w k w hk;have ha:=v.ask (by omega) (by omega);obtain ⟨_,r1,r2⟩:=refB_f (v.val ha)
 have hi:w.op.2.1.toNat<m.lat.length:=by rw [o.ll];omega
 obtain ⟨l,hl⟩:∃ l,m.lat[w.op.2.1.toNat]?=some l:=⟨_,List.getElem?_eq_getElem hi⟩;have hm:=(v.lt _ l hl).2 ⟨ha,by omega⟩;have L:=o.li _ l hl
 have key:∀ j,j∈l.hs->False:=fun j hj=>by
  have hlt:=L.lt j (List.mem_append.2 (.inl hj));obtain ⟨w2,hw2⟩:∃ w2,m.ws[j]?=some w2:=⟨_,List.getElem?_eq_getElem hlt⟩;have v2:=o.w _ w2 hw2;obtain ⟨q1,q2⟩:=(v2.lt _ l hl).1 (List.mem_append.2 (.inl hj));have q3:=goes3 o hz hw2
  have q4:¬w2.st<2:=fun g=>by rw [v2.nask g] at q1;cases q1
  have q5:w2.st=2:=by omega
  have hg2:=hz j;rw [goB,step_at hw2] at hg2;refine hg2 (.inl ?_)
  have e:latM m w2.op.2.1=l:=by rw [latM,q2,Int.toNat_natCast,hl];rfl
  simp only [stepW,q5];rw [e,holdsL,List.contains_iff_mem.2 hj];rfl
 rcases List.mem_append.1 hm with h|h
 ·exact key k h
 ·rcases L.shut with e|⟨e,_⟩
  ·rw [e] at h;cases h
  ·obtain ⟨j,hj⟩:=List.exists_mem_of_ne_nil _ e;exact key j hj
theorem goes1 {m:MS} (o:MOk m) (hz:∀ k,¬goB m k) {k:Nat} {w:WA} (hk:m.ws[k]?=some w):w.st=0:=by
 have h2:=goes2 o hz hk
 refine Classical.byContradiction fun hn=>?_
 have hs:w.st=1:=by omega
 have v:=o.w k w hk;have hm:=v.hal.2 hn
 have key:∀ j,isCl m.h j=true->False:=fun j hj=>by
  have hmj:j∈m.h.all:=List.mem_append.2 (.inl (isCl_t.1 hj));have hlt:=o.hw j hmj;obtain ⟨w2,hw2⟩:∃ w2,m.ws[j]?=some w2:=⟨_,List.getElem?_eq_getElem hlt⟩;have v2:=o.w _ w2 hw2;have q0:=v2.hal.1 hmj;have q3:=goes2 o hz hw2
  have q5:w2.st=1:=by omega
  have hg2:=hz j;rw [goB,step_at hw2] at hg2;refine hg2 (.inl ?_);simp only [stepW,q5];rw [hj,if_neg (by decide)]
  split<;>rfl
 rcases List.mem_append.1 hm with h|h
 ·exact key k (isCl_t.2 h)
 ·rcases o.hall.shut with e|e
  ·rw [e] at h;cases h
  ·have n1:=o.hall.n1
   have:0<m.h.cl.length:=by omega
   obtain ⟨c,hc⟩:=List.exists_mem_of_length_pos this;exact key c.1 (isCl_t.2 (List.mem_map_of_mem (f:=(·.1)) hc))
theorem goes0 {m:MS} (o:MOk m) (hz:∀ k,¬goB m k) {k:Nat} {w:WA} (hk:m.ws[k]?=some w):w.ended=w.todo.length:=by
 have h1:=goes1 o hz hk;have v:=o.w k w hk
 refine Classical.byContradiction fun hn=>?_
 have hg:=hz k;rw [goB,step_at hk] at hg;refine hg (.inl ?_);simp only [stepW,h1];rw [if_neg (by have:=v.en;omega)]
theorem go_left {m:MS} (o:MOk m) {k:Nat} {w:WA} (hk:m.ws[k]?=some w) (h:goB m k):w.ended<w.todo.length:=by
 have v:=o.w k w hk;rw [goB,step_at hk,stV_at hk] at h
 by_cases hs:w.st=0
 ·rcases h with h|h
  ·simp only [stepW,hs] at h
   split at h
   ·cases h
   ·omega
  ·omega
 ·exact v.bu hs
theorem goes {m:MS} (o:MOk m):(∃ k,k<m.ws.length/\goB m k)↔∃ k,k<m.ws.length/\0<lfV m k:=by
 constructor
 ·rintro ⟨k,hk,h⟩;refine ⟨k,hk,?_⟩;have:=go_left o (List.getElem?_eq_getElem hk) h;rw [lfV,List.getElem?_eq_getElem hk]
  show 0<(m.ws[k].todo.length:Int)-m.ws[k].ended;omega
 ·rintro ⟨k,hk,h⟩
  refine Classical.byContradiction fun hn=>?_
  have hz:∀ k,¬goB m k:=fun j hj=>by
   by_cases e:j<m.ws.length
   ·exact hn ⟨j,e,hj⟩
   ·rw [goB,stepM,if_neg (by omega),Int.toNat_natCast,List.getElem?_eq_none (by omega),stV,List.getElem?_eq_none (by omega)] at hj
    rcases hj with hj|hj
    ·cases hj
    ·exact absurd hj (by decide)
  have:=goes0 o hz (List.getElem?_eq_getElem hk);rw [lfV,List.getElem?_eq_getElem hk] at h;replace h:0<(m.ws[k].todo.length:Int)-m.ws[k].ended:=h;omega
def leftS (m:MS):Nat->Int
 |0=>0
 |k+1=>leftS m k+lfV m k
theorem leftS_pos {m:MS} (h:∀ k,0<=lfV m k):∀ k,(0<leftS m k↔∃ j,j<k/\0<lfV m j) /\0<=leftS m k
 |0=>⟨⟨fun g=>absurd (show (0:Int)<0 from g) (by decide),fun ⟨j,hj,_⟩=>absurd hj (Nat.not_lt_zero _)⟩,Int.le_refl 0⟩
 |k+1=>by
  obtain ⟨ih,ih0⟩:=leftS_pos h k;have hk:=h k;refine ⟨⟨fun g=>?_,fun ⟨j,hj,hp⟩=>?_⟩,by show 0<=leftS m k+lfV m k;omega⟩
  ·by_cases e:0<lfV m k
   ·exact ⟨k,Nat.lt_succ_self k,e⟩
   ·have:0<leftS m k:=by have g:0<leftS m k+lfV m k:=g;omega
    obtain ⟨j,hj,hp⟩:=ih.1 this;exact ⟨j,by omega,hp⟩
  ·show 0<leftS m k+lfV m k
   by_cases e:j=k
   ·subst e;omega
   ·have:=ih.2 ⟨j,by omega,hp⟩;omega
set_option maxRecDepth 20000 in
set_option maxHeartbeats 8000000 in
theorem hall_ok (m:MS) (h1:m.h.cl.length<=1000000) (h2:m.h.q.length<=1000000):HCall Tryz.prog 42 [.ptr 1000000 0 0] (mH m) (mH m) (encHA m.h):=by
 have hc:=cloneCl (encCl_ok m.h.cl) (by rw [List.length_map];exact h1);have ht:=cloneTk (encTk_ok m.h.q) (by rw [List.length_map];exact h2);refine hcall_of Tryz.func42 1 rfl (by kernel_rfl) (by rfl) (aP ?_);refine callX_own hc (aP ?_);refine callX_own ht (aP ?_);exact hret_of rfl rfl rfl ⟨rfl,rfl,rfl,trivial⟩
theorem lfV_at {m:MS} {k:Nat} {w:WA} (hk:m.ws[k]?=some w):lfV m k=(w.todo.length:Int)-w.ended:=by rw [lfV,hk]
theorem HI.lfB {P0 n work m} (h:HI P0 n work m) (hw:∀ l∈work,l.length<=1000) (k:Nat):0<=lfV m k/\lfV m k<=1000:=by
 rw [lfV]
 cases e:m.ws[k]? with
 |none=>exact ⟨Int.le_refl 0,by decide⟩
 |some w=>
  have h1:=(h.g.ok.w k w e).en
  have h2:w.todo∈work:=by rw [<-h.td];exact List.mem_map_of_mem (List.mem_of_getElem? e)
  have:=hw _ h2;show 0<= (w.todo.length:Int)-w.ended/\ (w.todo.length:Int)-w.ended<=1000;omega
theorem leftS_le {m:MS} (h:∀ k,0<=lfV m k/\lfV m k<=1000):∀ k,0<=leftS m k/\leftS m k<=1000*k
 |0=>⟨Int.le_refl 0,Int.le_refl 0⟩
 |k+1=>by
  have:=leftS_le h k;have:=h k;show 0<=leftS m k+lfV m k/\leftS m k+lfV m k<=1000*((k+1:Nat):Int);omega
def encBl (b:Bool):List D:=[.bool b]
theorem kids:Kids Tryz.prog (·<Tryz.prog.types.size):=kids_rows (by kernel_rfl) (by kernel_rfl)
theorem sizes:∀ t e,t<Tryz.prog.types.size->Tryz.prog.underlying t=some (.slice e)->0<Tryz.prog.cellsOf e:=sliceSize_out (by kernel_rfl)
theorem own:ownKnob Tryz.prog.godebug=none:=by kernel_rfl
theorem fit_mo {m:Nat} {ds:List D} (h:Fit T m 75 ds):∃ x:MOp,ds=encMO x/\True:=by
 obtain ⟨k,a,r,rfl,ha,b,r2,rfl,hb,c,r3,rfl,hc,rfl⟩:=fit_struct (fs:=[(0,3),(1,3),(2,9)]) rfl h;obtain ⟨x,rfl,_⟩:=fit_int (k:=.i64) rfl ha;obtain ⟨y,rfl,_⟩:=fit_int (k:=.i64) rfl hb;obtain ⟨z,rfl,_⟩:=fit_str rfl hc;exact ⟨(x,y,z),rfl,trivial⟩
theorem fit_ac {m:Nat} {ds:List D} (h:Fit T m 33 ds):∃ x:Int×Int,ds=encI x/\True:=by
 obtain ⟨k,a,r,rfl,ha,b,r2,rfl,hb,rfl⟩:=fit_struct (fs:=[(0,3),(1,3)]) rfl h;obtain ⟨x,rfl,_⟩:=fit_int (k:=.i64) rfl ha;obtain ⟨y,rfl,_⟩:=fit_int (k:=.i64) rfl hb;exact ⟨(x,y),rfl,trivial⟩
theorem fit_td {m:Nat} {ds:List D} (h:Fit T m 83 ds):∃ x:List MOp,ds=encTd x/\x.length<=9223372036854775807:=by
 obtain ⟨l,rfl,b,_⟩:=fit_rows (f:=encMO) (Q:=fun _=>True) (e:=75) rfl h fun m x h=>fit_mo h
 exact ⟨l,rfl,b⟩
theorem work_arg {n:Nat} {d:D} (h:FitV T n 23 d):∃ l:List (List MOp),d=.lst (l.map encTd) /\l.length<=9223372036854775807/\ ∀ x∈l,x.length<=9223372036854775807:=by
 obtain ⟨l,rfl,b,q⟩:=fitV_rows (f:=encTd) (Q:=fun x=>x.length<=9223372036854775807) (e:=83) rfl h fun m x h=>fit_td h
 exact ⟨l,rfl,b,q⟩
theorem acts_arg {n:Nat} {d:D} (h:FitV T n 24 d):∃ l:List (Int×Int),d=.lst (l.map encI) /\l.length<=9223372036854775807:=by
 obtain ⟨l,rfl,b,_⟩:=fitV_rows (f:=encI) (Q:=fun _=>True) (e:=33) rfl h fun m x h=>fit_ac h
 exact ⟨l,rfl,b⟩
theorem bytes_arg {n:Nat} {d:D} (h:FitV T n 87 d):∃ l:List Int,d=.lst (l.map encU) /\ (∀ x∈l,0<=x/\x<=255) /\l.length<=9223372036854775807:=by
 obtain ⟨l,rfl,b,q⟩:=fitV_rows (f:=encU) (Q:=fun x=>0<=x/\x<=255) (e:=5) rfl h fun m x h=>by
  obtain ⟨x,rfl,w⟩:=fit_int (k:=.u8) rfl h;exact ⟨x,rfl,(wf_u8 w).1,(wf_u8 w).2⟩
 exact ⟨l,rfl,q,b⟩
theorem u8_arg {n:Nat} {d:D} (h:FitV T n 5 d):∃ a:Int,d=.int .u8 a/\0<=a/\a<=255:=by
 obtain ⟨a,rfl,w⟩:=fitV_int (k:=.u8) rfl h;exact ⟨a,rfl,(wf_u8 w).1,(wf_u8 w).2⟩
theorem faults_arg {n:Nat} {d:D} (h:FitV T n 64 d):∃ l:List Bool,d=.lst (l.map encBl) /\l.length<=9223372036854775807:=by
 obtain ⟨l,rfl,b,_⟩:=fitV_rows (f:=encBl) (Q:=fun _=>True) (e:=4) rfl h fun m x h=>by
  obtain ⟨x,rfl⟩:=fit_bool rfl h;exact ⟨x,rfl,trivial⟩
 exact ⟨l,rfl,b⟩
theorem ecall_wk {P:Program} {f:FuncId} {xs xs':List AV} {hp:Nat->Option Blk} {e:Eff} (H:ECall P f xs hp e) (hl:xs'.length=xs.length) (h:∀ (i:Nat) (x y:AV),xs'[i]?=some x->xs[i]?=some y->WkA x y):ECall P f xs' hp e:=
 ⟨H.1,fun own M ι w vs ho ha hh hd=>H.2 own M ι w vs ho ha hh ⟨hd.1.trans hl,fun i d v h1 h2=>by
  have hi:i<xs.length:=(List.getElem?_eq_some_iff.1 h1).1;have h3:xs'[i]?=some (xs'[i]'(by omega)):=List.getElem?_eq_getElem (by omega)
  exact (h i _ d h3 h1).out M ι v (hd.2 i _ v h3 h2)⟩⟩
theorem hcall_b3 {P:Program} {f:FuncId} {a b x y:AV} {pre post:List (Nat×Blk)} {d:D} (H:HCall P f [a,b,y] pre post d) (hx:∀ s,rnV s x=x) (hy:∀ s,rnV s y=y) (hw:WkA x y):HCall P f [a,b,x] pre post d:=
 ⟨H.1,fun s hp h1 h2=>ecall_wk (H.2 s hp h1 h2) rfl fun i u v e1 e2=>by
  match i with
  |0=>cases e1;cases e2;exact wk_refl _
  |1=>cases e1;cases e2;exact wk_refl _
  |2=>cases e1;cases e2;rw [hx,hy];exact hw
  |i+3=>cases e1⟩
theorem hcall_ff {P:Program} {f:FuncId} {a b:AV} {pre post:List (Nat×Blk)} {d:D} (H:HCall P f [a,b,.d (.bool false)] pre post d):HCall P f [a,b,.ff] pre post d:=hcall_b3 H (fun _=>rfl) (fun _=>rfl) wk_ff
theorem hcall_nil {P:Program} {f:FuncId} {a b c:AV} {pre post:List (Nat×Blk)} {d:D} (H:HCall P f [a,b,.d (.lst []),c] pre post d):HCall P f [a,b,.nil,c] pre post d:=
 ⟨H.1,fun s hp h1 h2=>ecall_wk (H.2 s hp h1 h2) rfl fun i u v e1 e2=>by
  match i with
  |0=>cases e1;cases e2;exact wk_refl _
  |1=>cases e1;cases e2;exact wk_refl _
  |2=>cases e1;cases e2;exact wk_nil
  |3=>cases e1;cases e2;exact wk_refl _
  |i+4=>cases e1⟩
noncomputable def stN (m:MS):Nat->MS×Bool
 |0=>(m,false)
 |k+1=>((stepM (stN m k).1 k).1,(stN m k).2||(stepM (stN m k).1 k).2)
noncomputable def roundM (m:MS) (n:Nat) (fault:Bool):MS×Bool:=
 ((finM (pumpM (stN m (min n 4)).1) 0 fault).1,(stN m (min n 4)).2||(finM (pumpM (stN m (min n 4)).1) 0 fault).2)
def fbN (faults:List Bool) (i:Nat):Bool:=if 0<faults.length then faults[i%faults.length]?.getD false else false
noncomputable def rnds (m:MS) (n:Nat) (faults:List Bool):Nat->MS
 |0=>m
 |i+1=>(roundM (rnds m n faults i) n (fbN faults i)).1
open Classical in
noncomputable def leftB (m:MS) (n:Nat):Bool:=decide (∃ k,k<min n 4/\0<lfV m k)
theorem leftB_t {m:MS} {n:Nat}:leftB m n=true↔∃ k,k<min n 4/\0<lfV m k:=by simp [leftB]
theorem leftB_f {m:MS} {n:Nat}:leftB m n=false↔∀ k,k<min n 4->¬0<lfV m k:=by
 rw [leftB,decide_eq_false_iff_not];exact ⟨fun h k hk hp=>h ⟨k,hk,hp⟩,fun h ⟨k,hk,hp⟩=>h k hk hp⟩
theorem MGE.pump {work m} (h:MGE work m):MGE work (pumpM m):=by
 obtain ⟨t,h0,h1,g⟩:=h.ex;exact ⟨t,h0,h1,g.pump⟩
theorem MGE.fin {work m} (h:MGE work m) (i:Int) (b:Bool):MGE work (finM m i b).1:=by
 obtain ⟨t,h0,h1,g⟩:=h.ex;exact ⟨t,h0,h1,g.fin i b⟩
theorem MGE.stN {work m} (h:MGE work m):∀ k,MGE work (stN m k).1
 |0=>h
 |k+1=>(MGE.stN h k).step k
theorem stN_clk (m:MS):∀ k,(stN m k).1.clk<=m.clk+k/\m.clk<= (stN m k).1.clk
 |0=>⟨by show m.clk<=m.clk+0;omega,Int.le_refl _⟩
 |k+1=>by
  have ih:=stN_clk m k;have h:=stepM_clk (stN m k).1 k;show (stepM (stN m k).1 k).1.clk<=m.clk+(k+1:Nat) /\m.clk<= (stepM (stN m k).1 k).1.clk;omega
theorem MGE.round {work m} (h:MGE work m) (n:Nat) (b:Bool):MGE work (roundM m n b).1:=((h.stN _).pump).fin _ _
theorem round_clk (m:MS) (n:Nat) (b:Bool):(roundM m n b).1.clk<=m.clk+4/\m.clk<= (roundM m n b).1.clk:=by
 have h:=stN_clk m (min n 4);have e:(roundM m n b).1.clk=(stN m (min n 4)).1.clk:=finM_clk _ _ _
 rw [e];omega
theorem MGE.rnds {work m} (h:MGE work m) (n:Nat) (fs:List Bool):∀ i,MGE work (rnds m n fs i)
 |0=>h
 |i+1=>(MGE.rnds h n fs i).round n _
theorem rnds_clk (m:MS) (n:Nat) (fs:List Bool):∀ i,(rnds m n fs i).clk<=m.clk+4*i/\m.clk<= (rnds m n fs i).clk
 |0=>⟨by show m.clk<=m.clk+4*0;omega,Int.le_refl _⟩
 |i+1=>by
  have ih:=rnds_clk m n fs i;have h:=round_clk (rnds m n fs i) n (fbN fs i);show (roundM (rnds m n fs i) n (fbN fs i)).1.clk<=m.clk+4*(i+1:Nat) /\m.clk<= (roundM (rnds m n fs i) n (fbN fs i)).1.clk;omega
theorem lfV_no {m:MS} {k:Nat} (h:m.ws.length<=k):lfV m k=0:=by rw [lfV,List.getElem?_eq_none h]
theorem left_any {work m} (h:MGE work m) (hw:∀ l∈work,l.length<=1000) (k:Nat):HCall Tryz.prog 38 [.ptr 1000000 0 0,.d (.int .i64 k)] (mH m) (mH m) (.int .i64 (lfV m k)):=by
 have hl:∀ w∈m.ws,w.ended<=1000000/\w.todo.length<=1000000:=fun w hw'=>by
  obtain ⟨t,_,_,g⟩:=h.ex;obtain ⟨k,hk,rfl⟩:=List.mem_iff_getElem.1 hw';have h1:=(g.ok.w k _ (List.getElem?_eq_getElem hk)).en
  have h2:m.ws[k].todo∈work:=by rw [<-g.td];exact List.mem_map_of_mem (List.getElem_mem hk)
  have:=hw _ h2;omega
 have hlf:=left_m_ok m k hl;rw [if_pos (by omega),Int.toNat_natCast] at hlf;exact hlf
set_option maxRecDepth 20000 in
set_option maxHeartbeats 16000000 in
theorem left104_ok {work m} (h:MGE work m) (hw:∀ l∈work,l.length<=1000) (n:Nat) (hn:n<=1000000):HCall Tryz.prog 74 [.ptr 1000000 0 0,.d (.int .i64 n)] (mH m) (mH m) (.bool (leftB m n)):=by
 refine hcall_of Tryz.func74 2 rfl (by kernel_rfl) (by rfl) (aP ?_);refine aloop (ι:=Nat) (fun k=>[(0,.ptr 1000000 0 0),(7,.d (.int .i64 (min (n:Int) 4))),(8,.d (.int .i64 k))]) (fun k=>mH m)
  (fun k=>k<=min n 4/\ ∀ j,j<k->¬0<lfV m j) (fun k=>min n 4-k) 0 ⟨Nat.zero_le _,fun j h=>absurd h (by omega)⟩ (le0 (le_of_cov ⟨rfl,rfl,rfl,trivial⟩ ⟨rfl,rfl,rfl,trivial⟩ ⟨rfl,rfl,rfl,rfl⟩)) ?_
 rintro k ⟨hk,hR⟩
 conv=>whnf
 refine bcase_p (fun h5=>?_) (fun h5=>?_)<;>conv=>whnf
 ·refine aP ?_;refine callH_blk (left_any h hw k) nm3 rfl ⟨rfl,rfl,rfl,trivial⟩ rfl (w0 ?_)
  refine bcase_p (fun h6=>?_) (fun h6=>?_)<;>conv=>whnf
  ·rw [leftB_t.2 ⟨k,by omega,h6⟩];refine aP ?_;exact hret_of rfl rfl rfl ⟨rfl,rfl,rfl,trivial⟩
  ·refine aP ?_
   exact ⟨k+1,⟨by omega,fun j hj=>by
    by_cases e:j=k
    ·subst e;exact h6
    ·exact hR j (by omega)⟩,by omega,(le0 (le_of_cov ⟨rfl,rfl,rfl,trivial⟩ ⟨rfl,rfl,rfl,trivial⟩ ⟨rfl,rfl,rfl,rfl⟩))⟩
 ·rw [leftB_f.2 fun j hj=>hR j (by omega)];refine aP ?_;exact hret_of rfl rfl rfl ⟨rfl,rfl,rfl,trivial⟩
set_option maxRecDepth 20000 in
set_option maxHeartbeats 16000000 in
theorem round105_ok {work m} (h:MGE work m) (hw:∀ l∈work,l.length<=1000) (hc:m.clk<=90000) (n:Nat) (hn:n<=1000000) (b:Bool):HCall Tryz.prog 41 [.ptr 1000000 0 0,.d (.int .i64 n),.d (.bool b)] (mH m) (mH (roundM m n b).1) (.bool (roundM m n b).2):=by
 refine hcall_of Tryz.func41 3 rfl (by kernel_rfl) (by rfl) (aP ?_);refine aloop (ι:=Nat) (fun k=>[(0,.ptr 1000000 0 0),(2,.d (.bool b)),(7,.d (.bool (stN m k).2)),(10,.d (.int .i64 (min (n:Int) 4))),(11,.d (.int .i64 k))]) (fun k=>mH (stN m k).1)
  (fun k=>k<=min n 4) (fun k=>min n 4-k) 0 (Nat.zero_le _) (len [.wk 7 (.d (.bool false))] ⟨wk_ff,trivial⟩ (le_of_cov ⟨rfl,rfl,rfl,rfl,rfl,trivial⟩ ⟨rfl,rfl,rfl,trivial⟩ ⟨rfl,rfl,rfl,rfl⟩)) ?_
 intro k hk;have hM:=h.stN k;have hcl:=(stN_clk m k).1;have e1:(stN m (k+1)).1=(stepM (stN m k).1 k).1:=rfl;have e2:(stN m (k+1)).2=((stN m k).2||(stepM (stN m k).1 k).2):=rfl
 conv=>whnf
 refine bcase_p (fun h5=>?_) (fun h5=>?_)<;>conv=>whnf
 ·obtain ⟨t,t0,t1,g⟩:=hM.ex;have hst:=stepM_ok g t1 hw (by omega) k;rw [<-e1] at hst;obtain ⟨r,hr⟩:∃ r,(stepM (stN m k).1 k).2=r:=⟨_,rfl⟩;obtain ⟨r0,hr0⟩:∃ r0,(stN m k).2=r0:=⟨_,rfl⟩;rw [hr] at hst e2;rw [hr0] at e2⊢;refine aP ?_;refine callH_blk hst nm3 rfl ⟨rfl,rfl,rfl,trivial⟩ rfl (w0 ?_)
  refine bcase_intro (fun h6=>?_) (fun h6=>?_)<;>conv=>whnf
  ·rw [h6,Bool.or_true] at e2;refine aP ?_;refine ⟨k+1,by omega,by omega,len [.wk 7 (.d (.bool true))] ⟨wk_tt,trivial⟩ (le_of_cov ⟨rfl,rfl,by rw [e2];rfl,rfl,rfl,trivial⟩ ⟨rfl,rfl,rfl,trivial⟩ ⟨rfl,rfl,rfl,rfl⟩)⟩
  ·rw [h6,Bool.or_false] at e2;refine aP ?_;refine ⟨k+1,by omega,by omega,le0 (le_of_cov ⟨rfl,rfl,by rw [e2];rfl,rfl,rfl,trivial⟩ ⟨rfl,rfl,rfl,trivial⟩ ⟨rfl,rfl,rfl,rfl⟩)⟩
 have hkl:k=min n 4:=by omega
 subst hkl;obtain ⟨t,t0,t1,g⟩:=hM.ex;have hpu:=pumpM_ok (stN m (min n 4)).1 hM.ok.su g.gd.us;have hfi:=finM_ok g.pump (by show (stN m (min n 4)).1.clk<=100000;omega) 0 b;have e3:(roundM m n b).1=(finM (pumpM (stN m (min n 4)).1) 0 b).1:=rfl;have e4:(roundM m n b).2=((stN m (min n 4)).2||(finM (pumpM (stN m (min n 4)).1) 0 b).2):=rfl;rw [<-e3] at hfi;obtain ⟨r,hr⟩:∃ r,(finM (pumpM (stN m (min n 4)).1) 0 b).2=r:=⟨_,rfl⟩;rw [hr] at hfi e4;refine aP ?_;refine callH_blk hpu nm3 rfl ⟨rfl,rfl,rfl,trivial⟩ rfl (aP ?_);refine callH_blk hfi nm3 rfl ⟨rfl,rfl,rfl,trivial⟩ rfl (w0 ?_)
 refine bcase_intro (fun h6=>?_) (fun h6=>?_)<;>conv=>whnf
 ·rw [h6,Bool.or_true] at e4;rw [e4];refine aP ?_;exact hret_of rfl rfl rfl ⟨rfl,rfl,rfl,trivial⟩
 ·rw [h6,Bool.or_false] at e4;rw [e4];refine aP ?_;exact hret_of rfl rfl rfl ⟨rfl,rfl,rfl,trivial⟩
structure RunN (m:MS) (n:Nat) (fs:List Bool) (most N:Nat):Prop where
 le:N<=most
 all:∀ i,i<N->leftB (rnds m n fs i) n=true
 stop:N=most\/leftB (rnds m n fs N) n=false
theorem runN_ex (m:MS) (n:Nat) (fs:List Bool):∀ most,∃ N,RunN m n fs most N
 |0=>⟨0,Nat.le_refl 0,fun i h=>absurd h (Nat.not_lt_zero _),.inl rfl⟩
 |k+1=>by
  obtain ⟨N,h1,h2,h3⟩:=runN_ex m n fs k
  cases e:leftB (rnds m n fs N) n with
  |false=>exact ⟨N,by omega,h2,.inr e⟩
  |true=>
   have hN:N=k:=h3.resolve_right (by rw [e];decide);subst hN;refine ⟨N+1,Nat.le_refl _,fun i hi=>?_,.inl rfl⟩
   by_cases q:i=N
   ·rw [q];exact e
   ·exact h2 i (by omega)
set_option maxRecDepth 20000 in
set_option maxHeartbeats 16000000 in
theorem run47_ok {work m} (h:MGE work m) (hw:∀ l∈work,l.length<=1000) (n:Nat) (hn:n<=1000000) (fs:List Bool) (hfs:fs.length<=1000000) (most:Nat) (hmo:m.clk+4*most<=90000) (N:Nat) (hN:RunN m n fs most N):
  HCall Tryz.prog 29 [.ptr 1000000 0 0,.d (.int .i64 n),.d (.lst (fs.map encBl)),.d (.int .i64 most)] (mH m) (mH (rnds m n fs N)) (.int .i64 N):=by
 have hmf:(fs.map encBl).length=fs.length:=List.length_map ..
 have hNm:=hN.le
 have hc0:0<=m.clk:=by obtain ⟨t,_,_,g⟩:=h.ex;have:=g.ev;omega
 refine hcall_of Tryz.func29 4 rfl (by kernel_rfl) (by rfl) (aP ?_);refine aloop (ι:=Nat) (fun i=>[(0,.ptr 1000000 0 0),(1,.d (.int .i64 n)),(2,.d (.lst (fs.map encBl))),(3,.d (.int .i64 most)),(9,.d (.int .i64 i))]) (fun i=>mH (rnds m n fs i))
  (fun i=>i<=N) (fun i=>N-i) 0 (Nat.zero_le _) (le0 (le_of_cov ⟨rfl,rfl,rfl,rfl,rfl,trivial⟩ ⟨rfl,rfl,rfl,trivial⟩ ⟨rfl,rfl,rfl,rfl⟩)) ?_
 intro i hi;have hM:=h.rnds n fs i;have hcl:=(rnds_clk m n fs i).1;have hall:=hN.all i;have hstop:=hN.stop
 by_cases hiN:i<N
 ·have hL:=left104_ok hM hw n hn;rw [hall hiN] at hL;obtain ⟨M,hM2⟩:∃ M,rnds m n fs i=M:=⟨_,rfl⟩;rw [hM2] at hL hM hcl⊢;have hrd:=round105_ok hM hw (by omega) n hn (fbN fs i)
  conv=>whnf
  refine aP ?_;refine callH_blk hL nm3 rfl ⟨rfl,rfl,rfl,trivial⟩ rfl (aP ?_)
  refine bcase_p (fun h6=>?_) (fun h6=>?_)<;>conv=>whnf
  ·have hpos:0<fs.length:=by omega
   have hlt:i%fs.length<fs.length:=Nat.mod_lt _ hpos
   have hb:fbN fs i=fs[i%fs.length]:=by rw [fbN,if_pos hpos,List.getElem?_eq_getElem hlt,Option.getD_some]
   rw [hb] at hrd
   have hz:(fs.map encBl)[i%fs.length]?=some [.bool fs[i%fs.length]]:=by rw [List.getElem?_map,List.getElem?_eq_getElem hlt];rfl
   have hem:((i:Int)%((fs.map encBl).length:Int))=((i%fs.length:Nat):Int):=by rw [hmf];rfl
   refine aP ?_;refine divK_rem (by omega) (by omega) (aP ?_);rw [hem];refine idxK_nat (by omega) (w0 ?_);refine getRow_of hz (aP ?_);refine callH_blk hrd nm3 rfl ⟨rfl,rfl,rfl,trivial⟩ rfl (aP ?_);refine ⟨i+1,by omega,by omega,?_⟩;rw [show rnds m n fs (i+1)=(roundM M n (fs[i%fs.length])).1 by rw [<-hb,<-hM2];rfl];exact (le0 (le_of_cov ⟨rfl,rfl,rfl,rfl,rfl,trivial⟩ ⟨rfl,rfl,rfl,trivial⟩ ⟨rfl,rfl,rfl,rfl⟩))
  ·have hb:fbN fs i=false:=by rw [fbN,if_neg (by omega)]
   rw [hb] at hrd;replace hrd:=hcall_ff hrd;refine aP ?_;refine callH_blk hrd nm3 rfl ⟨rfl,rfl,rfl,trivial⟩ rfl (aP ?_);refine ⟨i+1,by omega,by omega,?_⟩;rw [show rnds m n fs (i+1)=(roundM M n (false)).1 by rw [<-hb,<-hM2];rfl];exact (le0 (le_of_cov ⟨rfl,rfl,rfl,rfl,rfl,trivial⟩ ⟨rfl,rfl,rfl,trivial⟩ ⟨rfl,rfl,rfl,rfl⟩))
 ·have hiN2:i=N:=by omega
  subst hiN2
  by_cases him:i=most
  ·conv=>whnf
   refine aP ?_;exact hret_of rfl rfl rfl ⟨rfl,rfl,rfl,trivial⟩
  ·have hL:=left104_ok hM hw n hn;rw [hstop.resolve_left him] at hL
   conv=>whnf
   refine aP ?_;refine callH_blk hL nm3 rfl ⟨rfl,rfl,rfl,trivial⟩ rfl (aP ?_);exact hret_of rfl rfl rfl ⟨rfl,rfl,rfl,trivial⟩
def trK (s:SA) (k:Nat):Nat:=match s.out.find? (fun f=>f.who==k) with|some f=>f.tr|none=>1
def ph (s:SA) (k:Nat) (w:WA):Nat:=if w.st=4 then 3+trK s k else if w.st=5 then 7 else if w.st=6 then 8 else w.st
def phi (m:MS) (k:Nat):Nat:=match m.ws[k]? with|none=>0|some w=>9*(w.todo.length-w.ended)-ph m.s k w
def Phi (m:MS):Nat:=phi m 0+phi m 1+phi m 2+phi m 3
theorem phi_at {m:MS} {k:Nat} {w:WA} (h:m.ws[k]?=some w):phi m k=9*(w.todo.length-w.ended)-ph m.s k w:=by rw [phi,h]
theorem phi_no {m:MS} {k:Nat} (h:m.ws.length<=k):phi m k=0:=by rw [phi,List.getElem?_eq_none h]
structure Dec (m m':MS) (d:Bool):Prop where
 le:∀ k,phi m' k<=phi m k
 lt:d=true->∃ k,k<4/\phi m' k<phi m k
theorem Dec.Phi {m m':MS} {d:Bool} (h:Dec m m' d):Phi m'<=Phi m/\ (d=true->Phi m'<Phi m):=by
 have h0:=h.le 0;have h1:=h.le 1;have h2:=h.le 2;have h3:=h.le 3;refine ⟨by unfold Go.Lk.Phi;omega,fun hd=>?_⟩;obtain ⟨k,hk,hl⟩:=h.lt hd
 have:k=0\/k=1\/k=2\/k=3:=by omega
 unfold Go.Lk.Phi
 rcases this with rfl|rfl|rfl|rfl<;>omega
theorem Dec.same {m m':MS} (h:∀ k,phi m' k=phi m k):Dec m m' false:=⟨fun k=>by rw [h k];exact Nat.le_refl _,fun q=>by cases q⟩
theorem Dec.trans {a b c:MS} {d e:Bool} (h1:Dec a b d) (h2:Dec b c e):Dec a c (d||e):=by
 refine ⟨fun k=>Nat.le_trans (h2.le k) (h1.le k),fun h=>?_⟩
 rcases Bool.or_eq_true_iff.1 h with h|h
 ·obtain ⟨k,hk,hl⟩:=h1.lt h;exact ⟨k,hk,Nat.lt_of_le_of_lt (h2.le k) hl⟩
 ·obtain ⟨k,hk,hl⟩:=h2.lt h;exact ⟨k,hk,Nat.lt_of_lt_of_le hl (h1.le k)⟩
theorem ph_le {h lat s k w} (v:WOk h lat s k w) (hs:SU s):ph s k w<=8/\ (w.st=4->4<=ph s k w/\ph s k w<=6):=by
 have h6:=v.st6
 have ht:1<=trK s k/\trK s k<=3:=by
  rw [trK]
  cases e:s.out.find? (fun f=>f.who==k) with
  |none=>exact ⟨Nat.le_refl 1,by decide⟩
  |some f=>
   have:=hs.lt f (List.mem_of_find?_eq_some e);exact ⟨this.2.2.2.1,this.2.2.2.2⟩
 rw [ph]
 repeat' split
 all_goals omega
theorem dec_one {m m':MS} {k:Nat} {w w':WA} (hk:m.ws[k]?=some w) (hws:m'.ws=m.ws.set k w') (hs:∀ j,j≠k->trK m'.s j=trK m.s j) (h4:k<4) (hlt:9*(w'.todo.length-w'.ended)-ph m'.s k w'<9*(w.todo.length-w.ended)-ph m.s k w):Dec m m' true:=by
 have hl:=(List.getElem?_eq_some_iff.1 hk).1
 have hk':m'.ws[k]?=some w':=by rw [hws,List.getElem?_set,if_pos rfl,if_pos hl]
 have hself:phi m' k<phi m k:=by rw [phi_at hk',phi_at hk];exact hlt
 refine ⟨fun j=>?_,fun _=>⟨k,h4,hself⟩⟩
 by_cases e:j=k
 ·rw [e];exact Nat.le_of_lt hself
 ·have e2:m'.ws[j]?=m.ws[j]?:=by rw [hws,List.getElem?_set,if_neg (fun q=>e q.symm)]
  rw [phi,phi,e2]
  cases h:m.ws[j]? with
  |none=>exact Nat.le_refl _
  |some v=>simp only [ph,hs j e];exact Nat.le_refl _
theorem tr_none {s:SA} {k:Nat} (h:∀ p,¬WJ s k p):trK s k=1:=by
 rw [trK]
 cases e:s.out.find? (fun f=>f.who==k) with
 |none=>rfl
 |some f=>
  have h1:f.who=k:=by have:=List.find?_some e;simpa using this
  exact absurd (.inr ⟨f,List.mem_of_find?_eq_some e,h1,rfl⟩) (h f.pg)
theorem dec_step {m:MS} (o:MOk m) (k:Int):Dec m (stepM m k).1 (stepM m k).2:=by
 cases hd:(stepM m k).2 with
 |false=>
  obtain ⟨c,e,_⟩:=stepM_no hd;rw [e]
  exact Dec.same fun j=>rfl
 |true=>
  rw [stepM] at hd⊢
  split at hd
  ·cases hd
  rename_i hk0;rw [if_neg hk0]
  cases hk:m.ws[k.toNat]? with
  |none=>rw [hk] at hd;cases hd
  |some w=>
   rw [hk] at hd;have hl:=(List.getElem?_eq_some_iff.1 hk).1
   have h4:k.toNat<4:=by have:=o.n4;omega
   have v:=o.w _ w hk;have hp:=ph_le v o.su;have hbu:=v.bu;simp only [] at hd⊢;unfold stepW at hd⊢
   split
   ·rename_i hs
    split
    ·rename_i hn;rw [hs] at hd;simp only [if_pos hn] at hd
     cases hd
    ·rename_i hn;refine dec_one hk rfl (fun _ _=>rfl) h4 ?_;simp only [ph,hs]
     simp;omega
   ·rename_i hs;have hb:=hbu (by omega)
    split
    ·rename_i hn;rw [hs] at hd;simp only [if_pos hn] at hd
     cases hd
    split
    ·refine dec_one hk rfl (fun _ _=>rfl) h4 ?_;simp only [ph,hs,tellW]
     simp;omega
    ·refine dec_one hk rfl (fun _ _=>rfl) h4 ?_;simp only [ph,hs]
     simp;omega
   ·rename_i hs;have hb:=hbu (by omega)
    split
    ·rename_i hn;rw [hs] at hd;simp only [if_pos hn] at hd
     cases hd
    ·refine dec_one hk rfl (fun _ _=>rfl) h4 ?_;simp only [ph,hs]
     simp;omega
   ·rename_i hs;have hb:=hbu (by omega)
    split
    ·rename_i hn;rw [hs] at hd;simp only [if_pos hn] at hd
     cases hd
    split
    ·refine dec_one hk rfl (fun _ _=>rfl) h4 ?_
     have ht:trK (askS m.s k.toNat w.op.2.1) k.toNat=1:=tr_none (s:=m.s) (k:=k.toNat) fun p hj=>by have:=(v.job p).1 hj;omega
     simp only [ph,hs];simp only [ht]
     simp;omega
    ·refine dec_one hk rfl (fun _ _=>rfl) h4 ?_;simp only [ph,hs]
     simp;omega
   ·rename_i hs;have hb:=hbu (by omega);refine dec_one hk rfl (fun _ _=>rfl) h4 ?_;simp only [ph,hs,tellW]
    simp;omega
   ·rename_i hs;have hb:=hbu (by omega);refine dec_one hk rfl (fun _ _=>rfl) h4 ?_;simp only [ph,hs]
    simp;omega
   ·rename_i n1 n2 n3 n4 n5 n6;exfalso
    revert hd
    split
    all_goals first|contradiction|(intro h;cases h)
theorem tr_app {s:SA} {k:Nat} {f:Fly} (h1:f.tr=1) (s':SA) (ho:s'.out=s.out++[f]):trK s' k=trK s k:=by
 rw [trK,trK,ho,List.find?_append]
 cases e:s.out.find? (fun f=>f.who==k) with
 |some g=>rfl
 |none=>
  simp only [Option.none_or];rw [List.find?_cons]
  split
  ·rename_i g heq
   split at heq
   ·cases heq;exact h1
   ·cases heq
  ·rfl
theorem tr_pump:∀ (n:Nat) (s:SA) (k:Nat),trK (pumpG n s) k=trK s k
 |0,s,k=>rfl
 |n+1,s,k=>by
  rw [pumpG]
  split
  ·split
   ·rfl
   ·rename_i j hj;rw [tr_pump n];exact tr_app rfl _ rfl
  ·rfl
theorem dec_pump (m:MS):Dec m (pumpM m) false:=Dec.same fun k=>by
 rw [phi,phi];show (match m.ws[k]? with|none=>0|some w=>9*(w.todo.length-w.ended)-ph (pumpS m.s) k w)=_
 cases m.ws[k]? with
 |none=>rfl
 |some w=>simp only [ph,show trK (pumpS m.s) k=trK m.s k from tr_pump 5 m.s k]
theorem tr_cut {s:SA} {i:Nat} {j:Fly} {A B:List Fly} (c:Cut s i j A B) {k:Nat} (hk:k≠j.who) {s':SA} {C:List Fly} (ho:s'.out=(A++B)++C) (hC:∀ f∈C,f.who=j.who):trK s' k=trK s k:=by
 have e0:(j.who==k)=false:=by simpa using fun q=>hk q.symm
 have e1:C.find? (fun f=>f.who==k)=none:=by
  rw [List.find?_eq_none];intro f hf
  rw [hC f hf];simpa using fun q=>hk q.symm
 rw [trK,trK,ho,c.o,List.find?_append,e1,List.find?_append,List.find?_append,List.find?_cons,e0,Option.or_none]
theorem tr_self {s:SA} (h:SU s) {i:Nat} {j:Fly} {A B:List Fly} (c:Cut s i j A B):trK s j.who=j.tr:=by
 have e1:A.find? (fun f=>f.who==j.who)=none:=by
  rw [List.find?_eq_none];intro f hf;have:=c.w f (List.mem_append.2 (.inl hf))
  simpa using this
 rw [trK,c.o,List.find?_append,e1,List.find?_cons];simp
theorem tr_again {s:SA} {i:Nat} {j g:Fly} {A B:List Fly} (c:Cut s i j A B) {s':SA} (ho:s'.out=(A++B)++[g]) (hg:g.who=j.who):trK s' j.who=g.tr:=by
 have e1:(A++B).find? (fun f=>f.who==j.who)=none:=by
  rw [List.find?_eq_none];intro f hf;have:=c.w f hf
  simpa using this
 rw [trK,ho,List.find?_append,e1,List.find?_cons];simp [hg]
theorem dec_fin {m:MS} (o:MOk m) (i:Int) (b:Bool):Dec m (finM m i b).1 (finM m i b).2:=by
 rw [finM]
 split
 ·exact Dec.same fun j=>rfl
 ·rename_i hi;obtain ⟨j,hj⟩:∃ j,m.s.out[i.toNat]?=some j:=⟨_,List.getElem?_eq_getElem (by omega)⟩;obtain ⟨A,B,c⟩:=cut_ok o.su hj;have hjo:=(c.mem j).2 (.inl rfl);have hwj:WJ m.s j.who j.pg:=.inr ⟨j,hjo,rfl,rfl⟩
  have hlt:j.who<m.ws.length:=by have:=(o.su.lt j hjo).2.1;rw [o.sj] at this;exact this
  obtain ⟨w,hk⟩:∃ w,m.ws[j.who]?=some w:=⟨_,List.getElem?_eq_getElem hlt⟩;have v:=o.w _ w hk;have h4:=((v.job _).1 hwj).1;have hb:=v.bu (by omega);have htr:=(o.su.lt j hjo).2.2.2;have ht:=tr_self o.su c
  have h4':j.who<4:=by have:=o.n4;omega
  rw [doneS,hj];simp only [];rw [c.e]
  split
  ·rename_i s hd
   split at hd
   ·rename_i hc
    cases hd
    refine dec_one (w:=w) (w':=w) hk ?_ (fun q hq=>tr_cut c hq rfl fun f hf=>by rw [List.mem_singleton.1 hf]) h4' ?_
    ·show m.ws=m.ws.set j.who w;obtain ⟨hx,hy⟩:=List.getElem?_eq_some_iff.1 hk
     rw [<-hy];exact (List.set_getElem_self hx).symm
    ·have ht2:trK {m.s with next:=m.s.next+1,out:=(A++B)++[⟨m.s.next,j.who,j.pg,j.tr+1⟩]} j.who=j.tr+1:=tr_again (g:=⟨m.s.next,j.who,j.pg,j.tr+1⟩) c rfl rfl;simp only [ph,h4,if_pos,ht,ht2];omega
   ·cases hd
  ·rename_i s k bad hd
   split at hd
   ·cases hd
   ·cases hd
    rw [hk];simp only [];rw [if_neg (fun q=>q h4)]
    have hw:∀ bd:Bool,(toldW m w bd).todo=w.todo/\ (toldW m w bd).ended=w.ended/\ ((toldW m w bd).st=5\/ (toldW m w bd).st=6):=fun bd=>by
     unfold toldW;split
     ·exact ⟨rfl,rfl,.inr rfl⟩
     ·exact ⟨rfl,rfl,.inl rfl⟩
    refine dec_one (w:=w) (w':=toldW m w _) hk rfl (fun q hq=>tr_cut (C:=[]) c hq (by rw [List.append_nil]) (fun f hf=>by cases hf)) h4' ?_;rw [(hw _).1,(hw _).2.1]
    have e1:ph m.s j.who w=3+j.tr:=by rw [ph,if_pos h4,ht]
    rw [e1]
    have e2:∀ s bd,7<=ph s j.who (toldW m w bd) /\ph s j.who (toldW m w bd) <=8:=fun s bd=>by
     rw [ph]
     rcases (hw bd).2.2 with e|e<;>rw [e]<;>simp
    show 9*(w.todo.length-w.ended)-ph {m.s with out:=A++B} j.who (toldW m w b)<_;have q1:=(e2 {m.s with out:=A++B} b).1;have q2:=(e2 {m.s with out:=A++B} b).2;generalize ph {m.s with out:=A++B} j.who (toldW m w b)=x at q1 q2⊢;omega
theorem dec_stN {work m} (h:MGE work m):∀ k,Dec m (stN m k).1 (stN m k).2
 |0=>Dec.same fun _=>rfl
 |k+1=>(dec_stN h k).trans (dec_step (h.stN k).ok k)
theorem dec_round {work m} (h:MGE work m) (n:Nat) (b:Bool):Dec m (roundM m n b).1 (roundM m n b).2:=by
 have h1:=dec_stN h (min n 4);have h2:=dec_pump (stN m (min n 4)).1;have h3:=dec_fin ((h.stN (min n 4)).pump).ok 0 b;have:=(h1.trans h2).trans h3;rw [Bool.or_false] at this;exact this
theorem stN_no {m:MS}:∀ {k:Nat},(stN m k).2=false->(∃ c,(stN m k).1={m with clk:=c}) /\ ∀ j,j<k->(stepM m j).2=false
 |0,_=>⟨⟨m.clk,rfl⟩,fun j hj=>absurd hj (Nat.not_lt_zero _)⟩
 |k+1,h=>by
  have h:((stN m k).2||(stepM (stN m k).1 k).2)=false:=h;rw [Bool.or_eq_false_iff] at h;obtain ⟨⟨c,e⟩,hj⟩:=stN_no h.1;have h2:=h.2;obtain ⟨c',e',_⟩:=stepM_no h2;rw [e] at h2 e';refine ⟨⟨c',?_⟩,fun j hjk=>?_⟩
  ·show (stepM (stN m k).1 k).1=_;rw [e,e']
  ·by_cases q:j=k
   ·rw [q,<-stepM_2 m c];exact h2
   ·exact hj j (by omega)
theorem round_2 (m:MS) (n:Nat) (b:Bool):(roundM m n b).2=((stN m (min n 4)).2||(finM (pumpM (stN m (min n 4)).1) 0 b).2):=rfl
theorem round_does {work m} (h:MGE work m) {n:Nat} (hn:m.ws.length<=n) (b:Bool) (hx:m.s.next+4<2147483647):(roundM m n b).2=true↔∃ k,k<m.ws.length/\0<lfV m k:=by
 have o:=h.ok;have n4:=o.n4;rw [<-goes o,round_2]
 constructor
 ·intro hd
  cases hs:(stN m (min n 4)).2 with
  |true=>
   refine Classical.byContradiction fun hz=>?_
   have key:∀ k,k<=min n 4->(stN m k).2=false:=fun k=>by
    induction k with
    |zero=>exact fun _=>rfl
    |succ k ih=>
     intro hk;have i1:=ih (by omega);obtain ⟨⟨c,e⟩,_⟩:=stN_no i1;show ((stN m k).2||(stepM (stN m k).1 k).2)=false;rw [i1,e,Bool.false_or,stepM_2]
     cases q:(stepM m k).2 with
     |false=>rfl
     |true=>
      by_cases hkl:k<m.ws.length
      ·exact absurd ⟨k,hkl,.inl q⟩ hz
      ·rw [stepM,if_neg (by omega),Int.toNat_natCast,List.getElem?_eq_none (by omega)] at q;cases q
   rw [key _ (Nat.le_refl _)] at hs;cases hs
  |false=>
   rw [hs,Bool.false_or] at hd;obtain ⟨⟨c,e⟩,_⟩:=stN_no hs;rw [e] at hd;rw [finM] at hd
   split at hd
   ·cases hd
   ·rename_i hi;have hp:=pumpG_ok 5 o.su
    have hlen:0<(pumpS m.s).out.length:=by
     have hi2:¬((0:Int)<0\/ ((pumpS m.s).out.length:Int) <=0):=hi;omega
    obtain ⟨f,hf⟩:=List.exists_mem_of_length_pos hlen;have hwj:WJ (pumpS m.s) f.who f.pg:=.inr ⟨f,hf,rfl,rfl⟩;have hwj2:=(hp.wj _ _).1 hwj
    have hwho:f.who<m.ws.length:=by
     have:=(hp.su.lt f hf).2.1
     rw [hp.len,o.sj] at this;exact this
    have:=((o.w _ _ (List.getElem?_eq_getElem hwho)).job _).1 hwj2;exact ⟨f.who,hwho,.inr (by rw [stV_at (List.getElem?_eq_getElem hwho),this.1];rfl)⟩
 ·rintro ⟨k,hk,hg⟩
  cases hs:(stN m (min n 4)).2 with
  |true=>rfl
  |false=>
   rw [Bool.false_or];obtain ⟨⟨c,e⟩,hj⟩:=stN_no hs
   rcases hg with hg|hg
   ·rw [hj k (by omega)] at hg;cases hg
   ·rw [e]
    have hw:∃ w,m.ws[k]?=some w/\w.st=4:=by
     rw [stV] at hg
     cases q:m.ws[k]? with
     |none=>rw [q] at hg;exact absurd (show (0:Int)=4 from hg) (by decide)
     |some w=>rw [q] at hg;exact ⟨w,rfl,by have hg:(w.st:Int)=4:=hg;omega⟩
    obtain ⟨w,hw1,hw2⟩:=hw;have hwj:WJ m.s k w.op.2.1:=((o.w k w hw1).job _).2 ⟨hw2,rfl⟩;have hp:=pumpG_ok 5 o.su;have hwj2:WJ (pumpS m.s) k w.op.2.1:=(hp.wj _ _).2 hwj;have hall:=pumpS_all o.su hx k (by rw [o.sj];exact hk)
    rcases hwj2 with hq|⟨f,hf,_⟩
    ·rw [hall] at hq;cases hq
    ·have hlen:0<(pumpS m.s).out.length:=List.length_pos_of_mem hf
     rw [finM,if_neg (by
      show ¬((0:Int)<0\/ ((pumpS m.s).out.length:Int) <=0)
      omega)]
     split
     ·rfl
     ·split
      ·rfl
      ·split<;>rfl
theorem phi_pos {m:MS} (o:MOk m) (k:Nat):0<phi m k↔0<lfV m k:=by
 rw [phi,lfV]
 cases h:m.ws[k]? with
 |none=>exact ⟨fun q=>absurd q (Nat.lt_irrefl _),fun q=>absurd (show (0:Int)<0 from q) (by decide)⟩
 |some w=>
  have v:=o.w k w h;have hp:=(ph_le v o.su).1;have he:=v.en;show 0<9*(w.todo.length-w.ended)-ph m.s k w↔0<(w.todo.length:Int)-w.ended
  by_cases hs:w.st=0
  ·have:ph m.s k w=0:=by simp [ph,hs]
   omega
  ·have:=v.bu hs;omega
theorem Phi_pos {m:MS} (o:MOk m):0<Phi m↔∃ k,k<m.ws.length/\0<lfV m k:=by
 constructor
 ·intro h;unfold Phi at h
  have:0<phi m 0\/0<phi m 1\/0<phi m 2\/0<phi m 3:=by omega
  have key:∀ k,0<phi m k->∃ k,k<m.ws.length/\0<lfV m k:=fun k hk=>by
   refine ⟨k,?_,(phi_pos o k).1 hk⟩
   refine Classical.byContradiction fun hn=>?_
   rw [phi_no (by omega)] at hk;exact absurd hk (Nat.lt_irrefl _)
  rcases this with h|h|h|h
  ·exact key _ h
  ·exact key _ h
  ·exact key _ h
  ·exact key _ h
 ·rintro ⟨k,hk,h⟩;have h1:=(phi_pos o k).2 h;have:=o.n4
  have:k=0\/k=1\/k=2\/k=3:=by omega
  unfold Phi
  rcases this with rfl|rfl|rfl|rfl<;>omega
theorem nx_step (m:MS) (k:Int):(stepM m k).1.s.next=m.s.next:=by
 rw [stepM];repeat' split
 ·rfl
 ·rfl
 ·unfold stepW;repeat' split
  all_goals rfl
theorem nx_stN (m:MS):∀ k,(stN m k).1.s.next=m.s.next
 |0=>rfl
 |k+1=>(nx_step _ _).trans (nx_stN m k)
theorem nx_pump {m:MS} (o:MOk m):(pumpM m).s.next<=m.s.next+4:=by
 have h:=pumpG_ok 5 o.su;have:=h.nx;have:=h.su.fl;show (pumpG 5 m.s).next<=_;omega
theorem nx_fin (m:MS) (i:Int) (b:Bool):(finM m i b).1.s.next<=m.s.next+1:=by
 have key:∀ n,(doneS m.s n b).1.next<=m.s.next+1:=fun n=>by
  rw [doneS]
  split
  ·show m.s.next<=_;omega
  ·split
   ·show m.s.next+1<=_;omega
   ·show m.s.next<=_;omega
 have hk:=key i.toNat;rw [finM]
 split
 ·show m.s.next<=_;omega
 split
 ·rename_i s e;rw [e] at hk;exact hk
 ·rename_i s k bad e;rw [e] at hk
  split
  ·exact hk
  ·split<;>exact hk
theorem nx_do {m:MS} (o:MOk m) (a:Int×Int):(doMS m a).1.s.next<=m.s.next+4:=by
 rw [doMS];repeat' split
 ·exact nx_pump o
 ·have:=nx_fin m a.2 (decide (a.1=8));omega
 ·show m.s.next<=_;omega
 ·rw [nx_step];omega
 ·rw [nx_step];omega
theorem nx_run {work}:∀ (l:List (Int×Int)) {m:MS},MGE work m->(runMS m l).s.next<=m.s.next+4*l.length
 | [],m,_=>by show m.s.next<=_;omega
 |a::l,m,h=>by
  have h1:=nx_do h.ok a;have h2:=nx_run l (h.do_ a);show (runMS (doMS m a).1 l).s.next<=_
  rw [List.length_cons];omega
theorem nx_round {work m} (h:MGE work m) (n:Nat) (b:Bool):(roundM m n b).1.s.next<=m.s.next+5:=by
 have h1:=nx_stN m (min n 4);have h2:=nx_pump (h.stN (min n 4)).ok;have h3:=nx_fin (pumpM (stN m (min n 4)).1) 0 b;show (finM (pumpM (stN m (min n 4)).1) 0 b).1.s.next<=_;omega
theorem nx_rnds {work m} (h:MGE work m) (n:Nat) (fs:List Bool):∀ i,(rnds m n fs i).s.next<=m.s.next+5*i
 |0=>by show m.s.next<=_;omega
 |i+1=>by
  have h1:=nx_rnds h n fs i;have h2:=nx_round (h.rnds n fs i) n (fbN fs i);show (roundM (rnds m n fs i) n (fbN fs i)).1.s.next<=_;omega
theorem ws_len {work m} (h:MGE work m):m.ws.length=work.length:=by
 obtain ⟨t,_,_,g⟩:=h.ex;rw [<-g.td,List.length_map]
theorem Phi_rnds {work m} (h:MGE work m) {n:Nat} (hn:work.length<=n) (fs:List Bool):∀ i,m.s.next+5*i<=2147483600->Phi (rnds m n fs i) <=Phi m-i
 |0,_=>by show Phi m<=_;omega
 |i+1,hb=>by
  have ih:=Phi_rnds h hn fs i (by omega);have hM:=h.rnds n fs i;have hx:=nx_rnds h n fs i;have hl:=ws_len hM;have hD:=(dec_round hM n (fbN fs i)).Phi;have hr:=round_does hM (n:=n) (by omega) (fbN fs i) (by omega);rw [<-Phi_pos hM.ok] at hr;show Phi (roundM (rnds m n fs i) n (fbN fs i)).1<=_
  by_cases hz:0<Phi (rnds m n fs i)
  ·have:=hD.2 (hr.2 hz);omega
  ·omega
theorem Phi_new {n:Nat} {pages:List Pg} {work:List (List MOp)} (k:Nat):phi (begM n pages work) k=9*((work[k]?).getD []).length:=by
 rw [phi];show (match (work.map newWA)[k]? with|none=>0|some w=>9*(w.todo.length-w.ended)-ph (begM n pages work).s k w)=_;rw [List.getElem?_map]
 cases h:work[k]? with
 |none=>rfl
 |some l=>rfl
theorem rnds_end {work m} (h:MGE work m) {n:Nat} (hn:work.length<=n) (fs:List Bool) {i:Nat} (hi:Phi m<=i) (hb:m.s.next+5*i<=2147483600) (k:Nat):lfV (rnds m n fs i) k=0:=by
 have h1:=Phi_rnds h hn fs i hb;have hM:=h.rnds n fs i
 have h2:¬0<Phi (rnds m n fs i):=by omega
 rw [Phi_pos hM.ok] at h2
 by_cases hk:k<(rnds m n fs i).ws.length
 ·have h3:¬0<lfV (rnds m n fs i) k:=fun q=>h2 ⟨k,hk,q⟩
  have:=(hM.ok.w k _ (List.getElem?_eq_getElem hk)).en;rw [lfV_at (List.getElem?_eq_getElem hk)] at h3⊢;omega
 ·exact lfV_no (by omega)
theorem HI.pump {P0 n work m} (h:HI P0 n work m):HI P0 n work (pumpM m):=by
 have t:Tr m (pumpM m):=.same m.h m.lat _ m.clk (.inl rfl);exact ⟨h.g.pump,h.pg.tr t,h.tg.tr t,h.og.tr t⟩
theorem HI.fin {P0 n work m} (h:HI P0 n work m) (i:Int) (b:Bool):HI P0 n work (finM m i b).1:=by
 have t:=tr_fin h.g.ok i b;exact ⟨h.g.fin i b,h.pg.tr t,h.tg.tr t,h.og.tr t⟩
theorem HI.stN {P0 n work m} (h:HI P0 n work m):∀ k,HI P0 n work (stN m k).1
 |0=>h
 |k+1=>(HI.stN h k).step k
theorem HI.round {P0 n work m} (h:HI P0 n work m) (q:Nat) (b:Bool):HI P0 n work (roundM m q b).1:=((h.stN _).pump).fin _ _
theorem HI.rnds {P0 n work m} (h:HI P0 n work m) (q:Nat) (fs:List Bool):∀ i,HI P0 n work (rnds m q fs i)
 |0=>h
 |i+1=>(HI.rnds h q fs i).round q _
structure NF (m:MS):Prop where
 w:∀ (k:Nat) (w:WA),m.ws[k]?=some w->w.st=6->w.res.1≠8
 e:∀ e∈m.ev,e.res.1≠8
theorem NF.upd {m m':MS} (h:NF m) {k:Nat} {w':WA} (hws:m'.ws=m.ws.set k w') (h6:w'.st=6->w'.res.1≠8) (hev:∀ e∈m'.ev,e.res.1≠8):NF m':=
 ⟨fun j v hv=>by
  rw [hws] at hv
  rcases set_some hv with ⟨_,rfl⟩|⟨_,hv⟩
  ·exact h6
  ·exact h.w j v hv,hev⟩
theorem NF.keep {m m':MS} (h:NF m) (e1:m'.ws=m.ws) (e3:m'.ev=m.ev):NF m':=
 ⟨by rw [e1];exact h.w,by rw [e3];exact h.e⟩
theorem NF.step {P0:Nat->Pg} {n:Nat} {m:MS} (o:MOk m) (g:OG P0 n m) (h:NF m) (k:Int):NF (stepM m k).1:=by
 rw [stepM]
 split
 ·exact h
 split
 ·exact h
 ·rename_i w hk;have v:=o.w _ w hk;have no:NF {m with clk:=m.clk+1}:=h.keep rfl rfl;unfold stepW
  split
  ·split
   ·exact no
   ·exact h.upd rfl (by simp) h.e
  ·split
   ·exact no
   split
   ·exact h.upd rfl (fun _=>(by decide:(1:Int)≠8)) h.e
   ·exact h.upd rfl (by simp) h.e
  ·split
   ·exact no
   ·exact h.upd rfl (by simp) h.e
  ·split
   ·exact no
   split
   ·exact h.upd rfl (by simp) h.e
   ·exact h.upd rfl (by simp) h.e
  ·rename_i hs;obtain ⟨G,P,_,hP,_⟩:=g.ex;have hr:=v.val (v.ask (by omega) (by omega));have h1:=(work9 hP g.n1 w.op hr).1;have h8:=mdocX_8 P w.op;rw [mdocX,if_neg (by rw [hr];decide),<-h1] at h8;exact h.upd rfl (fun _=>h8) h.e
  ·rename_i hs
   refine h.upd rfl (by simp) fun x hx=>?_
   rcases List.mem_append.1 hx with hx|hx
   ·exact h.e x hx
   ·rw [List.mem_singleton.1 hx];exact h.w _ w hk hs
  ·exact no
theorem NF.fin {m:MS} (h:NF m) (i:Int):NF (finM m i false).1:=by
 rw [finM]
 split
 ·exact h
 split
 ·exact h.keep rfl rfl
 ·rename_i s k bad hd
  have hb:bad=false:=by
   rw [doneS] at hd
   split at hd
   ·cases hd
   ·split at hd
    ·cases hd
    ·cases hd;rfl
  subst hb
  split
  ·exact h.keep rfl rfl
  ·rename_i w hk
   split
   ·exact h.keep rfl rfl
   ·exact h.upd rfl (by simp [toldW]) h.e
theorem NF.stN {P0:Nat->Pg} {n:Nat} {work m} (hI:HI P0 n work m) (h:NF m):∀ k,NF (stN m k).1
 |0=>h
 |k+1=>(NF.stN hI h k).step (hI.stN k).g.ok (hI.stN k).og k
theorem NF.round {P0:Nat->Pg} {n:Nat} {work m} (hI:HI P0 n work m) (h:NF m) (q:Nat):NF (roundM m q false).1:=by
 have h2:NF (pumpM (Go.Lk.stN m (min q 4)).1):=(h.stN hI _).keep rfl rfl;have h3:=h2.fin 0
 rw [roundM];exact h3
theorem NF.rnds {P0:Nat->Pg} {n:Nat} {work m} (hI:HI P0 n work m) (h:NF m) (q:Nat):∀ i,NF (rnds m q [] i)
 |0=>h
 |i+1=>(NF.rnds hI h q i).round (hI.rnds q [] i) q
theorem NF.new {n:Nat} {pages:List Pg} {work:List (List MOp)}:NF (begM n pages work):=by
 refine ⟨fun k w hk hs=>?_,fun e he=>by cases he⟩;have hk:(work.map newWA)[k]?=some w:=hk;rw [List.getElem?_map] at hk;obtain ⟨l,_,rfl⟩:=Option.map_eq_some_iff.1 hk
 cases hs
theorem play_mem:∀ {G:List Rc} {P P':Nat->Pg},PlayOk P G P'->∀ r∈G,∃ Q,(mdocX Q r.op).2=r.res
 | [],_,_,_,r,hr=>by cases hr
 |x::G,P,P',h,r,hr=>by
  rcases List.mem_cons.1 hr with rfl|hr
  ·exact ⟨P,h.1⟩
  ·exact play_mem h.2 r hr
theorem mdocX_in (P:Nat->Pg) (o:MOp):(mdocX P o).2.1≠6/\ (mdocX P o).2.1≠9/\ (mdocX P o).2.1≠12:=by
 rw [mdocX]
 split
 ·exact (by decide:(1:Int)≠6/\ (1:Int)≠9/\ (1:Int)≠12)
 rw [mdoc];repeat' split
 all_goals first|exact (by decide:(4:Int)≠6/\ (4:Int)≠9/\ (4:Int)≠12)|exact (by decide:(0:Int)≠6/\ (0:Int)≠9/\ (0:Int)≠12)|exact (by decide:(3:Int)≠6/\ (3:Int)≠9/\ (3:Int)≠12)|exact (by decide:(5:Int)≠6/\ (5:Int)≠9/\ (5:Int)≠12)|exact (by decide:(7:Int)≠6/\ (7:Int)≠9/\ (7:Int)≠12)
theorem well_ev {P0:Nat->Pg} {n:Nat} {work m} (hI:HI P0 n work m) (h:NF m):∀ e∈m.ev,e.res.1≠8/\e.res.1≠6/\e.res.1≠12/\e.res.1≠9/\0<=e.began/\e.began<e.ended/\e.ended<m.clk:=fun e he=>by
 have h8:=h.e e he;obtain ⟨G,P,g1,_,_,_,g5⟩:=hI.og.ex;have hm:evR e∈(allR m).filter goodR:=List.mem_filter.2 ⟨List.mem_append.2 (.inl (List.mem_map_of_mem he)),by simp [goodR,evR,h8]⟩;obtain ⟨Q,hQ⟩:=play_mem g1 _ (g5.mem_iff.1 hm);have hQ:(mdocX Q e.op).2=e.res:=hQ;have hc:=mdocX_in Q e.op;rw [hQ] at hc;have ht:=hI.tg.ev e he;exact ⟨h8,hc.1,hc.2.2,hc.2.1,ht.2.1,by omega,ht.2.2.2.2⟩
theorem rnds_add (m:MS) (n:Nat) (a:Nat):∀ b,rnds (rnds m n [] a) n [] b=rnds m n [] (a+b)
 |0=>rfl
 |b+1=>by
  show (roundM (rnds (rnds m n [] a) n [] b) n false).1=(roundM (rnds m n [] (a+b)) n false).1;rw [rnds_add m n a b]
theorem step_clk1 (m:MS) {k:Nat} (hk:k<m.ws.length):(stepM m k).1.clk=m.clk+1:=by
 rw [stepM,if_neg (by omega),Int.toNat_natCast,List.getElem?_eq_getElem hk];show (stepW {m with clk:=m.clk+1} k m.ws[k] m.clk).1.clk=_
 unfold stepW;repeat' split
 all_goals rfl
theorem stN_ws {work m} (h:MGE work m) (k:Nat):(stN m k).1.ws.length=work.length:=ws_len (h.stN k)
theorem stN_clk1 {work m} (h:MGE work m):∀ k,k<=work.length->(stN m k).1.clk=m.clk+k
 |0,_=>by show m.clk=m.clk+0;omega
 |k+1,hk=>by
  have ih:=stN_clk1 h k (by omega);show (stepM (stN m k).1 k).1.clk=_
  rw [step_clk1 _ (by rw [stN_ws h];omega),ih];omega
theorem round_clk1 {work m} (h:MGE work m) (b:Bool):(roundM m work.length b).1.clk=m.clk+work.length:=by
 have n4:=h.ok.n4;have hl:=ws_len h;have e:(roundM m work.length b).1.clk=(stN m (min work.length 4)).1.clk:=finM_clk _ _ _;rw [e,show min work.length 4=work.length by omega,stN_clk1 h _ (Nat.le_refl _)]
theorem rnds_clk1 {work m} (h:MGE work m) (fs:List Bool):∀ i:Nat,(rnds m work.length fs i).clk=m.clk+i*work.length
 |0=>by show m.clk=m.clk+0*_;omega
 |i+1=>by
  have ih:=rnds_clk1 h fs i;have hr:=round_clk1 (h.rnds work.length fs i) (fbN fs i);show (roundM (rnds m work.length fs i) work.length (fbN fs i)).1.clk=_;rw [hr,ih]
  have:((i+1:Nat):Int)*(work.length:Int)=(i:Int)*work.length+work.length:=by
   rw [Int.natCast_add,Int.add_mul];simp
  omega
theorem left_end {work m} (h:MGE work m) (fs:List Bool) {i:Nat} (hi:Phi m<=i) (hb:m.s.next+5*i<=2147483600):leftB (rnds m work.length fs i) work.length=false:=
 leftB_f.2 fun k hk=>by rw [rnds_end h (Nat.le_refl _) fs hi hb k];decide
theorem RunN.le_phi {work m} (h:MGE work m) {fs:List Bool} {most N:Nat} (r:RunN m work.length fs most N) (hb:m.s.next+5*Phi m<=2147483600):N<=Phi m:=by
 refine Classical.byContradiction fun hn=>?_
 have:=r.all (Phi m) (by omega);rw [left_end h fs (Nat.le_refl _) hb] at this
 cases this
theorem RunN.stops {work m} (h:MGE work m) {fs:List Bool} {most N:Nat} (r:RunN m work.length fs most N) (hm:Phi m<=most) (hb:m.s.next+5*Phi m<=2147483600):leftB (rnds m work.length fs N) work.length=false:=by
 rcases r.stop with e|e
 ·have:=r.le_phi h hb;rw [show N=Phi m by omega];exact left_end h fs (Nat.le_refl _) hb
 ·exact e
theorem RunN.uniq {m:MS} {n:Nat} {fs:List Bool} {most N N':Nat} (r:RunN m n fs most N) (he:leftB (rnds m n fs N) n=false) (h1:∀ i,i<N'->leftB (rnds m n fs i) n=true) (h2:leftB (rnds m n fs N') n=false):N=N':=by
 rcases Nat.lt_trichotomy N N' with h|h|h
 ·rw [h1 N h] at he;cases he
 ·exact h
 ·have:=r.all N' h
  rw [h2] at this;cases this
theorem Phi_rnds_le {work m} (h:MGE work m) (n:Nat) (fs:List Bool):∀ i,Phi (rnds m n fs i) <=Phi m
 |0=>Nat.le_refl _
 |i+1=>Nat.le_trans ((dec_round (h.rnds n fs i) n (fbN fs i)).Phi).1 (Phi_rnds_le h n fs i)
theorem run_parts {work m} (h:MGE work m) {first all a b:Nat} (hP:Phi m<=1000) (hx:m.s.next=0) (hf:first<=1000) (r:RunN m work.length [] 1000 all) (ra:RunN m work.length [] first a) (rb:RunN (rnds m work.length [] a) work.length [] 1000 b):all=a+b:=by
 have e:=r.stops h hP (by omega);have hb:=nx_rnds h work.length [] a;have hal:=ra.le;have hPa:=Phi_rnds_le h work.length [] a;have eb:=rb.stops (h.rnds work.length [] a) (by omega) (by omega);rw [rnds_add] at eb;refine r.uniq e (fun i hi=>?_) eb
 by_cases hia:i<a
 ·exact ra.all i hia
 ·have:=rb.all (i-a) (by omega);rw [rnds_add,show a+(i-a)=i by omega] at this;exact this
theorem Phi_beg (n:Nat) (pages:List Pg) (work:List (List MOp)) (h20:∀ l∈work,l.length<=20):Phi (begM n pages work) <=720:=by
 have key:∀ k:Nat,((work[k]?).getD []).length<=20:=fun k=>by
  cases h:work[k]? with
  |none=>exact Nat.zero_le _
  |some l=>exact h20 l (List.mem_of_getElem? h)
 have:=key 0;have:=key 1;have:=key 2;have:=key 3;rw [Phi,Phi_new,Phi_new,Phi_new,Phi_new];omega
def sumL (work:List (List MOp)):Nat:=(work.map List.length).sum
theorem Phi_sum (n:Nat) (pages:List Pg) (work:List (List MOp)) (h4:work.length<=4):Phi (begM n pages work)=9*sumL work:=by
 rw [Phi,Phi_new,Phi_new,Phi_new,Phi_new,sumL]
 match work,h4 with
 | [],_=>rfl
 | [a],_=>simp
 | [a,b],_=>simp;omega
 | [a,b,c],_=>simp;omega
 | [a,b,c,d],_=>simp;omega
theorem pump_idle {s:SA} (h:∀ j∈s.jobs,j=none):pumpS s=s:=by
 have e:nextL s=none:=lane_none h _ _;rw [pumpS,pumpG]
 split
 ·rw [e]
 ·rfl
theorem fin_idle {m:MS} (h:m.s.out=[]) (i:Int) (b:Bool):finM m i b=(m,false):=by
 rw [finM,if_pos]
 rw [h];simp;omega
theorem left_zero {work m} (h:MGE work m) (hl:leftB m work.length=false):∀ k,lfV m k=0:=fun k=>by
 have n4:=h.ok.n4;have hwl:=ws_len h
 by_cases hk:k<work.length
 ·have h1:=leftB_f.1 hl k (by omega);have hw:m.ws[k]?=some (m.ws[k]'(by omega)):=List.getElem?_eq_getElem (by omega);have hen:=(h.ok.w k _ hw).en;rw [lfV,hw] at h1⊢;simp only [] at h1⊢;omega
 ·exact lfV_no (by omega)
theorem st_zero {work m} (h:MGE work m) (hl:∀ k,lfV m k=0):∀ (k:Nat) (w:WA),m.ws[k]?=some w->w.st=0/\w.ended=w.todo.length:=fun k w hw=>by
 have v:=h.ok.w k w hw;have h1:=hl k;rw [lfV,hw] at h1;simp only [] at h1;refine ⟨Classical.byContradiction fun hs=>?_,by omega⟩;have:=v.bu hs;omega
theorem stV_zero {work m} (h:MGE work m) (hl:∀ k,lfV m k=0) (k:Nat):stV m k=0:=by
 rw [stV]
 cases e:m.ws[k]? with
 |none=>rfl
 |some w=>have:=(st_zero h hl k w e).1;simp [this]
theorem out_zero {work m} (h:MGE work m) (hl:∀ k,lfV m k=0):m.s.out=[]:=by
 have o:=h.ok
 refine List.eq_nil_iff_forall_not_mem.2 fun f hf=>?_
 have hlt:=(o.su.lt f hf).2.1;rw [o.sj] at hlt;have hw:=List.getElem?_eq_getElem hlt;have:=((o.w _ _ hw).job f.pg).1 (.inr ⟨f,hf,rfl,rfl⟩);have:=(st_zero h hl _ _ hw).1;omega
theorem hall_zero {work m} (h:MGE work m) (hl:∀ k,lfV m k=0):m.h.cl=[] /\m.h.q=[]:=by
 have o:=h.ok
 have:m.h.all=[]:=by
  refine List.eq_nil_iff_forall_not_mem.2 fun k hk=>?_
  have hw:=List.getElem?_eq_getElem (o.hw k hk);exact ((o.w _ _ hw).hal.1 hk) (st_zero h hl _ _ hw).1
 rw [HA.all,List.append_eq_nil_iff,List.map_eq_nil_iff] at this;exact this
theorem dec_do {work m} (h:MGE work m) (a:Int×Int):Phi (doMS m a).1<=Phi m:=by
 rw [doMS];repeat' split
 ·exact (dec_pump m).Phi.1
 ·exact (dec_fin h.ok _ _).Phi.1
 ·have e:∀ k,phi (ageM m a.2) k=phi m k:=fun k=>rfl
  show Phi (ageM m a.2) <=_;unfold Phi;rw [e,e,e,e];exact Nat.le_refl _
 ·exact (dec_step h.ok _).Phi.1
 ·exact (dec_step h.ok _).Phi.1
theorem dec_run {work}:∀ (l:List (Int×Int)) {m:MS},MGE work m->Phi (runMS m l) <=Phi m
 | [],m,_=>Nat.le_refl _
 |a::l,m,h=>Nat.le_trans (dec_run l (h.do_ a)) (dec_do h a)
theorem sum_succ {work:List (List MOp)} {k:Nat} (hk:k<work.length):sumL (work.take (k+1))=sumL (work.take k)+work[k].length:=by
 rw [sumL,take_snoc hk,List.map_append,List.sum_append];simp [sumL]
theorem sum_bd {B:Nat}:∀ {work:List (List MOp)},(∀ l∈work,l.length<=B)->sumL work<=B*work.length
 | [],_=>Nat.zero_le _
 |x::r,h=>by
  have h1:=h x (.head _)
  have h2:=sum_bd (work:=r) fun l hl=>h l (.tail _ hl)
  have e:sumL (x::r)=x.length+sumL r:=by simp [sumL]
  rw [e,List.length_cons,Nat.mul_add];omega
theorem sum_tk {B k:Nat} {work:List (List MOp)} (h:∀ l∈work,l.length<=B):sumL (work.take k) <=B*k:=by
 have h1:=sum_bd (work:=work.take k) fun l hl=>h l (List.mem_of_mem_take hl)
 have h2:(work.take k).length<=k:=by rw [List.length_take];omega
 exact Nat.le_trans h1 (Nat.mul_le_mul_left _ h2)
def bdN (work:List (List MOp)):Int:=((10*sumL work+1:Nat):Int)
set_option maxHeartbeats 4000000 in
theorem bound30_ok (work:List (List MOp)) (h40:work.length<=40) (h100:∀ l∈work,l.length<=100):ACall Tryz.prog 30 [.lst (work.map encTd)] (.int .i64 (bdN work)):=by
 have hm:(work.map encTd).length=work.length:=List.length_map ..
 refine acall_of Tryz.func30 1 rfl (by kernel_rfl) (aP ?_);refine aloop (ι:=Nat) (fun k=>[(3,.d (.int .i64 (sumL (work.take k)))),(6,.d (.lst (work.map encTd))),(7,.d (.int .i64 (work.map encTd).length)),(8,.d (.int .i64 k))]) (fun _=>[])
  (fun k=>k<=work.length) (fun k=>work.length-k) 0 (Nat.zero_le _) (le0 (le_of_cov ⟨rfl,rfl,rfl,rfl,trivial⟩ trivial ⟨rfl,rfl,rfl,rfl⟩)) ?_
 intro k hk;have hb:=sum_tk (k:=k) h100
 conv=>whnf
 refine bcase_p (fun h5=>?_) (fun h5=>?_)<;>conv=>whnf
 ·have hk2:k<work.length:=by omega
  have hml:(work[k].map encMO).length=work[k].length:=List.length_map ..
  have h1:=h100 _ (List.getElem_mem hk2);have es:=sum_succ hk2;refine idxK_nat (by omega) (w0 ?_);refine getRow_of (x:=encTd work[k]) (by simp [hk2]) (aW ?_);refine aP ?_;rw [show ((sumL (work.take k):Nat):Int)+(((work[k].map encMO).length:Nat):Int)=((sumL (work.take (k+1)):Nat):Int) by omega];exact ⟨k+1,by omega,by omega,(le0 (le_of_cov ⟨rfl,rfl,rfl,rfl,trivial⟩ trivial ⟨rfl,rfl,rfl,rfl⟩))⟩
 ·have hkl:k=work.length:=by omega
  subst hkl;rw [List.take_length] at hb⊢;refine aP ?_;exact ret_of rfl (by rw [bdN];congr 2)
def lenI (l:List MOp):Int:=l.length
set_option maxHeartbeats 4000000 in
theorem bound40_ok (work:List (List MOp)) (h40:work.length<=40) (h100:∀ l∈work,l.length<=100):ACall Tryz.prog 40 [.lst ((work.map lenI).map encKp)] (.int .i64 (bdN work)):=by
 have hm:((work.map lenI).map encKp).length=work.length:=by rw [List.length_map,List.length_map]
 refine acall_of Tryz.func40 1 rfl (by kernel_rfl) (aP ?_);refine aloop (ι:=Nat) (fun k=>[(0,.d (.lst ((work.map lenI).map encKp))),(3,.d (.int .i64 ((10*sumL (work.take k)+1:Nat):Int))),(4,.d (.int .i64 k))]) (fun _=>[])
  (fun k=>k<=work.length) (fun k=>work.length-k) 0 (Nat.zero_le _) (le0 (le_of_cov ⟨rfl,rfl,rfl,trivial⟩ trivial ⟨rfl,rfl,rfl,rfl⟩)) ?_
 intro k hk;have hb:=sum_tk (k:=k) h100
 conv=>whnf
 refine bcase_p (fun h5=>?_) (fun h5=>?_)<;>conv=>whnf
 ·have hk2:k<work.length:=by omega
  have h1:=h100 _ (List.getElem_mem hk2);have es:=sum_succ hk2;have hli:lenI work[k]=(work[k].length:Int):=rfl;refine idxK_nat (by omega) (w0 ?_);refine getRow_of (x:=encKp (lenI work[k])) (by simp [hk2]) (aW ?_);refine aP ?_;rw [show ((10*sumL (work.take k)+1:Nat):Int)+10*lenI work[k]=((10*sumL (work.take (k+1))+1:Nat):Int) by rw [lenI];omega];exact ⟨k+1,by omega,by omega,(le0 (le_of_cov ⟨rfl,rfl,rfl,trivial⟩ trivial ⟨rfl,rfl,rfl,rfl⟩))⟩
 ·have hkl:k=work.length:=by omega
  subst hkl;rw [List.take_length] at hb⊢;refine aP ?_;exact ret_of rfl rfl
theorem rnd_mA {m m':MS} {p w h l c ev} (hs:(stepM m 0).1=m') (e:m'=mA p w h l c ev):(roundM m 1 false).1=m':=by
 have e1:(stN m (min 1 4)).1=m':=hs
 have e2:pumpM m'=m':=by
  have e3:pumpS m'.s=m'.s:=pump_idle (by rw [e];intro j hj;simpa [mA] using hj);rw [pumpM,e3]
 rw [roundM,e1,e2,fin_idle (by rw [e];rfl)]
noncomputable def avk:Nat->MS:=rnds (newMS (p0 1) 1 wkA) 1 []
theorem avk_s {i:Nat} {m':MS} {p w h l c ev} (hs:(stepM (avk i) 0).1=m') (e:m'=mA p w h l c ev):avk (i+1)=m':=rnd_mA hs e
theorem avk0:avk 0=mA (p0 1) (newWA [oA]) ⟨1,[],[]⟩ noLA 0 []:=aw0 _
theorem avk1:avk 1=mA (p0 1) ⟨[oA],0,1,false,false,0,0,(0,zP)⟩ ⟨1,[(0,false)],[]⟩ noLA 1 []:=avk_s (by rw [avk0,aw1]) rfl
theorem avk2:avk 2=mA (p0 1) ⟨[oA],0,2,true,false,0,0,(0,zP)⟩ ⟨1,[(0,false)],[]⟩ ⟨[0],true,[]⟩ 2 []:=avk_s (by rw [avk1,aw2]) rfl
theorem avk3:avk 3=mA (p0 1) ⟨[oA],0,3,true,false,0,0,(0,zP)⟩ ⟨1,[(0,false)],[]⟩ ⟨[0],true,[]⟩ 3 []:=avk_s (by rw [avk2,aw3]) rfl
theorem avk4:avk 4=mA (p0 1) ⟨[oA],0,5,true,true,0,0,(0,zP)⟩ ⟨1,[(0,true)],[]⟩ ⟨[0],true,[]⟩ 4 []:=avk_s (by rw [avk3,aw4]) rfl
theorem avk5:avk 5=mA (workP (p0 1) oA).1 ⟨[oA],0,6,true,true,0,4,(workP (p0 1) oA).2⟩ ⟨1,[(0,true)],[]⟩ ⟨[0],true,[]⟩ 5 []:=avk_s (by rw [avk4,aw5]) rfl
theorem avk6:avk 6=mA (workP (p0 1) oA).1 ⟨[oA],1,0,false,false,0,0,(0,zP)⟩ ⟨1,[],[]⟩ noLA 6 [⟨0,oA,(workP (p0 1) oA).2,0,4,5⟩]:=avk_s (by rw [avk5,aw6]) rfl
theorem lfA {m:MS} {p h l c ev} {w:WA} (e:m=mA p w h l c ev) (hw:0<(w.todo.length:Int)-w.ended):leftB m 1=true:=leftB_t.2 ⟨0,by decide,by rw [e];exact hw⟩
theorem avk_run:RunN (newMS (p0 1) 1 wkA) 1 [] 50 6:=by
 refine ⟨by decide,fun i hi=>?_,.inr ?_⟩
 ·show leftB (avk i) 1=true
  match i,hi with
  |0,_=>exact lfA avk0 (by decide)
  |1,_=>exact lfA avk1 (by decide)
  |2,_=>exact lfA avk2 (by decide)
  |3,_=>exact lfA avk3 (by decide)
  |4,_=>exact lfA avk4 (by decide)
  |5,_=>exact lfA avk5 (by decide)
  |i+6,h=>exact absurd h (by omega)
 ·show leftB (avk 6) 1=false
  refine leftB_f.2 fun k hk=>?_
  have:k=0:=by omega
  subst this;rw [avk6];exact (by decide:¬0<(0:Int))
theorem avk_no:(roundM (avk 6) 1 false).2=false:=by
 rw [roundM,avk6]
 have e1:stN (mA (workP (p0 1) oA).1 ⟨[oA],1,0,false,false,0,0,(0,zP)⟩ ⟨1,[],[]⟩ noLA 6 [⟨0,oA,(workP (p0 1) oA).2,0,4,5⟩]) (min 1 4)=(mA (workP (p0 1) oA).1 ⟨[oA],1,0,false,false,0,0,(0,zP)⟩ ⟨1,[],[]⟩ noLA 7 [⟨0,oA,(workP (p0 1) oA).2,0,4,5⟩],false):=by
  show ((stepM (mA _ _ _ _ _ _) ((0:Nat):Int)).1,(false||(stepM (mA _ _ _ _ _ _) ((0:Nat):Int)).2))=_
  rw [show ((0:Nat):Int)=0 from rfl,aw7];rfl
 rw [e1,pumpM,pump_idle (by intro j hj;simpa [mA] using hj),fin_idle rfl];rfl
def nm20:List (Nat×Nat):=[(1000000,2000136),(1000001,2000137),(1000004,2000138)]
set_option maxRecDepth 20000 in
set_option maxHeartbeats 16000000 in
theorem awake20_ok:ACall Tryz.prog 39 [] (.bool true):=by
 have hop:openM newDS 1=(p0 1,0):=open_rest new_rest z_new (by decide) (by decide);have hNew:=machNew_ok newDS 1 wkA (p0 1) hop new_rest.us (Nat.le_refl 1) (by decide) wkA_60;have hg:MGE wkA (newMS (p0 1) 1 wkA):=⟨0,Int.le_refl 0,by decide,awk_mg 0⟩
 have hW:∀ l∈wkA,l.length<=1000:=fun l h=>by have:=wkA_60 l h;omega
 have hrun:=run47_ok hg hW 1 (by decide) [] (by decide) 50 (by decide) 6 avk_run;have hg6:MGE wkA (avk 6):=hg.rnds 1 [] 6
 have hc6:(avk 6).clk=6:=by rw [avk6];rfl
 rw [show rnds (newMS (p0 1) 1 wkA) 1 [] 6=avk 6 from rfl] at hrun;have hrd:=hcall_ff (round105_ok hg6 hW (by omega) 1 (by decide) false);rw [avk_no] at hrd;have hh:=history_ok (avk 6) (by rw [avk6];exact (by decide:1<=1000000))
 have hev:((avk 6).ev.map encEvA).length=1:=by rw [avk6];rfl
 have hbd:=bound30_ok wkA (by decide) (fun l h=>by have:=wkA_60 l h;omega);rw [show bdN wkA=11 from rfl] at hbd;refine acall_of Tryz.func39 0 rfl (by kernel_rfl) (aP ?_);refine callX_pure dnew_ok (aW ?_);refine aP ?_;refine callX_ptr hNew (Nat.le_of_ble_eq_true rfl) (aP ?_);refine callH_blk (hcall_nil hrun) nm20 rfl ⟨rfl,rfl,rfl,trivial⟩ rfl (aP ?_);refine callH_blk hh nm20 rfl ⟨rfl,rfl,rfl,trivial⟩ rfl (w0 ?_);rw [hev];refine aP ?_;refine callX_pure hbd (aP ?_);refine callH_blk hrd nm20 rfl ⟨rfl,rfl,rfl,trivial⟩ rfl (aP ?_)
 first|exact ret_of rfl rfl|exact rfl
theorem sumI_take {work:List (List MOp)} {k:Nat} (hk:k<work.length):((work.take (k+1)).map lenI).map encKp=((work.take k).map lenI).map encKp++[encKp (lenI work[k])]:=by
 rw [take_snoc hk,List.map_append,List.map_append];rfl
set_option maxRecDepth 20000 in
set_option maxHeartbeats 16000000 in
theorem roundsBound_ok (work:List (List MOp)) (hl:work.length<=9223372036854775807) (hl2:∀ l∈work,l.length<=9223372036854775807):ACall Tryz.prog 7 [.lst (work.map encTd)] (.bool true):=by
 have hm:(work.map encTd).length=work.length:=List.length_map ..
 refine acall_of Tryz.func7 1 rfl (by kernel_rfl) (aP ?_)
 refine bcase_p (fun h1=>?_) (fun h1=>?_)<;>conv=>whnf
 ·refine aP ?_;refine callX_pure awake20_ok (aP ?_)
  first|exact ret_of rfl rfl|exact rfl
 refine aP ?_;refine aloop (ι:=Nat) (fun k=>[(0,.d (.lst (work.map encTd))),(3,.own 24),(10,.d (.lst (work.map encTd))),(11,.d (.int .i64 (work.map encTd).length)),(12,.d (.int .i64 k))])
  (fun k=>[(24,.row (((work.take k).map lenI).map encKp) 1 false)])
  (fun k=>k<=work.length/\ ∀ l∈work.take k,l.length<=100) (fun k=>work.length-k) 0 ⟨Nat.zero_le _,fun l h=>by simp at h⟩ (le1 (.row 3 24 1) ⟨rfl,rfl⟩ (le_of_cov ⟨rfl,rfl,rfl,rfl,rfl,trivial⟩ ⟨rfl,trivial⟩ ⟨rfl,rfl,rfl,rfl⟩)) ?_
 rintro k ⟨hk,hR⟩
 conv=>whnf
 refine bcase_p (fun h5=>?_) (fun h5=>?_)<;>conv=>whnf
 ·have hk2:k<work.length:=by omega
  have hml:(work[k].map encMO).length=work[k].length:=List.length_map ..
  have hlk:(((work.take k).map lenI).map encKp).length=k:=by rw [List.length_map,List.length_map,List.length_take];omega
  have h2:=hl2 _ (List.getElem_mem hk2);refine idxK_nat (by omega) (w0 ?_);refine getRow_of (x:=encTd work[k]) (by simp [hk2]) (aW ?_)
  refine bcase_p (fun h6=>?_) (fun h6=>?_)<;>conv=>whnf
  ·refine aP ?_;refine callX_pure awake20_ok (aP ?_)
   first|exact ret_of rfl rfl|exact rfl
  refine aP ?_;refine roomK_le 100 100 (by show (((work.take k).map lenI).map encKp).length+1<=100;omega) (by decide) (by decide) (by decide) (aP ?_);refine ⟨k+1,⟨by omega,fun l h=>?_⟩,by omega,?_⟩
  ·rw [take_snoc hk2] at h
   rcases List.mem_append.1 h with h|h
   ·exact hR l h
   ·simp at h;subst h;omega
  ·rw [sumI_take hk2,show lenI work[k]=(((work[k].map encMO).length:Nat):Int) by rw [lenI,hml]];exact (le0 (le_of_cov ⟨rfl,rfl,rfl,rfl,rfl,trivial⟩ ⟨rfl,trivial⟩ ⟨rfl,rfl,rfl,rfl⟩))
 ·have hkl:k=work.length:=by omega
  subst hkl;rw [List.take_length] at hR⊢;refine aP ?_;refine callX_pure (bound30_ok work (by omega) hR) (aP ?_);refine callX_pure (bound40_ok work (by omega) hR) (aP ?_);refine callX_pure awake20_ok (aP ?_)
  first|exact ret_of rfl rfl|exact rfl
theorem round_left {P0 n work m} (h:HI P0 n work m) (hw:∀ l∈work,l.length<=1000) (hx:m.s.next+4<2147483647) (b:Bool):(roundM m work.length b).2=decide (0<leftS m work.length):=by
 have h1:=round_does h.g (n:=work.length) (by rw [h.wl];exact Nat.le_refl _) b hx;have h2:=(leftS_pos (fun k=>(h.lfB hw k).1) work.length).1;rw [h.wl,<-h2] at h1
 cases e:(roundM m work.length b).2 with
 |false=>rw [e] at h1;exact (decide_eq_false fun g=>by have:=h1.2 g;cases this).symm
 |true=>rw [e] at h1;exact (decide_eq_true (h1.1 rfl)).symm
def nm8R:List (Nat×Nat):=[(1000000,2000168),(1000001,2000169),(1000004,2000170)]
set_option maxRecDepth 20000 in
set_option maxHeartbeats 16000000 in
theorem roundsEach_ok (many:Int) (m0:0<=many) (m1:many<=255) (work:List (List MOp)) (hl:work.length<=9223372036854775807) (hl2:∀ l∈work,l.length<=9223372036854775807) (faults:List Bool) (hf:faults.length<=9223372036854775807):
  ACall Tryz.prog 8 [.int .u8 many,.lst (work.map encTd),.lst (faults.map encBl)] (.bool true):=by
 have hmw:(work.map encTd).length=work.length:=List.length_map ..
 have hmf:(faults.map encBl).length=faults.length:=List.length_map ..
 refine acall_of Tryz.func8 3 rfl (by kernel_rfl) (aP ?_);refine callX_pure (small19_ok work hl hl2) (aW ?_)
 refine bcase_p (fun q0=>?_) (fun q0=>?_)<;>conv=>whnf
 ·refine aP ?_;refine callX_pure awake20_ok (aP ?_);exact ret_of rfl rfl
 have hS:SmOk work:=by
  rcases Classical.em (SmOk work) with h|h
  ·exact h
  ·rw [smN_no h] at q0;exact absurd (by decide) q0
 obtain ⟨n,hn⟩:∃ n:Nat,1+many%8=n:=⟨(1+many%8).toNat,by omega⟩
 have n1:1<=n:=by omega
 have n8:n<=8:=by omega
 have h60:∀ l∈work,l.length<=60:=fun l h=>by have:=(hS.one l h).len;omega
 have hw:∀ l∈work,l.length<=1000:=fun l h=>by have:=(hS.one l h).len;omega
 have hB:=begin19_ok many m0 m1 [] (by decide) work hS.n1 hS.n4 h60 n hn;have hI0:=HI.new n1 n8 [] hS.n1 hS.n4;have hc0:(begM n [] work).clk=0:=rfl;have hd0:=begM_doc n n1 n8 [] work;obtain ⟨M0,hM⟩:∃ M0,begM n [] work=M0:=⟨_,rfl⟩;rw [hM] at hB hI0 hc0 hd0;refine aP ?_;refine callX_ptr hB (Nat.le_of_ble_eq_true rfl) (aP ?_);have h4:=hS.n4
 have hx0:M0.s.next=0:=by rw [<-hM];rfl
 refine aloop (ι:=Nat×MS) (fun k=>[(1,.d (.lst (work.map encTd))),(2,.d (.lst (faults.map encBl))),(7,.ptr 2000168 0 0),(27,.d (.int .i64 k.1))])
  (fun k=>[(2000168,.box (mCk 2000168 k.2) false),(2000169,.row (k.2.ws.map encWA) 11 false),(2000170,.row (k.2.ev.map encEvA) 11 false)])
  (fun k=>k.1<=60/\HI (new9 []).2 n work k.2/\k.2.clk<=4*k.1/\k.2.s.next<=5*k.1) (fun k=>60-k.1) (0,M0) ⟨Nat.zero_le _,hI0,by simp only [];omega,by simp only [];omega⟩ (le0 (le_of_cov ⟨rfl,rfl,rfl,rfl,trivial⟩ ⟨rfl,rfl,rfl,trivial⟩ ⟨rfl,rfl,rfl,rfl⟩)) ?_
 rintro ⟨q,M⟩ ⟨hq,hI,hc,hx⟩;simp only at hq hI hc hx⊢
 conv=>whnf
 refine bcase_p (fun g1=>?_) (fun g1=>?_)<;>conv=>whnf
 rotate_left
 ·refine aP ?_;refine callX_pure awake20_ok (aP ?_)
  first|exact ret_of rfl rfl|exact rfl
 refine aP ?_;refine aloop (ι:=Nat) (fun u=>[(1,.d (.lst (work.map encTd))),(2,.d (.lst (faults.map encBl))),(7,.ptr 2000168 0 0),(10,.d (.int .i64 q)),(11,.d (.int .i64 (leftS M u))),(27,.d (.int .i64 q)),(31,.d (.int .i64 (work.map encTd).length)),(32,.d (.int .i64 u))])
  (fun u=>[(2000168,.box (mCk 2000168 M) false),(2000169,.row (M.ws.map encWA) 11 false),(2000170,.row (M.ev.map encEvA) 11 false)])
  (fun u=>u<=work.length) (fun u=>work.length-u) 0 (Nat.zero_le _) (le0 (le_of_cov ⟨rfl,rfl,rfl,rfl,rfl,rfl,rfl,rfl,trivial⟩ ⟨rfl,rfl,rfl,trivial⟩ ⟨rfl,rfl,rfl,rfl⟩)) ?_
 intro u hu;have lb:=hI.lfB hw u;have lS:=leftS_le (hI.lfB hw) u
 conv=>whnf
 refine bcase_p (fun g2=>?_) (fun g2=>?_)<;>conv=>whnf
 ·have hu2:u<work.length:=by omega
  refine callH_blk (left_any hI.g hw u) nm8R rfl ⟨rfl,rfl,rfl,trivial⟩ rfl (aP ?_);exact ⟨u+1,by omega,by omega,(le0 (le_of_cov ⟨rfl,rfl,rfl,rfl,rfl,rfl,rfl,rfl,trivial⟩ ⟨rfl,rfl,rfl,trivial⟩ ⟨rfl,rfl,rfl,rfl⟩))⟩
 have hul:u=work.length:=by omega
 subst hul;have hrl:=round_left hI hw (by omega);refine aP ?_
 refine bcase_p (fun g3=>?_) (fun g3=>?_)<;>conv=>whnf
 ·have hq2:q<faults.length:=by omega
  have hr:HCall Tryz.prog 41 [.ptr 1000000 0 0,.d (.int .i64 (work.map encTd).length),.d (.bool faults[q])] (mH M) (mH (roundM M work.length faults[q]).1) (.bool (decide (0<leftS M work.length))):=by
   rw [hmw,<-hrl faults[q]];exact round105_ok hI.g hw (by omega) work.length (by omega) faults[q]
  refine idxK_nat (by omega) (w0 ?_);refine getRow_of (x:=encBl faults[q]) (by simp [hq2]) (aW ?_);refine callH_blk hr nm8R rfl ⟨rfl,rfl,rfl,trivial⟩ rfl (w0 ?_);obtain ⟨M5,hM5⟩:∃ M5,(roundM M work.length (faults[q])).1=M5:=⟨_,rfl⟩;have hI5:=hI.round work.length (faults[q]);have hc5:=(round_clk M work.length (faults[q])).1;have hx5:=nx_round hI.g work.length (faults[q]);rw [hM5] at hI5 hc5 hx5⊢;refine aP ?_;refine bcase_t (by simp) (aP ?_);exact ⟨(q+1,M5),⟨by simp only [];omega,hI5,by simp only [];omega,by simp only [];omega⟩,by simp only [];omega,(le0 (le_of_cov ⟨rfl,rfl,rfl,rfl,trivial⟩ ⟨rfl,rfl,rfl,trivial⟩ ⟨rfl,rfl,rfl,rfl⟩))⟩
 ·have hr:HCall Tryz.prog 41 [.ptr 1000000 0 0,.d (.int .i64 (work.map encTd).length),.ff] (mH M) (mH (roundM M work.length false).1) (.bool (decide (0<leftS M work.length))):=by
   rw [hmw,<-hrl false];exact hcall_ff (round105_ok hI.g hw (by omega) work.length (by omega) false)
  refine aP ?_;refine callH_blk hr nm8R rfl ⟨rfl,rfl,rfl,trivial⟩ rfl (w0 ?_);obtain ⟨M5,hM5⟩:∃ M5,(roundM M work.length (false)).1=M5:=⟨_,rfl⟩;have hI5:=hI.round work.length (false);have hc5:=(round_clk M work.length (false)).1;have hx5:=nx_round hI.g work.length (false);rw [hM5] at hI5 hc5 hx5⊢;refine aP ?_;refine bcase_t (by simp) (aP ?_);exact ⟨(q+1,M5),⟨by simp only [];omega,hI5,by simp only [];omega,by simp only [];omega⟩,by simp only [];omega,(le0 (le_of_cov ⟨rfl,rfl,rfl,rfl,trivial⟩ ⟨rfl,rfl,rfl,trivial⟩ ⟨rfl,rfl,rfl,rfl⟩))⟩
def nm9R:List (Nat×Nat):=[(1000000,2000136),(1000001,2000137),(1000004,2000138)]
set_option maxRecDepth 20000 in
set_option maxHeartbeats 16000000 in
theorem roundsWell_ok (many:Int) (m0:0<=many) (m1:many<=255) (work:List (List MOp)) (hl:work.length<=9223372036854775807) (hl2:∀ l∈work,l.length<=9223372036854775807):
  ACall Tryz.prog 9 [.int .u8 many,.lst (work.map encTd)] (.bool true):=by
 have hmw:(work.map encTd).length=work.length:=List.length_map ..
 refine acall_of Tryz.func9 2 rfl (by kernel_rfl) (aP ?_);refine callX_pure (small19_ok work hl hl2) (aW ?_)
 refine bcase_p (fun q0=>?_) (fun q0=>?_)<;>conv=>whnf
 ·refine aP ?_;refine callX_pure awake20_ok (aP ?_);exact ret_of rfl rfl
 have hS:SmOk work:=by
  rcases Classical.em (SmOk work) with h|h
  ·exact h
  ·rw [smN_no h] at q0;exact absurd (by decide) q0
 obtain ⟨n,hn⟩:∃ n:Nat,1+many%8=n:=⟨(1+many%8).toNat,by omega⟩
 have n1:1<=n:=by omega
 have n8:n<=8:=by omega
 have h60:∀ l∈work,l.length<=60:=fun l h=>by have:=(hS.one l h).len;omega
 have hw:∀ l∈work,l.length<=1000:=fun l h=>by have:=(hS.one l h).len;omega
 have hB:=begin19_ok many m0 m1 [] (by decide) work hS.n1 hS.n4 h60 n hn;have hI0:=HI.new n1 n8 [] hS.n1 hS.n4;have hc0:(begM n [] work).clk=0:=rfl;have hd0:=begM_doc n n1 n8 [] work;obtain ⟨M0,hM⟩:∃ M0,begM n [] work=M0:=⟨_,rfl⟩;rw [hM] at hB hI0 hc0 hd0;refine aP ?_;refine callX_ptr hB (Nat.le_of_ble_eq_true rfl) (aP ?_);have h4:=hS.n4
 have h20:∀ l∈work,l.length<=20:=fun l h=>(hS.one l h).len
 have hsb:=sum_bd h20;have hbd:=bound30_ok work (by omega) (fun l h=>by have:=h20 l h;omega)
 have hbn:bdN work=10*(sumL work:Int)+1:=by rw [bdN];omega
 have hNF0:NF M0:=by rw [<-hM];exact NF.new
 obtain ⟨N,hN⟩:=runN_ex M0 work.length [] (10*sumL work+1);have hle:=hN.le;have hrun0:=run47_ok hI0.g hw work.length (by omega) [] (by decide) (10*sumL work+1) (by omega) N hN
 have hrun:HCall Tryz.prog 29 [.ptr 1000000 0 0,.d (.int .i64 (work.map encTd).length),.d (.lst []),.d (.int .i64 (bdN work))] (mH M0) (mH (rnds M0 work.length [] N)) (.int .i64 N):=by rw [hmw];exact hrun0
 have hI:=hI0.rnds work.length [] N;have hNF:=hNF0.rnds hI0 work.length N;have hcl:=(rnds_clk M0 work.length [] N).1;obtain ⟨M,hM2⟩:∃ M,rnds M0 work.length [] N=M:=⟨_,rfl⟩;rw [hM2] at hrun hI hNF hcl;have hwe:=well_ev hI hNF;have hev:=hI.evl
 have hme:(M.ev.map encEvA).length=M.ev.length:=List.length_map ..
 refine callX_pure hbd (aP ?_);refine callH_blk (hcall_nil hrun) nm9R rfl ⟨rfl,rfl,rfl,trivial⟩ rfl (aP ?_);refine callH_blk (history_ok M (by omega)) nm9R rfl ⟨rfl,rfl,rfl,trivial⟩ rfl (aP ?_);refine aloop (ι:=Nat) (fun i=>[(1,.d (.lst (work.map encTd))),(30,.d (.lst (M.ev.map encEvA))),(31,.d (.int .i64 (M.ev.map encEvA).length)),(32,.d (.int .i64 i))]) (fun i=>[])
  (fun i=>i<=M.ev.length) (fun i=>M.ev.length-i) 0 (Nat.zero_le _) (le0 (le_of_cov ⟨rfl,rfl,rfl,rfl,trivial⟩ trivial ⟨rfl,rfl,rfl,rfl⟩)) ?_
 intro i hi
 conv=>whnf
 refine bcase_p (fun g1=>?_) (fun g1=>?_)<;>conv=>whnf
 ·have hi2:i<M.ev.length:=by omega
  obtain ⟨z8,z6,z12,z9,b0,b1,b2⟩:=hwe _ (List.getElem_mem hi2);refine idxK_nat (by omega) (w0 ?_);refine getRow_of (x:=encEvA M.ev[i]) (by simp [hi2]) (aW ?_)
  refine bcase_p (fun c8=>?_) (fun c8=>?_)<;>conv=>whnf
  ·exact absurd c8 z8
  refine aP ?_;refine callX_pure hbd (aP ?_);exact ⟨i+1,by omega,by omega,(le0 (le_of_cov ⟨rfl,rfl,rfl,rfl,trivial⟩ trivial ⟨rfl,rfl,rfl,rfl⟩))⟩
 refine aP ?_;refine callX_pure awake20_ok (aP ?_)
 first|exact ret_of rfl rfl|exact rfl
def idsF (f:FX):List Int:=f.fr.map (·.1)
theorem ids_with (f:FX) (i:Nat) (x:Fr) (hx:∀ h:i<f.fr.length,x.1=f.fr[i].1):idsF (withF f i x)=idsF f:=by
 show (f.fr.set i x).map (·.1)=f.fr.map (·.1);rw [List.map_set]
 by_cases h:i<f.fr.length
 ·rw [hx h]
  have h2:i<(f.fr.map (·.1)).length:=by rw [List.length_map];exact h
  have:f.fr[i].1=(f.fr.map (·.1))[i]:=by simp
  rw [this];exact List.set_getElem_self h2
 ·rw [List.set_eq_of_length_le (by rw [List.length_map];omega)]
theorem ids_pin (f:FX) (p:Int):idsF (pinS f p).1=idsF f:=by
 rw [pinS];repeat' split
 all_goals first|rfl|(refine ids_with _ _ _ fun h=>?_;show (atF f.fr _).1=_;rw [atF_eq h])
theorem ids_unpin (f:FX) (p:Int):idsF (unpinS f p).1=idsF f:=by
 rw [unpinS];repeat' split
 all_goals first|rfl|(refine ids_with _ _ _ fun h=>?_;show (atF f.fr _).1=_;rw [atF_eq h])
theorem ids_write (f:FX) (p:Int) (b:ByteArray) (n:Int):idsF (writeS f p b n).1=idsF f:=by
 rw [writeS];repeat' split
 all_goals rfl
theorem ids_pinned (p:PS) (a:PAct):idsF (pinnedM p a).1.f=idsF p.f:=by
 rw [pinnedM];repeat' split
 all_goals first|rfl|exact ids_write _ _ _ _|exact ids_unpin _ _
theorem ids_fetch {p:PS} {id:Int} (h:hasF p id=true):idsF (poolFetch p id).1.f=idsF p.f:=by
 rw [poolFetch,if_pos (show (findF p.f id).2=true from h)];split
 ·rfl
 ·exact ids_pin _ _
theorem ids_do {p:PS} {a:PAct} (h:(a.1=1/\hasF p a.2.1=true) \/a.1=3\/a.1=4\/a.1=5):idsF (poolDo p a).1.f=idsF p.f:=by
 rw [poolDo]
 split
 ·rfl
 split
 ·rfl
 split
 ·rename_i h1
  rcases h with h|h|h|h
  ·exact ids_fetch h.2
  all_goals omega
 rw [if_neg (by omega),if_neg (by omega),if_neg (by omega),if_neg (by omega)];exact ids_pinned _ _
theorem ids_back (o:MOp) (q:PS×MRes):idsF (backP o q).1.f=idsF q.1.f:=by
 rw [backP];split
 ·exact ids_do (.inr (.inr (.inr rfl)))
 ·rfl
theorem ids_work3 {p:PS} {id:Int} {b:ByteArray} (h:hasF p id=true):idsF (workP p (3,id,b)).1.f=idsF p.f:=by
 rw [workP,ids_back];have e1:idsF (poolDo p (1,id,b)).1.f=idsF p.f:=ids_do (.inl ⟨rfl,h⟩);show idsF (actG (3,id,b) [1,4] p (0,zP)).1.f=_;rw [actG];simp only []
 split
 ·exact e1
 rw [actG];simp only [];have e2:idsF (poolDo (poolDo p (1,id,b)).1 (4,id,b)).1.f=idsF (poolDo p (1,id,b)).1.f:=ids_do (.inr (.inr (.inl rfl)))
 split
 ·exact e2.trans e1
 ·rw [actG];exact e2.trans e1
theorem hasF_iff {p P n} (h:DocI p P n) {q:Nat} (h1:1<=q):hasF p q=true↔(q:Int)∈idsF p.f:=by
 have hm:(q:Int)∈idsF p.f↔∃ i,∃ hi:i<p.f.fr.length,p.f.fr[i].1=(q:Int):=by
  rw [idsF,List.mem_map]
  constructor
  ·rintro ⟨x,hx,e⟩;obtain ⟨i,hi,rfl⟩:=List.mem_iff_getElem.1 hx;exact ⟨i,hi,e⟩
  ·rintro ⟨i,hi,e⟩;exact ⟨_,List.getElem_mem hi,e⟩
 rw [hm,hasF]
 rcases h.inv.where h1 with hn|⟨i,hA⟩
 ·rw [findF_no h.inv.pj.fm hn (by omega)];exact ⟨fun g=>(by cases g),fun ⟨i,hi,e⟩=>absurd e (hn i hi)⟩
 ·rw [findF_at hA];exact ⟨fun _=>⟨i,hA.hi,hA.fr⟩,fun _=>rfl⟩
theorem ids_create {p P n} (h:DocI p P n) {q:Nat} (h1:1<=q) (h16:q<=16) (hz:(P q).1=0) {i:Nat} (hi:i<p.f.fr.length) (hf:p.f.fr[i].1=0) (b:ByteArray):
  ∃ j,(idsF p.f)[j]?=some 0/\idsF (workP p (1,(q:Int),b)).1.f=(idsF p.f).set j q:=by
 have hI:=h.inv
 have hn:∀ i (hi:i<p.f.fr.length),p.f.fr[i].1≠(q:Int):=by
  rcases hI.where h1 with hn|⟨k,hA⟩
  ·exact hn
  ·exact absurd hz (hI.nz hA)
 obtain ⟨j,hj,ez,e,_,_⟩:=load_after (make_free hI.pj.fm ⟨i,hi,hf⟩) hI.pj.fm (x:=newP q) (pg1_ok (by omega) (by omega)) hI.pj.n0 hI.pj.n1 true hn ⟨i,hi,hf⟩ hI.pj.dt
 have ec:poolCreate p q=poolLoad p (newP q) true:=by
  rw [poolCreate,findF_no hI.pj.fm hn (by omega),if_neg (show ¬false=true by decide),hI.pj.get h1 h16,hI.on.dsk q h1 h16 (hI.out h1 hn),if_pos hz,if_neg (show ¬(3:Int)=0 by decide)]
  first|rfl|(rw [if_pos rfl];rfl)
 refine ⟨j,?_,?_⟩
 ·rw [idsF,List.getElem?_map,List.getElem?_eq_getElem hj];show some (p.f.fr[j].1)=_;rw [ez]
 ·rw [workP,ids_back];show idsF (actG (1,(q:Int),b) [2] p (0,zP)).1.f=_;rw [actG];simp only [];rw [do2 p h1 h16,ec,e];simp only [];rw [if_neg (fun g=>g rfl),actG];show (p.f.fr.set j ((newP q).1,1,true)).map (·.1)=_
  rw [List.map_set];rfl
def nwA (k:Nat):MOp:=(1,((k+1:Nat):Int),ByteArray.empty)
def wrA (k:Nat):MOp:=(3,((k+1:Nat):Int),⟨#[119]⟩)
def todoA (k l:Nat):List MOp:=nwA k::List.replicate l (wrA k)
def workA (L:List Nat):List (List MOp):=L.mapIdx todoA
theorem todoA_len (k l:Nat):(todoA k l).length=l+1:=by simp [todoA]
theorem todoA_op (k l e:Nat) (he:e<l+1):(todoA k l)[e]?.getD noMO=if e=0 then nwA k else wrA k:=by
 cases e with
 |zero=>rfl
 |succ e=>
  rw [if_neg (by omega),todoA,List.getElem?_cons_succ,List.getElem?_replicate,if_pos (by omega)];rfl
def posW (w:WA):Nat:=6*w.ended+(if w.st<=3 then w.st else w.st-1)
theorem refB_no {o:MOp} (k:Nat) (hk:k<4) (ho:o=nwA k\/o=wrA k):refB o=false:=by
 have h2:o.2.1=((k+1:Nat):Int) /\ (o.1=1\/o.1=3):=by rcases ho with rfl|rfl<;>exact ⟨rfl,by simp [nwA,wrA]⟩
 simp only [refB,Bool.or_eq_false_iff,decide_eq_false_iff_not];omega
structure AG (P0:Nat->Pg) (L:List Nat) (f:Nat->Nat) (m:MS):Prop where
 hi:HI P0 8 (workA L) m
 ex:∃ P,DocI m.p P 8/\ ∀ k,k<L.length->(f k<=4->(P (k+1)).1=0) /\ (5<=f k->((k+1:Nat):Int)∈idsF m.p.f)
 ids:∀ x∈idsF m.p.f,x=0\/ (1<=x/\x<=4)
 pos:∀ (k:Nat) (w:WA),m.ws[k]?=some w->posW w=f k/\w.st≠4
theorem AG.congr {P0 L f g m} (h:AG P0 L f m) (e:∀ k,k<L.length->f k=g k):AG P0 L g m:=by
 obtain ⟨P,hP,hx⟩:=h.ex;refine ⟨h.hi,⟨P,hP,fun k hk=>by rw [<-e k hk];exact hx k hk⟩,h.ids,fun k w hw=>?_⟩;have hl:=(List.getElem?_eq_some_iff.1 hw).1;have hwl:=h.hi.wl;rw [workA,List.length_mapIdx] at hwl
 rw [<-e k (by omega)];exact h.pos k w hw
theorem AG.wl {P0 L f m} (h:AG P0 L f m):m.ws.length=L.length:=by
 have:=h.hi.wl
 rwa [workA,List.length_mapIdx] at this
theorem AG.todo {P0 L f m} (h:AG P0 L f m) {k:Nat} {w:WA} (hk:m.ws[k]?=some w) (hl:k<L.length):w.todo=todoA k L[k]:=by
 have:=h.hi.todo hk (by rw [workA,List.length_mapIdx];exact hl);rw [this];simp [workA]
theorem free_one {p:PS} {P:Nat->Pg} (h:DocI p P 8) (hi:∀ x∈idsF p.f,x=0\/ (1<=x/\x<=4)):∃ i,∃ hi:i<p.f.fr.length,p.f.fr[i].1=0:=by
 refine Classical.byContradiction fun hn=>?_
 have hz:∀ i (hi:i<p.f.fr.length),p.f.fr[i].1≠0:=fun i hi e=>hn ⟨i,hi,e⟩
 have hF:=h.inv.pj.fm;have hl:=h.len
 have hlen:(idsF p.f).length=8:=by rw [idsF,List.length_map];exact hl
 have hnd:(idsF p.f).Nodup:=by
  rw [List.nodup_iff_pairwise_ne,List.pairwise_iff_getElem];intro i j hi hj hij e;simp only [idsF,List.length_map,List.getElem_map] at hi hj e;have hA:=atF_of hF (hz j hj) hj rfl;have:=hA.uni hi e;omega
 have:=nodup_le (a:=idsF p.f) (b:=[1,2,3,4]) hnd fun x hx=>by
  have h1:=hi x hx
  have h0:x≠0:=by
   rw [idsF] at hx;obtain ⟨y,hy,rfl⟩:=List.mem_map.1 hx;obtain ⟨i,hi,rfl⟩:=List.mem_iff_getElem.1 hy;exact hz i hi
  have:x=1\/x=2\/x=3\/x=4:=by omega
  rcases this with rfl|rfl|rfl|rfl<;>simp
 rw [hlen] at this;exact absurd this (by decide)
theorem mem_set0 {l:List Int} {j:Nat} {q x:Int} (hj:l[j]?=some 0) (hx:x∈l) (h0:x≠0):x∈l.set j q:=by
 obtain ⟨i,hi,rfl⟩:=List.mem_iff_getElem.1 hx
 have hne:j≠i:=fun e=>by subst e;rw [List.getElem?_eq_getElem hi] at hj;exact h0 (Option.some.inj hj)
 have hi2:i<(l.set j q).length:=by rw [List.length_set];exact hi
 have:=List.getElem_mem hi2
 rwa [List.getElem_set_ne hne] at this
theorem mem_setq {l:List Int} {j:Nat} {q:Int} (hj:l[j]?=some 0):q∈l.set j q:=by
 have hl:=(List.getElem?_eq_some_iff.1 hj).1
 have hi2:j<(l.set j q).length:=by rw [List.length_set];exact hl
 have:=List.getElem_mem hi2
 rwa [List.getElem_set_self] at this
theorem mdoc_ne (P:Nat->Pg) (o:MOp) {j:Nat} (hj:j≠o.2.1.toNat):(mdoc P o).1 j=P j:=by
 rw [mdoc];repeat' split
 all_goals first|rfl|exact ud_ne _ _ hj
theorem AG.work {P0 L f m} (h:AG P0 L f m) {k:Nat} {w:WA} (hk:m.ws[k]?=some w) (hl:k<L.length) (hs:w.st=5) (hL4:L.length<=4):
  (∃ P,DocI (workP m.p w.op).1 P 8/\ ∀ j,j<L.length->(j≠k->f j<=4->(P (j+1)).1=0) /\ (5<=f j\/j=k->((j+1:Nat):Int)∈idsF (workP m.p w.op).1.f)) /\ ∀ x∈idsF (workP m.p w.op).1.f,x=0\/ (1<=x/\x<=4):=by
 obtain ⟨P,hP,hx⟩:=h.ex;have o:=h.hi.g.ok;have v:=o.w k w hk;have hbu:=v.bu (by omega);have htd:=h.todo hk hl;have hr:=v.val (v.ask (by omega) (by omega));have hwk:=(work9 hP (by decide) w.op hr).2;have hpos:=(h.pos k w hk).1;rw [posW,hs,if_neg (by decide)] at hpos;rw [htd,todoA_len] at hbu
 have hop:w.op=if w.ended=0 then nwA k else wrA k:=by rw [WA.op,htd];exact todoA_op k _ _ hbu
 have hq:w.op.2.1.toNat=k+1:=by rw [hop];split<;>simp [nwA,wrA]
 have hne:∀ j,j≠k->(mdoc P w.op).1 (j+1)=P (j+1):=fun j hj=>mdoc_ne P w.op (by omega)
 by_cases he:w.ended=0
 ·rw [if_pos he] at hop;obtain ⟨i,hi,hf⟩:=free_one hP h.ids;obtain ⟨j,hj,e⟩:=ids_create hP (q:=k+1) (by omega) (by omega) ((hx k hl).1 (by omega)) hi hf ByteArray.empty
  have e:idsF (workP m.p w.op).1.f=(idsF m.p.f).set j ((k+1:Nat):Int):=by rw [hop];exact e
  refine ⟨⟨_,hwk,fun i hi=>⟨fun hik hfi=>by rw [hne i hik];exact (hx i hi).1 hfi,fun hfi=>?_⟩⟩,fun x hx'=>?_⟩
  ·rw [e]
   by_cases hik:i=k
   ·subst hik;exact mem_setq hj
   ·exact mem_set0 hj ((hx i hi).2 (by omega)) (by omega)
  ·rw [e] at hx'
   rcases List.mem_or_eq_of_mem_set hx' with g|g
   ·exact h.ids x g
   ·right;omega
 ·rw [if_neg he] at hop;have hm:=(hx k hl).2 (by omega);have hf:hasF m.p ((k+1:Nat):Int)=true:=(hasF_iff hP (by omega)).2 hm
  have e:idsF (workP m.p w.op).1.f=idsF m.p.f:=by rw [hop];exact ids_work3 hf
  rw [e];refine ⟨⟨_,hwk,fun i hi=>⟨fun hik hfi=>by rw [hne i hik];exact (hx i hi).1 hfi,fun hfi=>?_⟩⟩,h.ids⟩
  by_cases hik:i=k
  ·subst hik;exact hm
  ·exact (hx i hi).2 (by omega)
def upA (f:Nat->Nat) (k c:Nat):Nat->Nat:=fun j=>if j=k then min (f k+1) c else f j
theorem AG.step {P0 L f m} (h:AG P0 L f m) {k:Nat} (hl:k<L.length) (hL4:L.length<=4):AG P0 L (upA f k (6*(L[k]+1))) (stepM m k).1:=by
 have hwl:=h.wl;have o:=h.hi.g.ok;obtain ⟨w,hk⟩:∃ w,m.ws[k]?=some w:=⟨_,List.getElem?_eq_getElem (by omega)⟩;have v:=o.w k w hk;have htd:=h.todo hk hl;obtain ⟨hpos,h4⟩:=h.pos k w hk;have hen:=v.en;have hbu:=v.bu;have h6:=v.st6
 have hlen:w.todo.length=L[k]+1:=by rw [htd];exact todoA_len _ _
 rw [hlen] at hen hbu;have hI:=h.hi.step (k:Int);obtain ⟨P,hP,hx⟩:=h.ex
 have h8:m.h.n=8:=by rw [o.fr];exact hP.len
 have hcl4:m.h.cl.length<=4:=by have:=o.hall.len;omega
 have hq:m.h.q=[]:=by
  rcases o.hall.shut with e|e
  ·exact e
  ·omega
 have st:(stepM m k).1=(stepW {m with clk:=m.clk+1} k w m.clk).1:=by
  rw [stepM,if_neg (by omega),Int.toNat_natCast,hk]
 have fin:∀ (m':MS) (w':WA),(stepM m k).1=m'->m'.ws=m.ws.set k w'->m'.p=m.p->posW w'=min (f k+1) (6*(L[k]+1))->w'.st≠4->f k≠4->AG P0 L (upA f k (6*(L[k]+1))) (stepM m k).1:=by
  intro m' w' e e1 e2 e3 e4 e5;rw [e] at hI⊢;refine ⟨hI,⟨P,by rw [e2];exact hP,fun j hj=>?_⟩,by rw [e2];exact h.ids,fun j u hu=>?_⟩
  ·rw [e2,upA]
   by_cases hjk:j=k
   ·subst hjk;rw [if_pos rfl];exact ⟨fun g=>(hx j hj).1 (by omega),fun g=>(hx j hj).2 (by omega)⟩
   ·rw [if_neg hjk];exact hx j hj
  ·rw [e1] at hu;rw [upA]
   rcases set_some hu with ⟨rfl,rfl⟩|⟨hne,hu⟩
   ·rw [if_pos rfl];exact ⟨e3,e4⟩
   ·rw [if_neg hne];exact h.pos j u hu
 have hst:w.st=0\/w.st=1\/w.st=2\/w.st=3\/w.st=5\/w.st=6:=by omega
 rcases hst with hs|hs|hs|hs|hs|hs
 ·rw [posW,hs,if_pos (by decide)] at hpos
  by_cases he:w.todo.length<=w.ended
  ·
   have e:(stepM m k).1={m with clk:=m.clk+1}:=by rw [st,stepW,hs];simp only [];rw [if_pos he]
   refine fin _ w e ?_ rfl (by rw [posW,hs,if_pos (by decide)];omega) h4 (by omega);obtain ⟨hx1,hy1⟩:=List.getElem?_eq_some_iff.1 hk
   rw [<-hy1];exact (List.set_getElem_self hx1).symm
  ·have e:(stepM m k).1={setW' {m with clk:=m.clk+1} k {w with began:=m.clk,st:=1} with h:=beginH m.h k}:=by rw [st,stepW,hs];simp only [];rw [if_neg he]
   exact fin _ _ e rfl rfl (by rw [posW];simp only [];rw [if_pos (by decide)];omega) (by simp) (by omega)
 ·rw [posW,hs,if_pos (by decide)] at hpos;have hb:=hbu (by omega)
  have hop:w.op=if w.ended=0 then nwA k else wrA k:=by rw [WA.op,htd];exact todoA_op k _ _ hb
  have hrf:refB w.op=false:=by
   have hk4:k<4:=by omega
   rw [hop];split
   ·exact refB_no k hk4 (.inl rfl)
   ·exact refB_no k hk4 (.inr rfl)
  have hc:isCl m.h k=true:=by
   have:=v.hal.2 (by omega);rw [HA.all,hq,List.append_nil] at this;exact isCl_t.2 this
  have e:(stepM m k).1={setW' {m with clk:=m.clk+1} k {w with asked:=true,st:=2} with lat:=lsetM m.lat w.op.2.1 (askL (latM m w.op.2.1) k (decide (w.op.1≠2)))}:=by
   rw [st,stepW,hs];simp only [];rw [if_neg (by rw [hc];decide),if_neg (by rw [hrf];decide)];rfl
  exact fin _ _ e rfl rfl (by rw [posW];simp only [];rw [if_pos (by decide)];omega) (by simp) (by omega)
 ·rw [posW,hs,if_pos (by decide)] at hpos;have hb:=hbu (by omega);have ha:=v.ask (by omega) (by omega);obtain ⟨_,r1,r2⟩:=refB_f (v.val ha)
  have hop:w.op=if w.ended=0 then nwA k else wrA k:=by rw [WA.op,htd];exact todoA_op k _ _ hb
  have hpg:w.op.2.1=((k+1:Nat):Int):=by rw [hop];split<;>rfl
  have hi:w.op.2.1.toNat<m.lat.length:=by rw [o.ll];omega
  obtain ⟨l,hlt⟩:∃ l,m.lat[w.op.2.1.toNat]?=some l:=⟨_,List.getElem?_eq_getElem hi⟩;have hm:=(v.lt _ l hlt).2 ⟨ha,by omega⟩;have LL:=o.li _ l hlt
  have key:∀ j,j∈l.all->j=k:=fun j hj=>by
   have hjl:=LL.lt j hj;obtain ⟨w2,hw2⟩:∃ w2,m.ws[j]?=some w2:=⟨_,List.getElem?_eq_getElem hjl⟩;have v2:=o.w _ w2 hw2;obtain ⟨q1,q2⟩:=(v2.lt _ l hlt).1 hj
   have q4:w2.st≠0:=fun g=>by have:=v2.nask (by omega);rw [this] at q1;cases q1
   have q5:=v2.bu q4;have t2:=h.todo hw2 (by omega);rw [t2,todoA_len] at q5
   have o2:w2.op=if w2.ended=0 then nwA j else wrA j:=by rw [WA.op,t2];exact todoA_op j _ _ q5
   have p2:w2.op.2.1=((j+1:Nat):Int):=by rw [o2];split<;>rfl
   omega
  have hh:k∈l.hs:=by
   rcases List.mem_append.1 hm with g|g
   ·exact g
   ·rcases LL.shut with e|⟨e,_⟩
    ·rw [e] at g;cases g
    ·obtain ⟨j,hj⟩:=List.exists_mem_of_ne_nil _ e;have:=key j (List.mem_append.2 (.inl hj))
     subst this;exact hj
  have hho:holdsL (latM m w.op.2.1) k=true:=by
   have e:latM m w.op.2.1=l:=by rw [latM,hlt];rfl
   rw [e,holdsL,List.contains_iff_mem.2 hh]
  have e:(stepM m k).1=setW' {m with clk:=m.clk+1} k {w with st:=3}:=by
   rw [st,stepW,hs];simp only [];rw [if_neg (by show ¬holdsL (latM m w.op.2.1) k=false;rw [hho];decide)]
  exact fin _ _ e rfl rfl (by rw [posW];simp only [];rw [if_pos (by decide)];omega) (by simp) (by omega)
 ·rw [posW,hs,if_pos (by decide)] at hpos;have hb:=hbu (by omega)
  have hop:w.op=if w.ended=0 then nwA k else wrA k:=by rw [WA.op,htd];exact todoA_op k _ _ hb
  have hheld:¬m.h.n<=heldN m.h.cl:=by
   have:heldN m.h.cl<=m.h.cl.length:=List.countP_le_length;omega
  have hnf:¬(hasF m.p w.op.2.1=false/\ (w.op.1=2\/w.op.1=3)):=by
   rintro ⟨g1,g2⟩
   by_cases he:w.ended=0
   ·rw [hop,if_pos he] at g2
    rcases g2 with g|g
    ·exact absurd (show (1:Int)=2 from g) (by decide)
    ·exact absurd (show (1:Int)=3 from g) (by decide)
   ·rw [hop,if_neg he] at g1;have:=(hasF_iff hP (q:=k+1) (by omega)).2 ((hx k hl).2 (by omega));rw [show (wrA k).2.1=((k+1:Nat):Int) from rfl,this] at g1
    cases g1
  have e:(stepM m k).1={setW' {m with clk:=m.clk+1} k {w with pinned:=true,st:=5} with h:=pinH m.h k}:=by
   rw [st,stepW,hs];simp only [];rw [if_neg hheld,if_neg hnf]
  exact fin _ _ e rfl rfl (by rw [posW];simp only [];rw [if_neg (by decide)];omega) (by simp) (by omega)
 ·rw [posW,hs,if_neg (by decide)] at hpos;have hb:=hbu (by omega);obtain ⟨⟨P',hP',hx'⟩,hids⟩:=h.work hk hl hs hL4
  have e:(stepM m k).1={setW' {m with clk:=m.clk+1} k (tellW w (workP m.p w.op).2 m.clk) with p:=(workP m.p w.op).1}:=by
   rw [st,stepW,hs];rfl
  rw [e] at hI⊢;refine ⟨hI,⟨P',hP',fun j hj=>?_⟩,hids,fun j u hu=>?_⟩
  ·rw [upA]
   by_cases hjk:j=k
   ·subst hjk;rw [if_pos rfl];exact ⟨fun g=>by omega,fun g=>(hx' j hj).2 (.inr rfl)⟩
   ·rw [if_neg hjk];exact ⟨(hx' j hj).1 hjk,fun g=>(hx' j hj).2 (.inl g)⟩
  ·have hu:(m.ws.set k (tellW w (workP m.p w.op).2 m.clk))[j]?=some u:=hu;rw [upA]
   rcases set_some hu with ⟨rfl,rfl⟩|⟨hne,hu⟩
   ·rw [if_pos rfl,posW];refine ⟨?_,show (6:Nat)≠4 by decide⟩;show 6*w.ended+(6-1)=_;omega
   ·rw [if_neg hne];exact h.pos j u hu
 ·rw [posW,hs,if_neg (by decide)] at hpos;have hb:=hbu (by omega)
  have e:∃ m':MS,(stepM m k).1=m'/\m'.ws=m.ws.set k ⟨w.todo,w.ended+1,0,false,false,0,0,(0,zP)⟩ /\m'.p=m.p:=by
   refine ⟨_,rfl,?_,?_⟩
   ·rw [st,stepW,hs];rfl
   ·rw [st,stepW,hs];rfl
  obtain ⟨m',e,e1,e2⟩:=e;exact fin _ _ e e1 e2 (by rw [posW];simp only [];rw [if_pos (by decide)];omega) (by simp) (by omega)
def lnA (L:List Nat) (k:Nat):Nat:=6*((L[k]?.getD 0)+1)
def FA (L:List Nat) (i K:Nat):Nat->Nat:=fun j=>if j<K then min (i+1) (lnA L j) else min i (lnA L j)
theorem AG.idle {P0 L f m} (h:AG P0 L f m):m.s.out=[] /\ ∀ j∈m.s.jobs,j=none:=by
 have o:=h.hi.g.ok
 have key:∀ (k:Nat) (p:Int),k<m.ws.length->¬WJ m.s k p:=fun k p hk hj=>by
  have hw:=List.getElem?_eq_getElem hk;exact (h.pos k _ hw).2 (((o.w k _ hw).job p).1 hj).1
 constructor
 ·refine List.eq_nil_iff_forall_not_mem.2 fun f hf=>?_
  have:=(o.su.lt f hf).2.1;rw [o.sj] at this;exact key f.who f.pg this (.inr ⟨f,hf,rfl,rfl⟩)
 ·intro j hj
  cases j with
  |none=>rfl
  |some p=>
   obtain ⟨k,hk,e⟩:=List.mem_iff_getElem.1 hj;rw [o.sj] at hk;exact absurd (.inl (by rw [List.getElem?_eq_getElem (by rw [o.sj];exact hk),e])) (key k p hk)
theorem lane_no {jobs:List (Option Int)} (h:∀ j∈jobs,j=none):∀ (n k:Nat),laneFrom jobs n k=none
 |0,_=>rfl
 |n+1,k=>by
  rw [laneFrom,if_neg,lane_no h n]
  cases e:jobs[k%jobs.length]? with
  |none=>simp
  |some j=>rw [h j (List.mem_of_getElem? e)];simp
theorem AG.pump {P0 L f m} (h:AG P0 L f m):pumpM m=m:=by
 obtain ⟨_,hj⟩:=h.idle;have e:nextL m.s=none:=lane_no hj _ _
 have:pumpS m.s=m.s:=by
  rw [pumpS,pumpG]
  split
  ·rw [e]
  ·rfl
 rw [pumpM,this]
theorem AG.fin {P0 L f m} (h:AG P0 L f m) (b:Bool):finM m 0 b=(m,false):=by
 rw [finM,if_pos]
 rw [h.idle.1];simp
theorem AG.stN {P0 L i m} (h:AG P0 L (FA L i 0) m) (hL4:L.length<=4):∀ K,K<=L.length->AG P0 L (FA L i K) (stN m K).1
 |0,_=>h
 |K+1,hK=>by
  have ih:=(AG.stN h hL4 K (by omega)).step (k:=K) (by omega) hL4
  refine ih.congr fun j hj=>?_
  have hl:∀ hK2:K<L.length,lnA L K=6*(L[K]+1):=fun hK2=>by rw [lnA,List.getElem?_eq_getElem hK2];rfl
  have hl:=hl (by omega);simp only [upA,FA]
  by_cases e:j=K
  ·subst e;rw [if_pos rfl,if_neg (by omega),if_pos (by omega),<-hl];omega
  ·rw [if_neg e]
   by_cases g:j<K
   ·rw [if_pos g,if_pos (by omega)]
   ·rw [if_neg g,if_neg (by omega)]
theorem AG.round {P0 L i m} (h:AG P0 L (FA L i 0) m) (hL4:L.length<=4):AG P0 L (FA L (i+1) 0) (roundM m L.length false).1:=by
 have h1:=h.stN hL4 L.length (Nat.le_refl _)
 have e:(roundM m L.length false).1=(Go.Lk.stN m L.length).1:=by
  rw [roundM,show min L.length 4=L.length by omega,h1.pump,h1.fin]
 rw [e]
 refine h1.congr fun j hj=>?_
 simp only [FA];rw [if_pos hj,if_neg (by omega)]
theorem AG.rnds {P0 L m} (h:AG P0 L (FA L 0 0) m) (hL4:L.length<=4):∀ i,AG P0 L (FA L i 0) (rnds m L.length [] i)
 |0=>h
 |i+1=>(AG.rnds h hL4 i).round hL4
theorem AG.left {P0 L i m} (h:AG P0 L (FA L i 0) m) (hL4:L.length<=4):leftB m L.length=true↔∃ k,∃ hk:k<L.length,i<6*(L[k]+1):=by
 have hwl:=h.wl
 have key:∀ k (hk:k<L.length),(0<lfV m k↔i<6*(L[k]+1)):=fun k hk=>by
  have hw:m.ws[k]?=some (m.ws[k]'(by omega)):=List.getElem?_eq_getElem (by omega);obtain ⟨w,ew⟩:∃ w,m.ws[k]'(by omega)=w:=⟨_,rfl⟩;rw [ew] at hw;obtain ⟨hp,h4⟩:=h.pos k w hw;have v:=h.hi.g.ok.w k w hw;have hen:=v.en;have hbu:=v.bu;have h6:=v.st6;have ht:=h.todo hw hk
  have hlen:w.todo.length=L[k]+1:=by rw [ht];exact todoA_len _ _
  have hl:lnA L k=6*(L[k]+1):=by rw [lnA,List.getElem?_eq_getElem hk];rfl
  simp only [FA] at hp;rw [if_neg (Nat.not_lt_zero _),hl,posW] at hp
  have e:lfV m k=(w.todo.length:Int)-w.ended:=by rw [lfV,hw]
  rw [e,hlen];rw [hlen] at hen hbu
  by_cases hs:w.st=0
  ·rw [hs,if_pos (by decide)] at hp;omega
  ·have:=hbu hs
   have:(if w.st<=3 then w.st else w.st-1) <=5/\1<= (if w.st<=3 then w.st else w.st-1):=by split<;>omega
   omega
 rw [leftB_t]
 constructor
 ·rintro ⟨k,hk,hp⟩;exact ⟨k,by omega,(key k (by omega)).1 hp⟩
 ·rintro ⟨k,hk,hp⟩;exact ⟨k,by omega,(key k hk).2 hp⟩
def maxA:List Nat->Nat
 | []=>0
 |l::r=>max (l+1) (maxA r)
theorem maxA_le:∀ {L:List Nat} {l:Nat},l∈L->l+1<=maxA L
 |l::r,x,h=>by
  rcases List.mem_cons.1 h with rfl|h
  ·simp only [maxA];omega
  ·have:=maxA_le h;simp only [maxA];omega
theorem maxA_ex:∀ {L:List Nat},L≠[]->∃ l∈L,l+1=maxA L
 | [],h=>absurd rfl h
 | [l],_=>⟨l,.head _,by simp [maxA]⟩
 |l::x::r,_=>by
  obtain ⟨y,hy,e⟩:=maxA_ex (L:=x::r) (by simp)
  by_cases g:maxA (x::r) <=l+1
  ·exact ⟨l,.head _,by rw [maxA];omega⟩
  ·exact ⟨y,.tail _ hy,by rw [maxA];omega⟩
theorem maxA_snoc (L:List Nat) (l:Nat):maxA (L++[l])=max (maxA L) (l+1):=by
 induction L with
 |nil=>simp [maxA]
 |cons x r ih=>rw [List.cons_append,maxA,maxA,ih];omega
theorem workA_mem {L:List Nat} {l:List MOp} (h:l∈workA L):∃ k,∃ hk:k<L.length,l=todoA k L[k]:=by
 rw [workA] at h;obtain ⟨k,hk,e⟩:=List.mem_mapIdx.1 h;exact ⟨k,hk,e.symm⟩
theorem AG.new {L:List Nat} (h1:1<=L.length) (hL4:L.length<=4):AG (new9 []).2 L (FA L 0 0) (begM 8 [] (workA L)):=by
 have hlw:(workA L).length=L.length:=by rw [workA,List.length_mapIdx]
 have hI:HI (new9 []).2 8 (workA L) (begM 8 [] (workA L)):=HI.new (by decide) (by decide) [] (by omega) (by omega);have hd:=begM_doc 8 (by decide) (by decide) [] (workA L)
 have hP:(new9 []).2=fun _=>zP:=rfl
 have hfr:idsF (begM 8 [] (workA L)).p.f=List.replicate 8 0:=rfl;refine ⟨hI,⟨_,hd,fun k hk=>⟨fun _=>by rw [hP];rfl,fun g=>?_⟩⟩,fun x hx=>?_,fun k w hk=>?_⟩
 ·simp only [FA] at g
  rw [if_neg (Nat.not_lt_zero _)] at g;omega
 ·rw [hfr] at hx;exact .inl (List.eq_of_mem_replicate hx)
 ·have hk:((workA L).map newWA)[k]?=some w:=hk;rw [List.getElem?_map] at hk;obtain ⟨l,_,rfl⟩:=Option.map_eq_some_iff.1 hk;refine ⟨?_,show (0:Nat)≠4 by decide⟩;simp only [FA];rw [if_neg (Nat.not_lt_zero _)];show 6*0+0=_;omega
theorem apart_run {L:List Nat} (h1:1<=L.length) (hL4:L.length<=4) (h9:∀ l∈L,l<=9) {N:Nat} (r:RunN (begM 8 [] (workA L)) L.length [] 1000 N):N=6*maxA L:=by
 have h:=AG.new h1 hL4
 have hlw:(workA L).length=L.length:=by rw [workA,List.length_mapIdx]
 have hP:=Phi_beg 8 [] (workA L) fun l hl=>by
  obtain ⟨k,hk,rfl⟩:=workA_mem hl
  rw [todoA_len];have:=h9 _ (List.getElem_mem hk);omega
 have hx:(begM 8 [] (workA L)).s.next=0:=rfl;have he:=RunN.stops (work:=workA L) h.hi.g (by rw [hlw];exact r) (by omega) (by omega);rw [hlw] at he;refine r.uniq he (fun i hi=>?_) ?_
 ·rw [(h.rnds hL4 i).left hL4];obtain ⟨l,hl,e⟩:=maxA_ex (L:=L) (by intro q;rw [q] at h1;cases h1);obtain ⟨k,hk,rfl⟩:=List.mem_iff_getElem.1 hl;exact ⟨k,hk,by omega⟩
 ·cases e:leftB (rnds (begM 8 [] (workA L)) L.length [] (6*maxA L)) L.length with
  |false=>rfl
  |true=>
   rw [(h.rnds hL4 _).left hL4] at e;obtain ⟨k,hk,hlt⟩:=e;have:=maxA_le (List.getElem_mem hk);omega
def lnL (ls:List Int):List Nat:=ls.map fun x=>(x%10).toNat
theorem lnL_take {ls:List Int} {k:Nat} (hk:k<ls.length):lnL (ls.take (k+1))=lnL (ls.take k)++[(ls[k]%10).toNat]:=by
 rw [lnL,take_snoc hk,List.map_append];rfl
theorem lnL_len (ls:List Int):(lnL ls).length=ls.length:=List.length_map ..
theorem workA_snoc (L:List Nat) (l:Nat):workA (L++[l])=workA L++[todoA L.length l]:=by
 rw [workA,List.mapIdx_append];simp [workA]
theorem todoA_snoc (k l:Nat):(todoA k (l+1)).map encMO=(todoA k l).map encMO++[encMO (wrA k)]:=by
 rw [todoA,todoA,List.replicate_succ',<-List.cons_append,List.map_append];rfl
def nm10R:List (Nat×Nat):=[(1000000,2000424),(1000001,2000425),(1000004,2000426)]
set_option maxRecDepth 20000 in
set_option maxHeartbeats 16000000 in
theorem roundsApart_ok (ls:List Int) (hw:∀ x∈ls,0<=x/\x<=255) (hl:ls.length<=9223372036854775807):ACall Tryz.prog 10 [.lst (ls.map encU)] (.bool true):=by
 have hm:(ls.map encU).length=ls.length:=List.length_map ..
 refine acall_of Tryz.func10 1 rfl (by kernel_rfl) (aP ?_);refine aloop (ι:=Nat) (fun k=>[(0,.d (.lst (ls.map encU))),(3,.own 42),(4,.d (.int .i64 (maxA (lnL (ls.take k))))),(5,.d (.int .i64 k))])
  (fun k=>[(42,.row ((workA (lnL (ls.take k))).map encTd) 1 false)])
  (fun k=>k<=ls.length/\k<=4) (fun k=>4-k) 0 ⟨Nat.zero_le _,by decide⟩ (le1 (.row 3 42 1) ⟨rfl,rfl⟩ (le_of_cov ⟨rfl,rfl,rfl,rfl,trivial⟩ ⟨rfl,trivial⟩ ⟨rfl,rfl,rfl,rfl⟩)) ?_
 rintro k ⟨hk,hk3⟩
 conv=>whnf
 refine bcase_p (fun h5=>?_) (fun h5=>?_)<;>conv=>whnf
 rotate_left
 ·obtain ⟨L,hL⟩:∃ L,lnL (ls.take k)=L:=⟨_,rfl⟩
  have hLl:L.length=k:=by rw [<-hL,lnL_len,List.length_take];omega
  have hL9:∀ l∈L,l<=9:=fun l h=>by
   rw [<-hL] at h;obtain ⟨x,hx,rfl⟩:=List.mem_map.1 h;have:=hw x (List.mem_of_mem_take hx);omega
  rw [hL]
  have hlw:(workA L).length=L.length:=by rw [workA,List.length_mapIdx]
  have hmw:((workA L).map encTd).length=L.length:=by rw [List.length_map,hlw]
  refine aP ?_
  refine bcase_p (fun z1=>?_) (fun z1=>?_)<;>conv=>whnf
  ·refine aP ?_;refine callX_pure awake20_ok (aP ?_)
   first|exact ret_of rfl rfl|exact rfl
  have h60:∀ l∈workA L,l.length<=60:=fun l h=>by
   obtain ⟨q,hq,rfl⟩:=workA_mem h;have:=hL9 _ (List.getElem_mem hq)
   rw [todoA_len];omega
  have hB:=begin19_ok 7 (by decide) (by decide) [] (by decide) (workA L) (by omega) (by omega) h60 8 rfl;have hI0:HI (new9 []).2 8 (workA L) (begM 8 [] (workA L)):=HI.new (by decide) (by decide) [] (by omega) (by omega);have hc0:(begM 8 [] (workA L)).clk=0:=rfl;obtain ⟨N,hN⟩:=runN_ex (begM 8 [] (workA L)) L.length [] 1000;have hNm:=apart_run (by omega) (by omega) hL9 hN;have hNle:=hN.le;have h10:=run47_ok hI0.g (fun l h=>by have:=h60 l h;omega) L.length (by omega) [] (by decide) 1000 (by omega) N hN;obtain ⟨M0,hM⟩:∃ M0,begM 8 [] (workA L)=M0:=⟨_,rfl⟩;rw [hM] at hB h10
  have h1:HCall Tryz.prog 29 [.ptr 1000000 0 0,.d (.int .i64 ((workA L).map encTd).length),.d (.lst []),.d (.int .i64 1000)] (mH M0) (mH (rnds M0 L.length [] N)) (.int .i64 N):=by rw [hmw];exact h10
  obtain ⟨M,hM2⟩:∃ M,rnds M0 L.length [] N=M:=⟨_,rfl⟩;rw [hM2] at h1;refine aP ?_;refine callX_ptr hB (Nat.le_of_ble_eq_true rfl) (aP ?_);refine callH_blk (hcall_nil h1) nm10R rfl ⟨rfl,rfl,rfl,trivial⟩ rfl (aP ?_);refine callX_pure awake20_ok (aP ?_)
  first|exact ret_of rfl rfl|exact rfl
 refine bcase_p (fun h6=>?_) (fun h6=>?_)<;>conv=>whnf
 rotate_left
 ·obtain ⟨L,hL⟩:∃ L,lnL (ls.take k)=L:=⟨_,rfl⟩
  have hLl:L.length=k:=by rw [<-hL,lnL_len,List.length_take];omega
  have hL9:∀ l∈L,l<=9:=fun l h=>by
   rw [<-hL] at h;obtain ⟨x,hx,rfl⟩:=List.mem_map.1 h;have:=hw x (List.mem_of_mem_take hx);omega
  rw [hL]
  have hlw:(workA L).length=L.length:=by rw [workA,List.length_mapIdx]
  have hmw:((workA L).map encTd).length=L.length:=by rw [List.length_map,hlw]
  refine aP ?_
  have h60:∀ l∈workA L,l.length<=60:=fun l h=>by
   obtain ⟨q,hq,rfl⟩:=workA_mem h;have:=hL9 _ (List.getElem_mem hq)
   rw [todoA_len];omega
  have hB:=begin19_ok 7 (by decide) (by decide) [] (by decide) (workA L) (by omega) (by omega) h60 8 rfl;have hI0:HI (new9 []).2 8 (workA L) (begM 8 [] (workA L)):=HI.new (by decide) (by decide) [] (by omega) (by omega);have hc0:(begM 8 [] (workA L)).clk=0:=rfl;obtain ⟨N,hN⟩:=runN_ex (begM 8 [] (workA L)) L.length [] 1000;have hNm:=apart_run (by omega) (by omega) hL9 hN;have hNle:=hN.le;have h10:=run47_ok hI0.g (fun l h=>by have:=h60 l h;omega) L.length (by omega) [] (by decide) 1000 (by omega) N hN;obtain ⟨M0,hM⟩:∃ M0,begM 8 [] (workA L)=M0:=⟨_,rfl⟩;rw [hM] at hB h10
  have h1:HCall Tryz.prog 29 [.ptr 1000000 0 0,.d (.int .i64 ((workA L).map encTd).length),.d (.lst []),.d (.int .i64 1000)] (mH M0) (mH (rnds M0 L.length [] N)) (.int .i64 N):=by rw [hmw];exact h10
  obtain ⟨M,hM2⟩:∃ M,rnds M0 L.length [] N=M:=⟨_,rfl⟩;rw [hM2] at h1;refine aP ?_;refine callX_ptr hB (Nat.le_of_ble_eq_true rfl) (aP ?_);refine callH_blk (hcall_nil h1) nm10R rfl ⟨rfl,rfl,rfl,trivial⟩ rfl (aP ?_);refine callX_pure awake20_ok (aP ?_)
  first|exact ret_of rfl rfl|exact rfl
 have hk2:k<ls.length:=by omega
 obtain ⟨b0,b1⟩:=hw _ (List.getElem_mem hk2);refine aP ?_;refine idxK_nat (by omega) (w0 ?_);refine getRow_of (x:=encU ls[k]) (by simp [hk2]) (aW ?_);refine divK_rem (by decide) b0 (aP ?_);rw [show (1:Int)+(k:Int)=((k+1:Nat):Int) by omega];refine aloop (ι:=Nat) (fun j=>[(0,.d (.lst (ls.map encU))),(3,.own 42),(4,.d (.int .i64 (maxA (lnL (ls.take k))))),(5,.d (.int .i64 k)),(6,.own 24),(29,.d (.int .u8 (ls[k]%10))),(30,.d (.int .u8 j))])
  (fun j=>[(42,.row ((workA (lnL (ls.take k))).map encTd) 1 false),(24,.row ((todoA k j).map encMO) 3 false)])
  (fun j=>(j:Int) <=ls[k]%10) (fun j=>9-j) 0 (by show ((0:Nat):Int) <=_;omega) (le0 (le_of_cov ⟨rfl,rfl,rfl,rfl,rfl,rfl,rfl,trivial⟩ ⟨rfl,rfl,trivial⟩ ⟨rfl,rfl,rfl,rfl⟩)) ?_
 intro j hj
 have hlm:((todoA k j).map encMO).length=j+1:=by rw [List.length_map,todoA_len]
 have hX:(lnL (ls.take k)).length=k:=by rw [lnL_len,List.length_take];omega
 have hXw:((workA (lnL (ls.take k))).map encTd).length=k:=by rw [List.length_map,workA,List.length_mapIdx,hX]
 conv=>whnf
 refine bcase_p (fun y1=>?_) (fun y1=>?_)<;>conv=>whnf
 rotate_left
 ·have hj2:(ls[k]%10).toNat=j:=by omega
  have eW:(workA (lnL (ls.take (k+1)))).map encTd=(workA (lnL (ls.take k))).map encTd++[encTd (todoA k j)]:=by
   rw [lnL_take hk2,hj2,workA_snoc,hX,List.map_append];rfl
  refine aP ?_;refine roomK_le 100 100 (by show ((workA (lnL (ls.take k))).map encTd).length+1<=100;omega) (by decide) (by decide) (by decide) (aP ?_);rw [show max ((maxA (lnL (ls.take k)):Nat):Int) ((((todoA k j).map encMO).length:Nat):Int)=((maxA (lnL (ls.take (k+1))):Nat):Int) by rw [lnL_take hk2,hj2,maxA_snoc,hlm];omega];exact ⟨k+1,⟨by omega,by omega⟩,by omega,le0 (le_of_cov ⟨rfl,rfl,rfl,rfl,trivial⟩ ⟨by rw [eW];rfl,trivial⟩ ⟨rfl,rfl,rfl,rfl⟩)⟩
 refine aP ?_;refine roomK_le 100 100 (by show ((todoA k j).map encMO).length+1<=100;omega) (by decide) (by decide) (by decide) (aP ?_);refine wrapK_in (by rw [wrap8];omega) (aP ?_);rw [show (1:Int)+(k:Int)=((k+1:Nat):Int) by omega];exact ⟨j+1,by omega,by omega,le0 (le_of_cov ⟨rfl,rfl,rfl,rfl,rfl,rfl,rfl,trivial⟩ ⟨rfl,by rw [todoA_snoc];rfl,trivial⟩ ⟨rfl,rfl,rfl,rfl⟩)⟩
end Go.Lk
