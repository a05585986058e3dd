/-
  What is proved here: what functions of the program compute, and what follows; no condition beyond each theorem's own.
-/
import Derived.Test.YtnlfingofodhlaaGreatBAo
import Derived.Test.YtnlfingofodhlaaGreatBAw
set_option linter.unusedSimpArgs false
set_option linter.unusedVariables false
set_option linter.unnecessarySimpa false
set_option linter.unusedSectionVars false
namespace Go.Lk
open Go Go.Proofs Go.RowKit Go.Lk.St
def evH (v:Hy.Ev):Rc:=⟨Hy.opE v,Hy.resE v,v.done⟩
theorem yBa {P:Nat->Pg}:∀ {S:List Hy.Ev} {i:Nat} {P':Nat->Pg},OkP P'->zMz P' (S.map evH) P->(∀ v∈S,(Hy.resE v).1≠8)->Hy.chkGo (bgN P' 16) i S=(bgN P 16,i+S.length,0)
 | [],i,P',_,h,_=>by
  cases (show P=P' from h)
  rfl
 |v::S,i,P',hk,h,h8=>by
  have hne:Hy.resE v≠Hy.failR:=fun e=>h8 v (.head _) (by rw [e];rfl)
  have hd:=yRl hk (Hy.opE v);obtain ⟨h1,h2⟩:=h
  have e:(Hy.doM (bgN P' 16) (Hy.opE v)).2=Hy.resE v:=by rw [hd];exact h1
  have e2:(Hy.doM (bgN P' 16) (Hy.opE v)).1=bgN (zIl P' (Hy.opE v)).1 16:=by rw [hd]
  have ih:=yBa (S:=S) (i:=i+1) (P':=(zIl P' (Hy.opE v)).1) (yCk hk _) h2 fun v hv=>h8 v (.tail _ hv)
  rw [Hy.chkGo,if_neg hne,if_pos e,e2,ih];rw [List.length_cons]
  congr 2;omega
def okE (e:EvA):Bool:=decide (e.res.1≠8)
def okEs (l:List EvA):List EvA:=l.filter okE
theorem yCr (l:List EvA):((okEs l).map toE).map evH=(l.map evR).filter zLm:=by
 rw [List.map_map,List.filter_map];rfl
theorem ap_of {l:List EvA} {c:Int} (h:TiOk l c) {G:List Rc} (g:G.Pairwise fun a b=>a.done<b.done) (hp:((l.map evR).filter zLm).Perm G):Hy.AP ((okEs l).map toE):=by
 have hm:∀ e∈okEs l,e∈l:=fun e he=>(List.mem_filter.1 he).1
 refine ⟨fun x hx=>?_,?_,?_⟩
 ·obtain ⟨e,he,rfl⟩:=List.mem_map.1 hx;have:=h.ev e (hm e he);exact ⟨this.2.2.1,this.2.2.2.1⟩
 ·rw [<-yCr] at hp
  have h1:(((okEs l).map toE).map evH).Pairwise fun a b=>a.done≠b.done:=(hp.pairwise_iff fun {a b} e e2=>e e2.symm).2 (g.imp fun e=>by omega)
  rw [List.pairwise_map] at h1;exact h1
 ·have h1:(okEs l).Pairwise fun a b=>a.who=b.who->a.ended<b.began:=h.seq.sublist List.filter_sublist
  rw [List.pairwise_map]
  exact h1.imp fun {a b} e hw=>.inl (e (by have hw:(a.who:Int)=(b.who:Int):=hw;omega))
theorem tpH:TP Hy.leD:=⟨fun x y=>by simp only [Hy.leD,decide_eq_true_eq];omega,fun x y z=>by simp only [Hy.leD,decide_eq_true_eq];omega⟩
theorem yRh {l:List EvA} {c:Int} (h:TiOk l c) {P0 P:Nat->Pg} (hk:OkP P0) {G:List Rc} (hG:zMz P0 G P) (g:G.Pairwise fun a b=>a.done<b.done) (hp:((l.map evR).filter zLm).Perm G) (hl:l.length<=400):
  Hy.chkM (bgN P0 16) ((okEs l).map toE)=(bgN P 16,(okEs l).length,0):=by
 have hlen:((okEs l).map toE).length<=400:=by
  have:=List.length_filter_le okE l;rw [List.length_map]
  show (l.filter okE).length<=400;omega
 have hap:=ap_of h g hp;rw [Hy.chkM,if_neg (by omega),if_neg (by rw [Hy.mapB_t.2 (bg_mr hk)];decide),if_neg (by rw [Hy.apB_t.2 hap];decide)];have hsp:=Hy.srt_perm (le:=Hy.leD) ((okEs l).map toE)
 have hS:(srt Hy.leD ((okEs l).map toE)).map evH=G:=by
  refine List.Perm.eq_of_pairwise (le:=fun a b=>a.done<b.done) (fun a b _ _ h1 h2=>by omega) ?_ g (((hsp.map evH).trans (by rw [yCr])).trans hp);rw [List.pairwise_map];have h1:=(Hy.pw_srt (R:=Hy.RD) (fun {x y} e=>Hy.rd_sym e) Hy.leD ((okEs l).map toE)).2 hap.rd;have h2:=zCb tpH ((okEs l).map toE)
  refine (List.Pairwise.and h1 h2).imp fun {a b} q=>?_
  have q1:a.done≠b.done:=q.1
  have q2:a.done<=b.done:=by simpa [Hy.leD] using q.2
  show a.done<b.done;omega
 have hcp:=yBa (S:=srt Hy.leD ((okEs l).map toE)) (i:=0) hk (by rw [hS];exact hG) fun v hv=>?_
 ·rw [hcp,hsp.length_eq,List.length_map,Nat.zero_add]
 ·obtain ⟨e,he,rfl⟩:=List.mem_map.1 (hsp.mem_iff.1 hv);have:=(List.mem_filter.1 he).2
  have this:e.res.1≠8:=by simpa [okE] using this
  exact this
def nm14:List (Nat×Nat):=[(1000000,2000224),(1000001,2000225),(1000004,2000226)]
theorem HI.rpG {P0 n work m} (h:HI P0 n work m) (hq:∀ k,k<4->stV m k≠6):∃ P G,DocI m.p P n/\zMz P0 G P/\G.Pairwise (fun a b=>a.done<b.done) /\ ((m.ev.map evR).filter zLm).Perm G:=by
 obtain ⟨G,P,g1,g2,g3,g4,g5⟩:=h.og.ex
 have hp:zEx m.ws=[]:=by
  rw [zEx,List.filterMap_eq_nil_iff];intro w hw;obtain ⟨k,hk,rfl⟩:=List.mem_iff_getElem.1 hw;have:=hq k (by have:=h.tg.n4;omega);rw [zZr (List.getElem?_eq_getElem hk)] at this;rw [wR,if_neg (fun e=>this (by rw [e];rfl))]
 rw [allR,hp,List.append_nil] at g5;exact ⟨P,G,g2,g1,g3,g5⟩
theorem z5t {l:List EvA} {i:Nat} (hi:i<l.length):okEs (l.take (i+1))=okEs (l.take i)++(if l[i].res.1≠8 then [l[i]] else []):=by
 rw [okEs,zAs hi,List.filter_append,<-okEs]
 by_cases e:l[i].res.1≠8
 ·rw [if_pos e,List.filter_cons,if_pos (by simpa [okE] using e),List.filter_nil]
 ·rw [if_neg e,List.filter_cons,if_neg (by simpa [okE] using e),List.filter_nil]
set_option maxRecDepth 20000 in
set_option maxHeartbeats 16000000 in
theorem z4t (many:Int) (m0:0<=many) (m1:many<=255) (pages:List Pg) (hp:pages.length<=9223372036854775807) (work:List (List MOp)) (hl:work.length<=9223372036854775807) (hl2:∀ l∈work,l.length<=9223372036854775807) (acts:List (Int×Int)) (ha:acts.length<=9223372036854775807):
  zAk Tryz.prog 14 [.int .u8 many,.lst (pages.map encP),.lst (work.map zAz),.lst (acts.map encI)] (.bool true):=by
 have hma:(acts.map encI).length=acts.length:=List.length_map ..
 have hmw:(work.map zAz).length=work.length:=List.length_map ..
 refine zAf Tryz.func14 4 rfl (by kernel_rfl) (aP ?_);refine zAa (zHg work hl hl2) (aW ?_)
 refine bcase_p (fun q0=>?_) (fun q0=>?_)<;>conv=>whnf
 ·refine aP ?_;refine zAa Hy.awake_ok (aP ?_);exact ret_of rfl rfl
 have hS:SmOk work:=by
  rcases Classical.em (SmOk work) with h|h
  ·exact h
  ·rw [zNf h] at q0;exact absurd (by decide) q0
 obtain ⟨n,hn⟩:∃ n:Nat,1+many%8=n:=⟨(1+many%8).toNat,by omega⟩
 have n1:1<=n:=by omega
 have n8:n<=8:=by omega
 have h60:∀ l∈work,l.length<=60:=fun l h=>by have:=(hS.one l h).len;omega
 have hw:∀ l∈work,l.length<=1000:=fun l h=>by have:=(hS.one l h).len;omega
 have hB:=zFv many m0 m1 pages hp work hS.n1 hS.n4 h60 n hn;have hI0:=HI.new n1 n8 pages hS.n1 hS.n4;have hc0:(begM n pages work).clk=0:=rfl;have hd0:=zI n n1 n8 pages work;obtain ⟨M0,hM⟩:∃ M0,begM n pages work=M0:=⟨_,rfl⟩;rw [hM] at hB hI0 hc0 hd0;refine aP ?_;refine zDo hB (Nat.le_of_ble_eq_true rfl) (aP ?_);have hokp:=hd0.okp;refine zAr (ι:=Nat) (fun k=>[(3,.d (.lst (acts.map encI))),(9,.ptr 2000224 0 0),(10,.d (.lst ((bg19 pages).map encP))),(12,.d (.int .i64 k))])
  (fun k=>[(2000224,.box (mCk 2000224 (zCa M0 (acts.take k))) false),(2000225,.row ((zCa M0 (acts.take k)).ws.map zBr) 11 false),(2000226,.row ((zCa M0 (acts.take k)).ev.map zAo) 11 false)])
  (fun k=>k<=acts.length/\k<=200) (fun k=>200-k) 0 ⟨by omega,by decide⟩ (le0 (zAb ⟨rfl,rfl,rfl,rfl,trivial⟩ ⟨rfl,rfl,rfl,trivial⟩ ⟨rfl,rfl,rfl,rfl⟩)) ?_
 rintro k ⟨hk,hk3⟩;have hI:=hI0.run (acts.take k)
 have hck:(zCa M0 (acts.take k)).clk<=k:=by
  have:=(zO (acts.take k) M0).1
  have:(acts.take k).length<=k:=by rw [List.length_take];omega
  omega
 have es:∀ hk2:k<acts.length,zCa M0 (acts.take (k+1))=(doMS (zCa M0 (acts.take k)) acts[k]).1:=fun hk2=>zMq hk2 M0
 obtain ⟨M,hM2⟩:∃ M,zCa M0 (acts.take k)=M:=⟨_,rfl⟩;rw [hM2] at hI hck;rw [hM2]
 conv=>whnf
 refine bcase_p (fun h5=>?_) (fun h5=>?_)<;>conv=>whnf
 rotate_left
 ·refine aP ?_;refine zAr (ι:=Nat×MS) (fun k=>[(9,.ptr 2000224 0 0),(10,.d (.lst ((bg19 pages).map encP))),(50,.d (.int .i64 k.1))])
   (fun k=>[(2000224,.box (mCk 2000224 k.2) false),(2000225,.row (k.2.ws.map zBr) 11 false),(2000226,.row (k.2.ev.map zAo) 11 false)])
   (fun k=>k.1<=4/\HI (new9 pages).2 n work k.2/\k.2.clk<=200+4*k.1/\ (k.1=0\/quB k.2=true)) (fun k=>4-k.1) (0,M) ⟨Nat.zero_le _,hI,by simp only [];omega,.inl rfl⟩ (le0 (zAb ⟨rfl,rfl,rfl,trivial⟩ ⟨rfl,rfl,rfl,trivial⟩ ⟨rfl,rfl,rfl,rfl⟩)) ?_
  rintro ⟨q,M3⟩ ⟨hq,hI3,hc3,hqu⟩;simp only at hq hI3 hc3 hqu⊢
  conv=>whnf
  refine bcase_p (fun g1=>?_) (fun g1=>?_)<;>conv=>whnf
  rotate_left
  ·have hqq:quB M3=true:=hqu.resolve_left (by omega);obtain ⟨P,G,hP,hG1,hG2,hG3⟩:=hI3.rpG (zTb.1 hqq);have hev:=hI3.evl
   have hme:(M3.ev.map zAo).length=M3.ev.length:=List.length_map ..
   have hpg:=zDr M3 hP.inv.pj.fm;rw [zEo hP] at hpg;have hchk:=yRh hI3.tg.ti hokp hG1 hG2 hG3 (by omega);have hck2:=Hy.check_ok (bgN (new9 pages).2 16) ((okEs M3.ev).map toE) (by have:=zKi (new9 pages).2;omega) (by rw [List.length_map];have:=List.length_filter_le okE M3.ev;show (M3.ev.filter okE).length<=1000;omega);rw [hchk,z0o] at hck2;replace hck2:zAk Tryz.prog 46 [.agg [.lst ((bgN (new9 pages).2 16).map encP)],.lst ((okEs M3.ev).map zAo)] (.tup [.agg [.lst ((bgN P 16).map encP)],.int .i64 (okEs M3.ev).length,.int .i64 0]):=hck2;refine aP ?_;refine zAg (zCm M3 (by omega)) nm14 rfl ⟨rfl,rfl,rfl,trivial⟩ rfl (aP ?_);refine zAr (ι:=Nat) (fun i=>[(9,.ptr 2000224 0 0),(10,.d (.lst ((bg19 pages).map encP))),(14,.own 78),(65,.d (.lst (M3.ev.map zAo))),(66,.d (.int .i64 (M3.ev.map zAo).length)),(67,.d (.int .i64 i))])
    (fun i=>[(2000224,.box (mCk 2000224 M3) false),(2000225,.row (M3.ws.map zBr) 11 false),(2000226,.row (M3.ev.map zAo) 11 false),(78,.row ((okEs (M3.ev.take i)).map zAo) 11 false)])
    (fun i=>i<=M3.ev.length) (fun i=>M3.ev.length-i) 0 (Nat.zero_le _) (le1 (.row 14 78 11) ⟨rfl,rfl⟩ (zAb ⟨rfl,rfl,rfl,rfl,rfl,rfl,trivial⟩ ⟨rfl,rfl,rfl,rfl,trivial⟩ ⟨rfl,rfl,rfl,rfl⟩)) ?_
   intro i hi;have hfl:=List.length_filter_le okE (M3.ev.take i);rw [List.length_take] at hfl
   have hfm:((okEs (M3.ev.take i)).map zAo).length=(okEs (M3.ev.take i)).length:=List.length_map ..
   replace hfl:(okEs (M3.ev.take i)).length<=1000:=by show (List.filter _ _).length<=1000;omega
   conv=>whnf
   refine bcase_p (fun z1=>?_) (fun z1=>?_)<;>conv=>whnf
   ·have hi2:i<M3.ev.length:=by omega
    have es:=z5t hi2;refine zAd (by omega) (w0 ?_);refine zAc (x:=zAo M3.ev[i]) (by simp [hi2]) (aW ?_)
    refine bcase_n (fun c8=>?_) (fun c8=>?_)<;>conv=>whnf
    ·rw [if_pos c8] at es;refine aP ?_;refine zAj 1100 1000 (by show ((okEs (M3.ev.take i)).map zAo).length+1<=1100;omega) (by decide) (by decide) (by decide) (aP ?_);exact ⟨i+1,by omega,by omega,le0 (zAb ⟨rfl,rfl,rfl,rfl,rfl,rfl,trivial⟩ ⟨rfl,rfl,rfl,by rw [es,List.map_append];rfl,trivial⟩ ⟨rfl,rfl,rfl,rfl⟩)⟩
    ·rw [if_neg (by simpa using c8),List.append_nil] at es;refine aP ?_;refine ⟨i+1,by omega,by omega,?_⟩;rw [es];exact (le0 (zAb ⟨rfl,rfl,rfl,rfl,rfl,rfl,trivial⟩ ⟨rfl,rfl,rfl,rfl,trivial⟩ ⟨rfl,rfl,rfl,rfl⟩))
   have hil:i=M3.ev.length:=by omega
   subst hil;rw [List.take_length] at hfm⊢;refine zAa hck2 (aP ?_);refine zAg hpg nm14 rfl ⟨rfl,rfl,rfl,trivial⟩ rfl (aP ?_);refine zAa (Hy.same_ok (bgN P 16) (bgN P 16) (by have:=zKi P;omega)) (w0 ?_);refine zBm (by simp) (aP ?_);refine zAa Hy.awake_ok (aP ?_)
   first|exact ret_of rfl rfl|exact rfl
  refine aP ?_;refine zAr (ι:=Nat×MS) (fun k=>[(9,.ptr 2000224 0 0),(10,.d (.lst ((bg19 pages).map encP))),(50,.d (.int .i64 q)),(52,.d (.int .i64 k.1))])
   (fun k=>[(2000224,.box (mCk 2000224 k.2) false),(2000225,.row (k.2.ws.map zBr) 11 false),(2000226,.row (k.2.ev.map zAo) 11 false)])
   (fun k=>k.1<=4/\HI (new9 pages).2 n work k.2/\k.2.clk<=200+4*q+k.1/\ ∀ j,j<k.1->stV k.2 j≠6) (fun k=>4-k.1) (0,M3) ⟨Nat.zero_le _,hI3,by simp only [];omega,fun j hj=>absurd hj (Nat.not_lt_zero _)⟩ (le0 (zAb ⟨rfl,rfl,rfl,rfl,trivial⟩ ⟨rfl,rfl,rfl,trivial⟩ ⟨rfl,rfl,rfl,rfl⟩)) ?_
  rintro ⟨u,M4⟩ ⟨hu,hI4,hc4,hn4⟩;simp only at hu hI4 hc4 hn4⊢
  conv=>whnf
  refine bcase_p (fun g3=>?_) (fun g3=>?_)<;>conv=>whnf
  rotate_left
  ·refine aP ?_;exact ⟨(q+1,M4),⟨by simp only [];omega,hI4,by simp only [];omega,.inr (zTb.2 fun j hj=>hn4 j (by omega))⟩,by simp only [];omega,(le0 (zAb ⟨rfl,rfl,rfl,trivial⟩ ⟨rfl,rfl,rfl,trivial⟩ ⟨rfl,rfl,rfl,rfl⟩))⟩
  refine aP ?_;refine zAg (zFn M4 u) nm14 rfl ⟨rfl,rfl,rfl,trivial⟩ rfl (w0 ?_)
  refine bcase_p (fun g4=>?_) (fun g4=>?_)<;>conv=>whnf
  ·obtain ⟨t,t0,t1,gM⟩:=hI4.g.ex;have hst:=zHa gM t1 hw (by omega) u;have hIs:=hI4.step u;have hcs:=zUb M4 u
   have hns:∀ j,j<u+1->stV (zBi M4 u).1 j≠6:=fun j hj=>zUa g4 (by
    by_cases e:j=u
    ·exact .inl e
    ·exact .inr (hn4 j (by omega)))
   refine aP ?_;refine zAg hst nm14 rfl ⟨rfl,rfl,rfl,trivial⟩ rfl (aP ?_);exact ⟨(u+1,(zBi M4 u).1),⟨by simp only [];omega,hIs,by simp only [];omega,hns⟩,by simp only [];omega,(le0 (zAb ⟨rfl,rfl,rfl,rfl,trivial⟩ ⟨rfl,rfl,rfl,trivial⟩ ⟨rfl,rfl,rfl,rfl⟩))⟩
  ·refine aP ?_
   exact ⟨(u+1,M4),⟨by simp only [];omega,hI4,by simp only [];omega,fun j hj=>by
    by_cases e:j=u
    ·rw [e];exact g4
    ·exact hn4 j (by simp only [] at hj;omega)⟩,by simp only [];omega,(le0 (zAb ⟨rfl,rfl,rfl,rfl,trivial⟩ ⟨rfl,rfl,rfl,trivial⟩ ⟨rfl,rfl,rfl,rfl⟩))⟩
 refine bcase_p (fun h6=>?_) (fun h6=>?_)<;>conv=>whnf
 rotate_left
 ·refine aP ?_;refine zAr (ι:=Nat×MS) (fun k=>[(9,.ptr 2000224 0 0),(10,.d (.lst ((bg19 pages).map encP))),(50,.d (.int .i64 k.1))])
   (fun k=>[(2000224,.box (mCk 2000224 k.2) false),(2000225,.row (k.2.ws.map zBr) 11 false),(2000226,.row (k.2.ev.map zAo) 11 false)])
   (fun k=>k.1<=4/\HI (new9 pages).2 n work k.2/\k.2.clk<=200+4*k.1/\ (k.1=0\/quB k.2=true)) (fun k=>4-k.1) (0,M) ⟨Nat.zero_le _,hI,by simp only [];omega,.inl rfl⟩ (le0 (zAb ⟨rfl,rfl,rfl,trivial⟩ ⟨rfl,rfl,rfl,trivial⟩ ⟨rfl,rfl,rfl,rfl⟩)) ?_
  rintro ⟨q,M3⟩ ⟨hq,hI3,hc3,hqu⟩;simp only at hq hI3 hc3 hqu⊢
  conv=>whnf
  refine bcase_p (fun g1=>?_) (fun g1=>?_)<;>conv=>whnf
  rotate_left
  ·have hqq:quB M3=true:=hqu.resolve_left (by omega);obtain ⟨P,G,hP,hG1,hG2,hG3⟩:=hI3.rpG (zTb.1 hqq);have hev:=hI3.evl
   have hme:(M3.ev.map zAo).length=M3.ev.length:=List.length_map ..
   have hpg:=zDr M3 hP.inv.pj.fm;rw [zEo hP] at hpg;have hchk:=yRh hI3.tg.ti hokp hG1 hG2 hG3 (by omega);have hck2:=Hy.check_ok (bgN (new9 pages).2 16) ((okEs M3.ev).map toE) (by have:=zKi (new9 pages).2;omega) (by rw [List.length_map];have:=List.length_filter_le okE M3.ev;show (M3.ev.filter okE).length<=1000;omega);rw [hchk,z0o] at hck2;replace hck2:zAk Tryz.prog 46 [.agg [.lst ((bgN (new9 pages).2 16).map encP)],.lst ((okEs M3.ev).map zAo)] (.tup [.agg [.lst ((bgN P 16).map encP)],.int .i64 (okEs M3.ev).length,.int .i64 0]):=hck2;refine aP ?_;refine zAg (zCm M3 (by omega)) nm14 rfl ⟨rfl,rfl,rfl,trivial⟩ rfl (aP ?_);refine zAr (ι:=Nat) (fun i=>[(9,.ptr 2000224 0 0),(10,.d (.lst ((bg19 pages).map encP))),(14,.own 78),(65,.d (.lst (M3.ev.map zAo))),(66,.d (.int .i64 (M3.ev.map zAo).length)),(67,.d (.int .i64 i))])
    (fun i=>[(2000224,.box (mCk 2000224 M3) false),(2000225,.row (M3.ws.map zBr) 11 false),(2000226,.row (M3.ev.map zAo) 11 false),(78,.row ((okEs (M3.ev.take i)).map zAo) 11 false)])
    (fun i=>i<=M3.ev.length) (fun i=>M3.ev.length-i) 0 (Nat.zero_le _) (le1 (.row 14 78 11) ⟨rfl,rfl⟩ (zAb ⟨rfl,rfl,rfl,rfl,rfl,rfl,trivial⟩ ⟨rfl,rfl,rfl,rfl,trivial⟩ ⟨rfl,rfl,rfl,rfl⟩)) ?_
   intro i hi;have hfl:=List.length_filter_le okE (M3.ev.take i);rw [List.length_take] at hfl
   have hfm:((okEs (M3.ev.take i)).map zAo).length=(okEs (M3.ev.take i)).length:=List.length_map ..
   replace hfl:(okEs (M3.ev.take i)).length<=1000:=by show (List.filter _ _).length<=1000;omega
   conv=>whnf
   refine bcase_p (fun z1=>?_) (fun z1=>?_)<;>conv=>whnf
   ·have hi2:i<M3.ev.length:=by omega
    have es:=z5t hi2;refine zAd (by omega) (w0 ?_);refine zAc (x:=zAo M3.ev[i]) (by simp [hi2]) (aW ?_)
    refine bcase_n (fun c8=>?_) (fun c8=>?_)<;>conv=>whnf
    ·rw [if_pos c8] at es;refine aP ?_;refine zAj 1100 1000 (by show ((okEs (M3.ev.take i)).map zAo).length+1<=1100;omega) (by decide) (by decide) (by decide) (aP ?_);exact ⟨i+1,by omega,by omega,le0 (zAb ⟨rfl,rfl,rfl,rfl,rfl,rfl,trivial⟩ ⟨rfl,rfl,rfl,by rw [es,List.map_append];rfl,trivial⟩ ⟨rfl,rfl,rfl,rfl⟩)⟩
    ·rw [if_neg (by simpa using c8),List.append_nil] at es;refine aP ?_;refine ⟨i+1,by omega,by omega,?_⟩;rw [es];exact (le0 (zAb ⟨rfl,rfl,rfl,rfl,rfl,rfl,trivial⟩ ⟨rfl,rfl,rfl,rfl,trivial⟩ ⟨rfl,rfl,rfl,rfl⟩))
   have hil:i=M3.ev.length:=by omega
   subst hil;rw [List.take_length] at hfm⊢;refine zAa hck2 (aP ?_);refine zAg hpg nm14 rfl ⟨rfl,rfl,rfl,trivial⟩ rfl (aP ?_);refine zAa (Hy.same_ok (bgN P 16) (bgN P 16) (by have:=zKi P;omega)) (w0 ?_);refine zBm (by simp) (aP ?_);refine zAa Hy.awake_ok (aP ?_)
   first|exact ret_of rfl rfl|exact rfl
  refine aP ?_;refine zAr (ι:=Nat×MS) (fun k=>[(9,.ptr 2000224 0 0),(10,.d (.lst ((bg19 pages).map encP))),(50,.d (.int .i64 q)),(52,.d (.int .i64 k.1))])
   (fun k=>[(2000224,.box (mCk 2000224 k.2) false),(2000225,.row (k.2.ws.map zBr) 11 false),(2000226,.row (k.2.ev.map zAo) 11 false)])
   (fun k=>k.1<=4/\HI (new9 pages).2 n work k.2/\k.2.clk<=200+4*q+k.1/\ ∀ j,j<k.1->stV k.2 j≠6) (fun k=>4-k.1) (0,M3) ⟨Nat.zero_le _,hI3,by simp only [];omega,fun j hj=>absurd hj (Nat.not_lt_zero _)⟩ (le0 (zAb ⟨rfl,rfl,rfl,rfl,trivial⟩ ⟨rfl,rfl,rfl,trivial⟩ ⟨rfl,rfl,rfl,rfl⟩)) ?_
  rintro ⟨u,M4⟩ ⟨hu,hI4,hc4,hn4⟩;simp only at hu hI4 hc4 hn4⊢
  conv=>whnf
  refine bcase_p (fun g3=>?_) (fun g3=>?_)<;>conv=>whnf
  rotate_left
  ·refine aP ?_;exact ⟨(q+1,M4),⟨by simp only [];omega,hI4,by simp only [];omega,.inr (zTb.2 fun j hj=>hn4 j (by omega))⟩,by simp only [];omega,(le0 (zAb ⟨rfl,rfl,rfl,trivial⟩ ⟨rfl,rfl,rfl,trivial⟩ ⟨rfl,rfl,rfl,rfl⟩))⟩
  refine aP ?_;refine zAg (zFn M4 u) nm14 rfl ⟨rfl,rfl,rfl,trivial⟩ rfl (w0 ?_)
  refine bcase_p (fun g4=>?_) (fun g4=>?_)<;>conv=>whnf
  ·obtain ⟨t,t0,t1,gM⟩:=hI4.g.ex;have hst:=zHa gM t1 hw (by omega) u;have hIs:=hI4.step u;have hcs:=zUb M4 u
   have hns:∀ j,j<u+1->stV (zBi M4 u).1 j≠6:=fun j hj=>zUa g4 (by
    by_cases e:j=u
    ·exact .inl e
    ·exact .inr (hn4 j (by omega)))
   refine aP ?_;refine zAg hst nm14 rfl ⟨rfl,rfl,rfl,trivial⟩ rfl (aP ?_);exact ⟨(u+1,(zBi M4 u).1),⟨by simp only [];omega,hIs,by simp only [];omega,hns⟩,by simp only [];omega,(le0 (zAb ⟨rfl,rfl,rfl,rfl,trivial⟩ ⟨rfl,rfl,rfl,trivial⟩ ⟨rfl,rfl,rfl,rfl⟩))⟩
  ·refine aP ?_
   exact ⟨(u+1,M4),⟨by simp only [];omega,hI4,by simp only [];omega,fun j hj=>by
    by_cases e:j=u
    ·rw [e];exact g4
    ·exact hn4 j (by simp only [] at hj;omega)⟩,by simp only [];omega,(le0 (zAb ⟨rfl,rfl,rfl,rfl,trivial⟩ ⟨rfl,rfl,rfl,trivial⟩ ⟨rfl,rfl,rfl,rfl⟩))⟩
 have hk2:k<acts.length:=by omega
 refine aP ?_;refine zAd (by omega) (w0 ?_);refine zAc (x:=encI acts[k]) (by simp [hk2]) (aW ?_);refine zAg (zUv hI.g hw (by omega) acts[k]) nm14 rfl ⟨rfl,rfl,rfl,trivial⟩ rfl (aP ?_);have e:=es hk2;rw [hM2] at e;refine ⟨k+1,⟨by omega,by omega⟩,by omega,?_⟩;rw [e];exact (le0 (zAb ⟨rfl,rfl,rfl,rfl,trivial⟩ ⟨rfl,rfl,rfl,trivial⟩ ⟨rfl,rfl,rfl,rfl⟩))
end Go.Lk
