/-
  What functions compute; no condition beyond each theorem's own.
-/
import Derived.Test.YtaofmndhdmkgkaaGreatGAu
import Derived.Test.YtaofmndhdmkgkaaGreatGAw
namespace Go.Lk
open Go Go.Proofs Go.RowKit
theorem yCk {P:Program} {f:FuncId} {xs xs':List AV} {hp:Nat->Option Blk} {e:Eff} (H:zOj P f xs hp e) (hl:xs'.length=xs.length) (h:∀ (i:Nat) (x y:AV),xs'[i]?=some x->xs[i]?=some y->WkA x y):zOj P f xs' hp e:=
 ⟨H.1,fun own M ι w vs ho ha hh hd=>H.2 own M ι w vs ho ha hh ⟨hd.1.trans hl,fun i d v h1 h2=>by
  have hi:i<xs.length:=(List.getElem?_eq_some_iff.1 h1).1;have h3:xs'[i]?=some (xs'[i]'(by omega)):=List.getElem?_eq_getElem (by omega)
  exact (h i _ d h3 h1).out M ι v (hd.2 i _ v h3 h2)⟩⟩
theorem yCz {P:Program} {f:FuncId} {a b x y:AV} {pre post:List (Nat×Blk)} {d:D} (H:zAx P f [a,b,y] pre post d) (hx:∀ s,rnV s x=x) (hy:∀ s,rnV s y=y) (hw:WkA x y):zAx P f [a,b,x] pre post d:=
 ⟨H.1,fun s hp h1 h2=>yCk (H.2 s hp h1 h2) rfl fun i u v e1 e2=>by
  match i with
  |0=>cases e1;cases e2;exact wk_refl _
  |1=>cases e1;cases e2;exact wk_refl _
  |2=>cases e1;cases e2;rw [hx,hy];exact hw
  |i+3=>cases e1⟩
theorem hcall_ff {P:Program} {f:FuncId} {a b:AV} {pre post:List (Nat×Blk)} {d:D} (H:zAx P f [a,b,.d (.bool false)] pre post d):zAx P f [a,b,.ff] pre post d:=yCz H (fun _=>rfl) (fun _=>rfl) wk_ff
theorem z5l {P:Program} {f:FuncId} {a b c:AV} {pre post:List (Nat×Blk)} {d:D} (H:zAx P f [a,b,.d (.lst []),c] pre post d):zAx P f [a,b,.nil,c] pre post d:=
 ⟨H.1,fun s hp h1 h2=>yCk (H.2 s hp h1 h2) rfl fun i u v e1 e2=>by
  match i with
  |0=>cases e1;cases e2;exact wk_refl _
  |1=>cases e1;cases e2;exact wk_refl _
  |2=>cases e1;cases e2;exact wk_nil
  |3=>cases e1;cases e2;exact wk_refl _
  |i+4=>cases e1⟩
noncomputable def stN (m:MS):Nat->MS×Bool
 |0=>(m,false)
 |k+1=>((zB (stN m k).1 k).1,(stN m k).2||(zB (stN m k).1 k).2)
noncomputable def zBz (m:MS) (n:Nat) (fault:Bool):MS×Bool:=
 ((finM (zHa (stN m (min n 4)).1) 0 fault).1,(stN m (min n 4)).2||(finM (zHa (stN m (min n 4)).1) 0 fault).2)
def fbN (faults:List Bool) (i:Nat):Bool:=if 0<faults.length then faults[i%faults.length]?.getD false else false
noncomputable def rnds (m:MS) (n:Nat) (faults:List Bool):Nat->MS
 |0=>m
 |i+1=>(zBz (rnds m n faults i) n (fbN faults i)).1
open Classical in
noncomputable def zJl (m:MS) (n:Nat):Bool:=decide (∃ k,k<min n 4/\0<lfV m k)
theorem z9v {m:MS} {n:Nat}:zJl m n=true↔∃ k,k<min n 4/\0<lfV m k:=by simp [zJl]
theorem zWa {m:MS} {n:Nat}:zJl m n=false↔∀ k,k<min n 4->¬0<lfV m k:=by
 rw [zJl,decide_eq_false_iff_not];exact ⟨fun h k hk hp=>h ⟨k,hk,hp⟩,fun h ⟨k,hk,hp⟩=>h k hk hp⟩
theorem MGE.pump {work m} (h:MGE work m):MGE work (zHa m):=by
 obtain ⟨t,h0,h1,g⟩:=h.ex;exact ⟨t,h0,h1,g.pump⟩
theorem MGE.fin {work m} (h:MGE work m) (i:Int) (b:Bool):MGE work (finM m i b).1:=by
 obtain ⟨t,h0,h1,g⟩:=h.ex;exact ⟨t,h0,h1,g.fin i b⟩
theorem MGE.stN {work m} (h:MGE work m):∀ k,MGE work (stN m k).1
 |0=>h
 |k+1=>(MGE.stN h k).step k
theorem yBb (m:MS):∀ k,(stN m k).1.clk<=m.clk+k/\m.clk<= (stN m k).1.clk
 |0=>⟨by show m.clk<=m.clk+0;omega,Int.le_refl _⟩
 |k+1=>by
  have ih:=yBb m k;have h:=zMf (stN m k).1 k;show (zB (stN m k).1 k).1.clk<=m.clk+(k+1:Nat) /\m.clk<= (zB (stN m k).1 k).1.clk;omega
theorem MGE.round {work m} (h:MGE work m) (n:Nat) (b:Bool):MGE work (zBz m n b).1:=((h.stN _).pump).fin _ _
theorem yNq (m:MS) (n:Nat) (b:Bool):(zBz m n b).1.clk<=m.clk+4/\m.clk<= (zBz m n b).1.clk:=by
 have h:=yBb m (min n 4);have e:(zBz m n b).1.clk=(stN m (min n 4)).1.clk:=z1a _ _ _
 rw [e];omega
theorem MGE.rnds {work m} (h:MGE work m) (n:Nat) (fs:List Bool):∀ i,MGE work (rnds m n fs i)
 |0=>h
 |i+1=>(MGE.rnds h n fs i).round n _
theorem z2u (m:MS) (n:Nat) (fs:List Bool):∀ i,(rnds m n fs i).clk<=m.clk+4*i/\m.clk<= (rnds m n fs i).clk
 |0=>⟨by show m.clk<=m.clk+4*0;omega,Int.le_refl _⟩
 |i+1=>by
  have ih:=z2u m n fs i;have h:=yNq (rnds m n fs i) n (fbN fs i);show (zBz (rnds m n fs i) n (fbN fs i)).1.clk<=m.clk+4*(i+1:Nat) /\m.clk<= (zBz (rnds m n fs i) n (fbN fs i)).1.clk;omega
theorem yTy {m:MS} {k:Nat} (h:m.ws.length<=k):lfV m k=0:=by rw [lfV,List.getElem?_eq_none h]
theorem yDl {work m} (h:MGE work m) (hw:∀ l∈work,l.length<=1000) (k:Nat):zAx Tryz.prog 38 [.ptr 1000000 0 0,.d (.int .i64 k)] (mH m) (mH m) (.int .i64 (lfV m k)):=by
 have hl:∀ w∈m.ws,w.ended<=1000000/\w.todo.length<=1000000:=fun w hw'=>by
  obtain ⟨t,_,_,g⟩:=h.ex;obtain ⟨k,hk,rfl⟩:=List.mem_iff_getElem.1 hw';have h1:=(g.ok.w k _ (List.getElem?_eq_getElem hk)).en
  have h2:m.ws[k].todo∈work:=by rw [<-g.td];exact List.mem_map_of_mem (List.getElem_mem hk)
  have:=hw _ h2;omega
 have hlf:=zLv m k hl;rw [if_pos (by omega),Int.toNat_natCast] at hlf;exact hlf
set_option maxRecDepth 20000 in
set_option maxHeartbeats 16000000 in
theorem zZi {work m} (h:MGE work m) (hw:∀ l∈work,l.length<=1000) (n:Nat) (hn:n<=1000000):zAx Tryz.prog 74 [.ptr 1000000 0 0,.d (.int .i64 n)] (mH m) (mH m) (.bool (zJl m n)):=by
 refine zAr Tryz.func74 2 rfl (by kernel_rfl) (by rfl) (aP ?_);refine zAq (ι:=Nat) (fun k=>[(0,.ptr 1000000 0 0),(7,.d (.int .i64 (min (n:Int) 4))),(8,.d (.int .i64 k))]) (fun k=>mH m)
  (fun k=>k<=min n 4/\ ∀ j,j<k->¬0<lfV m j) (fun k=>min n 4-k) 0 ⟨Nat.zero_le _,fun j h=>absurd h (by omega)⟩ (le0 (zAb ⟨rfl,rfl,rfl,trivial⟩ ⟨rfl,rfl,rfl,trivial⟩ ⟨rfl,rfl,rfl,rfl⟩)) ?_
 rintro k ⟨hk,hR⟩
 conv=>whnf
 refine bcase_p (fun h5=>?_) (fun h5=>?_)<;>conv=>whnf
 ·refine aP ?_;refine zAg (yDl h hw k) nm3 rfl ⟨rfl,rfl,rfl,trivial⟩ rfl (w0 ?_)
  refine bcase_p (fun h6=>?_) (fun h6=>?_)<;>conv=>whnf
  ·rw [z9v.2 ⟨k,by omega,h6⟩];refine aP ?_;exact zAi rfl rfl rfl ⟨rfl,rfl,rfl,trivial⟩
  ·refine aP ?_
   exact ⟨k+1,⟨by omega,fun j hj=>by
    by_cases e:j=k
    ·subst e;exact h6
    ·exact hR j (by omega)⟩,by omega,(le0 (zAb ⟨rfl,rfl,rfl,trivial⟩ ⟨rfl,rfl,rfl,trivial⟩ ⟨rfl,rfl,rfl,rfl⟩))⟩
 ·rw [zWa.2 fun j hj=>hR j (by omega)];refine aP ?_;exact zAi rfl rfl rfl ⟨rfl,rfl,rfl,trivial⟩
set_option maxRecDepth 20000 in
set_option maxHeartbeats 16000000 in
theorem zWz {work m} (h:MGE work m) (hw:∀ l∈work,l.length<=1000) (hc:m.clk<=90000) (n:Nat) (hn:n<=1000000) (b:Bool):zAx Tryz.prog 41 [.ptr 1000000 0 0,.d (.int .i64 n),.d (.bool b)] (mH m) (mH (zBz m n b).1) (.bool (zBz m n b).2):=by
 refine zAr Tryz.func41 3 rfl (by kernel_rfl) (by rfl) (aP ?_);refine zAq (ι:=Nat) (fun k=>[(0,.ptr 1000000 0 0),(2,.d (.bool b)),(7,.d (.bool (stN m k).2)),(10,.d (.int .i64 (min (n:Int) 4))),(11,.d (.int .i64 k))]) (fun k=>mH (stN m k).1)
  (fun k=>k<=min n 4) (fun k=>min n 4-k) 0 (Nat.zero_le _) (len [.wk 7 (.d (.bool false))] ⟨wk_ff,trivial⟩ (zAb ⟨rfl,rfl,rfl,rfl,rfl,trivial⟩ ⟨rfl,rfl,rfl,trivial⟩ ⟨rfl,rfl,rfl,rfl⟩)) ?_
 intro k hk;have hM:=h.stN k;have hcl:=(yBb m k).1;have e1:(stN m (k+1)).1=(zB (stN m k).1 k).1:=rfl;have e2:(stN m (k+1)).2=((stN m k).2||(zB (stN m k).1 k).2):=rfl
 conv=>whnf
 refine bcase_p (fun h5=>?_) (fun h5=>?_)<;>conv=>whnf
 ·obtain ⟨t,t0,t1,g⟩:=hM.ex;have hst:=zNd g t1 hw (by omega) k;rw [<-e1] at hst;obtain ⟨r,hr⟩:∃ r,(zB (stN m k).1 k).2=r:=⟨_,rfl⟩;obtain ⟨r0,hr0⟩:∃ r0,(stN m k).2=r0:=⟨_,rfl⟩;rw [hr] at hst e2;rw [hr0] at e2⊢;refine aP ?_;refine zAg hst nm3 rfl ⟨rfl,rfl,rfl,trivial⟩ rfl (w0 ?_)
  refine zAf (fun h6=>?_) (fun h6=>?_)<;>conv=>whnf
  ·rw [h6,Bool.or_true] at e2;refine aP ?_;refine ⟨k+1,by omega,by omega,len [.wk 7 (.d (.bool true))] ⟨yZr,trivial⟩ (zAb ⟨rfl,rfl,by rw [e2];rfl,rfl,rfl,trivial⟩ ⟨rfl,rfl,rfl,trivial⟩ ⟨rfl,rfl,rfl,rfl⟩)⟩
  ·rw [h6,Bool.or_false] at e2;refine aP ?_;refine ⟨k+1,by omega,by omega,le0 (zAb ⟨rfl,rfl,by rw [e2];rfl,rfl,rfl,trivial⟩ ⟨rfl,rfl,rfl,trivial⟩ ⟨rfl,rfl,rfl,rfl⟩)⟩
 have hkl:k=min n 4:=by omega
 subst hkl;obtain ⟨t,t0,t1,g⟩:=hM.ex;have hpu:=yEn (stN m (min n 4)).1 hM.ok.su g.gd.us;have hfi:=z9b g.pump (by show (stN m (min n 4)).1.clk<=100000;omega) 0 b;have e3:(zBz m n b).1=(finM (zHa (stN m (min n 4)).1) 0 b).1:=rfl;have e4:(zBz m n b).2=((stN m (min n 4)).2||(finM (zHa (stN m (min n 4)).1) 0 b).2):=rfl;rw [<-e3] at hfi;obtain ⟨r,hr⟩:∃ r,(finM (zHa (stN m (min n 4)).1) 0 b).2=r:=⟨_,rfl⟩;rw [hr] at hfi e4;refine aP ?_;refine zAg hpu nm3 rfl ⟨rfl,rfl,rfl,trivial⟩ rfl (aP ?_);refine zAg hfi nm3 rfl ⟨rfl,rfl,rfl,trivial⟩ rfl (w0 ?_)
 refine zAf (fun h6=>?_) (fun h6=>?_)<;>conv=>whnf
 ·rw [h6,Bool.or_true] at e4;rw [e4];refine aP ?_;exact zAi rfl rfl rfl ⟨rfl,rfl,rfl,trivial⟩
 ·rw [h6,Bool.or_false] at e4;rw [e4];refine aP ?_;exact zAi rfl rfl rfl ⟨rfl,rfl,rfl,trivial⟩
structure RunN (m:MS) (n:Nat) (fs:List Bool) (most N:Nat):Prop where
 le:N<=most
 all:∀ i,i<N->zJl (rnds m n fs i) n=true
 stop:N=most\/zJl (rnds m n fs N) n=false
theorem z2y (m:MS) (n:Nat) (fs:List Bool):∀ most,∃ N,RunN m n fs most N
 |0=>⟨0,Nat.le_refl 0,fun i h=>absurd h (Nat.not_lt_zero _),.inl rfl⟩
 |k+1=>by
  obtain ⟨N,h1,h2,h3⟩:=z2y m n fs k
  cases e:zJl (rnds m n fs N) n with
  |false=>exact ⟨N,by omega,h2,.inr e⟩
  |true=>
   have hN:N=k:=h3.resolve_right (by rw [e];decide);subst hN;refine ⟨N+1,Nat.le_refl _,fun i hi=>?_,.inl rfl⟩
   by_cases q:i=N
   ·rw [q];exact e
   ·exact h2 i (by omega)
set_option maxRecDepth 20000 in
set_option maxHeartbeats 16000000 in
theorem zQf {work m} (h:MGE work m) (hw:∀ l∈work,l.length<=1000) (n:Nat) (hn:n<=1000000) (fs:List Bool) (hfs:fs.length<=1000000) (most:Nat) (hmo:m.clk+4*most<=90000) (N:Nat) (hN:RunN m n fs most N):
  zAx Tryz.prog 29 [.ptr 1000000 0 0,.d (.int .i64 n),.d (.lst (fs.map zFb)),.d (.int .i64 most)] (mH m) (mH (rnds m n fs N)) (.int .i64 N):=by
 have hmf:(fs.map zFb).length=fs.length:=List.length_map ..
 have hNm:=hN.le
 have hc0:0<=m.clk:=by obtain ⟨t,_,_,g⟩:=h.ex;have:=g.ev;omega
 refine zAr Tryz.func29 4 rfl (by kernel_rfl) (by rfl) (aP ?_);refine zAq (ι:=Nat) (fun i=>[(0,.ptr 1000000 0 0),(1,.d (.int .i64 n)),(2,.d (.lst (fs.map zFb))),(3,.d (.int .i64 most)),(9,.d (.int .i64 i))]) (fun i=>mH (rnds m n fs i))
  (fun i=>i<=N) (fun i=>N-i) 0 (Nat.zero_le _) (le0 (zAb ⟨rfl,rfl,rfl,rfl,rfl,trivial⟩ ⟨rfl,rfl,rfl,trivial⟩ ⟨rfl,rfl,rfl,rfl⟩)) ?_
 intro i hi;have hM:=h.rnds n fs i;have hcl:=(z2u m n fs i).1;have hall:=hN.all i;have hstop:=hN.stop
 by_cases hiN:i<N
 ·have hL:=zZi hM hw n hn;rw [hall hiN] at hL;obtain ⟨M,hM2⟩:∃ M,rnds m n fs i=M:=⟨_,rfl⟩;rw [hM2] at hL hM hcl⊢;have hrd:=zWz hM hw (by omega) n hn (fbN fs i)
  conv=>whnf
  refine aP ?_;refine zAg hL nm3 rfl ⟨rfl,rfl,rfl,trivial⟩ rfl (aP ?_)
  refine bcase_p (fun h6=>?_) (fun h6=>?_)<;>conv=>whnf
  ·have hpos:0<fs.length:=by omega
   have hlt:i%fs.length<fs.length:=Nat.mod_lt _ hpos
   have hb:fbN fs i=fs[i%fs.length]:=by rw [fbN,if_pos hpos,List.getElem?_eq_getElem hlt,Option.getD_some]
   rw [hb] at hrd
   have hz:(fs.map zFb)[i%fs.length]?=some [.bool fs[i%fs.length]]:=by rw [List.getElem?_map,List.getElem?_eq_getElem hlt];rfl
   have hem:((i:Int)%((fs.map zFb).length:Int))=((i%fs.length:Nat):Int):=by rw [hmf];rfl
   refine aP ?_;refine zCs (by omega) (by omega) (aP ?_);rw [hem];refine zAd (by omega) (w0 ?_);refine zAc hz (aP ?_);refine zAg hrd nm3 rfl ⟨rfl,rfl,rfl,trivial⟩ rfl (aP ?_);refine ⟨i+1,by omega,by omega,?_⟩;rw [show rnds m n fs (i+1)=(zBz M n (fs[i%fs.length])).1 by rw [<-hb,<-hM2];rfl];exact (le0 (zAb ⟨rfl,rfl,rfl,rfl,rfl,trivial⟩ ⟨rfl,rfl,rfl,trivial⟩ ⟨rfl,rfl,rfl,rfl⟩))
  ·have hb:fbN fs i=false:=by rw [fbN,if_neg (by omega)]
   rw [hb] at hrd;replace hrd:=hcall_ff hrd;refine aP ?_;refine zAg hrd nm3 rfl ⟨rfl,rfl,rfl,trivial⟩ rfl (aP ?_);refine ⟨i+1,by omega,by omega,?_⟩;rw [show rnds m n fs (i+1)=(zBz M n (false)).1 by rw [<-hb,<-hM2];rfl];exact (le0 (zAb ⟨rfl,rfl,rfl,rfl,rfl,trivial⟩ ⟨rfl,rfl,rfl,trivial⟩ ⟨rfl,rfl,rfl,rfl⟩))
 ·have hiN2:i=N:=by omega
  subst hiN2
  by_cases him:i=most
  ·conv=>whnf
   refine aP ?_;exact zAi rfl rfl rfl ⟨rfl,rfl,rfl,trivial⟩
  ·have hL:=zZi hM hw n hn;rw [hstop.resolve_left him] at hL
   conv=>whnf
   refine aP ?_;refine zAg hL nm3 rfl ⟨rfl,rfl,rfl,trivial⟩ rfl (aP ?_);exact zAi rfl rfl rfl ⟨rfl,rfl,rfl,trivial⟩
def trK (s:SA) (k:Nat):Nat:=match s.out.find? (fun f=>f.who==k) with|some f=>f.tr|none=>1
def ph (s:SA) (k:Nat) (w:WA):Nat:=if w.st=4 then 3+trK s k else if w.st=5 then 7 else if w.st=6 then 8 else w.st
def phi (m:MS) (k:Nat):Nat:=match m.ws[k]? with|none=>0|some w=>9*(w.todo.length-w.ended)-ph m.s k w
def Phi (m:MS):Nat:=phi m 0+phi m 1+phi m 2+phi m 3
theorem yUl {m:MS} {k:Nat} {w:WA} (h:m.ws[k]?=some w):phi m k=9*(w.todo.length-w.ended)-ph m.s k w:=by rw [phi,h]
theorem phi_no {m:MS} {k:Nat} (h:m.ws.length<=k):phi m k=0:=by rw [phi,List.getElem?_eq_none h]
structure Dec (m m':MS) (d:Bool):Prop where
 le:∀ k,phi m' k<=phi m k
 lt:d=true->∃ k,k<4/\phi m' k<phi m k
theorem Dec.Phi {m m':MS} {d:Bool} (h:Dec m m' d):Phi m'<=Phi m/\ (d=true->Phi m'<Phi m):=by
 have h0:=h.le 0;have h1:=h.le 1;have h2:=h.le 2;have h3:=h.le 3;refine ⟨by unfold Go.Lk.Phi;omega,fun hd=>?_⟩;obtain ⟨k,hk,hl⟩:=h.lt hd
 have:k=0\/k=1\/k=2\/k=3:=by omega
 unfold Go.Lk.Phi
 rcases this with rfl|rfl|rfl|rfl<;>omega
theorem Dec.same {m m':MS} (h:∀ k,phi m' k=phi m k):Dec m m' false:=⟨fun k=>by rw [h k];exact Nat.le_refl _,fun q=>by cases q⟩
theorem Dec.trans {a b c:MS} {d e:Bool} (h1:Dec a b d) (h2:Dec b c e):Dec a c (d||e):=by
 refine ⟨fun k=>Nat.le_trans (h2.le k) (h1.le k),fun h=>?_⟩
 rcases Bool.or_eq_true_iff.1 h with h|h
 ·obtain ⟨k,hk,hl⟩:=h1.lt h;exact ⟨k,hk,Nat.lt_of_le_of_lt (h2.le k) hl⟩
 ·obtain ⟨k,hk,hl⟩:=h2.lt h;exact ⟨k,hk,Nat.lt_of_lt_of_le hl (h1.le k)⟩
theorem ph_le {h lat s k w} (v:WOk h lat s k w) (hs:SU s):ph s k w<=8/\ (w.st=4->4<=ph s k w/\ph s k w<=6):=by
 have h6:=v.st6
 have ht:1<=trK s k/\trK s k<=3:=by
  rw [trK]
  cases e:s.out.find? (fun f=>f.who==k) with
  |none=>exact ⟨Nat.le_refl 1,by decide⟩
  |some f=>
   have:=hs.lt f (List.mem_of_find?_eq_some e);exact ⟨this.2.2.2.1,this.2.2.2.2⟩
 rw [ph]
 repeat' split
 all_goals omega
theorem zIj {m m':MS} {k:Nat} {w w':WA} (hk:m.ws[k]?=some w) (hws:m'.ws=m.ws.set k w') (hs:∀ j,j≠k->trK m'.s j=trK m.s j) (h4:k<4) (hlt:9*(w'.todo.length-w'.ended)-ph m'.s k w'<9*(w.todo.length-w.ended)-ph m.s k w):Dec m m' true:=by
 have hl:=(List.getElem?_eq_some_iff.1 hk).1
 have hk':m'.ws[k]?=some w':=by rw [hws,List.getElem?_set,if_pos rfl,if_pos hl]
 have hself:phi m' k<phi m k:=by rw [yUl hk',yUl hk];exact hlt
 refine ⟨fun j=>?_,fun _=>⟨k,h4,hself⟩⟩
 by_cases e:j=k
 ·rw [e];exact Nat.le_of_lt hself
 ·have e2:m'.ws[j]?=m.ws[j]?:=by rw [hws,List.getElem?_set,if_neg (fun q=>e q.symm)]
  rw [phi,phi,e2]
  cases h:m.ws[j]? with
  |none=>exact Nat.le_refl _
  |some v=>simp only [ph,hs j e];exact Nat.le_refl _
theorem yZd {s:SA} {k:Nat} (h:∀ p,¬WJ s k p):trK s k=1:=by
 rw [trK]
 cases e:s.out.find? (fun f=>f.who==k) with
 |none=>rfl
 |some f=>
  have h1:f.who=k:=by have:=List.find?_some e;simpa using this
  exact absurd (.inr ⟨f,List.mem_of_find?_eq_some e,h1,rfl⟩) (h f.pg)
theorem z0u {m:MS} (o:MOk m) (k:Int):Dec m (zB m k).1 (zB m k).2:=by
 cases hd:(zB m k).2 with
 |false=>
  obtain ⟨c,e,_⟩:=stepM_no hd;rw [e]
  exact Dec.same fun j=>rfl
 |true=>
  rw [zB] at hd⊢
  split at hd
  ·cases hd
  rename_i hk0;rw [if_neg hk0]
  cases hk:m.ws[k.toNat]? with
  |none=>rw [hk] at hd;cases hd
  |some w=>
   rw [hk] at hd;have hl:=(List.getElem?_eq_some_iff.1 hk).1
   have h4:k.toNat<4:=by have:=o.n4;omega
   have v:=o.w _ w hk;have hp:=ph_le v o.su;have hbu:=v.bu;simp only [] at hd⊢;unfold stepW at hd⊢
   split
   ·rename_i hs
    split
    ·rename_i hn;rw [hs] at hd;simp only [if_pos hn] at hd
     cases hd
    ·rename_i hn;refine zIj hk rfl (fun _ _=>rfl) h4 ?_;simp only [ph,hs]
     simp;omega
   ·rename_i hs;have hb:=hbu (by omega)
    split
    ·rename_i hn;rw [hs] at hd;simp only [if_pos hn] at hd
     cases hd
    split
    ·refine zIj hk rfl (fun _ _=>rfl) h4 ?_;simp only [ph,hs,zJu]
     simp;omega
    ·refine zIj hk rfl (fun _ _=>rfl) h4 ?_;simp only [ph,hs]
     simp;omega
   ·rename_i hs;have hb:=hbu (by omega)
    split
    ·rename_i hn;rw [hs] at hd;simp only [if_pos hn] at hd
     cases hd
    ·refine zIj hk rfl (fun _ _=>rfl) h4 ?_;simp only [ph,hs]
     simp;omega
   ·rename_i hs;have hb:=hbu (by omega)
    split
    ·rename_i hn;rw [hs] at hd;simp only [if_pos hn] at hd
     cases hd
    split
    ·refine zIj hk rfl (fun _ _=>rfl) h4 ?_
     have ht:trK (askS m.s k.toNat w.op.2.1) k.toNat=1:=yZd (s:=m.s) (k:=k.toNat) fun p hj=>by have:=(v.job p).1 hj;omega
     simp only [ph,hs];simp only [ht]
     simp;omega
    ·refine zIj hk rfl (fun _ _=>rfl) h4 ?_;simp only [ph,hs]
     simp;omega
   ·rename_i hs;have hb:=hbu (by omega);refine zIj hk rfl (fun _ _=>rfl) h4 ?_;simp only [ph,hs,zJu]
    simp;omega
   ·rename_i hs;have hb:=hbu (by omega);refine zIj hk rfl (fun _ _=>rfl) h4 ?_;simp only [ph,hs]
    simp;omega
   ·rename_i n1 n2 n3 n4 n5 n6;exfalso
    revert hd
    split
    all_goals first|contradiction|(intro h;cases h)
theorem tr_app {s:SA} {k:Nat} {f:Fly} (h1:f.tr=1) (s':SA) (ho:s'.out=s.out++[f]):trK s' k=trK s k:=by
 rw [trK,trK,ho,List.find?_append]
 cases e:s.out.find? (fun f=>f.who==k) with
 |some g=>rfl
 |none=>
  simp only [Option.none_or];rw [List.find?_cons]
  split
  ·rename_i g heq
   split at heq
   ·cases heq;exact h1
   ·cases heq
  ·rfl
theorem yOr:∀ (n:Nat) (s:SA) (k:Nat),trK (zIq n s) k=trK s k
 |0,s,k=>rfl
 |n+1,s,k=>by
  rw [zIq]
  split
  ·split
   ·rfl
   ·rename_i j hj;rw [yOr n];exact tr_app rfl _ rfl
  ·rfl
theorem yCb (m:MS):Dec m (zHa m) false:=Dec.same fun k=>by
 rw [phi,phi];show (match m.ws[k]? with|none=>0|some w=>9*(w.todo.length-w.ended)-ph (zKw m.s) k w)=_
 cases m.ws[k]? with
 |none=>rfl
 |some w=>simp only [ph,show trK (zKw m.s) k=trK m.s k from yOr 5 m.s k]
theorem yUu {s:SA} {i:Nat} {j:Fly} {A B:List Fly} (c:Cut s i j A B) {k:Nat} (hk:k≠j.who) {s':SA} {C:List Fly} (ho:s'.out=(A++B)++C) (hC:∀ f∈C,f.who=j.who):trK s' k=trK s k:=by
 have e0:(j.who==k)=false:=by simpa using fun q=>hk q.symm
 have e1:C.find? (fun f=>f.who==k)=none:=by
  rw [List.find?_eq_none];intro f hf
  rw [hC f hf];simpa using fun q=>hk q.symm
 rw [trK,trK,ho,c.o,List.find?_append,e1,List.find?_append,List.find?_append,List.find?_cons,e0,Option.or_none]
theorem yZe {s:SA} (_:SU s) {i:Nat} {j:Fly} {A B:List Fly} (c:Cut s i j A B):trK s j.who=j.tr:=by
 have e1:A.find? (fun f=>f.who==j.who)=none:=by
  rw [List.find?_eq_none];intro f hf;have:=c.w f (List.mem_append.2 (.inl hf))
  simpa using this
 rw [trK,c.o,List.find?_append,e1,List.find?_cons];simp
theorem ySq {s:SA} {i:Nat} {j g:Fly} {A B:List Fly} (c:Cut s i j A B) {s':SA} (ho:s'.out=(A++B)++[g]) (hg:g.who=j.who):trK s' j.who=g.tr:=by
 have e1:(A++B).find? (fun f=>f.who==j.who)=none:=by
  rw [List.find?_eq_none];intro f hf;have:=c.w f hf
  simpa using this
 rw [trK,ho,List.find?_append,e1,List.find?_cons];simp [hg]
theorem yJz {m:MS} (o:MOk m) (i:Int) (b:Bool):Dec m (finM m i b).1 (finM m i b).2:=by
 rw [finM]
 split
 ·exact Dec.same fun j=>rfl
 ·rename_i hi;obtain ⟨j,hj⟩:∃ j,m.s.out[i.toNat]?=some j:=⟨_,List.getElem?_eq_getElem (by omega)⟩;obtain ⟨A,B,c⟩:=yTn o.su hj;have hjo:=(c.mem j).2 (.inl rfl);have hwj:WJ m.s j.who j.pg:=.inr ⟨j,hjo,rfl,rfl⟩
  have hlt:j.who<m.ws.length:=by have:=(o.su.lt j hjo).2.1;rw [o.sj] at this;exact this
  obtain ⟨w,hk⟩:∃ w,m.ws[j.who]?=some w:=⟨_,List.getElem?_eq_getElem hlt⟩;have v:=o.w _ w hk;have h4:=((v.job _).1 hwj).1;have hb:=v.bu (by omega);have htr:=(o.su.lt j hjo).2.2.2;have ht:=yZe o.su c
  have h4':j.who<4:=by have:=o.n4;omega
  rw [z8n,hj];simp only [];rw [c.e]
  split
  ·rename_i s hd
   split at hd
   ·rename_i hc
    cases hd
    refine zIj (w:=w) (w':=w) hk ?_ (fun q hq=>yUu c hq rfl fun f hf=>by rw [List.mem_singleton.1 hf]) h4' ?_
    ·show m.ws=m.ws.set j.who w;obtain ⟨hx,hy⟩:=List.getElem?_eq_some_iff.1 hk
     rw [<-hy];exact (List.set_getElem_self hx).symm
    ·have ht2:trK {m.s with next:=m.s.next+1,out:=(A++B)++[⟨m.s.next,j.who,j.pg,j.tr+1⟩]} j.who=j.tr+1:=ySq (g:=⟨m.s.next,j.who,j.pg,j.tr+1⟩) c rfl rfl;simp only [ph,h4,if_pos,ht,ht2];omega
   ·cases hd
  ·rename_i s k bad hd
   split at hd
   ·cases hd
   ·cases hd
    rw [hk];simp only [];rw [if_neg (fun q=>q h4)]
    have hw:∀ bd:Bool,(zMl m w bd).todo=w.todo/\ (zMl m w bd).ended=w.ended/\ ((zMl m w bd).st=5\/ (zMl m w bd).st=6):=fun bd=>by
     unfold zMl;split
     ·exact ⟨rfl,rfl,.inr rfl⟩
     ·exact ⟨rfl,rfl,.inl rfl⟩
    refine zIj (w:=w) (w':=zMl m w _) hk rfl (fun q hq=>yUu (C:=[]) c hq (by rw [List.append_nil]) (fun f hf=>by cases hf)) h4' ?_;rw [(hw _).1,(hw _).2.1]
    have e1:ph m.s j.who w=3+j.tr:=by rw [ph,if_pos h4,ht]
    rw [e1]
    have e2:∀ s bd,7<=ph s j.who (zMl m w bd) /\ph s j.who (zMl m w bd) <=8:=fun s bd=>by
     rw [ph]
     rcases (hw bd).2.2 with e|e<;>rw [e]<;>simp
    show 9*(w.todo.length-w.ended)-ph {m.s with out:=A++B} j.who (zMl m w b)<_;have q1:=(e2 {m.s with out:=A++B} b).1;have q2:=(e2 {m.s with out:=A++B} b).2;generalize ph {m.s with out:=A++B} j.who (zMl m w b)=x at q1 q2⊢;omega
theorem yKa {work m} (h:MGE work m):∀ k,Dec m (stN m k).1 (stN m k).2
 |0=>Dec.same fun _=>rfl
 |k+1=>(yKa h k).trans (z0u (h.stN k).ok k)
theorem z4u {work m} (h:MGE work m) (n:Nat) (b:Bool):Dec m (zBz m n b).1 (zBz m n b).2:=by
 have h1:=yKa h (min n 4);have h2:=yCb (stN m (min n 4)).1;have h3:=yJz ((h.stN (min n 4)).pump).ok 0 b;have:=(h1.trans h2).trans h3;rw [Bool.or_false] at this;exact this
theorem yFa {m:MS}:∀ {k:Nat},(stN m k).2=false->(∃ c,(stN m k).1={m with clk:=c}) /\ ∀ j,j<k->(zB m j).2=false
 |0,_=>⟨⟨m.clk,rfl⟩,fun j hj=>absurd hj (Nat.not_lt_zero _)⟩
 |k+1,h=>by
  have h:((stN m k).2||(zB (stN m k).1 k).2)=false:=h;rw [Bool.or_eq_false_iff] at h;obtain ⟨⟨c,e⟩,hj⟩:=yFa h.1;have h2:=h.2;obtain ⟨c',e',_⟩:=stepM_no h2;rw [e] at h2 e';refine ⟨⟨c',?_⟩,fun j hjk=>?_⟩
  ·show (zB (stN m k).1 k).1=_;rw [e,e']
  ·by_cases q:j=k
   ·rw [q,<-yOk m c];exact h2
   ·exact hj j (by omega)
theorem yYg (m:MS) (n:Nat) (b:Bool):(zBz m n b).2=((stN m (min n 4)).2||(finM (zHa (stN m (min n 4)).1) 0 b).2):=rfl
theorem yHs {work m} (h:MGE work m) {n:Nat} (hn:m.ws.length<=n) (b:Bool) (hx:m.s.next+4<2147483647):(zBz m n b).2=true↔∃ k,k<m.ws.length/\0<lfV m k:=by
 have o:=h.ok;have n4:=o.n4;rw [<-goes o,yYg]
 constructor
 ·intro hd
  cases hs:(stN m (min n 4)).2 with
  |true=>
   refine Classical.byContradiction fun hz=>?_
   have key:∀ k,k<=min n 4->(stN m k).2=false:=fun k=>by
    induction k with
    |zero=>exact fun _=>rfl
    |succ k ih=>
     intro hk;have i1:=ih (by omega);obtain ⟨⟨c,e⟩,_⟩:=yFa i1;show ((stN m k).2||(zB (stN m k).1 k).2)=false;rw [i1,e,Bool.false_or,yOk]
     cases q:(zB m k).2 with
     |false=>rfl
     |true=>
      by_cases hkl:k<m.ws.length
      ·exact absurd ⟨k,hkl,.inl q⟩ hz
      ·rw [zB,if_neg (by omega),Int.toNat_natCast,List.getElem?_eq_none (by omega)] at q;cases q
   rw [key _ (Nat.le_refl _)] at hs;cases hs
  |false=>
   rw [hs,Bool.false_or] at hd;obtain ⟨⟨c,e⟩,_⟩:=yFa hs;rw [e] at hd;rw [finM] at hd
   split at hd
   ·cases hd
   ·rename_i hi;have hp:=zMy 5 o.su
    have hlen:0<(zKw m.s).out.length:=by
     have hi2:¬((0:Int)<0\/ ((zKw m.s).out.length:Int) <=0):=hi;omega
    obtain ⟨f,hf⟩:=List.exists_mem_of_length_pos hlen;have hwj:WJ (zKw m.s) f.who f.pg:=.inr ⟨f,hf,rfl,rfl⟩;have hwj2:=(hp.wj _ _).1 hwj
    have hwho:f.who<m.ws.length:=by
     have:=(hp.su.lt f hf).2.1
     rw [hp.len,o.sj] at this;exact this
    have:=((o.w _ _ (List.getElem?_eq_getElem hwho)).job _).1 hwj2;exact ⟨f.who,hwho,.inr (by rw [zXl (List.getElem?_eq_getElem hwho),this.1];rfl)⟩
 ·rintro ⟨k,hk,hg⟩
  cases hs:(stN m (min n 4)).2 with
  |true=>rfl
  |false=>
   rw [Bool.false_or];obtain ⟨⟨c,e⟩,hj⟩:=yFa hs
   rcases hg with hg|hg
   ·rw [hj k (by omega)] at hg;cases hg
   ·rw [e]
    have hw:∃ w,m.ws[k]?=some w/\w.st=4:=by
     rw [stV] at hg
     cases q:m.ws[k]? with
     |none=>rw [q] at hg;exact absurd (show (0:Int)=4 from hg) (by decide)
     |some w=>rw [q] at hg;exact ⟨w,rfl,by have hg:(w.st:Int)=4:=hg;omega⟩
    obtain ⟨w,hw1,hw2⟩:=hw;have hwj:WJ m.s k w.op.2.1:=((o.w k w hw1).job _).2 ⟨hw2,rfl⟩;have hp:=zMy 5 o.su;have hwj2:WJ (zKw m.s) k w.op.2.1:=(hp.wj _ _).2 hwj;have hall:=yNi o.su hx k (by rw [o.sj];exact hk)
    rcases hwj2 with hq|⟨f,hf,_⟩
    ·rw [hall] at hq;cases hq
    ·have hlen:0<(zKw m.s).out.length:=List.length_pos_of_mem hf
     rw [finM,if_neg (by
      show ¬((0:Int)<0\/ ((zKw m.s).out.length:Int) <=0)
      omega)]
     split
     ·rfl
     ·split
      ·rfl
      ·split<;>rfl
theorem yNb {m:MS} (o:MOk m) (k:Nat):0<phi m k↔0<lfV m k:=by
 rw [phi,lfV]
 cases h:m.ws[k]? with
 |none=>exact ⟨fun q=>absurd q (Nat.lt_irrefl _),fun q=>absurd (show (0:Int)<0 from q) (by decide)⟩
 |some w=>
  have v:=o.w k w h;have hp:=(ph_le v o.su).1;have he:=v.en;show 0<9*(w.todo.length-w.ended)-ph m.s k w↔0<(w.todo.length:Int)-w.ended
  by_cases hs:w.st=0
  ·have:ph m.s k w=0:=by simp [ph,hs]
   omega
  ·have:=v.bu hs;omega
theorem yIj {m:MS} (o:MOk m):0<Phi m↔∃ k,k<m.ws.length/\0<lfV m k:=by
 constructor
 ·intro h;unfold Phi at h
  have:0<phi m 0\/0<phi m 1\/0<phi m 2\/0<phi m 3:=by omega
  have key:∀ k,0<phi m k->∃ k,k<m.ws.length/\0<lfV m k:=fun k hk=>by
   refine ⟨k,?_,(yNb o k).1 hk⟩
   refine Classical.byContradiction fun hn=>?_
   rw [phi_no (by omega)] at hk;exact absurd hk (Nat.lt_irrefl _)
  rcases this with h|h|h|h
  ·exact key _ h
  ·exact key _ h
  ·exact key _ h
  ·exact key _ h
 ·rintro ⟨k,hk,h⟩;have h1:=(yNb o k).2 h;have:=o.n4
  have:k=0\/k=1\/k=2\/k=3:=by omega
  unfold Phi
  rcases this with rfl|rfl|rfl|rfl<;>omega
theorem yAd (m:MS) (k:Int):(zB m k).1.s.next=m.s.next:=by
 rw [zB];repeat' split
 ·rfl
 ·rfl
 ·unfold stepW;repeat' split
  all_goals rfl
theorem yUi (m:MS):∀ k,(stN m k).1.s.next=m.s.next
 |0=>rfl
 |k+1=>(yAd _ _).trans (yUi m k)
theorem yMq {m:MS} (o:MOk m):(zHa m).s.next<=m.s.next+4:=by
 have h:=zMy 5 o.su;have:=h.nx;have:=h.su.fl;show (zIq 5 m.s).next<=_;omega
theorem yUg (m:MS) (i:Int) (b:Bool):(finM m i b).1.s.next<=m.s.next+1:=by
 have key:∀ n,(z8n m.s n b).1.next<=m.s.next+1:=fun n=>by
  rw [z8n]
  split
  ·show m.s.next<=_;omega
  ·split
   ·show m.s.next+1<=_;omega
   ·show m.s.next<=_;omega
 have hk:=key i.toNat;rw [finM]
 split
 ·show m.s.next<=_;omega
 split
 ·rename_i s e;rw [e] at hk;exact hk
 ·rename_i s k bad e;rw [e] at hk
  split
  ·exact hk
  ·split<;>exact hk
theorem yRf {work m} (h:MGE work m) (n:Nat) (b:Bool):(zBz m n b).1.s.next<=m.s.next+5:=by
 have h1:=yUi m (min n 4);have h2:=yMq (h.stN (min n 4)).ok;have h3:=yUg (zHa (stN m (min n 4)).1) 0 b;show (finM (zHa (stN m (min n 4)).1) 0 b).1.s.next<=_;omega
theorem yAb {work m} (h:MGE work m) (n:Nat) (fs:List Bool):∀ i,(rnds m n fs i).s.next<=m.s.next+5*i
 |0=>by show m.s.next<=_;omega
 |i+1=>by
  have h1:=yAb h n fs i;have h2:=yRf (h.rnds n fs i) n (fbN fs i);show (zBz (rnds m n fs i) n (fbN fs i)).1.s.next<=_;omega
theorem yFy {work m} (h:MGE work m):m.ws.length=work.length:=by
 obtain ⟨t,_,_,g⟩:=h.ex;rw [<-g.td,List.length_map]
theorem yBr {work m} (h:MGE work m) {n:Nat} (hn:work.length<=n) (fs:List Bool):∀ i,m.s.next+5*i<=2147483600->Phi (rnds m n fs i) <=Phi m-i
 |0,_=>by show Phi m<=_;omega
 |i+1,hb=>by
  have ih:=yBr h hn fs i (by omega);have hM:=h.rnds n fs i;have hx:=yAb h n fs i;have hl:=yFy hM;have hD:=(z4u hM n (fbN fs i)).Phi;have hr:=yHs hM (n:=n) (by omega) (fbN fs i) (by omega);rw [<-yIj hM.ok] at hr;show Phi (zBz (rnds m n fs i) n (fbN fs i)).1<=_
  by_cases hz:0<Phi (rnds m n fs i)
  ·have:=hD.2 (hr.2 hz);omega
  ·omega
theorem yRp {work m} (h:MGE work m) {n:Nat} (hn:work.length<=n) (fs:List Bool) {i:Nat} (hi:Phi m<=i) (hb:m.s.next+5*i<=2147483600) (k:Nat):lfV (rnds m n fs i) k=0:=by
 have h1:=yBr h hn fs i hb;have hM:=h.rnds n fs i
 have h2:¬0<Phi (rnds m n fs i):=by omega
 rw [yIj hM.ok] at h2
 by_cases hk:k<(rnds m n fs i).ws.length
 ·have h3:¬0<lfV (rnds m n fs i) k:=fun q=>h2 ⟨k,hk,q⟩
  have:=(hM.ok.w k _ (List.getElem?_eq_getElem hk)).en;rw [yTx (List.getElem?_eq_getElem hk)] at h3⊢;omega
 ·exact yTy (by omega)
theorem HI.pump {P0 n work m} (h:HI P0 n work m):HI P0 n work (zHa m):=by
 have t:Tr m (zHa m):=.same m.h m.lat _ m.clk (.inl rfl);exact ⟨h.g.pump,h.pg.tr t,h.tg.tr t,h.og.tr t⟩
theorem HI.fin {P0 n work m} (h:HI P0 n work m) (i:Int) (b:Bool):HI P0 n work (finM m i b).1:=by
 have t:=yUv h.g.ok i b;exact ⟨h.g.fin i b,h.pg.tr t,h.tg.tr t,h.og.tr t⟩
theorem HI.stN {P0 n work m} (h:HI P0 n work m):∀ k,HI P0 n work (stN m k).1
 |0=>h
 |k+1=>(HI.stN h k).step k
theorem HI.round {P0 n work m} (h:HI P0 n work m) (q:Nat) (b:Bool):HI P0 n work (zBz m q b).1:=((h.stN _).pump).fin _ _
theorem HI.rnds {P0 n work m} (h:HI P0 n work m) (q:Nat) (fs:List Bool):∀ i,HI P0 n work (rnds m q fs i)
 |0=>h
 |i+1=>(HI.rnds h q fs i).round q _
theorem yDm {work m} (h:MGE work m) (fs:List Bool) {i:Nat} (hi:Phi m<=i) (hb:m.s.next+5*i<=2147483600):zJl (rnds m work.length fs i) work.length=false:=
 zWa.2 fun k hk=>by rw [yRp h (Nat.le_refl _) fs hi hb k];decide
theorem RunN.le_phi {work m} (h:MGE work m) {fs:List Bool} {most N:Nat} (r:RunN m work.length fs most N) (hb:m.s.next+5*Phi m<=2147483600):N<=Phi m:=by
 refine Classical.byContradiction fun hn=>?_
 have:=r.all (Phi m) (by omega);rw [yDm h fs (Nat.le_refl _) hb] at this
 cases this
theorem RunN.stops {work m} (h:MGE work m) {fs:List Bool} {most N:Nat} (r:RunN m work.length fs most N) (hm:Phi m<=most) (hb:m.s.next+5*Phi m<=2147483600):zJl (rnds m work.length fs N) work.length=false:=by
 rcases r.stop with e|e
 ·have:=r.le_phi h hb;rw [show N=Phi m by omega];exact yDm h fs (Nat.le_refl _) hb
 ·exact e
theorem zEw {p:PS} {n:Nat} {work:List (List MOp)} (k:Nat):phi (zEg p n work) k=9*((work[k]?).getD []).length:=by
 rw [phi];show (match (work.map zFx)[k]? with|none=>0|some w=>9*(w.todo.length-w.ended)-ph (zEg p n work).s k w)=_;rw [List.getElem?_map]
 cases h:work[k]? with
 |none=>rfl
 |some l=>rfl
def sumL (work:List (List MOp)):Nat:=(work.map List.length).sum
theorem yGd (p:PS) (n:Nat) (work:List (List MOp)) (h4:work.length<=4):Phi (zEg p n work)=9*sumL work:=by
 rw [Phi,zEw,zEw,zEw,zEw,sumL]
 match work,h4 with
 | [],_=>rfl
 | [a],_=>simp
 | [a,b],_=>simp;omega
 | [a,b,c],_=>simp;omega
 | [a,b,c,d],_=>simp;omega
theorem zWv {s:SA} (h:∀ j∈s.jobs,j=none):zKw s=s:=by
 have e:yAa s=none:=zVy h _ _;rw [zKw,zIq]
 split
 ·rw [e]
 ·rfl
theorem fin_idle {m:MS} (h:m.s.out=[]) (i:Int) (b:Bool):finM m i b=(m,false):=by
 rw [finM,if_pos]
 rw [h];simp;omega
def oB:MOp:=(1,3,ByteArray.empty)
def wkB:List (List MOp):=[[oB]]
def mB (p:PS) (w:WA) (h:HA) (l:LA) (c:Int) (ev:List EvA):MS:=⟨[w],p,h,(List.replicate 17 noLA).set 3 l,⟨0,false,[none],0,[]⟩,c,ev⟩
theorem bw0 (p:PS):zEg p 2 wkB=mB p (zFx [oB]) ⟨2,[],[]⟩ noLA 0 []:=rfl
theorem bw1 (p:PS):(zB (mB p (zFx [oB]) ⟨2,[],[]⟩ noLA 0 []) 0).1=mB p ⟨[oB],0,1,false,false,0,0,(0,zP)⟩ ⟨2,[(0,false)],[]⟩ noLA 1 []:=rfl
theorem bw2 (p:PS):(zB (mB p ⟨[oB],0,1,false,false,0,0,(0,zP)⟩ ⟨2,[(0,false)],[]⟩ noLA 1 []) 0).1=mB p ⟨[oB],0,2,true,false,0,0,(0,zP)⟩ ⟨2,[(0,false)],[]⟩ ⟨[0],true,[]⟩ 2 []:=rfl
theorem bw3 (p:PS):(zB (mB p ⟨[oB],0,2,true,false,0,0,(0,zP)⟩ ⟨2,[(0,false)],[]⟩ ⟨[0],true,[]⟩ 2 []) 0).1=mB p ⟨[oB],0,3,true,false,0,0,(0,zP)⟩ ⟨2,[(0,false)],[]⟩ ⟨[0],true,[]⟩ 3 []:=rfl
theorem bw4 (p:PS):(zB (mB p ⟨[oB],0,3,true,false,0,0,(0,zP)⟩ ⟨2,[(0,false)],[]⟩ ⟨[0],true,[]⟩ 3 []) 0).1=mB p ⟨[oB],0,5,true,true,0,0,(0,zP)⟩ ⟨2,[(0,true)],[]⟩ ⟨[0],true,[]⟩ 4 []:=by
 show (if hasF p 3=false/\ ((1:Int)=2\/ (1:Int)=3) then (_:MS×Bool) else _).1=_;rw [if_neg (fun g=>absurd g.2 (by decide))];rfl
theorem bw5 (p:PS):(zB (mB p ⟨[oB],0,5,true,true,0,0,(0,zP)⟩ ⟨2,[(0,true)],[]⟩ ⟨[0],true,[]⟩ 4 []) 0).1=mB (workP p oB).1 ⟨[oB],0,6,true,true,0,4,(workP p oB).2⟩ ⟨2,[(0,true)],[]⟩ ⟨[0],true,[]⟩ 5 []:=rfl
theorem bw6 (p:PS) (r:MRes):(zB (mB p ⟨[oB],0,6,true,true,0,4,r⟩ ⟨2,[(0,true)],[]⟩ ⟨[0],true,[]⟩ 5 []) 0).1=mB p ⟨[oB],1,0,false,false,0,0,(0,zP)⟩ ⟨2,[],[]⟩ noLA 6 [⟨0,oB,r,0,4,5⟩]:=rfl
theorem rnd_mB {m m':MS} {p w h l c ev} (hs:(zB m 0).1=m') (e:m'=mB p w h l c ev):(zBz m 1 false).1=m':=by
 have e1:(stN m (min 1 4)).1=m':=hs
 have e2:zHa m'=m':=by
  have e3:zKw m'.s=m'.s:=zWv (by rw [e];intro j hj;simpa [mB] using hj);rw [zHa,e3]
 rw [zBz,e1,e2,fin_idle (by rw [e];rfl)]
noncomputable def liv:Nat->MS:=rnds (zEg (p0 2) 2 wkB) 1 []
theorem yHd {i:Nat} {m':MS} {p w h l c ev} (hs:(zB (liv i) 0).1=m') (e:m'=mB p w h l c ev):liv (i+1)=m':=rnd_mB hs e
theorem liv0:liv 0=mB (p0 2) (zFx [oB]) ⟨2,[],[]⟩ noLA 0 []:=bw0 _
theorem liv1:liv 1=mB (p0 2) ⟨[oB],0,1,false,false,0,0,(0,zP)⟩ ⟨2,[(0,false)],[]⟩ noLA 1 []:=yHd (by rw [liv0,bw1]) rfl
theorem liv2:liv 2=mB (p0 2) ⟨[oB],0,2,true,false,0,0,(0,zP)⟩ ⟨2,[(0,false)],[]⟩ ⟨[0],true,[]⟩ 2 []:=yHd (by rw [liv1,bw2]) rfl
theorem liv3:liv 3=mB (p0 2) ⟨[oB],0,3,true,false,0,0,(0,zP)⟩ ⟨2,[(0,false)],[]⟩ ⟨[0],true,[]⟩ 3 []:=yHd (by rw [liv2,bw3]) rfl
theorem liv4:liv 4=mB (p0 2) ⟨[oB],0,5,true,true,0,0,(0,zP)⟩ ⟨2,[(0,true)],[]⟩ ⟨[0],true,[]⟩ 4 []:=yHd (by rw [liv3,bw4]) rfl
theorem liv5:liv 5=mB (workP (p0 2) oB).1 ⟨[oB],0,6,true,true,0,4,(workP (p0 2) oB).2⟩ ⟨2,[(0,true)],[]⟩ ⟨[0],true,[]⟩ 5 []:=yHd (by rw [liv4,bw5]) rfl
theorem liv6:liv 6=mB (workP (p0 2) oB).1 ⟨[oB],1,0,false,false,0,0,(0,zP)⟩ ⟨2,[],[]⟩ noLA 6 [⟨0,oB,(workP (p0 2) oB).2,0,4,5⟩]:=yHd (by rw [liv5,bw6]) rfl
theorem lf1 {m:MS} {p h l c ev} {w:WA} (e:m=mB p w h l c ev) (hw:0<(w.todo.length:Int)-w.ended):zJl m 1=true:=z9v.2 ⟨0,by decide,by rw [e];exact hw⟩
theorem yWz:RunN (zEg (p0 2) 2 wkB) 1 [] 20 6:=by
 refine ⟨by decide,fun i hi=>?_,.inr ?_⟩
 ·show zJl (liv i) 1=true
  match i,hi with
  |0,_=>exact lf1 liv0 (by decide)
  |1,_=>exact lf1 liv1 (by decide)
  |2,_=>exact lf1 liv2 (by decide)
  |3,_=>exact lf1 liv3 (by decide)
  |4,_=>exact lf1 liv4 (by decide)
  |5,_=>exact lf1 liv5 (by decide)
  |i+6,h=>exact absurd h (by omega)
 ·show zJl (liv 6) 1=false
  refine zWa.2 fun k hk=>?_
  have:k=0:=by omega
  subst this;rw [liv6];exact (by decide:¬0<(0:Int))
theorem yDn:DocI (workP (p0 2) oB).1 (ud (fun _=>zP) 3 (newP 3)) 2:=by
 have h:=yTa (yEd (n:=2) (by decide) (by decide)) (by decide) oB rfl;have e:mdoc (fun _=>zP) oB=(ud (fun _=>zP) 3 (newP 3),(0,newP 3)):=rfl;rw [e] at h;exact h.2
def nm16:List (Nat×Nat):=[(1000000,2000128),(1000001,2000129),(1000004,2000130)]
set_option maxRecDepth 20000 in
set_option maxHeartbeats 16000000 in
theorem zId:zAj Tryz.prog 16 [] (.bool true):=by
 have hop:zNg z1r 2=(p0 2,0):=zLx zGc yBn (by decide) (by decide);have hNew:=zJn z1r 2 wkB (p0 2) hop zGc.us (Nat.le_refl 1) (by decide) (fun l h=>by rw [wkB,List.mem_singleton] at h;subst h;decide);have hg:MGE wkB (zEg (p0 2) 2 wkB):=⟨0,Int.le_refl 0,by decide,MG.new (n:=2) (by decide) (by decide) (List.length_replicate ..) (yEd (n:=2) (by decide) (by decide)).gd (Nat.le_refl 1) (by decide)⟩;have hrun:=zQf hg (fun l h=>by rw [wkB,List.mem_singleton] at h;subst h;decide) 1 (by decide) [] (by decide) 20 (by decide) 6 yWz;rw [show rnds (zEg (p0 2) 2 wkB) 1 [] 6=liv 6 from rfl] at hrun
 have hp:(liv 6).p=(workP (p0 2) oB).1:=by rw [liv6];rfl
 have hpg:=zEz (liv 6) (by rw [hp];exact yDn.inv.pj.fm);rw [zGk (m:=liv 6) (n:=2) (by rw [hp];exact yDn),show bgN (ud (fun _=>zP) 3 (newP 3)) 16=[newP 3] from rfl] at hpg;refine zAe Tryz.func16 0 rfl (by kernel_rfl) (aP ?_);refine zAa zUx (aW ?_);refine aP ?_;refine zF hNew (Nat.le_of_ble_eq_true rfl) (aP ?_);refine zAg (z5l hrun) nm16 rfl ⟨rfl,rfl,rfl,trivial⟩ rfl (aP ?_);refine zAg hpg nm16 rfl ⟨rfl,rfl,rfl,trivial⟩ rfl (w0 ?_);have hlen:(([newP 3]:List Pg).map encP).length=1:=rfl;refine aP ?_;refine zAd (i:=0) (by decide) (w0 ?_);refine zAc (x:=encP (newP 3)) rfl (aP ?_)
 first|exact ret_of rfl rfl|exact rfl
theorem age0 {p P n} (h:DocI p P n) (b:ByteArray):(zBc (zHv p 1) (8,0,b)).1.f.dt=[]:=by
 have hi:=h.inv;have n0:=hi.pj.n0;have n1:=hi.pj.n1
 have ht:Inv (zHv p 1) P (fun _=>0) 2147483647 0:=by
  have mk:∀ t:Int,p.now<=t->t<=2147483647->Inv ⟨p.f,p.d,t⟩ P (fun _=>0) 2147483647 0:=fun t t0 t1=>
   ⟨⟨hi.pj.fm,hi.pj.rest,hi.pj.ca,hi.pj.z0,by show 0<=t;omega,t1,fun x hx=>by have:=hi.pj.dt x hx;show x.2<=t;omega⟩,hi.pins,hi.at_,hi.on,hi.ub⟩
  rw [zHv];repeat' split
  ·exact hi
  ·exact mk _ (by omega) (Int.le_refl _)
  ·exact mk _ (by omega) (by omega)
 have d:=(z7u ht 0).2 (Int.le_refl 0)
 have e2:zBc (zHv p 1) (8,0,b)=zIo (zHv p 1) 0:=by
  rw [zBc,if_neg (show ¬((8:Int)<1\/ (8:Int)<8) by decide),if_neg (show ¬((8:Int)≠8/\_) from fun g=>g.1 rfl)];rfl
 rw [e2]
 refine List.eq_nil_iff_forall_not_mem.2 fun x hx=>?_
 obtain ⟨h1,h2⟩:=(d x).1 hx;have:=ht.pj.dt x h1;omega
theorem getO_bg {P} (h:OkP P) {q:Nat} (h1:1<=q) (h16:q<=16):getO (bgN P 16) q=if (P q).1=0 then (zP,false) else (P q,true):=by
 by_cases hz:(P q).1=0
 ·rw [if_pos hz,yKz];intro x hx e;obtain ⟨k,k1,k16,kz,rfl⟩:=zYk.1 hx;have:=(h.nz k1 k16 kz).2
  have:k=q:=by omega
  subst this;exact kz hz
 ·rw [if_neg hz];have:=yCw (x:=P q) (bg_mr h).one (yJb h) (zYk.2 ⟨q,h1,h16,hz,rfl⟩);rw [(h.nz h1 h16 hz).2] at this;exact this
theorem HI.of {P:Nat->Pg} {n:Nat} {p:PS} (h:DocI p P n) (hz:p.now=0) (n1:1<=n) (n8:n<=8) {work:List (List MOp)} (h1:1<=work.length) (h4:work.length<=4):HI P n work (zEg p n work):=by
 have hws:∀ (k:Nat) (w:WA),(work.map zFx)[k]?=some w->w.st=0/\w.ended=0:=fun k w h=>by
  rw [List.getElem?_map] at h;obtain ⟨l,_,rfl⟩:=Option.map_eq_some_iff.1 h;exact ⟨rfl,rfl⟩
 have hp0:zDy (work.map zFx)=[]:=by
  rw [zDy,List.filterMap_eq_nil_iff];intro w hw;obtain ⟨l,_,rfl⟩:=List.mem_map.1 hw;rfl
 have hg:MGE work (zEg p n work):=⟨0,Int.le_refl 0,by decide,MG.new (n:=n) n1 n8 h.len (hz▸h.gd) h1 h4⟩;refine ⟨hg,⟨fun e he=>(by cases he),fun k w hk=>?_,fun k w hk hs=>absurd (hws k w hk).1 hs⟩,⟨Int.le_refl 0,by show (work.map zFx).length<=4;rw [List.length_map];exact h4,fun e he=>(by cases he),.nil,.nil,fun k w hk hs=>absurd (hws k w hk).1 hs,fun k w hk hs=>?_,fun k w hk hs=>?_⟩,⟨n1,⟨[],_,rfl,h,.nil,fun r hr=>(by cases hr),?_⟩,fun r hr=>?_⟩⟩
 ·rw [(hws k w hk).2];rfl
 ·have:=(hws k w hk).1;omega
 ·have:=(hws k w hk).1;omega
 ·show ((([]:List EvA).map evR++zDy (work.map zFx)).filter zJh).Perm []
  rw [hp0];exact .nil
 ·have hr:r∈([]:List EvA).map evR++zDy (work.map zFx):=hr;rw [hp0] at hr
  cases hr
structure DkI (s:List ByteArray) (P:Nat->Pg):Prop where
 rest:Rest s
 z0:s[0]?.getD ByteArray.empty=zDe
 on:OnD s [] P 2147483647
theorem DkI.doc {s P} (h:DkI s P) {n:Nat} (h1:1<=n) (h8:n<=8):DocI ⟨zGj n,⟨s,[]⟩,0⟩ P n:=
 ⟨Inv.new h1 h8 h.rest h.z0 h.on (by decide),List.length_replicate ..⟩
theorem DkI.open_ {s P} (h:DkI s P) {n:Nat} (h1:1<=n) (h8:n<=8):zNg ⟨s,[]⟩ n=(⟨zGj n,⟨s,[]⟩,0⟩,0):=by
 have:=zLx h.rest h.z0 (n:=(n:Int)) (by omega) (by omega)
 rwa [Int.toNat_natCast] at this
theorem DkI.new:DkI (List.replicate 35 zDe) (fun _=>zP):=⟨zGc,yBn,OnD.new (by decide)⟩
theorem DkI.of {p P n} (h:DocI p P n) (hd:p.f.dt=[]):DkI p.d.sec P/\p.d=⟨p.d.sec,[]⟩:=by
 have hj:=h.inv.pj;have hon:=h.inv.on;rw [hd] at hon;exact ⟨⟨hj.rest,hj.z0,hon⟩,hj.d⟩
theorem DkI.get {s P} (h:DkI s P) {q:Nat} (h1:1<=q) (h16:q<=16):getS ⟨s,[]⟩ q=if (P q).1=0 then (zP,3) else (P q,0):=by
 have hj:=(h.doc (n:=1) (by decide) (by decide)).inv.pj;have e:=hj.get h1 h16;have e:getS ⟨s,[]⟩ q=getR s q:=e;rw [e]
 exact h.on.dsk q h1 h16 fun x hx=>by cases hx
theorem quiet_of {work m} (h:MGE work m) (hl:∀ k,lfV m k=0):∀ k,k<4->stV m k≠6:=fun k hk=>by
 rw [stV]
 cases e:m.ws[k]? with
 |none=>decide
 |some w=>
  have hb:=(h.ok.w k w e).bu;have:=hl k;rw [lfV,e] at this;intro hs
  have hs:w.st=6:=by
   have hs:(w.st:Int)=6:=hs;omega
  have:=hb (by omega)
  simp only [] at*
  omega
theorem zWc {work m} (h:MGE work m) (hl:zJl m work.length=false):∀ k,lfV m k=0:=fun k=>by
 have n4:=h.ok.n4;have hwl:=yFy h
 by_cases hk:k<work.length
 ·have h1:=zWa.1 hl k (by omega);have hw:m.ws[k]?=some (m.ws[k]'(by omega)):=List.getElem?_eq_getElem (by omega);have hen:=(h.ok.w k _ hw).en;rw [lfV,hw] at h1⊢;simp only [] at h1⊢;omega
 ·exact yTy (by omega)
theorem z3g {work m} (h:MGE work m) (hl:∀ k,lfV m k=0):∀ (k:Nat) (w:WA),m.ws[k]?=some w->w.st=0/\w.ended=w.todo.length:=fun k w hw=>by
 have v:=h.ok.w k w hw;have h1:=hl k;rw [lfV,hw] at h1;simp only [] at h1;refine ⟨Classical.byContradiction fun hs=>?_,by omega⟩;have:=v.bu hs;omega
theorem yMw:∀ {l:List EvA},(∀ e∈l,e.who<4)->l.length=(opsK l 0).length+(opsK l 1).length+(opsK l 2).length+(opsK l 3).length
 | [],_=>rfl
 |e::l,h=>by
  have ih:=yMw (l:=l) fun e he=>h e (.tail _ he)
  have he:=h e (.head _)
  have key:∀ k,(opsK (e::l) k).length=(if e.who=k then 1 else 0)+(opsK l k).length:=fun k=>by
   have:=yEc [e] l k;rw [List.singleton_append] at this;rw [this,List.length_append]
   congr 1
   rw [opsK,List.filter_cons]
   by_cases g:e.who=k
   ·rw [if_pos (by simpa using g),if_pos g];rfl
   ·rw [if_neg (by simpa using g),if_neg g];rfl
  rw [key,key,key,key,List.length_cons,ih]
  have:e.who=0\/e.who=1\/e.who=2\/e.who=3:=by omega
  rcases this with g|g|g|g<;>rw [g]<;>simp<;>omega
theorem ev_all {P0 n work m} (h:HI P0 n work m) (hl:∀ k,lfV m k=0):m.ev.length=sumL work:=by
 have n4:=h.tg.n4;have hwl:=h.wl;rw [yMw (fun e he=>(h.tg.ev e he).1)]
 have key:∀ k,(opsK m.ev k).length=((work[k]?).getD []).length:=fun k=>by
  by_cases hk:k<work.length
  ·have hw:m.ws[k]?=some (m.ws[k]'(by omega)):=List.getElem?_eq_getElem (by omega)
   rw [h.pg.ops k _ hw,(z3g h.g hl k _ hw).2,List.take_length,h.todo hw hk,List.getElem?_eq_getElem hk];rfl
  ·rw [List.getElem?_eq_none (by omega)];refine (List.length_eq_zero_iff (l:=opsK m.ev k)).2 ?_;rw [opsK,List.map_eq_nil_iff,List.filter_eq_nil_iff];intro e he;have:=h.pg.who e he
   simp;omega
 rw [key,key,key,key,sumL]
 match work,(show work.length<=4 by omega) with
 | [],_=>rfl
 | [a],_=>simp
 | [a,b],_=>simp
 | [a,b,c],_=>simp;omega
 | [a,b,c,d],_=>simp;omega
theorem yFj {work:List (List MOp)} {k:Nat} (hk:k<work.length):sumL (work.take (k+1))=sumL (work.take k)+work[k].length:=by
 rw [sumL,zAs hk,List.map_append,List.sum_append];simp [sumL]
theorem yFi {B:Nat}:∀ {work:List (List MOp)},(∀ l∈work,l.length<=B)->sumL work<=B*work.length
 | [],_=>Nat.zero_le _
 |x::r,h=>by
  have h1:=h x (.head _)
  have h2:=yFi (work:=r) fun l hl=>h l (.tail _ hl)
  have e:sumL (x::r)=x.length+sumL r:=by simp [sumL]
  rw [e,List.length_cons,Nat.mul_add];omega
theorem yUr {B k:Nat} {work:List (List MOp)} (h:∀ l∈work,l.length<=B):sumL (work.take k) <=B*k:=by
 have h1:=yFi (work:=work.take k) fun l hl=>h l (List.mem_of_mem_take hl)
 have h2:(work.take k).length<=k:=by rw [List.length_take];omega
 exact Nat.le_trans h1 (Nat.mul_le_mul_left _ h2)
def bdN (work:List (List MOp)):Int:=((10*sumL work+1:Nat):Int)
set_option maxHeartbeats 4000000 in
theorem zQz (work:List (List MOp)) (h40:work.length<=40) (h100:∀ l∈work,l.length<=100):zAj Tryz.prog 30 [.lst (work.map zCb)] (.int .i64 (bdN work)):=by
 have hm:(work.map zCb).length=work.length:=List.length_map ..
 refine zAe Tryz.func30 1 rfl (by kernel_rfl) (aP ?_);refine zAq (ι:=Nat) (fun k=>[(3,.d (.int .i64 (sumL (work.take k)))),(6,.d (.lst (work.map zCb))),(7,.d (.int .i64 (work.map zCb).length)),(8,.d (.int .i64 k))]) (fun _=>[])
  (fun k=>k<=work.length) (fun k=>work.length-k) 0 (Nat.zero_le _) (le0 (zAb ⟨rfl,rfl,rfl,rfl,trivial⟩ trivial ⟨rfl,rfl,rfl,rfl⟩)) ?_
 intro k hk;have hb:=yUr (k:=k) h100
 conv=>whnf
 refine bcase_p (fun h5=>?_) (fun h5=>?_)<;>conv=>whnf
 ·have hk2:k<work.length:=by omega
  have hml:(work[k].map zGg).length=work[k].length:=List.length_map ..
  have h1:=h100 _ (List.getElem_mem hk2);have es:=yFj hk2;refine zAd (by omega) (w0 ?_);refine zAc (x:=zCb work[k]) (by simp [hk2]) (aW ?_);refine aP ?_;rw [show ((sumL (work.take k):Nat):Int)+(((work[k].map zGg).length:Nat):Int)=((sumL (work.take (k+1)):Nat):Int) by omega];exact ⟨k+1,by omega,by omega,(le0 (zAb ⟨rfl,rfl,rfl,rfl,trivial⟩ trivial ⟨rfl,rfl,rfl,rfl⟩))⟩
 ·have hkl:k=work.length:=by omega
  subst hkl;rw [List.take_length] at hb⊢;refine aP ?_;exact ret_of rfl (by rw [bdN];congr 2)
def nm4R:List (Nat×Nat):=[(1000000,2000440),(1000001,2000441),(1000004,2000442)]
set_option maxRecDepth 20000 in
set_option maxHeartbeats 32000000 in
theorem yBh (many:Int) (m0:0<=many) (_:many<=255) (works:List (List (List MOp))) (hwl:works.length<=9223372036854775807) (hwk:∀ x∈works,x.length<=9223372036854775807/\ ∀ y∈x,y.length<=9223372036854775807) (faults:List Bool) (hf:faults.length<=9223372036854775807):
  zAj Tryz.prog 4 [.int .u8 many,.lst (works.map zRg),.lst (faults.map zFb)] (.bool true):=by
 have hmk:(works.map zRg).length=works.length:=List.length_map ..
 have hmf:(faults.map zFb).length=faults.length:=List.length_map ..
 obtain ⟨n,hn⟩:∃ n:Nat,1+many%8=n:=⟨(1+many%8).toNat,by omega⟩
 have n1:1<=n:=by omega
 have n8:n<=8:=by omega
 refine zAe Tryz.func4 3 rfl (by kernel_rfl) (aP ?_)
 refine bcase_p (fun h1=>?_) (fun h1=>?_)<;>conv=>whnf
 ·refine aP ?_;refine zAa zId (aP ?_)
  first|exact ret_of rfl rfl|exact rfl
 refine aP ?_
 refine bcase_p (fun h2=>?_) (fun h2=>?_)<;>conv=>whnf
 ·refine aP ?_;refine zAa zId (aP ?_)
  first|exact ret_of rfl rfl|exact rfl
 refine aP ?_;refine zAa zUx (aW ?_);refine aP ?_;refine zAq (ι:=Nat×List ByteArray×(Nat->Pg)) (fun k=>[(0,.d (.int .u8 many)),(2,.d (.lst (faults.map zFb))),(7,.ptr 7 0 0),(9,.ptr 9 0 0),(38,.d (.lst (works.map zRg))),(39,.d (.int .i64 (works.map zRg).length)),(40,.d (.int .i64 k.1))])
  (fun k=>[(7,.box [.d (.lst (k.2.1.map encB)),.d (.lst [])] false),(9,.box [.d (.lst ((bgN k.2.2 16).map encP))] false)])
  (fun k=>k.1<=works.length/\DkI k.2.1 k.2.2) (fun k=>works.length-k.1) (0,List.replicate 35 zDe,fun _=>zP) ⟨Nat.zero_le _,DkI.new⟩ (len [.wkc 9 0 (.d (.lst []))] ⟨⟨⟨_,rfl,wk_nil⟩,rfl⟩,trivial⟩ (zAb ⟨rfl,rfl,rfl,rfl,rfl,rfl,rfl,trivial⟩ ⟨rfl,rfl,trivial⟩ ⟨rfl,rfl,rfl,rfl⟩)) ?_
 rintro ⟨q,sec,P⟩ ⟨hq,hD⟩;simp only at hq hD⊢
 conv=>whnf
 refine bcase_p (fun g1=>?_) (fun g1=>?_)<;>conv=>whnf
 rotate_left
 ·refine aP ?_;refine zAa zId (aP ?_)
  first|exact ret_of rfl rfl|exact rfl
 have hq2:q<works.length:=by omega
 obtain ⟨hl,hl2⟩:=hwk _ (List.getElem_mem hq2);obtain ⟨work,hwork⟩:∃ work,works[q]=work:=⟨_,rfl⟩;rw [hwork] at hl hl2
 have hmw:(work.map zCb).length=work.length:=List.length_map ..
 have hwr:(works.map zRg)[q]?=some (zRg work):=by rw [List.getElem?_map,List.getElem?_eq_getElem hq2,hwork];rfl
 refine zAd (by omega) (w0 ?_);refine zAc hwr (aP ?_);refine zAa (zNb work hl hl2) (aW ?_)
 refine bcase_p (fun q0=>?_) (fun q0=>?_)<;>conv=>whnf
 ·refine aP ?_;refine zAa zId (aP ?_)
  first|exact ret_of rfl rfl|exact rfl
 have hS:SmOk work:=by
  rcases Classical.em (SmOk work) with h|h
  ·exact h
  ·rw [zTc h] at q0;exact absurd (by decide) q0
 have h60:∀ l∈work,l.length<=60:=fun l h=>by have:=(hS.one l h).len;omega
 have hw:∀ l∈work,l.length<=1000:=fun l h=>by have:=(hS.one l h).len;omega
 have h4:=hS.n4
 have h20:∀ l∈work,l.length<=20:=fun l h=>(hS.one l h).len
 have hsb:=yFi h20;have hbd:=zQz work (by omega) (fun l h=>by have:=h20 l h;omega)
 have hbn:bdN work=10*(sumL work:Int)+1:=by rw [bdN];omega
 have hop:=hD.open_ n1 n8;have hdoc:=hD.doc n1 n8;have hI0:=HI.of hdoc rfl n1 n8 hS.n1 hS.n4;have hNew:=zJn ⟨sec,[]⟩ n work _ hop hdoc.gd.us hS.n1 hS.n4 h60;have hpg0:=zEz (zEg ⟨zGj n,⟨sec,[]⟩,0⟩ n work) hdoc.inv.pj.fm;rw [zGk (m:=zEg ⟨zGj n,⟨sec,[]⟩,0⟩ n work) hdoc] at hpg0;have hc0:(zEg ⟨zGj n,⟨sec,[]⟩,0⟩ n work).clk=0:=rfl;have hx0:(zEg ⟨zGj n,⟨sec,[]⟩,0⟩ n work).s.next=0:=rfl;have hMP:=yGd ⟨zGj n,⟨sec,[]⟩,0⟩ n work h4;obtain ⟨M0,hM⟩:∃ M0,zEg ⟨zGj n,⟨sec,[]⟩,0⟩ n work=M0:=⟨_,rfl⟩;rw [hM] at hNew hpg0 hI0 hc0 hx0 hMP;obtain ⟨N,hN⟩:=z2y M0 work.length faults (10*sumL work+1);have hle:=hN.le;have hrun0:=zQf hI0.g hw work.length (by omega) faults (by omega) (10*sumL work+1) (by omega) N hN
 have hrun:zAx Tryz.prog 29 [.ptr 1000000 0 0,.d (.int .i64 (work.map zCb).length),.d (.lst (faults.map zFb)),.d (.int .i64 (bdN work))] (mH M0) (mH (rnds M0 work.length faults N)) (.int .i64 N):=by rw [hmw];exact hrun0
 have hI:=hI0.rnds work.length faults N;have hcl:=(z2u M0 work.length faults N).1;have hz:=zWc hI.g (hN.stops hI0.g (by omega) (by omega));obtain ⟨R,hR2⟩:∃ R,rnds M0 work.length faults N=R:=⟨_,rfl⟩;rw [hR2] at hrun hI hz hcl;obtain ⟨P',G,hP,hG1,hG2,hG3⟩:=hI.rpG (quiet_of hI.g hz);have hev:=hI.evl;have hall:=ev_all hI hz
 have hme:(R.ev.map zAt).length=R.ev.length:=List.length_map ..
 have hpg:=zEz R hP.inv.pj.fm;rw [zGk hP] at hpg;have hchk:=yJl hI.tg.ti hdoc.okp hG1 hG2 hG3 (by omega);have hck2:=Hy.check_ok (bgN P 16) ((okEs R.ev).map toE) (by have:=zLc P;omega) (by rw [List.length_map];have:=List.length_filter_le okE R.ev;show (R.ev.filter okE).length<=1000;omega);rw [hchk,zTr] at hck2;replace hck2:zAj Tryz.prog 32 [.agg [.lst ((bgN P 16).map encP)],.lst ((okEs R.ev).map zAt)] (.tup [.agg [.lst ((bgN P' 16).map encP)],.int .i64 (okEs R.ev).length,.int .i64 0]):=hck2;obtain ⟨t,t0,t1,gM⟩:=hI.g.ex;have hag:=z0i R 0 t gM.gd t1 t0;have hP2:DocI (ageM R 0).p P' n:=hP.age 0 _;have hd2:(ageM R 0).p.f.dt=[]:=age0 hP _;have hI2:HI P n work (ageM R 0):=⟨hI.g.do_ (9,0),hI.pg.tr (.age 0),hI.tg.tr (.age 0),hI.og.tr (.age 0)⟩;have hF:=hP2.inv.pj.fm;have hfl:=hF.fl;have hus:=hI2.us;have hpo:=zWu (ageM R 0) (by omega) (by have:=hF.tl;omega) (by rw [hF.len];omega) (by have:=hF.dl;omega) (by omega) (by omega);obtain ⟨hD2,hdd⟩:=DkI.of hP2 hd2;obtain ⟨⟨f2,⟨sec2,ca2⟩,t2⟩,hp2⟩:∃ p,(ageM R 0).p=p:=⟨_,rfl⟩;rw [hp2] at hpo hD2 hdd
 obtain rfl:ca2=[]:=by injection hdd
 refine aP ?_;refine zCs (by decide) m0 (aP ?_);rw [hn];refine zF hNew (Nat.le_of_ble_eq_true rfl) (aP ?_);refine zAg hpg0 nm4R rfl ⟨rfl,rfl,rfl,trivial⟩ rfl (aP ?_);refine zAa (Hy.same_ok (bgN P 16) (bgN P 16) (by have:=zLc P;omega)) (aP ?_);refine zBw (by simp) (aP ?_);refine zAa hbd (aP ?_);refine zAg hrun nm4R rfl ⟨rfl,rfl,rfl,trivial⟩ rfl (aP ?_);refine zAg (zJj R (by omega)) nm4R rfl ⟨rfl,rfl,rfl,trivial⟩ rfl (aP ?_);refine zAq (ι:=Nat) (fun i=>[(0,.d (.int .u8 many)),(2,.d (.lst (faults.map zFb))),(7,.ptr 7 0 0),(9,.ptr 9 0 0),(12,.ptr 2000440 0 0),(14,.own 94),(38,.d (.lst (works.map zRg))),(39,.d (.int .i64 (works.map zRg).length)),(40,.d (.int .i64 q)),(81,.d (.lst (R.ev.map zAt))),(82,.d (.int .i64 (R.ev.map zAt).length)),(83,.d (.int .i64 i))])
  (fun i=>[(7,.box [.d (.lst (sec.map encB)),.d (.lst [])] false),(9,.box [.d (.lst ((bgN P 16).map encP))] false),(2000440,.box (mCk 2000440 R) false),(2000441,.row (R.ws.map zDb) 11 false),(2000442,.row (R.ev.map zAt) 11 false),(94,.row ((okEs (R.ev.take i)).map zAt) 11 false)])
  (fun i=>i<=R.ev.length) (fun i=>R.ev.length-i) 0 (Nat.zero_le _) (le1 (.row 14 94 11) ⟨rfl,rfl⟩ (zAb ⟨rfl,rfl,rfl,rfl,rfl,rfl,rfl,rfl,rfl,rfl,rfl,rfl,trivial⟩ ⟨rfl,rfl,rfl,rfl,rfl,rfl,trivial⟩ ⟨rfl,rfl,rfl,rfl⟩)) ?_
 intro i hi;have hfl2:=List.length_filter_le okE (R.ev.take i);rw [List.length_take] at hfl2
 have hfm:((okEs (R.ev.take i)).map zAt).length=(okEs (R.ev.take i)).length:=List.length_map ..
 replace hfl2:(okEs (R.ev.take i)).length<=1000:=by show (List.filter _ _).length<=1000;omega
 conv=>whnf
 refine bcase_p (fun z1=>?_) (fun z1=>?_)<;>conv=>whnf
 ·have hi2:i<R.ev.length:=by omega
  have es:=zWl hi2;refine zAd (by omega) (w0 ?_);refine zAc (x:=zAt R.ev[i]) (by simp [hi2]) (aW ?_)
  refine bcase_n (fun c8=>?_) (fun c8=>?_)<;>conv=>whnf
  ·rw [if_pos c8] at es;refine aP ?_;refine zAk 1100 1000 (by show ((okEs (R.ev.take i)).map zAt).length+1<=1100;omega) (by decide) (by decide) (by decide) (aP ?_);exact ⟨i+1,by omega,by omega,le0 (zAb ⟨rfl,rfl,rfl,rfl,rfl,rfl,rfl,rfl,rfl,rfl,rfl,rfl,trivial⟩ ⟨rfl,rfl,rfl,rfl,rfl,by rw [es,List.map_append];rfl,trivial⟩ ⟨rfl,rfl,rfl,rfl⟩)⟩
  ·rw [if_neg (by simpa using c8),List.append_nil] at es;refine aP ?_;refine ⟨i+1,by omega,by omega,?_⟩;rw [es];exact (le0 (zAb ⟨rfl,rfl,rfl,rfl,rfl,rfl,rfl,rfl,rfl,rfl,rfl,rfl,trivial⟩ ⟨rfl,rfl,rfl,rfl,rfl,rfl,trivial⟩ ⟨rfl,rfl,rfl,rfl⟩))
 have hil:i=R.ev.length:=by omega
 subst hil;rw [List.take_length] at hfm⊢;refine aP ?_;refine zAa hck2 (aP ?_);refine zAg hpg nm4R rfl ⟨rfl,rfl,rfl,trivial⟩ rfl (aP ?_);refine zAa (Hy.same_ok (bgN P' 16) (bgN P' 16) (by have:=zLc P';omega)) (aP ?_);refine zBw (by simp) (aP ?_);refine zAg hag nm4R rfl ⟨rfl,rfl,rfl,trivial⟩ rfl (aP ?_);refine zAg hpo nm4R rfl ⟨rfl,rfl,rfl,trivial⟩ rfl (aP ?_);refine zAq (ι:=Nat) (fun g=>[(0,.d (.int .u8 many)),(2,.d (.lst (faults.map zFb))),(7,.ptr 7 0 0),(9,.ptr 9 0 0),(20,.d (.int .i64 g)),(38,.d (.lst (works.map zRg))),(39,.d (.int .i64 (works.map zRg).length)),(40,.d (.int .i64 q))])
  (fun g=>[(7,.box [.d (.lst (sec2.map encB)),.d (.lst [])] false),(9,.box [.d (.lst ((bgN P' 16).map encP))] false)])
  (fun g=>1<=g/\g<=17) (fun g=>17-g) 1 ⟨Nat.le_refl _,by decide⟩ (le0 (zAb ⟨rfl,rfl,rfl,rfl,rfl,rfl,rfl,rfl,trivial⟩ ⟨rfl,rfl,trivial⟩ ⟨rfl,rfl,rfl,rfl⟩)) ?_
 rintro g ⟨hg1,hg⟩
 conv=>whnf
 refine bcase_p (fun y1=>?_) (fun y1=>?_)<;>conv=>whnf
 rotate_left
 ·refine aP ?_;exact ⟨(q+1,sec2,P'),⟨by simp only [];omega,hD2⟩,by simp only [];omega,(le0 (zAb ⟨rfl,rfl,rfl,rfl,rfl,rfl,rfl,trivial⟩ ⟨rfl,rfl,trivial⟩ ⟨rfl,rfl,rfl,rfl⟩))⟩
 have hgs:=z2o ⟨sec2,[]⟩ g;have hgo:=zPw (bgN P' 16) g (by have:=zLc P';omega);rw [hD2.get hg1 (by omega)] at hgs;rw [getO_bg hP.okp hg1 (by omega)] at hgo
 by_cases hz0:(P' g).1=0
 ·rw [if_pos hz0] at hgs hgo;refine aP ?_;refine zAa hgs (aP ?_);refine zAa hgo (aP ?_);refine zBw (by simp) (w0 ?_);refine zDa (by rfl) (aP ?_);exact ⟨g+1,by omega,by omega,(le0 (zAb ⟨rfl,rfl,rfl,rfl,rfl,rfl,rfl,rfl,trivial⟩ ⟨rfl,rfl,trivial⟩ ⟨rfl,rfl,rfl,rfl⟩))⟩
 ·rw [if_neg hz0] at hgs hgo;refine aP ?_;refine zAa hgs (aP ?_);refine zAa hgo (aP ?_);refine zBw (by simp) (w0 ?_);refine zDa (by rfl) (aP ?_);exact ⟨g+1,by omega,by omega,(le0 (zAb ⟨rfl,rfl,rfl,rfl,rfl,rfl,rfl,rfl,trivial⟩ ⟨rfl,rfl,trivial⟩ ⟨rfl,rfl,rfl,rfl⟩))⟩
end Go.Lk
