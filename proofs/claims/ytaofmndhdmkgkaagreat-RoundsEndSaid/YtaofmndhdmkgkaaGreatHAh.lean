/-
  What is proved here: what functions of the program compute, and what follows; no condition beyond each theorem's own.
-/
import Derived.Test.YtaofmndhdmkgkaaGreatHAg
set_option linter.unusedSimpArgs false
set_option linter.unusedVariables false
set_option linter.unnecessarySimpa false
set_option linter.unusedSectionVars false
namespace Go.Lk
open Go Go.RowKit
def BoxLe (hp hp':Nat->Option Blk):Prop:=∀ b,hp' b=hp b\/ ∃ c fr,hp b=some (.box c fr) /\hp' b=some (.box c true)
theorem capsF_sem {own:Nat->Prop} {ι:Inj} {w:World} {hp:Nat->Option Blk}:∀ {caps:List AV} {cs:List D} {ws:List (Nat×Blk)},opG.capsF hp caps=some (cs,ws)->∀ (M:Mem) (hp1:Nat->Option Blk),BoxLe hp hp1->Agree M w->HRel own M ι hp1 w->
  ∃ M',Sub M M'/\Agree M' w/\NewDom own M M'/\HRel own M' ι (writes hp1 ws) w/\cs.length=caps.length/\ ∀ (i:Nat) (x:AV) (d:D) (v:Value),caps[i]?=some x->cs[i]?=some d->DenA M ι x v->DenD M' d v
 | [],cs,ws,h,M,hp1,hl,ha,hh=>by
  simp only [opG.capsF,Option.some.injEq,Prod.mk.injEq] at h;obtain ⟨rfl,rfl⟩:=h;exact ⟨M,.refl M,ha,.refl _ _,hh,rfl,fun i x d v h1=>by simp at h1⟩
 |x::r,cs,ws,h,M,hp1,hl,ha,hh=>by
  have plain:∀ d0 cs0 ws0,conv.pure1 x=some d0->opG.capsF hp r=some (cs0,ws0)->cs=d0::cs0->ws=ws0->
    ∃ M',Sub M M'/\Agree M' w/\NewDom own M M'/\HRel own M' ι (writes hp1 ws) w/\cs.length=(x::r).length/\ ∀ (i:Nat) (y:AV) (d:D) (v:Value),(x::r)[i]?=some y->cs[i]?=some d->DenA M ι y v->DenD M' d v:=by
   intro d0 cs0 ws0 h1 h2 e1 e2;subst e1 e2;obtain ⟨M',s1,a1,n1,g1,l1,d1⟩:=capsF_sem h2 M hp1 hl ha hh;refine ⟨M',s1,a1,n1,g1,by simp [l1],fun i y d v hy hd hv=>?_⟩
   cases i with
   |zero=>
    simp only [List.getElem?_cons_zero,Option.some.injEq] at hy hd;subst hy hd;exact (den_pure1 h1 hv).mono s1
   |succ i=>exact d1 i y d v (by simpa using hy) (by simpa using hd) hv
  cases x with
  |ptr b i j=>
   simp only [opG.capsF] at h
   cases hb:hp b with
   |none=>simp [hb] at h
   |some B=>
    cases B with
    |row l sz fr=>simp [hb] at h
    |box c fr=>
     simp only [hb] at h
     cases hi:Nat.beq i 0 with
     |false=>simp [hi] at h
     |true=>
      have hi0:=Nat.eq_of_beq_eq_true hi;subst hi0
      cases hp2:conv.pures c with
      |none=>simp [hp2] at h
      |some ds=>
       cases hr:opG.capsF hp r with
       |none=>simp [hp2,hr] at h
       |some q=>
        obtain ⟨cs0,ws0⟩:=q;simp only [hi,hp2,hr,cond_true,Option.some.injEq,Prod.mk.injEq] at h;obtain ⟨rfl,rfl⟩:=h
        have hb1:∃ fr',hp1 b=some (.box c fr'):=by
         rcases hl b with e|⟨c',fr',e1,e2⟩
         ·exact ⟨fr,e.trans hb⟩
         ·rw [hb] at e1;cases e1;exact ⟨true,e2⟩
        obtain ⟨fr',hb1⟩:=hb1;obtain ⟨M1,s1,a1,n1,g1⟩:=freeze ha hh hb1 (B':=.box c true) (.inr ⟨_,_,rfl,rfl⟩)
        have hl1:BoxLe hp (upd hp1 b (some (.box c true))):=by
         intro b'
         by_cases e:b'=b
         ·subst e;rw [upd_same];exact .inr ⟨c,fr,hb,rfl⟩
         ·rw [upd_other _ _ e];exact hl b'
        obtain ⟨M',s2,a2,n2,g2,l2,d2⟩:=capsF_sem hr M1 _ hl1 a1 g1;refine ⟨M',s1.trans s2,a2,n1.trans n2,g2,by simp [l2],fun i y d v hy hd hv=>?_⟩
        cases i with
        |succ i=>exact d2 i y d v (by simpa using hy) (by simpa using hd) (hv.mono s1)
        |zero=>
         simp only [List.getElem?_cons_zero,Option.some.injEq] at hy hd;subst hy hd;refine DenD.mono s2 (den_cap1 g1 (x:=.ptr b 0 j) ?_ (hv.mono s1));simp [conv.cap1,upd_same,hp2]
  |d x0=>
   simp only [opG.capsF] at h
   cases hr:opG.capsF hp r with
   |none=>simp [conv.pure1,hr] at h
   |some q=>
    simp only [conv.pure1,hr,Option.some.injEq,Prod.mk.injEq] at h;exact plain x0 q.1 q.2 rfl hr h.1.symm h.2.symm
  |tt=>
   simp only [opG.capsF] at h
   cases hr:opG.capsF hp r with
   |none=>simp [conv.pure1,hr] at h
   |some q=>
    simp only [conv.pure1,hr,Option.some.injEq,Prod.mk.injEq] at h;exact plain _ q.1 q.2 rfl hr h.1.symm h.2.symm
  |ff=>
   simp only [opG.capsF] at h
   cases hr:opG.capsF hp r with
   |none=>simp [conv.pure1,hr] at h
   |some q=>
    simp only [conv.pure1,hr,Option.some.injEq,Prod.mk.injEq] at h;exact plain _ q.1 q.2 rfl hr h.1.symm h.2.symm
  |nil=>
   simp only [opG.capsF] at h
   cases hr:opG.capsF hp r with
   |none=>simp [conv.pure1,hr] at h
   |some q=>
    simp only [conv.pure1,hr,Option.some.injEq,Prod.mk.injEq] at h;exact plain _ q.1 q.2 rfl hr h.1.symm h.2.symm
  |agg c=>simp [opG.capsF,conv.pure1] at h
  |tup c=>simp [opG.capsF,conv.pure1] at h
  |own b=>simp [opG.capsF,conv.pure1] at h
  |win b lo n c=>simp [opG.capsF,conv.pure1] at h
  |fn f c=>simp [opG.capsF,conv.pure1] at h
  |dead=>simp [opG.capsF,conv.pure1] at h
theorem evs_get {ρ:Operand->AV}:∀ (l:List Operand) (i:Nat),(evs ρ l)[i]?=(l[i]?).map ρ
 | [],i=>by simp [evs]
 |x::r,0=>by simp [evs]
 |x::r,i+1=>by simpa [evs] using evs_get r i
theorem evs_len {ρ:Operand->AV}:∀ (l:List Operand),(evs ρ l).length=l.length
 | []=>rfl
 |x::r=>by simp [evs,evs_len r]
section
variable {P:Program} {T:Tab} (hT:TabOk P T)
theorem makeFunc_sem {o:Oper} {f:FuncId} {first cap:Array Operand} {ρ:Operand->AV} {hp:Nat->Option Blk} {K:Eff->Prop} (ho:o.op=.makeFunc (.func f) first cap)
  (h:bif Nat.beq first.size 0 then (match opG.capsF hp (evs ρ cap.toList) with
   |some (cs,ws)=>K ⟨.d (.fn f cs),ws,none⟩
   |none=>False) else False):∃ e,K e/\OpSem P o ρ hp e:=by
 obtain ⟨hf,h⟩:=bif_one h
 have hf0:first=#[]:=by
  have:=Nat.eq_of_beq_eq_true hf
  simpa using this
 cases hc:opG.capsF hp (evs ρ cap.toList) with
 |none=>simp [hc] at h
 |some q=>
  obtain ⟨cs,ws⟩:=q;simp only [hc] at h;refine ⟨_,h,opSem_run fun own M ι a w hown ha hh hρ=>?_⟩;obtain ⟨M',s1,a1,n1,g1,l1,d1⟩:=capsF_sem hc M hp (fun _=>.inl rfl) ha hh;refine ⟨.func (.func f) #[] (cap.map a.eval),w,by simp [execOp,ho,hf0,Instr.makeFunc],M',ι,.refl _ _,s1,a1,n1,g1,fun _ _=>rfl,.d _ _ (.fn f cs _ ?_ fun i d v hd hv=>?_)⟩
  ·rw [l1,evs_len];simp
  ·simp only [Array.getElem?_map] at hv
   cases hx:cap[i]? with
   |none=>simp [hx] at hv
   |some x=>
    simp only [hx,Option.map_some,Option.some.injEq] at hv;subst hv;exact d1 i (ρ x) d _ (by rw [evs_get];simp [hx]) hd (hρ x)
theorem emp_bd {lo hi:Option Int} (h0:0<=lo.getD 0) (h1:lo.getD 0<=hi.getD ((0:Nat):Int)) (h2:hi.getD ((0:Nat):Int) <= ((0:Nat):Int)):(hi.getD ((0:Nat):Int)).toNat=0/\ (lo.getD 0).toNat=0:=by
 have a1:lo.getD 0<=hi.getD (0:Int):=h1;have a2:hi.getD (0:Int) <= (0:Int):=h2;show (hi.getD (0:Int)).toNat=0/\ (lo.getD 0).toNat=0
 clear h1 h2
 omega
theorem sliceBd_out {ρ:Operand->AV} {o:Option Operand} {K:Option Int->Prop} (h:sliceBd ρ o K):
  ∃ b,K b/\ ((o=none/\b=none) \/ ∃ x k n,o=some x/\b=some n/\ρ x=.d (.int k n)):=by
 unfold sliceBd at h
 split at h
 ·exact ⟨none,h,.inl ⟨rfl,rfl⟩⟩
 ·rename_i x
  split at h
  ·rename_i k n hx;exact ⟨some n,h,.inr ⟨x,k,n,rfl,rfl,hx⟩⟩
  ·exact h.elim
theorem bd_eval {M:Mem} {ι:Inj} {ρ:Operand->AV} {a:Act} (hρ:∀ x,DenA M ι (ρ x) (a.eval x)) {o:Option Operand} {b:Option Int} (h:(o=none/\b=none) \/ ∃ x k n,o=some x/\b=some n/\ρ x=.d (.int k n)):
  ∃ k,o.map a.eval=b.map (.int k):=by
 rcases h with ⟨rfl,rfl⟩|⟨x,k,n,rfl,rfl,hx⟩
 ·exact ⟨.i64,rfl⟩
 ·exact ⟨k,by simp [den_int (hx▸hρ x)]⟩
include hT in
theorem run_sliceT {t el:TypeId} (hk:(T t).k=.slice el) {w:World} {base:Option Addr} {len cap:Nat} {lo hi:Option Int} {k1 k2:IntKind} (h0:0<=lo.getD 0) (h1:lo.getD 0<=hi.getD len) (h2:hi.getD len<=len) (hc:len<=cap):
  (Instr.sliceAt t (.slice base len cap) (lo.map (.int k1)) (hi.map (.int k2)) none).run P w=
   .ok (.slice (if cap=(lo.getD 0).toNat then base else base.map (·.add ((lo.getD 0).toNat*(T el).size))) ((hi.getD len).toNat-(lo.getD 0).toNat) (cap-(lo.getD 0).toNat)) w:=by
 obtain ⟨hu,hke⟩:=und_slice hT hk;simp [Instr.sliceAt,Instr.slice,run_underlying hu,run_sliceBoundsT (P:=P) w h0 h1 h2 hc,run_sizeT hT w hke]
theorem lst_slice {M:Mem} {r:List (List D)} {b off cap sz:Nat} {val:Nat->Nat->Value} (hl:r.length<=cap) (hs:∀ (i:Nat) (e:List D),r[i]?=some e->e.length=sz)
  (hm:∀ (i j:Nat) (e:List D) (d:D),r[i]?=some e->e[j]?=some d->M b (off+i*sz+j)=some (val i j)) (hd:∀ (i j:Nat) (e:List D) (d:D),r[i]?=some e->e[j]?=some d->DenD M d (val i j))
  (l h:Nat) (h1:l<=h) (h2:h<=r.length):
  DenD M (.lst ((r.take h).drop l)) (.slice (if cap=l then some ⟨b,off,none⟩ else some ⟨b,off+l*sz,none⟩) (h-l) (cap-l)):=by
 have hlen:((r.take h).drop l).length=h-l:=by simp;omega
 by_cases he:h-l=0
 ·have:(r.take h).drop l=[]:=List.eq_nil_of_length_eq_zero (by omega);rw [this,he];exact .emp _ _
 ·rw [if_neg (by omega),<-hlen]
  have hget:∀ (i:Nat) (e:List D),((r.take h).drop l)[i]?=some e->r[l+i]?=some e:=by
   intro i e hi;rw [List.getElem?_drop,List.getElem?_take] at hi
   split at hi
   ·exact hi
   ·cases hi
  refine .lst _ b (off+l*sz) (cap-l) sz (fun i j=>val (l+i) j) (by omega) (fun i e hi=>hs _ e (hget i e hi)) (fun i j e d hi hj=>?_) fun i j e d hi hj=>hd _ j e d (hget i e hi) hj
  have:=hm (l+i) j e d (hget i e hi) hj;rw [Nat.add_mul] at this;rw [show off+l*sz+i*sz+j=off+(l*sz+i*sz)+j by omega];exact this
include hT in
theorem run_sliceW {t el:TypeId} (hk:(T t).k=.slice el) {w:World} {a:Addr} {len cap:Nat} {lo hi:Option Int} {k1 k2:IntKind} (h0:0<=lo.getD 0) (h1:lo.getD 0<=hi.getD len) (h2:hi.getD len<=cap) (hc:len<=cap):
  (Instr.sliceAt t (.slice (some a) len cap) (lo.map (.int k1)) (hi.map (.int k2)) none).run P w=
   .ok (.slice (if cap=(lo.getD 0).toNat then some a else some (a.add ((lo.getD 0).toNat*(T el).size))) ((hi.getD len).toNat-(lo.getD 0).toNat) (cap-(lo.getD 0).toNat)) w:=by
 obtain ⟨hu,hke⟩:=und_slice hT hk
 have hb:(Instr.sliceBounds true len cap (lo.map (.int k1)) (hi.map (.int k2)) none).run P w=.ok ((lo.getD 0).toNat,(hi.getD len).toNat,cap) w:=by
  cases lo with
  |none=>
   cases hi with
   |none=>simp [Instr.sliceBounds]
   |some h=>
    simp only [Option.getD_some,Option.getD_none] at h0 h1 h2;simp [Instr.sliceBounds,run_boundsOk (P:=P) w (x:=h) (y:=cap) (k:=k2) h1 (by omega)]
  |some l=>
   cases hi with
   |none=>
    simp only [Option.getD_some,Option.getD_none] at h0 h1 h2;simp [Instr.sliceBounds,run_boundsOk (P:=P) w (x:=l) (y:=len) (k:=k1) h0 (by omega)]
   |some h=>
    simp only [Option.getD_some] at h0 h1 h2;simp [Instr.sliceBounds,run_boundsOk (P:=P) w (x:=h) (y:=cap) (k:=k2) (by omega) (by omega),run_boundsOk (P:=P) w (x:=l) (y:=h.toNat) (k:=k1) h0 (by omega)]
 simp [Instr.sliceAt,Instr.slice,run_underlying hu,hb,run_sizeT hT w hke]
include hT in
theorem run_sliceX {t el:TypeId} (hk:(T t).k=.slice el) {w:World} {a:Addr} {len cap:Nat} {lo hi:Option Int} {m:Int} {k1 k2 k3:IntKind} (hs:hi≠none) (hm0:0<=m) (hm:m<=cap) (h0:0<=lo.getD 0) (h1:lo.getD 0<=hi.getD len) (h2:hi.getD len<=m.toNat):
  (Instr.sliceAt t (.slice (some a) len cap) (lo.map (.int k1)) (hi.map (.int k2)) (some (.int k3 m))).run P w=
   .ok (.slice (if m.toNat=(lo.getD 0).toNat then some a else some (a.add ((lo.getD 0).toNat*(T el).size))) ((hi.getD len).toNat-(lo.getD 0).toNat) (m.toNat-(lo.getD 0).toNat)) w:=by
 obtain ⟨hu,hke⟩:=und_slice hT hk
 have hb:(Instr.sliceBounds true len cap (lo.map (.int k1)) (hi.map (.int k2)) (some (.int k3 m))).run P w=.ok ((lo.getD 0).toNat,(hi.getD len).toNat,m.toNat) w:=by
  cases hi with
  |none=>exact absurd rfl hs
  |some h=>
   cases lo with
   |none=>
    simp only [Option.getD_some,Option.getD_none] at h0 h1 h2;simp [Instr.sliceBounds,run_boundsOk (P:=P) w (x:=m) (y:=cap) (k:=k3) hm0 hm,run_boundsOk (P:=P) w (x:=h) (y:=m.toNat) (k:=k2) h1 (by omega)]
   |some l=>
    simp only [Option.getD_some] at h0 h1 h2;simp [Instr.sliceBounds,run_boundsOk (P:=P) w (x:=m) (y:=cap) (k:=k3) hm0 hm,run_boundsOk (P:=P) w (x:=h) (y:=m.toNat) (k:=k2) (by omega) (by omega),run_boundsOk (P:=P) w (x:=l) (y:=h.toNat) (k:=k1) h0 (by omega)]
 simp [Instr.sliceAt,Instr.slice,run_underlying hu,hb,run_sizeT hT w hke]
theorem win_sub {M:Mem} {ι:Inj} {b lo n k base:Nat} {L:Loc} (h:ι b=some (some L)) (hk:(lo+k)*L.sz<=L.size) (hb:base=lo*L.sz\/ (k=0/\0<lo)) {l h' kk:Nat} (h1:l<=h') (h2:h'<=kk) (h3:kk<=k) {c:Option Nat} (hc:∀ x,c=some x->kk-l=x):
  DenA M ι (.win b (lo+l) (h'-l) c) (.slice (if kk=l then some ⟨L.blk,base,none⟩ else some ((⟨L.blk,base,none⟩:Addr).add (l*L.sz))) (h'-l) (kk-l)):=by
 have hsz:(lo+l+(kk-l))*L.sz<=L.size:=Nat.le_trans (Nat.mul_le_mul_right _ (by omega)) hk
 by_cases e:kk=l
 ·rw [if_pos e];refine .win b _ _ c L _ base h (by omega) hc hsz ?_
  rcases Nat.eq_zero_or_pos l with z|z
  ·subst z;subst e
   rcases hb with hb|hb
   ·exact .inl (by simpa using hb)
   ·exact .inr ⟨rfl,by omega⟩
  ·exact .inr ⟨by omega,by omega⟩
 ·rw [if_neg e,addr_add];refine .win b _ _ c L _ _ h (by omega) hc hsz (.inl ?_)
  rcases hb with hb|hb
  ·rw [hb,Nat.add_mul]
  ·omega
include hT in
theorem slice_sem {o:Oper} {t:TypeId} {x:Operand} {lo hi mx:Option Operand} {ρ:Operand->AV} {hp:Nat->Option Blk} {K:Eff->Prop} (ho:o.op=.slice t x lo hi mx)
  (h:sliceBd ρ lo fun lo=>sliceBd ρ hi fun hi=>sliceBd ρ mx fun mx=>sliceA T t (ρ x) hp lo hi mx K):∃ e,K e/\OpSem P o ρ hp e:=by
 obtain ⟨lo',q1,hlo⟩:=sliceBd_out h
 clear h
 obtain ⟨hi',q2,hhi⟩:=sliceBd_out q1
 clear q1
 obtain ⟨mx',h,hmx⟩:=sliceBd_out q2
 clear q2
 have hex:∀ a:Act,(∀ w:World,(execOp a.eval o).run P w=((Instr.sliceAt t (a.eval x) (lo.map a.eval) (hi.map a.eval) (mx.map a.eval)).run P w).andThen fun v w=>.ok (.value v) w):=by
  intro a w;simp [execOp,ho]
 unfold sliceA at h
 split at h
 ·have hm0:mx=none:=by
   rcases hmx with ⟨h1,_⟩|⟨_,_,_,_,h2,_⟩
   ·exact h1
   ·cases h2
  subst hm0
  split at h
  ·rename_i s hx
   split at h
   ·rename_i hk;have hu:=und_str hT hk;obtain ⟨h0,h1,h2,h⟩:=sliceK_out h;refine ⟨_,h,opSem_val fun own M ι a w ha hh hρ=>?_⟩;obtain ⟨k1,e1⟩:=bd_eval hρ hlo;obtain ⟨k2,e2⟩:=bd_eval hρ hhi;have ex:=den_str (hx▸hρ x);refine ⟨_,?_,.d _ _ (.str _)⟩;rw [hex,e1,e2,ex];simp [Instr.sliceAt,Instr.slice,run_underlying hu,run_sliceBoundsT (P:=P) w h0 h1 h2 (Nat.le_refl _)]
   ·exact h.elim
  ·rename_i r hx
   split at h
   ·rename_i el hk;obtain ⟨hsz,h⟩:=condK_out h;obtain ⟨h0,h1,h2,h⟩:=sliceK_out h;refine ⟨_,h,opSem_val fun own M ι a w ha hh hρ=>?_⟩;obtain ⟨k1,e1⟩:=bd_eval hρ hlo;obtain ⟨k2,e2⟩:=bd_eval hρ hhi;have hd:=hρ x;rw [hx] at hd;generalize hv:a.eval x=v at hd
    cases hd with
    |d _ _ hd=>
     cases hd with
     |emp a0 c=>
      have hh0:(hi'.getD 0).toNat-(lo'.getD 0).toNat=0:=by simp at h2;omega
      refine ⟨_,by rw [hex,e1,e2,hv,Option.map_none,run_sliceT hT hk (len:=0) h0 h1 h2 (Nat.zero_le _)];rfl,?_⟩
      simp only [List.length_nil] at*
      rw [show ((hi'.getD ((0:Nat):Int)).toNat-(lo'.getD 0).toNat)=0 from hh0]
      have:((([]:List (List D)).take (hi'.getD ((0:Nat):Int)).toNat).drop (lo'.getD 0).toNat)=[]:=by simp
      rw [this];exact .d _ _ (.emp _ _)
     |lst _ b off cap sz val hl hs hm hdd=>
      refine ⟨_,by rw [hex,e1,e2,hv,Option.map_none,run_sliceT hT hk h0 h1 h2 hl];rfl,?_⟩;have hlst:=lst_slice (M:=M) (b:=b) (off:=off) hl hs hm hdd (lo'.getD 0).toNat (hi'.getD r.length).toNat (by omega) (by omega)
      have hadd:(if cap=(lo'.getD 0).toNat then some (⟨b,off,none⟩:Addr) else (some (⟨b,off,none⟩:Addr)).map (·.add ((lo'.getD 0).toNat*(T el).size)))=(if cap=(lo'.getD 0).toNat then some (⟨b,off,none⟩:Addr) else some ⟨b,off+(lo'.getD 0).toNat*(T el).size,none⟩):=by
       split
       ·rfl
       ·simp [addr_add]
      by_cases hr:r=[]
      ·subst hr
       have hh0:(hi'.getD ((([]:List (List D)).length:Nat):Int)).toNat-(lo'.getD 0).toNat=0:=by
         have:=emp_bd h0 h1 h2;show (hi'.getD ((0:Nat):Int)).toNat-(lo'.getD 0).toNat=0
         rw [this.1];exact Nat.zero_sub _
       rw [hh0]
       have:((([]:List (List D)).take (hi'.getD ((([]:List (List D)).length:Nat):Int)).toNat).drop (lo'.getD 0).toNat)=[]:=by simp
       rw [this];exact .d _ _ (.emp _ _)
      ·obtain ⟨e,he⟩:∃ e,r[0]?=some e:=by
        cases r with
        |nil=>exact absurd rfl hr
        |cons e r=>exact ⟨e,rfl⟩
       have:sz=(T el).size:=(hs 0 e he).symm.trans (hsz e (List.mem_of_getElem? he));subst this;rw [hadd];exact .d _ _ hlst
   ·exact h.elim
  ·rename_i b hx
   split at h
   ·rename_i r sz fr hb
    split at h
    ·rename_i el hk;obtain ⟨hsz,h⟩:=bif_one h;have hsz:=Nat.eq_of_beq_eq_true hsz;obtain ⟨h0,h1,h2,h⟩:=sliceK_out h;refine ⟨_,h,opSem_run fun own M ι a w hown ha hh hρ=>?_⟩;obtain ⟨k1,e1⟩:=bd_eval hρ hlo;obtain ⟨k2,e2⟩:=bd_eval hρ hhi;obtain ⟨M1,s1,a1,n1,g1⟩:=freeze ha hh hb (B':=.row r sz true) (.inl ⟨_,_,_,rfl,rfl⟩);have hd:=hρ x;rw [hx] at hd;have hdd:=den_own g1 (upd_same _ _ _) (hd.mono s1);generalize hv:a.eval x=v at hd hdd
     have hrun:∃ u,(Instr.sliceAt t v (lo'.map (.int k1)) (hi'.map (.int k2)) none).run P w=.ok u w/\DenA M1 ι (.d (.lst ((r.take (hi'.getD r.length).toNat).drop (lo'.getD 0).toNat))) u:=by
      cases hdd with
      |emp a0 c=>
       simp only [List.length_nil] at*
       have hh0:(hi'.getD ((0:Nat):Int)).toNat-(lo'.getD 0).toNat=0:=by rw [(emp_bd h0 h1 h2).1];exact Nat.zero_sub _
       refine ⟨_,run_sliceT hT hk (len:=0) h0 h1 h2 (Nat.zero_le _),?_⟩;rw [hh0]
       have:((([]:List (List D)).take (hi'.getD ((0:Nat):Int)).toNat).drop (lo'.getD 0).toNat)=[]:=by simp
       rw [this];exact .d _ _ (.emp _ _)
      |lst _ b' off cap sz' val hl hs hm hdd=>
       refine ⟨_,run_sliceT hT hk h0 h1 h2 hl,?_⟩;have hlst:=lst_slice (M:=M1) (b:=b') (off:=off) hl hs hm hdd (lo'.getD 0).toNat (hi'.getD r.length).toNat (by omega) (by omega)
       have hadd:(if cap=(lo'.getD 0).toNat then some (⟨b',off,none⟩:Addr) else (some (⟨b',off,none⟩:Addr)).map (·.add ((lo'.getD 0).toNat*(T el).size)))=(if cap=(lo'.getD 0).toNat then some (⟨b',off,none⟩:Addr) else some ⟨b',off+(lo'.getD 0).toNat*(T el).size,none⟩):=by
        split
        ·rfl
        ·simp [addr_add]
       by_cases hr:r=[]
       ·subst hr
        have hh0:(hi'.getD ((([]:List (List D)).length:Nat):Int)).toNat-(lo'.getD 0).toNat=0:=by
         have:=emp_bd h0 h1 h2;show (hi'.getD ((0:Nat):Int)).toNat-(lo'.getD 0).toNat=0
         rw [this.1];exact Nat.zero_sub _
        rw [hh0]
        have:((([]:List (List D)).take (hi'.getD ((([]:List (List D)).length:Nat):Int)).toNat).drop (lo'.getD 0).toNat)=[]:=by simp
        rw [this];exact .d _ _ (.emp _ _)
       ·obtain ⟨e,he⟩:∃ e,r[0]?=some e:=by
         cases r with
         |nil=>exact absurd rfl hr
         |cons e r=>exact ⟨e,rfl⟩
        have hlen:e.length=sz:=by
         cases hL:ι b with
         |none=>rw [(hh.dom b).2 hL] at hb;cases hb
         |some oL=>
          cases oL with
          |none=>
           obtain ⟨sz2,fr2,e0⟩:=hh.virt b hL
           rw [hb] at e0;cases e0
           exact absurd rfl hr
          |some L=>
           obtain ⟨_,cs,Ty,_,_,_,_,_,q4,_⟩:=hh.at_ b _ L hb hL;exact q4.len 0 e he
        have:sz'=(T el).size:=(hs 0 e he).symm.trans (hlen.trans hsz);subst this;rw [hadd];exact .d _ _ hlst
     obtain ⟨u,hu1,hu2⟩:=hrun;exact ⟨u,w,by rw [hex,hv,e1,e2,Option.map_none,hu1];rfl,M1,ι,.refl _ _,s1,a1,n1,g1,fun _ _=>rfl,hu2⟩
    ·exact h.elim
   ·exact h.elim
  ·rename_i hx
   split at h
   ·rename_i el hk;obtain ⟨h0,h1,h2,h⟩:=sliceK_out h;refine ⟨_,h,opSem_val fun own M ι a w ha hh hρ=>?_⟩;obtain ⟨k1,e1⟩:=bd_eval hρ hlo;obtain ⟨k2,e2⟩:=bd_eval hρ hhi;have hd:=hρ x;rw [hx] at hd;generalize hv:a.eval x=v at hd
    cases hd with
    |nil a0=>
     refine ⟨_,by rw [hex,hv,e1,e2,Option.map_none,run_sliceT hT hk (len:=0) (cap:=0) h0 h1 h2 (Nat.le_refl _)];rfl,?_⟩;have hl0:(lo'.getD 0).toNat=0:=(emp_bd h0 h1 h2).2;have hh0:(hi'.getD ((0:Nat):Int)).toNat=0:=(emp_bd h0 h1 h2).1;rw [hl0,hh0];exact .nil _
   ·exact h.elim
  ·rename_i b lo0 n c hx
   split at h
   ·rename_i r sz hb
    split at h
    ·rename_i el hk;obtain ⟨hsz,h⟩:=bif_one h;have hsz:=Nat.eq_of_beq_eq_true hsz;obtain ⟨h0,h1,h2,h⟩:=winK_out h;refine ⟨_,h,opSem_val fun own M ι a w ha hh hρ=>?_⟩;obtain ⟨k1,e1⟩:=bd_eval hρ hlo;obtain ⟨k2,e2⟩:=bd_eval hρ hhi;have hd:=hρ x;rw [hx] at hd;generalize hv:a.eval x=v at hd
     cases hd with
     |winL _ _ _ _ _ hL=>rw [(hh.dom b).2 hL] at hb;cases hb
     |win _ _ _ _ L k base hL hn hc hkk hbb=>
      obtain ⟨_,cs,Ty,_,_,q1,_⟩:=hh.at_ b _ L hb hL
      have hck:c.getD n<=k:=by
       cases c with
       |none=>exact hn
       |some m=>exact Nat.le_of_eq (hc m rfl).symm
      refine ⟨_,by rw [hex,hv,e1,e2,Option.map_none,run_sliceW hT hk (len:=n) (cap:=k) h0 h1 (by omega) hn];rfl,?_⟩;rw [<-hsz,q1];refine win_sub (n:=n) hL hkk hbb (by omega) (by omega) (Nat.le_refl _) ?_;intro x hx
      cases c with
      |none=>cases hx
      |some m=>rw [hc m rfl];simpa [subO] using hx
    ·exact h.elim
   ·exact h.elim
  ·exact h.elim
 ·rename_i m
  split at h
  ·rename_i b lo0 n c hx
   split at h
   ·rename_i r sz hb
    split at h
    ·rename_i el hk;obtain ⟨hsz,h⟩:=bif_one h;have hsz:=Nat.eq_of_beq_eq_true hsz;obtain ⟨⟨hs,hm0,hm⟩,h⟩:=condK_out h;obtain ⟨h0,h1,h2,h⟩:=winK_out h;refine ⟨_,h,opSem_val fun own M ι a w ha hh hρ=>?_⟩;obtain ⟨k1,e1⟩:=bd_eval hρ hlo;obtain ⟨k2,e2⟩:=bd_eval hρ hhi;obtain ⟨k3,e3⟩:=bd_eval hρ hmx;have hd:=hρ x;rw [hx] at hd;generalize hv:a.eval x=v at hd
     cases hd with
     |winL _ _ _ _ _ hL=>rw [(hh.dom b).2 hL] at hb;cases hb
     |win _ _ _ _ L k base hL hn hc hkk hbb=>
      obtain ⟨_,cs,Ty,_,_,q1,_⟩:=hh.at_ b _ L hb hL
      have hck:c.getD n<=k:=by
       cases c with
       |none=>exact hn
       |some m=>exact Nat.le_of_eq (hc m rfl).symm
      refine ⟨_,by rw [hex,hv,e1,e2,e3,Option.map_some,run_sliceX hT hk (len:=n) (cap:=k) hs hm0 (by omega) h0 h1 h2];rfl,?_⟩;rw [<-hsz,q1];exact win_sub (n:=n) hL hkk hbb (by omega) (by omega) (by omega) (fun x hx=>by simpa using hx)
    ·exact h.elim
   ·exact h.elim
  ·split at h
   ·rename_i el hk;have hc:=(condK_out h).1;have hK:=(condK_out h).2
    clear h
    obtain ⟨rfl,rfl,rfl⟩:=hc;have h:=hK
    clear hK
    obtain ⟨hu,hke⟩:=und_slice hT hk
    have mk:∀ (own:Nat->Prop) (M:Mem) (ι:Inj) (a:Act) (w:World),(∀ x,DenA M ι (ρ x) (a.eval x))->∀ a0 n c,n<=c->a.eval x=.slice a0 n c->∃ v,(execOp a.eval o).run P w=.ok (.value v) w/\DenA M ι .nil v:=by
     intro own M ι a w hρ a0 n c hnc hv;obtain ⟨k1,e1⟩:=bd_eval hρ hlo;obtain ⟨k2,e2⟩:=bd_eval hρ hhi;obtain ⟨k3,e3⟩:=bd_eval hρ hmx;refine ⟨.slice (if 0=0 then a0 else a0.map (·.add (0*(T el).size))) (0-0) (0-0),?_,.nil _⟩;rw [hex,hv,e1,e2,e3];simp [Instr.sliceAt,Instr.slice,run_underlying hu,Instr.sliceBounds,Instr.sliceBound,asIntOf,run_sizeT hT w hke]
    split at h
    ·rename_i r hx;refine ⟨_,h,opSem_val fun own M ι a w ha hh hρ=>?_⟩;have hd:=hρ x;rw [hx] at hd;generalize hv:a.eval x=v at hd
     cases hd with
     |d _ _ hd=>
      cases hd with
      |emp a0 c=>exact mk own M ι a w hρ a0 0 c (Nat.zero_le _) hv
      |lst _ b off cap sz val hl hs hm hdd=>exact mk own M ι a w hρ _ _ _ hl hv
    ·rename_i hx;refine ⟨_,h,opSem_val fun own M ι a w ha hh hρ=>?_⟩;have hd:=hρ x;rw [hx] at hd;generalize hv:a.eval x=v at hd
     cases hd with
     |nil a0=>exact mk own M ι a w hρ a0 0 0 (Nat.le_refl _) hv
    ·exact h.elim
   ·exact h.elim
end
theorem srcAny_out {P:Program} {sz:Nat} {v:AV} {hp:Nat->Option Blk} {K:List (List D)->Prop} (h:srcAny sz v hp K):
  ∃ l,K l/\ ∀ n,okRows sz (l.take n)=true->∀ (own:Nat->Prop) (M:Mem) (ι:Inj) (w:World) (u:Value),Agree M w->HRel own M ι hp w->DenA M ι v u->
   ∃ a c vs,u=.slice a l.length c/\SrcAt P M w (.slice a (l.take n).length c) (l.take n) sz vs/\ ∀ v∈vs.toList,v.oneCell'=true:=by
 have htk:∀ (l:List (List D)) (n i:Nat) (e:List D),(l.take n)[i]?=some e->l[i]?=some e:=by
  intro l n i e he;rw [List.getElem?_take] at he
  split at he
  ·exact he
  ·cases he
 unfold srcAny at h
 split at h
 ·rename_i l;refine ⟨l,h,fun n hok own M ι w u ha hh hd=>?_⟩
  cases hd with
  |d _ _ hd=>
   cases hd with
   |emp a c=>exact ⟨a,c,#[],rfl,by simpa using src_empty a c,fun v hv=>by simp at hv⟩
   |lst _ b off cap sz' val hl hs hm hdd=>
    have hsz:∀ i e,(l.take n)[i]?=some e->sz'=sz:=fun i e he=>(hs i e (htk l n i e he)).symm.trans (okRows_get hok i e he).1
    obtain ⟨vs,hvs⟩:=src_cells (P:=P) (M:=M) (w:=w) (l:=l.take n) (sz:=sz) b off cap val (fun i e he=>(okRows_get hok i e he).1) (fun i j e d he hj=>by
     have:=hsz i e he;subst this
     exact ha _ _ _ (hm i j e d (htk l n i e he) hj)) fun i j e d he hj=>hdd i j e d (htk l n i e he) hj
    exact ⟨_,_,vs,rfl,hvs,hvs.one hok⟩
 ·refine ⟨[],h,fun n hok own M ι w u ha hh hd=>?_⟩
  cases hd with
  |nil a=>exact ⟨a,0,#[],rfl,by simpa using src_empty a 0,fun v hv=>by simp at hv⟩
 ·rename_i b
  split at h
  ·rename_i l sz' fr hb;obtain ⟨hs,h2⟩:=bif_one h
   clear h
   have:=Nat.eq_of_beq_eq_true hs;subst this;refine ⟨l,h2,fun n hok own M ι w u ha hh hd=>?_⟩
   cases hd with
   |own _ L cap hL hn hc=>
    obtain ⟨_,cs,Ty,hheap,hsz,q1,q2,q3,q4,q5⟩:=hh.at_ b _ L hb hL
    obtain ⟨vs,hvs⟩:=src_cells (P:=P) (M:=M) (w:=w) (l:=l.take n) (sz:=sz') L.blk 0 cap (fun i j=>(cs[i*sz'+j]?).getD undef) (fun i e he=>q4.len i e (htk l n i e he)) (fun i j e d he hj=>by
     obtain ⟨v,e1,e2⟩:=q4.den i j e d (htk l n i e he) hj
     rw [cell_of_heap hheap,Nat.zero_add,e1];rfl) (fun i j e d he hj=>by
     obtain ⟨v,e1,e2⟩:=q4.den i j e d (htk l n i e he) hj
     simpa [e1] using e2)
    rw [<-q2];exact ⟨_,_,vs,rfl,hvs,hvs.one hok⟩
   |ownE _ a hL=>
    obtain ⟨sz2,fr2,e⟩:=hh.virt b hL
    rw [hb] at e;cases e
    exact ⟨a,0,#[],rfl,by simpa using src_empty a 0,fun v hv=>by simp at hv⟩
   |ownL _ _ hL=>rw [(hh.dom b).2 hL] at hb;cases hb
  ·exact h.elim
 ·rename_i b lo n0 c
  split at h
  ·rename_i l sz' fr hb;obtain ⟨hs,h2⟩:=bif_one h
   clear h
   have:=Nat.eq_of_beq_eq_true hs;subst this;obtain ⟨hle,h⟩:=condK_out h2;refine ⟨_,h,fun n hok own M ι w u ha hh hd=>?_⟩
   have hlen:((l.drop lo).take n0).length=n0:=by simp;omega
   rw [hlen]
   have htt:((l.drop lo).take n0).take n=(l.drop lo).take (min n n0):=by rw [List.take_take]
   rw [htt] at hok⊢
   cases hd with
   |winL _ _ _ _ _ hL=>rw [(hh.dom b).2 hL] at hb;cases hb
   |win _ _ _ _ L k base hL hn hc hk hbb=>
    have hd':DenA M ι (.win b lo (min n n0) none) (.slice (some ⟨L.blk,base,none⟩) (min n n0) k):=.win b lo _ none L k base hL (by omega) (fun _ h=>by cases h) hk hbb;obtain ⟨vs,k',base',L',e1,e2⟩:=win_src (P:=P) hh hb hd' (by omega)
    have hl2:((l.drop lo).take (min n n0)).length=min n n0:=by simp;omega
    rw [hl2];exact ⟨_,_,vs,rfl,e2,e2.one hok⟩
  ·exact h.elim
 ·exact h.elim
theorem mid_get {α:Type} (r l:List α) (lo i:Nat) (h:lo+l.length<=r.length):(r.take lo++(l++r.drop (lo+l.length)))[i]?=if lo<=i/\i<lo+l.length then l[i-lo]? else r[i]?:=by
 have h1:(r.take lo).length=lo:=by simp;omega
 by_cases a:i<lo
 ·rw [if_neg (by omega),List.getElem?_append_left (by omega),List.getElem?_take,if_pos a]
 ·rw [List.getElem?_append_right (by omega),h1]
  by_cases b:i<lo+l.length
  ·rw [if_pos ⟨by omega,b⟩,List.getElem?_append_left (by omega)]
  ·rw [if_neg (by omega),List.getElem?_append_right (by omega),List.getElem?_drop]
   congr 1;omega
theorem mid_len {α:Type} (r l:List α) (lo:Nat) (h:lo+l.length<=r.length):(r.take lo++(l++r.drop (lo+l.length))).length=r.length:=by
 simp;omega
section
variable {P:Program} {T:Tab} (hT:TabOk P T)
theorem row_write {own:Nat->Prop} {M:Mem} {ι:Inj} {hp:Nat->Option Blk} {w:World} (ha:Agree M w) (hh:HRel own M ι hp w) {b lo base:Nat} {r l:List (List D)} {sz:Nat} (hb:hp b=some (.row r sz false)) {L:Loc} (hL:ι b=some (some L))
  {vs:Array Value} (hrow:RowAt M vs l sz) (hs:vs.size=l.length*sz) (hone:∀ v∈vs.toList,v.oneCell'=true) (hle:lo+l.length<=r.length) (hbase:base=lo*sz\/l=[]):
  ∃ w',(storeCells ⟨L.blk,base,none⟩ vs.toList).run P w=.ok () w'/\ ∀ (av:AV) (v:Value),DenA M ι av v->Post own M ι hp w ⟨av,[(b,.row (r.take lo++(l++r.drop (lo+l.length))) sz false)],none⟩ v w':=by
 by_cases hl0:l=[]
 ·subst hl0
  have hv0:vs=#[]:=by simpa using hs
  subst hv0;refine ⟨w,by simp [storeCells],fun av v hd=>⟨M,ι,.refl _ _,.refl M,ha,.refl _ _,?_,fun _ _=>rfl,hd⟩⟩
  have:upd hp b (some (.row (r.take lo++([]++r.drop (lo+([]:List (List D)).length))) sz false))=hp:=by
   funext x
   by_cases e:x=b
   ·subst e;rw [upd_same,hb];simp
   ·rw [upd_other _ _ e]
  show HRel own M ι (upd hp b (some (.row (r.take lo++([]++r.drop (lo+([]:List (List D)).length))) sz false))) w
  rw [this];exact hh
 ·have hbase:base=lo*sz:=hbase.resolve_right hl0;subst hbase;obtain ⟨hown1,cs,Ty,hheap,hsz,q1,q2,q3,q4,q5⟩:=hh.at_ b _ L hb hL;have hcl:=hh.closed hL _ hb rfl
  have hvl:vs.toList.length=l.length*sz:=by simpa using hs
  have hbnd:lo*sz+vs.toList.length<=cs.size:=by
   rw [hvl,<-Nat.add_mul,hsz];exact Nat.le_trans (Nat.mul_le_mul_right _ hle) q3
  obtain ⟨cs',g1,g2,g3,g4,g5,g6,g7⟩:=write_cells (P:=P) (own:=own) ha hown1 hcl hheap vs.toList (lo*sz) hbnd hone;refine ⟨w.setRow L.blk cs',g1,fun av v hd=>⟨M,ι,g3,.refl M,g2,.refl _ _,?_,fun _ _=>rfl,hd⟩⟩;show HRel own M ι (upd hp b (some (.row (r.take lo++(l++r.drop (lo+l.length))) sz false))) _
  refine hh.set b _ (by rw [hb];simp) (.refl M) (fun e=>by rw [hL] at e;cases e) (fun L' hL'=>?_) fun b' L' hne hL'=>⟨g7 _ fun e=>hne (hh.inj b' b L' L hL' hL e),hh.closed hL'⟩
  rw [hL] at hL';cases hL'
  have hml:=mid_len r l lo hle
  have hlenE:∀ (i:Nat) (e:List D),(r.take lo++(l++r.drop (lo+l.length)))[i]?=some e->e.length=sz:=by
   intro i e he;rw [mid_get r l lo i hle] at he
   split at he
   ·exact hrow.len _ e he
   ·exact q4.len _ e he
  refine ⟨cs',Ty,g4,by rw [g5];exact hsz,q1,by rw [hml];exact q2,by rw [hml];exact q3,⟨hlenE,fun i j e d he hj=>?_⟩,(by intro e;cases e),fun _=>hcl⟩
  have hjl:j<sz:=by rw [<-hlenE i e he];exact (List.getElem?_eq_some_iff.1 hj).1
  rw [g6,hvl];rw [mid_get r l lo i hle] at he
  split at he
  ·rename_i hin;obtain ⟨x,x1,x2⟩:=hrow.den _ j e d he hj
   have e1:i*sz+j=lo*sz+((i-lo)*sz+j):=by
    rw [<-Nat.add_assoc,<-Nat.add_mul];congr 2;omega
   have h2:(i-lo)*sz+j<l.length*sz:=idx_lt (by omega) hjl;rw [if_pos ⟨by omega,by omega⟩];refine ⟨x,?_,x2⟩;rw [e1,Nat.add_sub_cancel_left]
   simpa using x1
  ·rename_i hin
   have:¬(lo*sz<=i*sz+j/\i*sz+j<lo*sz+l.length*sz):=by
    rintro ⟨p1,p2⟩
    by_cases a:i<lo
    ·have:=idx_lt (sz:=sz) a hjl;omega
    ·have h3:lo+l.length<=i:=by omega
     have:=Nat.mul_le_mul_right sz h3;rw [Nat.add_mul] at this;omega
   rw [if_neg this];exact q4.den i j e d he hj
theorem zero_rows {e:TypeId} {z:Value} (hzc:zeroChk z.cells.toList (T e).zero=true) (hzl:(T e).zero.length=(T e).size) (hpos:0<(T e).size) (n:Nat) (M:Mem):RowAt M (Builtin.zeroCells z.cells n) (List.replicate n (T e).zero) (T e).size/\ (Builtin.zeroCells z.cells n).size=n*(T e).size/\
  (okRow (T e).size (T e).zero=true->∀ v∈(Builtin.zeroCells z.cells n).toList,v.oneCell'=true):=by
 obtain ⟨z1,z2⟩:=zeroChk_get hzc
 have hzs:z.cells.size=(T e).size:=by rw [<-hzl,<-z1];simp
 have hget:∀ j d',(T e).zero[j]?=some d'->∀ i,i<n->∃ v,(Builtin.zeroCells z.cells n)[i*(T e).size+j]?=some v/\ ∀ M,DenD M d' v:=by
  intro j d' hd' i hi;have hj:=(List.getElem?_eq_some_iff.1 hd').1;rw [hzl] at hj;obtain ⟨v,g1,g2,_⟩:=z2 j d' hd';refine ⟨v,?_,g2⟩
  have hlt:i*(T e).size+j<n*z.cells.size:=by rw [hzs];exact idx_lt hi hj
  simp only [Builtin.zeroCells,Array.getElem?_map,Array.getElem?_range,if_pos hlt,Option.map_some,Option.some.injEq];rw [hzs,Nat.mul_comm,Nat.mul_add_mod,Nat.mod_eq_of_lt hj]
  have hlt2:j<z.cells.size:=by omega
  rw [getElem!_pos z.cells _ hlt2]
  have:z.cells[j]?=some v:=by simpa using g1
  rw [Array.getElem?_eq_getElem hlt2] at this
  simpa using this
 have hsize:(Builtin.zeroCells z.cells n).size=n*(T e).size:=by simp [Builtin.zeroCells,hzs]
 refine ⟨⟨fun i el hel=>?_,fun i j el d' hel hd'=>?_⟩,hsize,fun hok v hv=>?_⟩
 ·rw [List.getElem?_replicate] at hel
  split at hel
  ·cases hel;exact hzl
  ·cases hel
 ·rw [List.getElem?_replicate] at hel
  split at hel
  ·rename_i hi
   cases hel
   obtain ⟨v,g1,g2⟩:=hget j d' hd' i hi;exact ⟨v,g1,g2 M⟩
  ·cases hel
 ·obtain ⟨k,hk,rfl⟩:=List.mem_iff_getElem.1 hv
  have hk':k<n*(T e).size:=by rw [<-hsize];simpa using hk
  obtain ⟨i,j,rfl,hi,hj⟩:=idx_split hk';have hd:(T e).zero[j]?=some ((T e).zero[j]'(by omega)):=List.getElem?_eq_getElem (by omega);obtain ⟨v,g1,g2⟩:=hget j _ hd i hi
  have:(Builtin.zeroCells z.cells n).toList[i*(T e).size+j]=v:=by
   have h:=g1;rw [<-Array.getElem?_toList,List.getElem?_eq_getElem hk] at h
   simpa using h
  rw [this];simp only [okRow,Bool.and_eq_true,List.all_eq_true] at hok;exact one_cell (hok.2 _ (List.mem_of_getElem? hd)) (g2 (fun _ _=>none))
include hT in
theorem copy_sem {o:Oper} {c:Call} {x y:Operand} {t t2 e:TypeId} {ρ:Operand->AV} {hp:Nat->Option Blk} {K:Eff->Prop} (ho:o.op=.call c) (hc:c.callee=.builtin .copy) (ha:c.args.toList=[x,y]) (ht:c.argTypes.toList=[t,t2]) (hk:(T t).k=.slice e)
  (h:copyW T e (ρ x) (ρ y) hp K):∃ e,K e/\OpSem P o ρ hp e:=by
 have ha':c.args=#[x,y]:=by rw [<-Array.toList_inj];exact ha
 have ht':c.argTypes=#[t,t2]:=by rw [<-Array.toList_inj];exact ht
 obtain ⟨hu,hke⟩:=und_slice hT hk;unfold copyW at h
 split at h
 ·rename_i b lo n cp hx
  split at h
  ·rename_i r sz hb;obtain ⟨hsz,h⟩:=bif_one h;have hsz:=Nat.eq_of_beq_eq_true hsz;subst hsz;obtain ⟨src,h,hsrc⟩:=srcAny_out (P:=P) h;obtain ⟨⟨hle,hok⟩,h⟩:=condK_out h;refine ⟨_,h,opSem_run fun own M ι a w hown hA hh hρ=>?_⟩;obtain ⟨a0,c0,vs,e1,e2,e3⟩:=hsrc _ hok own M ι w _ hA hh (hρ y);have hv:=hρ x;rw [hx] at hv;generalize hvx:a.eval x=v at hv
   cases hv with
   |winL _ _ _ _ _ hL=>rw [(hh.dom b).2 hL] at hb;cases hb
   |win _ _ _ _ L k base hL hn hcc hkk hbb=>
    obtain ⟨_,_,_,_,_,q1,_⟩:=hh.at_ b _ L hb hL
    have hm:(src.take (Nat.min src.length n)).length=Nat.min src.length n:=by
     rw [List.length_take];exact Nat.min_eq_left (Nat.min_le_left _ _)
    have hmn:Nat.min src.length n<=n:=Nat.min_le_right _ _
    obtain ⟨w',g1,g2⟩:=row_write (P:=P) hA hh hb hL (lo:=lo) (base:=base) e2.row e2.size e3 (by rw [hm];omega) (by
     rcases hbb with h|h
     ·exact .inl (by rw [h,q1])
     ·right
      apply List.eq_nil_of_length_eq_zero
      rw [hm];omega)
    have hp':=g2 (.d (.int .i64 (Nat.min src.length n))) (.int .i64 (Nat.min src.length n)) (.d _ _ (.int _ _));rw [hm] at hp';refine ⟨_,w',?_,hp'⟩
    have hr:=e2.run w fun _ _=>rfl
    have hfc:(Builtin.firstCells (T e).size (Nat.min src.length n) (.slice a0 src.length c0)).run P w=.ok vs w:=by
     rw [hm] at hr
     cases a0 with
     |none=>exact hr
     |some a0=>exact hr
    simp only [execOp,ho,resolve,hc,invoke,builtin,ha',ht',hvx,e1,Builtin.copy_,run_underlying hu,run_sizeT hT w hke,Builtin.lenOf,hfc,g1,goInt,Array.map,Sem.run_bind,Sem.run_pure,Result.andThen_ok];simp [Builtin.copy_,run_underlying hu,run_sizeT hT w hke,Builtin.lenOf,hfc,g1,goInt,hvx,e1]
  ·exact h.elim
 ·exact h.elim
include hT in
theorem clear_sem {o:Oper} {c:Call} {x:Operand} {t e:TypeId} {ρ:Operand->AV} {hp:Nat->Option Blk} {K:Eff->Prop} (ho:o.op=.call c) (hc:c.callee=.builtin .clear) (ha:c.args.toList=[x]) (ht:c.argTypes.toList=[t]) (hk:(T t).k=.slice e)
  (h:clearW T e (ρ x) hp K):∃ e,K e/\OpSem P o ρ hp e:=by
 have ha':c.args=#[x]:=by rw [<-Array.toList_inj];exact ha
 have ht':c.argTypes=#[t]:=by rw [<-Array.toList_inj];exact ht
 obtain ⟨hu,hke⟩:=und_slice hT hk;unfold clearW at h
 split at h
 ·rename_i b lo n cp hx
  split at h
  ·rename_i r sz hb;obtain ⟨hsz,h⟩:=bif_one h;have hsz:=Nat.eq_of_beq_eq_true hsz;subst hsz;obtain ⟨⟨hle,hok⟩,h⟩:=condK_out h;refine ⟨_,h,opSem_run fun own M ι a w hown hA hh hρ=>?_⟩;have hv:=hρ x;rw [hx] at hv;generalize hvx:a.eval x=v at hv
   cases hv with
   |winL _ _ _ _ _ hL=>rw [(hh.dom b).2 hL] at hb;cases hb
   |win _ _ _ _ L k base hL hn hcc hkk hbb=>
    obtain ⟨_,_,_,_,_,q1,_⟩:=hh.at_ b _ L hb hL;obtain ⟨_,ie,_,hie,_,_,_,⟨z,hz,hzc⟩,_⟩:=(tyFact hT hke).desc
    have hzr:(zeroValue e).run P w=.ok z w:=by simp [zeroValue,typeInfo,hie,hz]
    obtain ⟨r1,r2,r3⟩:=zero_rows hzc (zero_len hT hke) (size_pos hT hke) n M
    have hlr:(List.replicate n (T e).zero).length=n:=List.length_replicate ..
    obtain ⟨w',g1,g2⟩:=row_write (P:=P) hA hh hb hL (lo:=lo) (base:=base) r1 (by rw [hlr];exact r2) (r3 hok) (by rw [hlr];omega) (by
     rcases hbb with h|h
     ·exact .inl (by rw [h,q1])
     ·right
      apply List.eq_nil_of_length_eq_zero
      rw [hlr];omega)
    have hp':=g2 (.tup []) (.tuple #[]) (.tup [] #[] rfl fun i x v h=>by simp at h);rw [hlr] at hp';refine ⟨_,w',?_,hp'⟩
    cases n with
    |zero=>
     have:w'=w:=by
      have e0:(storeCells ⟨L.blk,base,none⟩ (Builtin.zeroCells z.cells 0).toList).run P w=.ok () w:=by simp [Builtin.zeroCells,storeCells]
      rw [e0] at g1
      cases g1;rfl
     subst this;simp [execOp,ho,resolve,hc,invoke,builtin,ha',ht',hvx,Builtin.clear_,run_underlying hu]
    |succ n=>
     simp [execOp,ho,resolve,hc,invoke,builtin,ha',ht',hvx,Builtin.clear_,run_underlying hu,hzr,g1]
  ·exact h.elim
 ·exact h.elim
include hT in
theorem cap_sem {o : Oper} {c : Call} {x : Operand} {t e : TypeId} {ρ : Operand → AV} {hp : Nat → Option Blk} {K : Eff → Prop} (ho : o.op = .call c) (hc : c.callee = .builtin .cap) (ha : c.args.toList = [x]) (ht : c.argTypes.toList = [t]) (hk : (T t).k = .slice e)
    (h : match ρ x with
            | .win b _ _ (some c) => match hp b with
              | some _ => K ⟨.d (.int .i64 c), [], none⟩
              | none => False
            | .nil => K ⟨.d (.int .i64 0), [], none⟩
            | _ => False) : ∃ e, K e ∧ OpSem P o ρ hp e := by
  have ha' : c.args = #[x] := by rw [← Array.toList_inj]; exact ha
  have ht' : c.argTypes = #[t] := by rw [← Array.toList_inj]; exact ht
  obtain ⟨hu, hke⟩ := und_slice hT hk
  split at h
  · rename_i b lo n cp hx
    split at h
    · rename_i B hb
      refine ⟨_, h, opSem_val fun own M ι a w hA hh hρ => ⟨.int .i64 cp, ?_, .d _ _ (.int _ _)⟩⟩
      have hv := hρ x
      rw [hx] at hv
      generalize hvx : a.eval x = v at hv
      cases hv with
      | winL _ _ _ _ _ hL => rw [(hh.dom b).2 hL] at hb; cases hb
      | win _ _ _ _ L k base hL hn hcc hkk hbb =>
        have := hcc cp rfl
        subst this
        simp [execOp, ho, resolve, hc, invoke, builtin, ha', ht', hvx, Builtin.cap_, run_underlying hu, goInt]
    · exact h.elim
  · rename_i hx
    refine ⟨_, h, opSem_val fun own M ι a w hA hh hρ => ⟨.int .i64 0, ?_, .d _ _ (.int _ _)⟩⟩
    have hv := hρ x
    rw [hx] at hv
    generalize hvx : a.eval x = v at hv
    cases hv with
    | nil base => simp [execOp, ho, resolve, hc, invoke, builtin, ha', ht', hvx, Builtin.cap_, run_underlying hu, goInt]
  · exact h.elim
theorem grown_win {own:Nat->Prop} {M:Mem} {ι:Inj} {hp:Nat->Option Blk} {w:World} (ho:∀ c,w.heap.size<=c->own c) (ha:Agree M w) (hh:HRel own M ι hp w) {x:Nat} {l r:List (List D)} {sz:Nat} {old vs rest:Array Value} {Ty:TypeId} {cap:Nat}
  (h1:RowAt M old l sz) (s1:old.size=l.length*sz) (h2:RowAt M vs r sz) (s2:vs.size=r.length*sz) (hcap:l.length+r.length<=cap) (s3:rest.size=(cap-(l.length+r.length))*sz):
  Post own M ι hp w ⟨.win x 0 (l.length+r.length) none,[(x,.row (l++r) sz false)],some x⟩ (.slice (some ⟨w.heap.size,0,none⟩) (l.length+r.length) cap) (w.drew.alloc (.cells (old++vs++rest) Ty)):=by
 have hrow:RowAt M (old++vs++rest) (l++r) sz:=by
  refine row_append h1 h2 (fun k hk=>?_) fun k hk=>?_
  ·rw [Array.getElem?_append_left (by simp;omega),Array.getElem?_append_left (by omega)]
  ·rw [Array.getElem?_append_left (by simp;omega),Array.getElem?_append_right (by omega)]
   congr 1;omega
 have hsize:(old++vs++rest).size=cap*sz:=by
  simp only [Array.size_append,s1,s2,s3,<-Nat.add_mul]
  congr 1;omega
 have hha:HRel own M ι hp w.drew:=hh.keep (.refl M) fun b' L' hL'=>⟨rfl,hh.closed hL'⟩
 refine post_new (w:=w) (w0:=w.drew) ho (.refl M) (.refl _ _) ha hha rfl rfl rfl rfl (e:=⟨.win x 0 (l.length+r.length) none,[(x,.row (l++r) sz false)],some x⟩) (d:=x) (B:=.row (l++r) sz false) (sz:=sz) (len:=l.length+r.length) rfl rfl ?_ ?_
 ·refine ⟨_,Ty,heap_alloc_size w.drew _,rfl,rfl,by simp,?_,hrow,(by intro e;cases e),fun _ o=>agree_new ha o⟩;rw [hsize];simp only [List.length_append];exact Nat.mul_le_mul_right _ hcap
 ·exact .win x 0 _ none ⟨w.heap.size,sz,(old++vs++rest).size,l.length+r.length⟩ cap 0 (upd_same _ _ _) hcap (fun _ h=>by cases h) (by rw [hsize,Nat.zero_add];exact Nat.le_refl _) (.inl (by simp))
include hT in
theorem append_win_sem {o:Oper} {c:Call} {x y:Operand} {t t2 e e2:TypeId} {ρ:Operand->AV} {hp:Nat->Option Blk} {K:Eff->Prop} (ho:o.op=.call c) (hc:c.callee=.builtin .append) (ha:c.args.toList=[x,y]) (ht:c.argTypes.toList=[t,t2]) (hk:(T t).k=.slice e) (hk2:(T t2).k=.slice e2)
  {b lo n cp:Nat} (hx:ρ x=.win b lo n (some cp)) {src:List (List D)} (hsrc:∀ (own:Nat->Prop) (M:Mem) (ι:Inj) (w:World) (u:Value),Agree M w->HRel own M ι hp w->DenA M ι (ρ y) u->∃ a c vs,u=.slice a src.length c/\SrcAt P M w u src (T e).size vs/\ ∀ v∈vs.toList,v.oneCell'=true)
  (h:appendW T e b lo n cp src hp o.dst K):∃ e,K e/\OpSem P o ρ hp e:=by
 have ha':c.args=#[x,y]:=by rw [<-Array.toList_inj];exact ha
 have ht':c.argTypes=#[t,t2]:=by rw [<-Array.toList_inj];exact ht
 have hex:∀ (a:Act) (w w':World) (v:Value),(Builtin.append_ #[t,t2] o.type #[a.eval x,a.eval y]).run P w=.ok v w'->(execOp a.eval o).run P w=.ok (.value v) w':=by
  intro a w w' v hr;simp [execOp,ho,resolve,hc,invoke,builtin,ha',ht',hr]
 unfold appendW at h
 split at h
 ·rename_i r sz hb;obtain ⟨hsz,h⟩:=bif_one h;have hsz:=Nat.eq_of_beq_eq_true hsz;subst hsz
  by_cases hf:n+src.length<=cp
  ·obtain ⟨hle,h⟩:=condK_out (h.yes hf);refine ⟨_,h,opSem_run fun own M ι a w hown hA hh hρ=>?_⟩;obtain ⟨a0,c0,vs,e1,e2,e3⟩:=hsrc own M ι w _ hA hh (hρ y);have hv:=hρ x;rw [hx] at hv;generalize hvx:a.eval x=v at hv
   cases hv with
   |winL _ _ _ _ _ hL=>rw [(hh.dom b).2 hL] at hb;cases hb
   |win _ _ _ _ L k base hL hn hcc hkk hbb=>
    have:=hcc cp rfl;subst this;obtain ⟨_,_,_,_,_,q1,_⟩:=hh.at_ b _ L hb hL
    obtain ⟨w',g1,g2⟩:=row_write (P:=P) hA hh hb hL (lo:=lo+n) (base:=base+n*(T e).size) e2.row e2.size e3 (by omega) (by
     rcases hbb with h|h
     ·exact .inl (by rw [h,q1,Nat.add_mul])
     ·right
      apply List.eq_nil_of_length_eq_zero
      omega)
    rw [e1] at e2;refine ⟨.slice (some ⟨L.blk,base,none⟩) (n+src.length) k,w',hex a w w' _ ?_,g2 _ _ ?_⟩
    ·rw [hvx,e1]
     exact append_fits hT hk hk2 hf (e2.run w fun _ _=>rfl) (by
      show (storeCells ((⟨L.blk,base,none⟩:Addr).add (n*(T e).size)) vs.toList).run P w=.ok () w'
      rw [addr_add];exact g1)
    ·exact .win b lo _ (some k) L k base hL hf (fun m hm=>by cases hm;rfl) hkk hbb
  ·have h:=h.no hf
   split at h
   ·rename_i d hd;obtain ⟨hle,h⟩:=condK_out h;obtain ⟨r1,r2,h⟩:=roomK_out h;refine ⟨_,h,opSem_run fun own M ι a w hown hA hh hρ=>?_⟩;obtain ⟨a0,c0,vs,e1,e2,e3⟩:=hsrc own M ι w _ hA hh (hρ y);have hd':=hρ x;rw [hx] at hd';obtain ⟨old,k,base,L,f1,f2⟩:=win_src (P:=P) hh hb hd' hle
    have hlen:((r.drop lo).take n).length=n:=by simp;omega
    have hck:cp=k:=by
     rw [f1,hlen] at hd'
     cases hd' with
     |win _ _ _ _ _ _ _ _ _ hcc _ _=>exact (hcc cp rfl).symm
     |winL _ _ _ _ _ hL=>rw [(hh.dom b).2 hL] at hb;cases hb
    subst hck;rw [f1] at f2;rw [e1] at e2;obtain ⟨newCap,z,g1,g2,g3⟩:=append_grows hT (ty:=o.type) hk hk2 (w:=w) (base:=some ⟨L,base,none⟩) (sLen:=((r.drop lo).take n).length) (sCap:=cp) (n:=src.length) (c:=c0) (a:=a0) (by omega) (by rw [hlen];exact r1) (by omega) e2.run f2.run;have hp':=grown_win (x:=d) (Ty:=e) (l:=(r.drop lo).take n) (r:=src) (sz:=(T e).size) (old:=old) (vs:=vs) (rest:=Builtin.zeroCells z.cells (newCap-(((r.drop lo).take n).length+src.length))) (cap:=newCap) hown hA hh f2.row f2.size e2.row e2.size g1 (by simp [Builtin.zeroCells,g2]);rw [hlen] at g3 hp';rw [hlen] at f1;exact ⟨_,_,hex a w _ _ (by rw [f1,e1];exact g3),hp'⟩
   ·exact h.elim
 ·exact h.elim
include hT in
theorem appendZ_grows {t t2 e ty:TypeId} {ki:IntKind} (hk:(T t).k=.slice e) (hk2:(T t2).k=.int ki) {w:World} {base:Option Addr} {sLen sCap:Nat} {k:Int} {kk:IntKind} {old:Array Value}
  (h0:0<=k) (hn:sCap<sLen+k.toNat) (hkp:0<k.toNat) (hroom:(sLen+k.toNat)*(T e).bytes<=35184372088832) (hroom1:sLen+k.toNat<=35184372088832)
  (ho:∀ w':World,(∀ x,(w.cell? x).isSome->w'.cell? x=w.cell? x)->(Builtin.firstCells (T e).size sLen (.slice base sLen sCap)).run P w'=.ok old w'):
  ∃ (newCap:Nat) (z:Value),sLen+k.toNat<=newCap/\z.cells.size=(T e).size/\zeroChk z.cells.toList (T e).zero=true/\ (Builtin.append_ #[t,t2] ty #[.slice base sLen sCap,.int kk k]).run P w=
   .ok (.slice (some ⟨w.heap.size,0,none⟩) (sLen+k.toNat) newCap) (w.drew.alloc (.cells (old++Builtin.zeroCells z.cells k.toNat++Builtin.zeroCells z.cells (newCap-(sLen+k.toNat))) e)):=by
 obtain ⟨hu,hke⟩:=und_slice hT hk;have hu2:=und_int hT hk2;obtain ⟨_,ie,_,hie,_,hs,hb,⟨z,hz,hzc⟩,_,hbm,hzl,_⟩:=(tyFact hT hke).desc
 have hzs:z.cells.size=(T e).size:=by
  obtain ⟨z1,_⟩:=zeroChk_get hzc
  rw [<-hzl,<-z1];simp
 have h1:¬(sLen+k.toNat<=sCap):=by omega
 have hcap:=nextcap_le hn
 have h2:¬(Builtin.nextslicecap (sLen+k.toNat) sCap*ie.bytes>2^48):=by
  rw [hb];have hm:Builtin.nextslicecap (sLen+k.toNat) sCap*(T e).bytes<= (2*(sLen+k.toNat)+192)*(T e).bytes:=Nat.mul_le_mul_right _ hcap
  have:(2*(sLen+k.toNat)+192)*(T e).bytes=2*((sLen+k.toNat)*(T e).bytes)+192*(T e).bytes:=by rw [Nat.add_mul,Nat.mul_assoc]
  have h48:(2:Nat)^48=281474976710656:=by decide
  rw [h48];omega
 have hkb:k.toNat*(T e).bytes<=35184372088832:=Nat.le_trans (Nat.mul_le_mul_right _ (by omega)) hroom
 have hkn:(k.toNat:Int)=k:=by omega
 have hwrap:IntKind.i64.wrap k=k:=by
  simp only [IntKind.wrap];have e1:IntKind.i64.signed=true:=rfl;have e2:IntKind.i64.bits=64:=rfl;rw [e1,e2]
  have:k<35184372088833:=by omega
  simp;omega
 have hneg:¬k<0:=by omega
 have hbig:¬(k*(ie.bytes:Int)>2^48):=by
  rw [hb,<-hkn]
  have:((k.toNat*(T e).bytes:Nat):Int) <=35184372088832:=by omega
  rw [Int.natCast_mul] at this;omega
 have h3':¬((9223372036854775807:Int)<(sLen:Int)+(k.toNat:Int)):=by omega
 have hd:∀ x,(w.cell? x).isSome->w.drew.cell? x=w.cell? x:=fun x _=>rfl
 refine ⟨sLen+k.toNat+w.tape w.drawn (.appendCap (sLen+k.toNat) sCap e)%(2^63-(sLen+k.toNat)),z,by omega,hzs,hzc,?_⟩;have ho':=ho w.drew hd
 have hzr:(zeroValue e).run P w.drew=.ok z w.drew:=by simp [zeroValue,typeInfo,hie,hz]
 have hns:¬(k.toNat*(T e).size=0):=by
  have:=size_pos hT hke;intro h
  rcases Nat.mul_eq_zero.1 h with h|h<;>omega
 have hns':¬(k.toNat=0\/ (T e).size=0):=fun h=>hns (Nat.mul_eq_zero.2 h)
 have h48:(2:Int)^48=281474976710656:=by decide
 have hbig':¬((281474976710656:Int)<k*(ie.bytes:Int)):=fun h=>hbig (by rw [h48];exact h)
 have h3x:¬((9223372036854775807:Int)<(sLen:Int)+max k 0):=by omega
 have h1':¬((sLen:Int)+(k.toNat:Int) <=sCap):=by omega
 simp [Builtin.append_,run_underlying hu,run_underlying hu2,run_sizeT hT,hke,asInt,asIntOf,hwrap,hneg,hbig',h3x,h1,typeInfo,hie,h3',h2,Question.forced,Question.cut,ho',hzr,newRow,hns',hns]
include hT in
theorem appendZ_sem {o:Oper} {c:Call} {x y:Operand} {t t2 e:TypeId} {ki ky:IntKind} {q:Int} {ρ:Operand->AV} {hp:Nat->Option Blk} {K:Eff->Prop} (ho:o.op=.call c) (hc:c.callee=.builtin .append) (ha:c.args.toList=[x,y]) (ht:c.argTypes.toList=[t,t2]) (hk:(T t).k=.slice e) (hk2:(T t2).k=.int ki)
  {b lo n cp:Nat} (hx:ρ x=.win b lo n (some cp)) (hy:ρ y=.d (.int ky q))
  (h:appendZ T e b lo n cp q hp o.dst K):∃ e,K e/\OpSem P o ρ hp e:=by
 have ha':c.args=#[x,y]:=by rw [<-Array.toList_inj];exact ha
 have ht':c.argTypes=#[t,t2]:=by rw [<-Array.toList_inj];exact ht
 have hex:∀ (a:Act) (w w':World) (v:Value),(Builtin.append_ #[t,t2] o.type #[a.eval x,a.eval y]).run P w=.ok v w'->(execOp a.eval o).run P w=.ok (.value v) w':=by
  intro a w w' v hr;simp [execOp,ho,resolve,hc,invoke,builtin,ha',ht',hr]
 obtain ⟨hu,hke⟩:=und_slice hT hk;unfold appendZ at h
 split at h
 ·rename_i r sz hb;obtain ⟨hsz,h⟩:=bif_one h;have hsz:=Nat.eq_of_beq_eq_true hsz;subst hsz;obtain ⟨⟨h0,hcn,hle⟩,h⟩:=condK_out h
  split at h
  ·rename_i d hd;obtain ⟨r1,r2,h⟩:=roomK_out h;refine ⟨_,h,opSem_run fun own M ι a w hown hA hh hρ=>?_⟩;have ey:=den_int (hy▸hρ y);have hd':=hρ x;rw [hx] at hd';obtain ⟨old,k,base,L,f1,f2⟩:=win_src (P:=P) hh hb hd' hle
   have hlen:((r.drop lo).take n).length=n:=by simp;omega
   have hck:cp=k/\n<=k:=by
    rw [f1,hlen] at hd'
    cases hd' with
    |win _ _ _ _ _ _ _ _ hn hcc _ _=>exact ⟨(hcc cp rfl).symm,hn⟩
    |winL _ _ _ _ _ hL=>rw [(hh.dom b).2 hL] at hb;cases hb
   obtain ⟨rfl,hnk⟩:=hck;rw [f1] at f2;obtain ⟨newCap,z,g1,g2,hzc,g3⟩:=appendZ_grows hT (ty:=o.type) hk hk2 (w:=w) (base:=some ⟨L,base,none⟩) (sLen:=((r.drop lo).take n).length) (sCap:=cp) (k:=q) (kk:=ky) h0 (by omega) (by omega) (by rw [hlen];exact r1) (by omega) f2.run;obtain ⟨z1,z2,_⟩:=zero_rows hzc (zero_len hT hke) (size_pos hT hke) q.toNat M
   have hlr:(List.replicate q.toNat (T e).zero).length=q.toNat:=List.length_replicate ..
   have hp':=grown_win (x:=d) (Ty:=e) (l:=(r.drop lo).take n) (r:=List.replicate q.toNat (T e).zero) (sz:=(T e).size) (old:=old) (vs:=Builtin.zeroCells z.cells q.toNat) (rest:=Builtin.zeroCells z.cells (newCap-(((r.drop lo).take n).length+q.toNat))) (cap:=newCap) hown hA hh f2.row f2.size z1 (by rw [hlr];exact z2) (by rw [hlr];exact g1) (by simp [Builtin.zeroCells,g2]);rw [hlen] at g3 hp';rw [hlr] at hp';rw [hlen] at f1;exact ⟨_,_,hex a w _ _ (by rw [f1,ey];exact g3),hp'⟩
  ·exact h.elim
 ·exact h.elim
include hT in
theorem appendN_sem {o:Oper} {c:Call} {x y:Operand} {t t2 e:TypeId} {ki ky:IntKind} {q:Int} {ρ:Operand->AV} {hp:Nat->Option Blk} {K:Eff->Prop} (ho:o.op=.call c) (hc:c.callee=.builtin .append) (ha:c.args.toList=[x,y]) (ht:c.argTypes.toList=[t,t2]) (hk:(T t).k=.slice e) (hk2:(T t2).k=.int ki)
  (hx:ρ x=.nil) (hy:ρ y=.d (.int ky q)) (h:appendN T e q o.dst K):∃ e,K e/\OpSem P o ρ hp e:=by
 have ha':c.args=#[x,y]:=by rw [<-Array.toList_inj];exact ha
 have ht':c.argTypes=#[t,t2]:=by rw [<-Array.toList_inj];exact ht
 have hex:∀ (a:Act) (w w':World) (v:Value),(Builtin.append_ #[t,t2] o.type #[a.eval x,a.eval y]).run P w=.ok v w'->(execOp a.eval o).run P w=.ok (.value v) w':=by
  intro a w w' v hr;simp [execOp,ho,resolve,hc,invoke,builtin,ha',ht',hr]
 obtain ⟨hu,hke⟩:=und_slice hT hk;unfold appendN at h;obtain ⟨h0,h⟩:=condK_out h
 split at h
 ·rename_i d hd;obtain ⟨r1,r2,h⟩:=roomK_out h;refine ⟨_,h,opSem_run fun own M ι a w hown hA hh hρ=>?_⟩;have ey:=den_int (hy▸hρ y);have hd':=hρ x;rw [hx] at hd';generalize hvx:a.eval x=v at hd'
  cases hd' with
  |nil base=>
   obtain ⟨newCap,z,g1,g2,hzc,g3⟩:=appendZ_grows hT (ty:=o.type) hk hk2 (w:=w) (base:=base) (sLen:=0) (sCap:=0) (k:=q) (kk:=ky) (old:=#[]) (by omega) (by omega) (by omega) (by rw [Nat.zero_add];exact r1) (by omega) (fun w' _=>by cases base<;>simp [Builtin.firstCells,loadCells,loadCellsFrom]);obtain ⟨z1,z2,_⟩:=zero_rows hzc (zero_len hT hke) (size_pos hT hke) q.toNat M
   have hlr:(List.replicate q.toNat (T e).zero).length=q.toNat:=List.length_replicate ..
   have hp':=grown_win (x:=d) (Ty:=e) (l:=[]) (r:=List.replicate q.toNat (T e).zero) (sz:=(T e).size) (old:=#[]) (vs:=Builtin.zeroCells z.cells q.toNat) (rest:=Builtin.zeroCells z.cells (newCap-(0+q.toNat))) (cap:=newCap) hown hA hh ⟨fun i x h=>by simp at h,fun i j x d h=>by simp at h⟩ (by simp) z1 (by rw [hlr];exact z2) (by rw [hlr];exact g1) (by simp [Builtin.zeroCells,g2]);rw [hlr] at hp';simp only [List.length_nil,Nat.zero_add,List.nil_append] at hp' g3;exact ⟨_,_,hex a w _ _ (by rw [ey,hvx];exact g3),hp'⟩
 ·exact h.elim
end
end Go.Lk
