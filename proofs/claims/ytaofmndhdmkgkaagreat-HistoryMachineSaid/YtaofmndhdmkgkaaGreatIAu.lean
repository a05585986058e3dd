/-
  What is proved here: what functions of the program compute, and what follows; no condition beyond each theorem's own.
-/
import Derived.Test.YtaofmndhdmkgkaaGreatIAt
set_option linter.unusedSimpArgs false
set_option linter.unusedVariables false
set_option linter.unnecessarySimpa false
set_option linter.unusedSectionVars false
namespace Go.Lk.Hy
open Go Go.Proofs Go.RowKit Go.Lk Go.Lk.St
section
variable {E:Type} {le:E->E->Bool}
theorem zBz (h:TP le) {l:List E} (hs:zBx le l) {i j:Nat} (hi:i<l.length) (hj:j<l.length) (hij:i<=j):le l[i] l[j]=true:=by
 by_cases e:i=j
 ·subst e;exact h.refl _
 ·exact List.pairwise_iff_getElem.1 hs i j hi hj (by omega)
def zPn (a b h:Nat):Nat:=if a>h then h-b else 0
def zPm (a h:Nat):Nat:=if a>h then h else a
theorem z5w (tp:TP le) {L R:List E} (hL:zBx le L) (hR:zBx le R) {h s:Nat} (hh:h=(L.length+R.length)/2) (h1:zPn L.length R.length h<=s) (h2:s<=zPm L.length h)
  (P1:∀ u,zPn L.length R.length h<=u->u<s->∀ (hu:u<L.length) (hv:h-1-u<R.length),le L[u] R[h-1-u]=true)
  (P2:∀ u,s<=u->u<zPm L.length h->∀ (hu:u<L.length) (hv:h-1-u<R.length),le L[u] R[h-1-u]=false):
  (∀ x∈L.drop s,∀ y∈R.take (h-s),le x y=false) /\ ∀ x∈L.take s,∀ y∈R.drop (h-s),le x y=true:=by
 have hcs:(L.length>h/\zPn L.length R.length h=h-R.length/\zPm L.length h=h) \/ (L.length<=h/\zPn L.length R.length h=0/\zPm L.length h=L.length):=by
  by_cases hc:L.length>h
  ·exact .inl ⟨hc,if_pos hc,if_pos hc⟩
  ·exact .inr ⟨by omega,if_neg hc,if_neg hc⟩
 constructor
 ·intro x hx y hy;obtain ⟨i,hi,rfl⟩:=List.mem_iff_getElem.1 hx;obtain ⟨j,hj,rfl⟩:=List.mem_iff_getElem.1 hy;simp only [List.getElem_drop,List.getElem_take];simp only [List.length_drop] at hi;simp only [List.length_take] at hj
  have hs:s<zPm L.length h:=by omega
  have hsl:s<L.length:=by omega
  have hv:h-1-s<R.length:=by omega
  cases e:le L[s+i] R[j] with
  |false=>rfl
  |true=>
   have q:=P2 s (Nat.le_refl _) hs hsl hv;have:=tp.trans _ _ _ (tp.trans _ _ _ (zBz tp hL hsl (show s+i<L.length by omega) (by omega)) e) (zBz tp hR (show j<R.length by omega) hv (by omega))
   rw [this] at q;cases q
 ·intro x hx y hy;obtain ⟨i,hi,rfl⟩:=List.mem_iff_getElem.1 hx;obtain ⟨j,hj,rfl⟩:=List.mem_iff_getElem.1 hy;simp only [List.getElem_drop,List.getElem_take];simp only [List.length_take] at hi;simp only [List.length_drop] at hj
  have hs:zPn L.length R.length h<s:=by omega
  have hv:h-1-(s-1)<R.length:=by omega
  have hsl:s-1<L.length:=by omega
  have q:=P1 (s-1) (by omega) (by omega) hsl hv;exact tp.trans _ _ _ (tp.trans _ _ _ (zBz tp hL (show i<L.length by omega) hsl (by omega)) q) (zBz tp hR hv (show h-s+j<R.length by omega) (by omega))
end
theorem wu64 {n:Int} (h0:0<=n) (h1:n<=9223372036854775807):IntKind.u64.wrap n=n:=by
 rw [IntKind.wrap_u64];omega
theorem half {a b:Nat}:Int.fdiv (((a+b:Nat):Int)) (2^(min (1:Int).toNat (IntKind.bits .u64)))=(((a+b)/2:Nat):Int):=by
 rw [show (2:Int)^(min (1:Int).toNat (IntKind.bits .u64))=2 from rfl,Int.fdiv_eq_ediv_of_nonneg _ (by decide)];omega
theorem yKq (cf:FuncId) (A L R C X:List Ev) (a m b:Nat) (ha:a=A.length) (hmm:m=A.length+L.length) (hb:b=A.length+L.length+R.length) (hX:X=A++(L++(R++C))) (hL:L≠[]) (hR:R≠[]) (hm:A.length+L.length+R.length+C.length<=1000000):
  zBa Tryz.prog 281 [.own 1000000,.d (.int .i64 (a:Int)),.d (.int .i64 (m:Int)),.d (.int .i64 (b:Int)),.d (.fn cf [])] [(1000000,.row (X.map encE) 11 false)] [(1000000,.row ((A++(R++(L++C))).map encE) 11 false)] (.tup []):=by
 subst ha hmm hb hX;exact yKr cf A L R C hL hR hm
set_option maxHeartbeats 4000000 in
theorem zWg (cf:FuncId) (le:Ev->Ev->Bool) (hc:Cmp cf le):∀ (n:Nat) (A L R C:List Ev),L.length+R.length<=n->L≠[]->R≠[]->zBx le L->zBx le R->A.length+L.length+R.length+C.length<=1000000->
  zBa Tryz.prog 250 [.own 1000000,.d (.int .i64 A.length),.d (.int .i64 ((A.length+L.length:Nat):Int)),.d (.int .i64 ((A.length+L.length+R.length:Nat):Int)),.d (.fn cf [])] [(1000000,.row ((A++(L++(R++C))).map encE) 11 false)] [(1000000,.row ((A++(srt le (L++R)++C)).map encE) 11 false)] (.tup [])
 |0,A,L,R,C,hn,hL,hR,_,_,_=>absurd (List.length_eq_zero_iff.1 (show L.length=0 by omega)) hL
 |n+1,A,L,R,C,hn,hL,hR,sL,sR,hm=>by
  refine zAr Tryz.func250 5 rfl (by kernel_rfl) (by rfl) (w0 ?_);have l0:0<L.length:=List.length_pos_iff.2 hL;have r0:0<R.length:=List.length_pos_iff.2 hR
  have e1:((A.length+L.length:Nat):Int)-(A.length:Int)=((L.length:Nat):Int):=by omega
  have e2:((A.length+L.length+R.length:Nat):Int)-((A.length+L.length:Nat):Int)=((R.length:Nat):Int):=by omega
  refine aA ?_;rw [e1]
  refine bcase_p (fun hl1=>?_) (fun hl1=>?_)<;>conv=>whnf
  ·obtain ⟨x,rfl⟩:∃ x,L=[x]:=by
    match L,hl1 with
    | [x],_=>exact ⟨x,rfl⟩
    |_::_::_,h=>simp at h;omega
   clear e1 e2 l0 hL sL hl1
   refine aA ?_;have ga:(A++([x]++(R++C)))[A.length]?=some x:=zEw rfl
   have hml:((A++([x]++(R++C))).map encE).length=A.length+1+R.length+C.length:=by simp;omega
   have gr (r:Nat) (hr:r<R.length):(A++([x]++(R++C)))[A.length+1+r]?=some R[r]:=by
    rw [List.getElem?_append_right (by omega),show A.length+1+r-A.length=r+1 by omega,List.singleton_append,List.getElem?_cons_succ,List.getElem?_append_left hr,List.getElem?_eq_getElem hr]
   refine zAq (ι:=Nat×Nat) (fun s=>[(0,.own 1000000),(1,.d (.int .i64 A.length)),(4,.d (.fn cf [])),(10,.d (.int .i64 ((A.length+1+s.1:Nat):Int))),(11,.d (.int .i64 ((A.length+1+s.2:Nat):Int)))]) (fun s=>[(1000000,.row ((A++([x]++(R++C))).map encE) 11 false)])
    (fun s=>s.1<=s.2/\s.2<=R.length/\ (∀ i,i<s.1->∀ h:i<R.length,le x R[i]=false) /\ (∀ i,s.2<=i->∀ h:i<R.length,le x R[i]=true)) (fun s=>s.2-s.1) (0,R.length) ⟨Nat.zero_le _,Nat.le_refl _,fun i h=>absurd h (Nat.not_lt_zero _),fun i h h2=>by omega⟩ (le0 (zAb ⟨rfl,rfl,rfl,rfl,rfl,trivial⟩ ⟨rfl,trivial⟩ ⟨rfl,rfl,rfl,rfl⟩)) ?_
   rintro ⟨p,q⟩ ⟨hpq,hqR,hP,hQ⟩;simp only at hpq hqR hP hQ⊢
   conv=>whnf
   refine bcase_p (fun hlt=>?_) (fun hlt=>?_)<;>conv=>whnf
   ·have es:((A.length+1+p:Nat):Int)+((A.length+1+q:Nat):Int)=(((A.length+1+p)+(A.length+1+q):Nat):Int):=by omega
    have eh:((A.length+1+p)+(A.length+1+q))/2=A.length+1+(p+q)/2:=by omega
    have hr:(p+q)/2<R.length:=by omega
    have hb1:p<= (p+q)/2:=by omega
    have hb2:(p+q)/2<q:=by omega
    refine aA ?_;rw [es];refine zCd (wu64 (by omega) (by omega)) (aW ?_);rw [half,eh];generalize hrr:(p+q)/2=r at hr hb1 hb2⊢;refine aA ?_;refine zAd (by omega) (w0 ?_);refine zAc (zBl (gr r hr)) (aW ?_);refine zAd (by omega) (w0 ?_);refine zAc (zBl ga) (aW ?_);obtain ⟨c,hcall,hlt2⟩:=hc.call R[r] x;refine zAa hcall (aW ?_)
    refine bcase_p (fun h2=>?_) (fun h2=>?_)<;>conv=>whnf
    ·have h3:=hlt2.1 h2;refine aA ?_
     have e1:((A.length+1+r:Nat):Int)+1=((A.length+1+(r+1):Nat):Int):=by omega
     rw [e1]
     exact ⟨(r+1,q),⟨by simp only [];omega,hqR,fun i hi hiR=>by
      cases e:le x R[i] with
      |false=>rfl
      |true=>(rw [hc.tp.trans _ _ _ e (zBz hc.tp sR hiR hr (by simp only [] at hi;omega))] at h3;cases h3),hQ⟩,by simp only [];omega,(le0 (zAb ⟨rfl,rfl,rfl,rfl,rfl,trivial⟩ ⟨rfl,trivial⟩ ⟨rfl,rfl,rfl,rfl⟩))⟩
    ·have h3:le x R[r]=true:=by
      cases e:le x R[r] with
      |true=>rfl
      |false=>exact absurd (hlt2.2 e) h2
     refine aA ?_;exact ⟨(p,r),⟨hb1,by simp only [];omega,hP,fun i hi hiR=>hc.tp.trans _ _ _ h3 (zBz hc.tp sR hr hiR hi)⟩,by simp only [];omega,(le0 (zAb ⟨rfl,rfl,rfl,rfl,rfl,trivial⟩ ⟨rfl,trivial⟩ ⟨rfl,rfl,rfl,rfl⟩))⟩
   ·have hpq2:p=q:=by omega
    subst hpq2;obtain ⟨R1,R2,rfl,hR1⟩:=zEj (X:=R) (n:=p) hqR
    have f1:∀ y∈R1,le x y=false:=fun y hy=>by
     obtain ⟨i,hi,rfl⟩:=List.mem_iff_getElem.1 hy;have:=hP i (by omega) (by simp;omega)
     rwa [List.getElem_append_left hi] at this
    have f2:∀ y∈R2,le x y=true:=fun y hy=>by
     obtain ⟨i,hi,rfl⟩:=List.mem_iff_getElem.1 hy;have:=hQ (R1.length+i) (by omega) (by simp;omega);rw [List.getElem_append_right (by omega)] at this
     simpa [Nat.add_sub_cancel_left] using this
    subst hR1
    have hfin:A++(srt le ([x]++(R1++R2))++C)=A++(R1++(x::(R2++C))):=by
     rw [List.singleton_append,<-yIq hc.tp sR f1 f2];simp
    rw [hfin]
    clear hfin gr hP hQ ga hml
    rw [List.length_append] at hm hqR
    have ei:((A.length+1+R1.length:Nat):Int)-1=((A.length+R1.length:Nat):Int):=by omega
    refine aA ?_;refine zAq (ι:=Nat) (fun u=>[(0,.own 1000000),(10,.d (.int .i64 ((A.length+1+R1.length:Nat):Int))),(13,.d (.int .i64 ((A.length+u:Nat):Int)))]) (fun u=>[(1000000,.row ((A++(R1.take u++(x::(R1.drop u++(R2++C))))).map encE) 11 false)])
     (fun u=>u<=R1.length) (fun u=>R1.length-u) 0 (Nat.zero_le _) (le0 (zAb ⟨rfl,rfl,rfl,trivial⟩ ⟨by show some (Blk.row ((A++([x]++((R1++R2)++C))).map encE) 11 false)=_;simp,trivial⟩ ⟨by show some _=some (Blk.row ((A++([x]++((R1++R2)++C))).map encE) 11 false);simp,rfl,rfl,rfl⟩)) ?_
    intro u hu
    conv=>whnf
    refine aA ?_;rw [ei]
    refine bcase_p (fun h4=>?_) (fun h4=>?_)<;>conv=>whnf
    ·have hu2:u<R1.length:=by omega
     have hd:R1.drop u=R1[u]::R1.drop (u+1):=zBf hu2;have ht:R1.take (u+1)=R1.take u++[R1[u]]:=zAs hu2
     have hl:(R1.take u).length=u:=by simp;omega
     have hl2:(R1.drop (u+1)).length+(u+1)=R1.length:=by simp;omega
     generalize R1[u]=y at hd ht
     have ez:A++(R1.take u++(x::(R1.drop u++(R2++C))))=(A++R1.take u)++x::(y::(R1.drop (u+1)++(R2++C))):=by rw [hd];simp only [List.append_assoc,List.cons_append]
     have ez2:(A++R1.take u)++x::(y::(R1.drop (u+1)++(R2++C)))=((A++R1.take u)++[x])++y::(R1.drop (u+1)++(R2++C)):=by simp only [List.append_assoc,List.cons_append,List.nil_append]
     rw [ez]
     have hml:(((A++R1.take u)++x::(y::(R1.drop (u+1)++(R2++C)))).map encE).length=A.length+1+R1.length+R2.length+C.length:=by simp only [List.length_map,List.length_append,List.length_cons,hl];omega
     have g1:((A++R1.take u)++x::(y::(R1.drop (u+1)++(R2++C))))[A.length+u]?=some x:=zEw (by simp [hl])
     have g2:((A++R1.take u)++x::(y::(R1.drop (u+1)++(R2++C))))[A.length+(u+1)]?=some y:=by rw [ez2];exact zEw (by simp [hl]<;>omega)
     have eu:((A.length+u:Nat):Int)+1=((A.length+(u+1):Nat):Int):=by omega
     have hs1:((A++R1.take u)++x::(y::(R1.drop (u+1)++(R2++C)))).set (A.length+u) y=(A++R1.take u)++y::(y::(R1.drop (u+1)++(R2++C))):=zJq (by simp [hl])
     have hs2:((A++R1.take u)++y::(y::(R1.drop (u+1)++(R2++C)))).set (A.length+(u+1)) x=A++(R1.take (u+1)++(x::(R1.drop (u+1)++(R2++C)))):=by
      rw [show (A++R1.take u)++y::(y::(R1.drop (u+1)++(R2++C)))=((A++R1.take u)++[y])++y::(R1.drop (u+1)++(R2++C)) by simp only [List.append_assoc,List.cons_append,List.nil_append],zJq (by simp [hl]<;>omega),ht];simp only [List.append_assoc,List.cons_append,List.nil_append]
     have g3:((A++R1.take u)++y::(y::(R1.drop (u+1)++(R2++C))))[A.length+(u+1)]?=some y:=by
      rw [show (A++R1.take u)++y::(y::(R1.drop (u+1)++(R2++C)))=((A++R1.take u)++[y])++y::(R1.drop (u+1)++(R2++C)) by simp only [List.append_assoc,List.cons_append,List.nil_append]];exact zEw (by simp [hl]<;>omega)
     generalize (A++R1.take u)++x::(y::(R1.drop (u+1)++(R2++C)))=Z0 at*
     generalize (A++R1.take u)++y::(y::(R1.drop (u+1)++(R2++C)))=Z1 at*
     refine aA ?_;rw [eu];refine zAd (by omega) (w0 ?_);refine zAc (zBl g2) (aW ?_);refine zAd (by omega) (w0 ?_);refine zAc (zBl g1) (aW ?_);refine zAd (by omega) (w0 ?_);refine zAc (zBl g1) (w0 ?_)
     have s1:(Z0.map encE).set (A.length+u) (zAx (encE x) 0 (encE y))=Z1.map encE:=by rw [<-hs1];exact zFt _ _ _
     refine aA ?_;refine zAd (by show _<(List.set _ _ _).length;rw [List.length_set];omega) (w0 ?_);refine zAc (x:=encE y) (by show (List.set _ _ (zAx (encE x) 0 (encE y)))[_]?=_;rw [s1];exact zBl g3) (aW ?_);rw [eu];exact ⟨u+1,hu2,by omega,le0 (zAb ⟨rfl,rfl,rfl,trivial⟩ ⟨by rw [<-hs2,<-zFt,<-s1];rfl,trivial⟩ ⟨by rw [show stL.hpL [(1000000,Blk.row ((A++(R1.take (u+1)++(x::(R1.drop (u+1)++(R2++C))))).map encE) 11 false)] 1000000=some (Blk.row ((A++(R1.take (u+1)++(x::(R1.drop (u+1)++(R2++C))))).map encE) 11 false) from rfl,<-hs2,<-zFt,<-s1];rfl,rfl,rfl,rfl⟩)⟩
    ·have hu2:u=R1.length:=by omega
     subst hu2;rw [List.take_of_length_le (Nat.le_refl _),List.drop_eq_nil_of_le (Nat.le_refl _),List.nil_append];refine aA ?_;exact zAh rfl rfl rfl ⟨rfl,trivial⟩
  refine aA ?_;rw [e2]
  refine bcase_p (fun hr1=>?_) (fun hr1=>?_)<;>conv=>whnf
  ·obtain ⟨x,rfl⟩:∃ x,R=[x]:=by
    match R,hr1 with
    | [x],_=>exact ⟨x,rfl⟩
    |_::_::_,h=>simp at h;omega
   clear e1 e2 r0 hR sR hr1 hl1
   refine aA ?_
   have ga:(A++(L++([x]++C)))[A.length+L.length]?=some x:=by rw [<-List.append_assoc];exact zEw (by simp)
   have hml:((A++(L++([x]++C))).map encE).length=A.length+L.length+1+C.length:=by simp;omega
   have gr (r:Nat) (hr:r<L.length):(A++(L++([x]++C)))[A.length+r]?=some L[r]:=by
    rw [List.getElem?_append_right (by omega),Nat.add_sub_cancel_left,List.getElem?_append_left hr,List.getElem?_eq_getElem hr]
   refine zAq (ι:=Nat×Nat) (fun s=>[(0,.own 1000000),(2,.d (.int .i64 ((A.length+L.length:Nat):Int))),(4,.d (.fn cf [])),(14,.d (.int .i64 ((A.length+s.1:Nat):Int))),(15,.d (.int .i64 ((A.length+s.2:Nat):Int)))]) (fun s=>[(1000000,.row ((A++(L++([x]++C))).map encE) 11 false)])
    (fun s=>s.1<=s.2/\s.2<=L.length/\ (∀ i,i<s.1->∀ h:i<L.length,le L[i] x=true) /\ (∀ i,s.2<=i->∀ h:i<L.length,le L[i] x=false)) (fun s=>s.2-s.1) (0,L.length) ⟨Nat.zero_le _,Nat.le_refl _,fun i h=>absurd h (Nat.not_lt_zero _),fun i h h2=>by omega⟩ (le0 (zAb ⟨rfl,rfl,rfl,rfl,rfl,trivial⟩ ⟨rfl,trivial⟩ ⟨rfl,rfl,rfl,rfl⟩)) ?_
   rintro ⟨p,q⟩ ⟨hpq,hqL,hP,hQ⟩;simp only at hpq hqL hP hQ⊢
   conv=>whnf
   refine bcase_p (fun hlt=>?_) (fun hlt=>?_)<;>conv=>whnf
   ·have es:((A.length+p:Nat):Int)+((A.length+q:Nat):Int)=(((A.length+p)+(A.length+q):Nat):Int):=by omega
    have eh:((A.length+p)+(A.length+q))/2=A.length+(p+q)/2:=by omega
    have hr:(p+q)/2<L.length:=by omega
    have hb1:p<= (p+q)/2:=by omega
    have hb2:(p+q)/2<q:=by omega
    refine aA ?_;rw [es];refine zCd (wu64 (by omega) (by omega)) (aW ?_);rw [half,eh];generalize hrr:(p+q)/2=r at hr hb1 hb2⊢;refine aA ?_;refine zAd (by omega) (w0 ?_);refine zAc (zBl ga) (aW ?_);refine zAd (by omega) (w0 ?_);refine zAc (zBl (gr r hr)) (aW ?_);obtain ⟨c,hcall,hlt2⟩:=hc.call x L[r];refine zAa hcall (aW ?_)
    refine bcase_n (fun h2=>?_) (fun h2=>?_)<;>conv=>whnf
    ·have h3:le L[r] x=true:=by
      cases e:le L[r] x with
      |true=>rfl
      |false=>exact absurd (hlt2.2 e) h2
     refine aA ?_
     have e1:((A.length+r:Nat):Int)+1=((A.length+(r+1):Nat):Int):=by omega
     rw [e1];exact ⟨(r+1,q),⟨by simp only [];omega,hqL,fun i hi hiR=>hc.tp.trans _ _ _ (zBz hc.tp sL hiR hr (by simp only [] at hi;omega)) h3,hQ⟩,by simp only [];omega,(le0 (zAb ⟨rfl,rfl,rfl,rfl,rfl,trivial⟩ ⟨rfl,trivial⟩ ⟨rfl,rfl,rfl,rfl⟩))⟩
    ·have h3:=hlt2.1 h2;refine aA ?_
     exact ⟨(p,r),⟨hb1,by simp only [];omega,hP,fun i hi hiR=>by
      cases e:le L[i] x with
      |false=>rfl
      |true=>(rw [hc.tp.trans _ _ _ (zBz hc.tp sL hr hiR hi) e] at h3;cases h3)⟩,by simp only [];omega,(le0 (zAb ⟨rfl,rfl,rfl,rfl,rfl,trivial⟩ ⟨rfl,trivial⟩ ⟨rfl,rfl,rfl,rfl⟩))⟩
   ·have hpq2:p=q:=by omega
    subst hpq2;obtain ⟨L1,L2,rfl,hL1⟩:=zEj (X:=L) (n:=p) hqL
    have f1:∀ y∈L1,le y x=true:=fun y hy=>by
     obtain ⟨i,hi,rfl⟩:=List.mem_iff_getElem.1 hy;have:=hP i (by omega) (by simp;omega)
     rwa [List.getElem_append_left hi] at this
    have f2:∀ y∈L2,le y x=false:=fun y hy=>by
     obtain ⟨i,hi,rfl⟩:=List.mem_iff_getElem.1 hy;have:=hQ (L1.length+i) (by omega) (by simp;omega);rw [List.getElem_append_right (by omega)] at this
     simpa [Nat.add_sub_cancel_left] using this
    subst hL1
    have hfin:A++(srt le ((L1++L2)++[x])++C)=A++(L1++(x::(L2++C))):=by
     rw [<-yIp hc.tp sL f1 f2];simp
    rw [hfin]
    clear hfin gr hP hQ ga hml
    rw [List.length_append] at hm hqL⊢;refine aA ?_;refine zAq (ι:=Nat) (fun u=>[(0,.own 1000000),(14,.d (.int .i64 ((A.length+L1.length:Nat):Int))),(17,.d (.int .i64 ((A.length+(L1.length+u):Nat):Int)))]) (fun u=>[(1000000,.row ((A++(L1++(L2.take u++(x::(L2.drop u++C))))).map encE) 11 false)])
     (fun u=>u<=L2.length) (fun u=>u) L2.length (Nat.le_refl _) (le0 (zAb ⟨rfl,rfl,rfl,trivial⟩ ⟨by show some (Blk.row ((A++((L1++L2)++([x]++C))).map encE) 11 false)=_;simp,trivial⟩ ⟨by show some _=some (Blk.row ((A++((L1++L2)++([x]++C))).map encE) 11 false);simp,rfl,rfl,rfl⟩)) ?_
    intro u hu
    conv=>whnf
    refine bcase_p (fun h4=>?_) (fun h4=>?_)<;>conv=>whnf
    ·obtain ⟨v,rfl⟩:∃ v,u=v+1:=⟨u-1,by omega⟩
     have hu2:v<L2.length:=by omega
     have hd:L2.drop v=L2[v]::L2.drop (v+1):=zBf hu2;have ht:L2.take (v+1)=L2.take v++[L2[v]]:=zAs hu2
     have hl:(L2.take v).length=v:=by simp;omega
     have hl2:(L2.drop (v+1)).length+(v+1)=L2.length:=by simp;omega
     generalize L2[v]=y at hd ht
     have ez:A++(L1++(L2.take (v+1)++(x::(L2.drop (v+1)++C))))=(A++(L1++L2.take v))++y::(x::(L2.drop (v+1)++C)):=by rw [ht];simp only [List.append_assoc,List.cons_append,List.nil_append]
     have ez2:(A++(L1++L2.take v))++y::(x::(L2.drop (v+1)++C))=((A++(L1++L2.take v))++[y])++x::(L2.drop (v+1)++C):=by simp only [List.append_assoc,List.cons_append,List.nil_append]
     have ez3:(A++(L1++L2.take v))++y::(y::(L2.drop (v+1)++C))=((A++(L1++L2.take v))++[y])++y::(L2.drop (v+1)++C):=by simp only [List.append_assoc,List.cons_append,List.nil_append]
     rw [ez]
     have hml:(((A++(L1++L2.take v))++y::(x::(L2.drop (v+1)++C))).map encE).length=A.length+L1.length+L2.length+1+C.length:=by simp only [List.length_map,List.length_append,List.length_cons,hl];omega
     have g2:((A++(L1++L2.take v))++y::(x::(L2.drop (v+1)++C)))[A.length+(L1.length+v)]?=some y:=zEw (by simp [hl])
     have g1:((A++(L1++L2.take v))++y::(x::(L2.drop (v+1)++C)))[A.length+(L1.length+(v+1))]?=some x:=by rw [ez2];exact zEw (by simp [hl]<;>omega)
     have eu:((A.length+(L1.length+(v+1)):Nat):Int)-1=((A.length+(L1.length+v):Nat):Int):=by omega
     have hs1:((A++(L1++L2.take v))++y::(x::(L2.drop (v+1)++C))).set (A.length+(L1.length+(v+1))) y=(A++(L1++L2.take v))++y::(y::(L2.drop (v+1)++C)):=by rw [ez2,zJq (by simp [hl]<;>omega),ez3]
     have hs2:((A++(L1++L2.take v))++y::(y::(L2.drop (v+1)++C))).set (A.length+(L1.length+v)) x=A++(L1++(L2.take v++(x::(L2.drop v++C)))):=by
      rw [zJq (by simp [hl]),hd];simp only [List.append_assoc,List.cons_append,List.nil_append]
     have g3:((A++(L1++L2.take v))++y::(y::(L2.drop (v+1)++C)))[A.length+(L1.length+v)]?=some y:=zEw (by simp [hl])
     generalize (A++(L1++L2.take v))++y::(x::(L2.drop (v+1)++C))=Z0 at*
     generalize (A++(L1++L2.take v))++y::(y::(L2.drop (v+1)++C))=Z1 at*
     refine aA ?_;rw [eu];refine zAd (by omega) (w0 ?_);refine zAc (zBl g2) (aW ?_);refine zAd (by omega) (w0 ?_);refine zAc (zBl g1) (aW ?_);refine zAd (by omega) (w0 ?_);refine zAc (zBl g1) (w0 ?_)
     have s1:(Z0.map encE).set (A.length+(L1.length+(v+1))) (zAx (encE x) 0 (encE y))=Z1.map encE:=by rw [<-hs1];exact zFt _ _ _
     refine aA ?_;refine zAd (by show _<(List.set _ _ _).length;rw [List.length_set];omega) (w0 ?_);refine zAc (x:=encE y) (by show (List.set _ _ (zAx (encE x) 0 (encE y)))[_]?=_;rw [s1];exact zBl g3) (aW ?_);rw [eu];exact ⟨v,by omega,by omega,le0 (zAb ⟨rfl,rfl,rfl,trivial⟩ ⟨by rw [<-hs2,<-zFt,<-s1];rfl,trivial⟩ ⟨by rw [show stL.hpL [(1000000,Blk.row ((A++(L1++(L2.take v++(x::(L2.drop v++C))))).map encE) 11 false)] 1000000=some (Blk.row ((A++(L1++(L2.take v++(x::(L2.drop v++C))))).map encE) 11 false) from rfl,<-hs2,<-zFt,<-s1];rfl,rfl,rfl,rfl⟩)⟩
    ·have hu2:u=0:=by omega
     subst hu2;rw [List.take_zero,List.drop_zero,List.nil_append];refine aA ?_;exact zAh rfl rfl rfl ⟨rfl,trivial⟩
  ·clear e1 e2
   have hl2:2<=L.length:=by omega
   have hr2:2<=R.length:=by omega
   have IH:∀ (A L R C X:List Ev) (a m b:Nat),a=A.length->m=A.length+L.length->b=A.length+L.length+R.length->X=A++(L++(R++C))->L.length+R.length<=n->L≠[]->R≠[]->zBx le L->zBx le R->A.length+L.length+R.length+C.length<=1000000->
     zBa Tryz.prog 250 [.own 1000000,.d (.int .i64 (a:Int)),.d (.int .i64 (m:Int)),.d (.int .i64 (b:Int)),.d (.fn cf [])] [(1000000,.row (X.map encE) 11 false)] [(1000000,.row ((A++(srt le (L++R)++C)).map encE) 11 false)] (.tup []):=by
    intro A L R C X a m b h1 h2 h3 h4 h5 h6 h7 h8 h9 h10;subst h1 h2 h3 h4;exact zWg cf le hc n A L R C h5 h6 h7 h8 h9 h10
   obtain ⟨h,hh⟩:∃ h,h=(L.length+R.length)/2:=⟨_,rfl⟩
   have es:(A.length:Int)+((A.length+L.length+R.length:Nat):Int)=((A.length+(A.length+L.length+R.length):Nat):Int):=by omega
   have eh:(A.length+(A.length+L.length+R.length))/2=A.length+h:=by omega
   have en:((A.length+h:Nat):Int)+((A.length+L.length:Nat):Int)=((A.length+h+(A.length+L.length):Nat):Int):=by omega
   have ep:((A.length+h+(A.length+L.length):Nat):Int)-1=((A.length+h+(A.length+L.length)-1:Nat):Int):=by omega
   refine aA ?_;rw [es];refine zCd (wu64 (by omega) (by omega)) (aW ?_);rw [half,eh];refine aA ?_;rw [en]
   refine bcase_p (fun hb=>?_) (fun hb=>?_)<;>conv=>whnf
   ·have hlo:zPn L.length R.length h=h-R.length:=if_pos (by omega);have hhi:zPm L.length h=h:=if_pos (by omega)
    have e20:((A.length+h+(A.length+L.length):Nat):Int)-((A.length+L.length+R.length:Nat):Int)=((A.length+zPn L.length R.length h:Nat):Int):=by rw [hlo];omega
    have e21:A.length+h=A.length+zPm L.length h:=by rw [hhi]
    have hcs:L.length>h/\zPn L.length R.length h=h-R.length/\zPm L.length h=h\/L.length<=h/\zPn L.length R.length h=0/\zPm L.length h=L.length:=.inl ⟨by omega,hlo,hhi⟩;refine aA ?_;rw [e20,ep]
    have gl (u:Nat) (hu:u<L.length):(A++(L++(R++C)))[A.length+u]?=some L[u]:=by
     rw [List.getElem?_append_right (by omega),Nat.add_sub_cancel_left,List.getElem?_append_left hu,List.getElem?_eq_getElem hu]
    have gr (v:Nat) (hv:v<R.length):(A++(L++(R++C)))[A.length+L.length+v]?=some R[v]:=by
     rw [List.getElem?_append_right (by omega),List.getElem?_append_right (by omega),show A.length+L.length+v-A.length-L.length=v by omega,List.getElem?_append_left hv,List.getElem?_eq_getElem hv]
    have hml:((A++(L++(R++C))).map encE).length=A.length+L.length+R.length+C.length:=by simp only [List.length_map,List.length_append];omega
    generalize hlo':zPn L.length R.length h=lo at hcs⊢;generalize hhi':zPm L.length h=hi at hcs⊢;refine zAq (ι:=Nat×Nat) (fun s=>[(0,.own 1000000),(1,.d (.int .i64 A.length)),(2,.d (.int .i64 ((A.length+L.length:Nat):Int))),(3,.d (.int .i64 ((A.length+L.length+R.length:Nat):Int))),(4,.d (.fn cf [])),(18,.d (.int .i64 ((A.length+h:Nat):Int))),(19,.d (.int .i64 ((A.length+h+(A.length+L.length):Nat):Int))),(20,.d (.int .i64 ((A.length+s.1:Nat):Int))),(21,.d (.int .i64 ((A.length+s.2:Nat):Int))),(22,.d (.int .i64 ((A.length+h+(A.length+L.length)-1:Nat):Int)))]) (fun s=>[(1000000,.row ((A++(L++(R++C))).map encE) 11 false)])
     (fun s=>lo<=s.1/\s.1<=s.2/\s.2<=hi/\ (∀ u,lo<=u->u<s.1->∀ (hu:u<L.length) (hv:h-1-u<R.length),le L[u] R[h-1-u]=true) /\ (∀ u,s.2<=u->u<hi->∀ (hu:u<L.length) (hv:h-1-u<R.length),le L[u] R[h-1-u]=false)) (fun s=>s.2-s.1) (lo,hi) ⟨Nat.le_refl _,by simp only [];omega,Nat.le_refl _,fun u h1 h2=>by simp only [] at h2;omega,fun u h1 h2=>by simp only [] at h1;omega⟩
     (le0 (zAb ⟨rfl,rfl,rfl,rfl,rfl,rfl,rfl,rfl,(by rw [<-hhi',hhi];rfl),rfl,trivial⟩ ⟨rfl,trivial⟩ ⟨rfl,rfl,rfl,rfl⟩)) ?_
    rintro ⟨s,r⟩ ⟨q1,q2,q3,hP,hQ⟩;simp only at q1 q2 q3 hP hQ⊢
    conv=>whnf
    refine bcase_p (fun hlt=>?_) (fun hlt=>?_)<;>conv=>whnf
    ·have es2:((A.length+s:Nat):Int)+((A.length+r:Nat):Int)=(((A.length+s)+(A.length+r):Nat):Int):=by omega
     have eh2:((A.length+s)+(A.length+r))/2=A.length+(s+r)/2:=by omega
     have hb1:s<= (s+r)/2:=by omega
     have hb2:(s+r)/2<r:=by omega
     refine aA ?_;rw [es2];refine zCd (wu64 (by omega) (by omega)) (aW ?_);rw [half,eh2];generalize hrr:(s+r)/2=u at hb1 hb2⊢
     have hu:u<L.length:=by omega
     have hv:h-1-u<R.length:=by omega
     have ei:((A.length+h+(A.length+L.length)-1:Nat):Int)-((A.length+u:Nat):Int)=((A.length+L.length+(h-1-u):Nat):Int):=by omega
     refine aA ?_;rw [ei];refine zAd (by omega) (w0 ?_);refine zAc (zBl (gr _ hv)) (aW ?_);refine zAd (by omega) (w0 ?_);refine zAc (zBl (gl u hu)) (aW ?_);obtain ⟨c,hcall,hlt2⟩:=hc.call R[h-1-u] L[u];refine zAa hcall (aW ?_)
     refine bcase_n (fun h2=>?_) (fun h2=>?_)<;>conv=>whnf
     ·have h3:le L[u] R[h-1-u]=true:=by
       cases e:le L[u] R[h-1-u] with
       |true=>rfl
       |false=>exact absurd (hlt2.2 e) h2
      refine aA ?_
      have e1:((A.length+u:Nat):Int)+1=((A.length+(u+1):Nat):Int):=by omega
      rw [e1];exact ⟨(u+1,r),⟨by simp only [];omega,by simp only [];omega,q3,fun w k1 k2 hw hv2=>hc.tp.trans _ _ _ (zBz hc.tp sL hw hu (by simp only [] at k2;omega)) (hc.tp.trans _ _ _ h3 (zBz hc.tp sR hv hv2 (by simp only [] at k2;omega))),hQ⟩,by simp only [];omega,(le0 (zAb ⟨rfl,rfl,rfl,rfl,rfl,rfl,rfl,rfl,rfl,rfl,trivial⟩ ⟨rfl,trivial⟩ ⟨rfl,rfl,rfl,rfl⟩))⟩
     ·have h3:=hlt2.1 h2;refine aA ?_
      exact ⟨(s,u),⟨q1,by simp only [];omega,by simp only [];omega,hP,fun w k1 k2 hw hv2=>by
       cases e:le L[w] R[h-1-w] with
       |false=>rfl
       |true=>(rw [hc.tp.trans _ _ _ (zBz hc.tp sL hu hw (by simp only [] at k1;omega)) (hc.tp.trans _ _ _ e (zBz hc.tp sR hv2 hv (by simp only [] at k1;omega)))] at h3;cases h3)⟩,by simp only [];omega,(le0 (zAb ⟨rfl,rfl,rfl,rfl,rfl,rfl,rfl,rfl,rfl,rfl,trivial⟩ ⟨rfl,trivial⟩ ⟨rfl,rfl,rfl,rfl⟩))⟩
    ·have hsr:s=r:=by omega
     subst hsr;have hsp:=z5w hc.tp sL sR (h:=h) (s:=s) hh (by omega) (by omega) (by rw [hlo'];exact hP) (by rw [hhi'];exact hQ)
     clear hP hQ gl gr hml
     have hsh:s<=h:=by omega
     obtain ⟨L1,L2,rfl,hL1⟩:=zEj (X:=L) (n:=s) (by omega);obtain ⟨R1,R2,rfl,hR1⟩:=zEj (X:=R) (n:=h-s) (by omega);rw [<-hR1,<-hL1,List.take_left,List.drop_left,List.take_left,List.drop_left] at hsp;obtain ⟨sp1,sp2⟩:=hsp;obtain ⟨sl1,sl2,_⟩:=zCf.1 sL;obtain ⟨sr1,sr2,_⟩:=zCf.1 sR
     have hfin:A++(srt le ((L1++L2)++(R1++R2))++C)=A++(srt le (L1++R1)++(srt le (L2++R2)++C)):=by rw [<-zRx hc.tp sL sR sp1 sp2];simp only [List.append_assoc]
     have hone:∀ {a b:List Ev},zBx le a->zBx le b->(a=[] \/b=[])->srt le (a++b)=a++b:=fun {a b} ha hb hab=>by
      rcases hab with e|e
      ·subst e;exact yCp hc.tp hb
      ·subst e;rw [List.append_nil];exact yCp hc.tp ha
     rw [hfin]
     clear hfin sp1 sp2 hcs
     simp only [List.length_append] at hm hn hl2 hr2 hh q1 q3⊢
     have e24:((A.length+h+(A.length+(L1.length+L2.length)):Nat):Int)-((A.length+s:Nat):Int)=((A.length+(L1.length+L2.length)+(h-s):Nat):Int):=by omega
     have er0:A++((L1++L2)++((R1++R2)++C))=A++(L1++(L2++(R1++(R2++C)))):=by simp only [List.append_assoc]
     rw [er0];refine aA ?_;rw [e24]
     refine bcase_p (fun c1=>?_) (fun c1=>?_)<;>conv=>whnf
     ·refine aA ?_
      refine bcase_p (fun c2=>?_) (fun c2=>?_)<;>conv=>whnf
      ·refine aA ?_;refine zAt (yKq cf (A++L1) L2 R1 (R2++C) _ (A.length+s) (A.length+(L1.length+L2.length)) (A.length+(L1.length+L2.length)+(h-s)) (by rw [List.length_append];omega) (by rw [List.length_append];omega) (by rw [List.length_append];omega) (show A++(L1++(L2++(R1++(R2++C))))=_ by simp only [List.append_assoc]) (by intro e;subst e;simp only [List.length_nil] at c1;omega) (by intro e;subst e;simp only [List.length_nil] at hR1;omega) (by simp only [List.length_append];omega)) [(1000000,1000000)] rfl ⟨rfl,trivial⟩ rfl (w0 ?_)
       have er1:(A++L1)++(R1++(L2++(R2++C)))=A++(L1++(R1++(L2++(R2++C)))):=by simp only [List.append_assoc]
       rw [er1];refine aA ?_
       refine bcase_p (fun c3=>?_) (fun c3=>?_)<;>conv=>whnf
       ·refine aA ?_
        refine bcase_p (fun c4=>?_) (fun c4=>?_)<;>conv=>whnf
        ·refine aA ?_;refine zAt (IH A L1 R1 (L2++(R2++C)) (A++(L1++(R1++(L2++(R2++C))))) A.length (A.length+s) (A.length+h) rfl (by omega) (by omega) rfl (by omega) (by intro e;subst e;simp only [List.length_nil] at hL1;omega) (by intro e;subst e;simp only [List.length_nil] at hR1;omega) sl1 sr1 (by simp only [List.length_append];omega)) [(1000000,1000000)] rfl ⟨rfl,trivial⟩ rfl (aW ?_)
         refine bcase_p (fun c5=>?_) (fun c5=>?_)<;>conv=>whnf
         ·refine aA ?_
          refine bcase_p (fun c6=>?_) (fun c6=>?_)<;>conv=>whnf
          ·refine aA ?_;refine zAt (IH (A++srt le (L1++R1)) L2 R2 C (A++(srt le (L1++R1)++(L2++(R2++C)))) (A.length+h) (A.length+(L1.length+L2.length)+(h-s)) (A.length+(L1.length+L2.length)+(R1.length+R2.length)) (by rw [List.length_append,zAm,List.length_append];omega) (by rw [List.length_append,zAm,List.length_append];omega) (by rw [List.length_append,zAm,List.length_append];omega) (by simp only [List.append_assoc]) (by omega) (by intro e;subst e;simp only [List.length_nil] at c5;omega) (by intro e;subst e;simp only [List.length_nil] at c6;omega) sl2 sr2 (by simp only [List.length_append,zAm];omega)) [(1000000,1000000)] rfl ⟨rfl,trivial⟩ rfl (aW ?_);refine zAh rfl rfl rfl ⟨?_,trivial⟩;rw [show A++(srt le (L1++R1)++(srt le (L2++R2)++C))=(A++srt le (L1++R1))++(srt le (L2++R2)++C) by simp only [List.append_assoc]];rfl
          ·have hR0:R2=[]:=List.length_eq_zero_iff.1 (by omega);refine aA ?_;refine zAh rfl rfl rfl ⟨?_,trivial⟩;rw [show A++(srt le (L1++R1)++(srt le (L2++R2)++C))=A++(srt le (L1++R1)++(L2++(R2++C))) by rw [hone sl2 sr2 (.inr hR0)];simp only [List.append_assoc]];rfl
         ·have hL0:L2=[]:=List.length_eq_zero_iff.1 (by omega);refine aA ?_;refine zAh rfl rfl rfl ⟨?_,trivial⟩;rw [show A++(srt le (L1++R1)++(srt le (L2++R2)++C))=A++(srt le (L1++R1)++(L2++(R2++C))) by rw [hone sl2 sr2 (.inl hL0)];simp only [List.append_assoc]];rfl
        ·have hR0:R1=[]:=List.length_eq_zero_iff.1 (by omega)
         have er2:A++(L1++(R1++(L2++(R2++C))))=A++(srt le (L1++R1)++(L2++(R2++C))):=by rw [hone sl1 sr1 (.inr hR0)];simp only [List.append_assoc]
         rw [er2];refine aA ?_
         refine bcase_p (fun c5=>?_) (fun c5=>?_)<;>conv=>whnf
         ·refine aA ?_
          refine bcase_p (fun c6=>?_) (fun c6=>?_)<;>conv=>whnf
          ·refine aA ?_;refine zAt (IH (A++srt le (L1++R1)) L2 R2 C (A++(srt le (L1++R1)++(L2++(R2++C)))) (A.length+h) (A.length+(L1.length+L2.length)+(h-s)) (A.length+(L1.length+L2.length)+(R1.length+R2.length)) (by rw [List.length_append,zAm,List.length_append];omega) (by rw [List.length_append,zAm,List.length_append];omega) (by rw [List.length_append,zAm,List.length_append];omega) (by simp only [List.append_assoc]) (by omega) (by intro e;subst e;simp only [List.length_nil] at c5;omega) (by intro e;subst e;simp only [List.length_nil] at c6;omega) sl2 sr2 (by simp only [List.length_append,zAm];omega)) [(1000000,1000000)] rfl ⟨rfl,trivial⟩ rfl (aW ?_);refine zAh rfl rfl rfl ⟨?_,trivial⟩;rw [show A++(srt le (L1++R1)++(srt le (L2++R2)++C))=(A++srt le (L1++R1))++(srt le (L2++R2)++C) by simp only [List.append_assoc]];rfl
          ·have hR0:R2=[]:=List.length_eq_zero_iff.1 (by omega);refine aA ?_;refine zAh rfl rfl rfl ⟨?_,trivial⟩;rw [show A++(srt le (L1++R1)++(srt le (L2++R2)++C))=A++(srt le (L1++R1)++(L2++(R2++C))) by rw [hone sl2 sr2 (.inr hR0)];simp only [List.append_assoc]];rfl
         ·have hL0:L2=[]:=List.length_eq_zero_iff.1 (by omega);refine aA ?_;refine zAh rfl rfl rfl ⟨?_,trivial⟩;rw [show A++(srt le (L1++R1)++(srt le (L2++R2)++C))=A++(srt le (L1++R1)++(L2++(R2++C))) by rw [hone sl2 sr2 (.inl hL0)];simp only [List.append_assoc]];rfl
       ·have hL0:L1=[]:=List.length_eq_zero_iff.1 (by omega)
        have er2:A++(L1++(R1++(L2++(R2++C))))=A++(srt le (L1++R1)++(L2++(R2++C))):=by rw [hone sl1 sr1 (.inl hL0)];simp only [List.append_assoc]
        rw [er2];refine aA ?_
        refine bcase_p (fun c5=>?_) (fun c5=>?_)<;>conv=>whnf
        ·refine aA ?_
         refine bcase_p (fun c6=>?_) (fun c6=>?_)<;>conv=>whnf
         ·refine aA ?_;refine zAt (IH (A++srt le (L1++R1)) L2 R2 C (A++(srt le (L1++R1)++(L2++(R2++C)))) (A.length+h) (A.length+(L1.length+L2.length)+(h-s)) (A.length+(L1.length+L2.length)+(R1.length+R2.length)) (by rw [List.length_append,zAm,List.length_append];omega) (by rw [List.length_append,zAm,List.length_append];omega) (by rw [List.length_append,zAm,List.length_append];omega) (by simp only [List.append_assoc]) (by omega) (by intro e;subst e;simp only [List.length_nil] at c5;omega) (by intro e;subst e;simp only [List.length_nil] at c6;omega) sl2 sr2 (by simp only [List.length_append,zAm];omega)) [(1000000,1000000)] rfl ⟨rfl,trivial⟩ rfl (aW ?_);refine zAh rfl rfl rfl ⟨?_,trivial⟩;rw [show A++(srt le (L1++R1)++(srt le (L2++R2)++C))=(A++srt le (L1++R1))++(srt le (L2++R2)++C) by simp only [List.append_assoc]];rfl
         ·have hR0:R2=[]:=List.length_eq_zero_iff.1 (by omega);refine aA ?_;refine zAh rfl rfl rfl ⟨?_,trivial⟩;rw [show A++(srt le (L1++R1)++(srt le (L2++R2)++C))=A++(srt le (L1++R1)++(L2++(R2++C))) by rw [hone sl2 sr2 (.inr hR0)];simp only [List.append_assoc]];rfl
        ·have hL0:L2=[]:=List.length_eq_zero_iff.1 (by omega);refine aA ?_;refine zAh rfl rfl rfl ⟨?_,trivial⟩;rw [show A++(srt le (L1++R1)++(srt le (L2++R2)++C))=A++(srt le (L1++R1)++(L2++(R2++C))) by rw [hone sl2 sr2 (.inl hL0)];simp only [List.append_assoc]];rfl
      ·have hR0:R1=[]:=List.length_eq_zero_iff.1 (by omega)
       have er1:A++(L1++(L2++(R1++(R2++C))))=A++(L1++(R1++(L2++(R2++C)))):=by rw [hR0];rfl
       rw [er1];refine aA ?_
       refine bcase_p (fun c3=>?_) (fun c3=>?_)<;>conv=>whnf
       ·refine aA ?_
        refine bcase_p (fun c4=>?_) (fun c4=>?_)<;>conv=>whnf
        ·refine aA ?_;refine zAt (IH A L1 R1 (L2++(R2++C)) (A++(L1++(R1++(L2++(R2++C))))) A.length (A.length+s) (A.length+h) rfl (by omega) (by omega) rfl (by omega) (by intro e;subst e;simp only [List.length_nil] at hL1;omega) (by intro e;subst e;simp only [List.length_nil] at hR1;omega) sl1 sr1 (by simp only [List.length_append];omega)) [(1000000,1000000)] rfl ⟨rfl,trivial⟩ rfl (aW ?_)
         refine bcase_p (fun c5=>?_) (fun c5=>?_)<;>conv=>whnf
         ·refine aA ?_
          refine bcase_p (fun c6=>?_) (fun c6=>?_)<;>conv=>whnf
          ·refine aA ?_;refine zAt (IH (A++srt le (L1++R1)) L2 R2 C (A++(srt le (L1++R1)++(L2++(R2++C)))) (A.length+h) (A.length+(L1.length+L2.length)+(h-s)) (A.length+(L1.length+L2.length)+(R1.length+R2.length)) (by rw [List.length_append,zAm,List.length_append];omega) (by rw [List.length_append,zAm,List.length_append];omega) (by rw [List.length_append,zAm,List.length_append];omega) (by simp only [List.append_assoc]) (by omega) (by intro e;subst e;simp only [List.length_nil] at c5;omega) (by intro e;subst e;simp only [List.length_nil] at c6;omega) sl2 sr2 (by simp only [List.length_append,zAm];omega)) [(1000000,1000000)] rfl ⟨rfl,trivial⟩ rfl (aW ?_);refine zAh rfl rfl rfl ⟨?_,trivial⟩;rw [show A++(srt le (L1++R1)++(srt le (L2++R2)++C))=(A++srt le (L1++R1))++(srt le (L2++R2)++C) by simp only [List.append_assoc]];rfl
          ·have hR0:R2=[]:=List.length_eq_zero_iff.1 (by omega);refine aA ?_;refine zAh rfl rfl rfl ⟨?_,trivial⟩;rw [show A++(srt le (L1++R1)++(srt le (L2++R2)++C))=A++(srt le (L1++R1)++(L2++(R2++C))) by rw [hone sl2 sr2 (.inr hR0)];simp only [List.append_assoc]];rfl
         ·have hL0:L2=[]:=List.length_eq_zero_iff.1 (by omega);refine aA ?_;refine zAh rfl rfl rfl ⟨?_,trivial⟩;rw [show A++(srt le (L1++R1)++(srt le (L2++R2)++C))=A++(srt le (L1++R1)++(L2++(R2++C))) by rw [hone sl2 sr2 (.inl hL0)];simp only [List.append_assoc]];rfl
        ·have hR0:R1=[]:=List.length_eq_zero_iff.1 (by omega)
         have er2:A++(L1++(R1++(L2++(R2++C))))=A++(srt le (L1++R1)++(L2++(R2++C))):=by rw [hone sl1 sr1 (.inr hR0)];simp only [List.append_assoc]
         rw [er2];refine aA ?_
         refine bcase_p (fun c5=>?_) (fun c5=>?_)<;>conv=>whnf
         ·refine aA ?_
          refine bcase_p (fun c6=>?_) (fun c6=>?_)<;>conv=>whnf
          ·refine aA ?_;refine zAt (IH (A++srt le (L1++R1)) L2 R2 C (A++(srt le (L1++R1)++(L2++(R2++C)))) (A.length+h) (A.length+(L1.length+L2.length)+(h-s)) (A.length+(L1.length+L2.length)+(R1.length+R2.length)) (by rw [List.length_append,zAm,List.length_append];omega) (by rw [List.length_append,zAm,List.length_append];omega) (by rw [List.length_append,zAm,List.length_append];omega) (by simp only [List.append_assoc]) (by omega) (by intro e;subst e;simp only [List.length_nil] at c5;omega) (by intro e;subst e;simp only [List.length_nil] at c6;omega) sl2 sr2 (by simp only [List.length_append,zAm];omega)) [(1000000,1000000)] rfl ⟨rfl,trivial⟩ rfl (aW ?_);refine zAh rfl rfl rfl ⟨?_,trivial⟩;rw [show A++(srt le (L1++R1)++(srt le (L2++R2)++C))=(A++srt le (L1++R1))++(srt le (L2++R2)++C) by simp only [List.append_assoc]];rfl
          ·have hR0:R2=[]:=List.length_eq_zero_iff.1 (by omega);refine aA ?_;refine zAh rfl rfl rfl ⟨?_,trivial⟩;rw [show A++(srt le (L1++R1)++(srt le (L2++R2)++C))=A++(srt le (L1++R1)++(L2++(R2++C))) by rw [hone sl2 sr2 (.inr hR0)];simp only [List.append_assoc]];rfl
         ·have hL0:L2=[]:=List.length_eq_zero_iff.1 (by omega);refine aA ?_;refine zAh rfl rfl rfl ⟨?_,trivial⟩;rw [show A++(srt le (L1++R1)++(srt le (L2++R2)++C))=A++(srt le (L1++R1)++(L2++(R2++C))) by rw [hone sl2 sr2 (.inl hL0)];simp only [List.append_assoc]];rfl
       ·have hL0:L1=[]:=List.length_eq_zero_iff.1 (by omega)
        have er2:A++(L1++(R1++(L2++(R2++C))))=A++(srt le (L1++R1)++(L2++(R2++C))):=by rw [hone sl1 sr1 (.inl hL0)];simp only [List.append_assoc]
        rw [er2];refine aA ?_
        refine bcase_p (fun c5=>?_) (fun c5=>?_)<;>conv=>whnf
        ·refine aA ?_
         refine bcase_p (fun c6=>?_) (fun c6=>?_)<;>conv=>whnf
         ·refine aA ?_;refine zAt (IH (A++srt le (L1++R1)) L2 R2 C (A++(srt le (L1++R1)++(L2++(R2++C)))) (A.length+h) (A.length+(L1.length+L2.length)+(h-s)) (A.length+(L1.length+L2.length)+(R1.length+R2.length)) (by rw [List.length_append,zAm,List.length_append];omega) (by rw [List.length_append,zAm,List.length_append];omega) (by rw [List.length_append,zAm,List.length_append];omega) (by simp only [List.append_assoc]) (by omega) (by intro e;subst e;simp only [List.length_nil] at c5;omega) (by intro e;subst e;simp only [List.length_nil] at c6;omega) sl2 sr2 (by simp only [List.length_append,zAm];omega)) [(1000000,1000000)] rfl ⟨rfl,trivial⟩ rfl (aW ?_);refine zAh rfl rfl rfl ⟨?_,trivial⟩;rw [show A++(srt le (L1++R1)++(srt le (L2++R2)++C))=(A++srt le (L1++R1))++(srt le (L2++R2)++C) by simp only [List.append_assoc]];rfl
         ·have hR0:R2=[]:=List.length_eq_zero_iff.1 (by omega);refine aA ?_;refine zAh rfl rfl rfl ⟨?_,trivial⟩;rw [show A++(srt le (L1++R1)++(srt le (L2++R2)++C))=A++(srt le (L1++R1)++(L2++(R2++C))) by rw [hone sl2 sr2 (.inr hR0)];simp only [List.append_assoc]];rfl
        ·have hL0:L2=[]:=List.length_eq_zero_iff.1 (by omega);refine aA ?_;refine zAh rfl rfl rfl ⟨?_,trivial⟩;rw [show A++(srt le (L1++R1)++(srt le (L2++R2)++C))=A++(srt le (L1++R1)++(L2++(R2++C))) by rw [hone sl2 sr2 (.inl hL0)];simp only [List.append_assoc]];rfl
     ·have hL0:L2=[]:=List.length_eq_zero_iff.1 (by omega)
      have er1:A++(L1++(L2++(R1++(R2++C))))=A++(L1++(R1++(L2++(R2++C)))):=by rw [hL0];rfl
      rw [er1];refine aA ?_
      refine bcase_p (fun c3=>?_) (fun c3=>?_)<;>conv=>whnf
      ·refine aA ?_
       refine bcase_p (fun c4=>?_) (fun c4=>?_)<;>conv=>whnf
       ·refine aA ?_;refine zAt (IH A L1 R1 (L2++(R2++C)) (A++(L1++(R1++(L2++(R2++C))))) A.length (A.length+s) (A.length+h) rfl (by omega) (by omega) rfl (by omega) (by intro e;subst e;simp only [List.length_nil] at hL1;omega) (by intro e;subst e;simp only [List.length_nil] at hR1;omega) sl1 sr1 (by simp only [List.length_append];omega)) [(1000000,1000000)] rfl ⟨rfl,trivial⟩ rfl (aW ?_)
        refine bcase_p (fun c5=>?_) (fun c5=>?_)<;>conv=>whnf
        ·refine aA ?_
         refine bcase_p (fun c6=>?_) (fun c6=>?_)<;>conv=>whnf
         ·refine aA ?_;refine zAt (IH (A++srt le (L1++R1)) L2 R2 C (A++(srt le (L1++R1)++(L2++(R2++C)))) (A.length+h) (A.length+(L1.length+L2.length)+(h-s)) (A.length+(L1.length+L2.length)+(R1.length+R2.length)) (by rw [List.length_append,zAm,List.length_append];omega) (by rw [List.length_append,zAm,List.length_append];omega) (by rw [List.length_append,zAm,List.length_append];omega) (by simp only [List.append_assoc]) (by omega) (by intro e;subst e;simp only [List.length_nil] at c5;omega) (by intro e;subst e;simp only [List.length_nil] at c6;omega) sl2 sr2 (by simp only [List.length_append,zAm];omega)) [(1000000,1000000)] rfl ⟨rfl,trivial⟩ rfl (aW ?_);refine zAh rfl rfl rfl ⟨?_,trivial⟩;rw [show A++(srt le (L1++R1)++(srt le (L2++R2)++C))=(A++srt le (L1++R1))++(srt le (L2++R2)++C) by simp only [List.append_assoc]];rfl
         ·have hR0:R2=[]:=List.length_eq_zero_iff.1 (by omega);refine aA ?_;refine zAh rfl rfl rfl ⟨?_,trivial⟩;rw [show A++(srt le (L1++R1)++(srt le (L2++R2)++C))=A++(srt le (L1++R1)++(L2++(R2++C))) by rw [hone sl2 sr2 (.inr hR0)];simp only [List.append_assoc]];rfl
        ·have hL0:L2=[]:=List.length_eq_zero_iff.1 (by omega);refine aA ?_;refine zAh rfl rfl rfl ⟨?_,trivial⟩;rw [show A++(srt le (L1++R1)++(srt le (L2++R2)++C))=A++(srt le (L1++R1)++(L2++(R2++C))) by rw [hone sl2 sr2 (.inl hL0)];simp only [List.append_assoc]];rfl
       ·have hR0:R1=[]:=List.length_eq_zero_iff.1 (by omega)
        have er2:A++(L1++(R1++(L2++(R2++C))))=A++(srt le (L1++R1)++(L2++(R2++C))):=by rw [hone sl1 sr1 (.inr hR0)];simp only [List.append_assoc]
        rw [er2];refine aA ?_
        refine bcase_p (fun c5=>?_) (fun c5=>?_)<;>conv=>whnf
        ·refine aA ?_
         refine bcase_p (fun c6=>?_) (fun c6=>?_)<;>conv=>whnf
         ·refine aA ?_;refine zAt (IH (A++srt le (L1++R1)) L2 R2 C (A++(srt le (L1++R1)++(L2++(R2++C)))) (A.length+h) (A.length+(L1.length+L2.length)+(h-s)) (A.length+(L1.length+L2.length)+(R1.length+R2.length)) (by rw [List.length_append,zAm,List.length_append];omega) (by rw [List.length_append,zAm,List.length_append];omega) (by rw [List.length_append,zAm,List.length_append];omega) (by simp only [List.append_assoc]) (by omega) (by intro e;subst e;simp only [List.length_nil] at c5;omega) (by intro e;subst e;simp only [List.length_nil] at c6;omega) sl2 sr2 (by simp only [List.length_append,zAm];omega)) [(1000000,1000000)] rfl ⟨rfl,trivial⟩ rfl (aW ?_);refine zAh rfl rfl rfl ⟨?_,trivial⟩;rw [show A++(srt le (L1++R1)++(srt le (L2++R2)++C))=(A++srt le (L1++R1))++(srt le (L2++R2)++C) by simp only [List.append_assoc]];rfl
         ·have hR0:R2=[]:=List.length_eq_zero_iff.1 (by omega);refine aA ?_;refine zAh rfl rfl rfl ⟨?_,trivial⟩;rw [show A++(srt le (L1++R1)++(srt le (L2++R2)++C))=A++(srt le (L1++R1)++(L2++(R2++C))) by rw [hone sl2 sr2 (.inr hR0)];simp only [List.append_assoc]];rfl
        ·have hL0:L2=[]:=List.length_eq_zero_iff.1 (by omega);refine aA ?_;refine zAh rfl rfl rfl ⟨?_,trivial⟩;rw [show A++(srt le (L1++R1)++(srt le (L2++R2)++C))=A++(srt le (L1++R1)++(L2++(R2++C))) by rw [hone sl2 sr2 (.inl hL0)];simp only [List.append_assoc]];rfl
      ·have hL0:L1=[]:=List.length_eq_zero_iff.1 (by omega)
       have er2:A++(L1++(R1++(L2++(R2++C))))=A++(srt le (L1++R1)++(L2++(R2++C))):=by rw [hone sl1 sr1 (.inl hL0)];simp only [List.append_assoc]
       rw [er2];refine aA ?_
       refine bcase_p (fun c5=>?_) (fun c5=>?_)<;>conv=>whnf
       ·refine aA ?_
        refine bcase_p (fun c6=>?_) (fun c6=>?_)<;>conv=>whnf
        ·refine aA ?_;refine zAt (IH (A++srt le (L1++R1)) L2 R2 C (A++(srt le (L1++R1)++(L2++(R2++C)))) (A.length+h) (A.length+(L1.length+L2.length)+(h-s)) (A.length+(L1.length+L2.length)+(R1.length+R2.length)) (by rw [List.length_append,zAm,List.length_append];omega) (by rw [List.length_append,zAm,List.length_append];omega) (by rw [List.length_append,zAm,List.length_append];omega) (by simp only [List.append_assoc]) (by omega) (by intro e;subst e;simp only [List.length_nil] at c5;omega) (by intro e;subst e;simp only [List.length_nil] at c6;omega) sl2 sr2 (by simp only [List.length_append,zAm];omega)) [(1000000,1000000)] rfl ⟨rfl,trivial⟩ rfl (aW ?_);refine zAh rfl rfl rfl ⟨?_,trivial⟩;rw [show A++(srt le (L1++R1)++(srt le (L2++R2)++C))=(A++srt le (L1++R1))++(srt le (L2++R2)++C) by simp only [List.append_assoc]];rfl
        ·have hR0:R2=[]:=List.length_eq_zero_iff.1 (by omega);refine aA ?_;refine zAh rfl rfl rfl ⟨?_,trivial⟩;rw [show A++(srt le (L1++R1)++(srt le (L2++R2)++C))=A++(srt le (L1++R1)++(L2++(R2++C))) by rw [hone sl2 sr2 (.inr hR0)];simp only [List.append_assoc]];rfl
       ·have hL0:L2=[]:=List.length_eq_zero_iff.1 (by omega);refine aA ?_;refine zAh rfl rfl rfl ⟨?_,trivial⟩;rw [show A++(srt le (L1++R1)++(srt le (L2++R2)++C))=A++(srt le (L1++R1)++(L2++(R2++C))) by rw [hone sl2 sr2 (.inl hL0)];simp only [List.append_assoc]];rfl
   ·have hlo:zPn L.length R.length h=0:=if_neg (by omega);have hhi:zPm L.length h=L.length:=if_neg (by omega);have hcs:L.length>h/\zPn L.length R.length h=h-R.length/\zPm L.length h=h\/L.length<=h/\zPn L.length R.length h=0/\zPm L.length h=L.length:=.inr ⟨by omega,hlo,hhi⟩;refine aA ?_;rw [ep]
    have gl (u:Nat) (hu:u<L.length):(A++(L++(R++C)))[A.length+u]?=some L[u]:=by
     rw [List.getElem?_append_right (by omega),Nat.add_sub_cancel_left,List.getElem?_append_left hu,List.getElem?_eq_getElem hu]
    have gr (v:Nat) (hv:v<R.length):(A++(L++(R++C)))[A.length+L.length+v]?=some R[v]:=by
     rw [List.getElem?_append_right (by omega),List.getElem?_append_right (by omega),show A.length+L.length+v-A.length-L.length=v by omega,List.getElem?_append_left hv,List.getElem?_eq_getElem hv]
    have hml:((A++(L++(R++C))).map encE).length=A.length+L.length+R.length+C.length:=by simp only [List.length_map,List.length_append];omega
    generalize hlo':zPn L.length R.length h=lo at hcs⊢;generalize hhi':zPm L.length h=hi at hcs⊢;refine zAq (ι:=Nat×Nat) (fun s=>[(0,.own 1000000),(1,.d (.int .i64 A.length)),(2,.d (.int .i64 ((A.length+L.length:Nat):Int))),(3,.d (.int .i64 ((A.length+L.length+R.length:Nat):Int))),(4,.d (.fn cf [])),(18,.d (.int .i64 ((A.length+h:Nat):Int))),(19,.d (.int .i64 ((A.length+h+(A.length+L.length):Nat):Int))),(20,.d (.int .i64 ((A.length+s.1:Nat):Int))),(21,.d (.int .i64 ((A.length+s.2:Nat):Int))),(22,.d (.int .i64 ((A.length+h+(A.length+L.length)-1:Nat):Int)))]) (fun s=>[(1000000,.row ((A++(L++(R++C))).map encE) 11 false)])
     (fun s=>lo<=s.1/\s.1<=s.2/\s.2<=hi/\ (∀ u,lo<=u->u<s.1->∀ (hu:u<L.length) (hv:h-1-u<R.length),le L[u] R[h-1-u]=true) /\ (∀ u,s.2<=u->u<hi->∀ (hu:u<L.length) (hv:h-1-u<R.length),le L[u] R[h-1-u]=false)) (fun s=>s.2-s.1) (lo,hi) ⟨Nat.le_refl _,by simp only [];omega,Nat.le_refl _,fun u h1 h2=>by simp only [] at h2;omega,fun u h1 h2=>by simp only [] at h1;omega⟩
     (le0 (zAb ⟨rfl,rfl,rfl,rfl,rfl,rfl,rfl,(by rw [<-hlo',hlo];rfl),(by rw [<-hhi',hhi];rfl),rfl,trivial⟩ ⟨rfl,trivial⟩ ⟨rfl,rfl,rfl,rfl⟩)) ?_
    rintro ⟨s,r⟩ ⟨q1,q2,q3,hP,hQ⟩;simp only at q1 q2 q3 hP hQ⊢
    conv=>whnf
    refine bcase_p (fun hlt=>?_) (fun hlt=>?_)<;>conv=>whnf
    ·have es2:((A.length+s:Nat):Int)+((A.length+r:Nat):Int)=(((A.length+s)+(A.length+r):Nat):Int):=by omega
     have eh2:((A.length+s)+(A.length+r))/2=A.length+(s+r)/2:=by omega
     have hb1:s<= (s+r)/2:=by omega
     have hb2:(s+r)/2<r:=by omega
     refine aA ?_;rw [es2];refine zCd (wu64 (by omega) (by omega)) (aW ?_);rw [half,eh2];generalize hrr:(s+r)/2=u at hb1 hb2⊢
     have hu:u<L.length:=by omega
     have hv:h-1-u<R.length:=by omega
     have ei:((A.length+h+(A.length+L.length)-1:Nat):Int)-((A.length+u:Nat):Int)=((A.length+L.length+(h-1-u):Nat):Int):=by omega
     refine aA ?_;rw [ei];refine zAd (by omega) (w0 ?_);refine zAc (zBl (gr _ hv)) (aW ?_);refine zAd (by omega) (w0 ?_);refine zAc (zBl (gl u hu)) (aW ?_);obtain ⟨c,hcall,hlt2⟩:=hc.call R[h-1-u] L[u];refine zAa hcall (aW ?_)
     refine bcase_n (fun h2=>?_) (fun h2=>?_)<;>conv=>whnf
     ·have h3:le L[u] R[h-1-u]=true:=by
       cases e:le L[u] R[h-1-u] with
       |true=>rfl
       |false=>exact absurd (hlt2.2 e) h2
      refine aA ?_
      have e1:((A.length+u:Nat):Int)+1=((A.length+(u+1):Nat):Int):=by omega
      rw [e1];exact ⟨(u+1,r),⟨by simp only [];omega,by simp only [];omega,q3,fun w k1 k2 hw hv2=>hc.tp.trans _ _ _ (zBz hc.tp sL hw hu (by simp only [] at k2;omega)) (hc.tp.trans _ _ _ h3 (zBz hc.tp sR hv hv2 (by simp only [] at k2;omega))),hQ⟩,by simp only [];omega,(le0 (zAb ⟨rfl,rfl,rfl,rfl,rfl,rfl,rfl,rfl,rfl,rfl,trivial⟩ ⟨rfl,trivial⟩ ⟨rfl,rfl,rfl,rfl⟩))⟩
     ·have h3:=hlt2.1 h2;refine aA ?_
      exact ⟨(s,u),⟨q1,by simp only [];omega,by simp only [];omega,hP,fun w k1 k2 hw hv2=>by
       cases e:le L[w] R[h-1-w] with
       |false=>rfl
       |true=>(rw [hc.tp.trans _ _ _ (zBz hc.tp sL hu hw (by simp only [] at k1;omega)) (hc.tp.trans _ _ _ e (zBz hc.tp sR hv2 hv (by simp only [] at k1;omega)))] at h3;cases h3)⟩,by simp only [];omega,(le0 (zAb ⟨rfl,rfl,rfl,rfl,rfl,rfl,rfl,rfl,rfl,rfl,trivial⟩ ⟨rfl,trivial⟩ ⟨rfl,rfl,rfl,rfl⟩))⟩
    ·have hsr:s=r:=by omega
     subst hsr;have hsp:=z5w hc.tp sL sR (h:=h) (s:=s) hh (by omega) (by omega) (by rw [hlo'];exact hP) (by rw [hhi'];exact hQ)
     clear hP hQ gl gr hml
     have hsh:s<=h:=by omega
     obtain ⟨L1,L2,rfl,hL1⟩:=zEj (X:=L) (n:=s) (by omega);obtain ⟨R1,R2,rfl,hR1⟩:=zEj (X:=R) (n:=h-s) (by omega);rw [<-hR1,<-hL1,List.take_left,List.drop_left,List.take_left,List.drop_left] at hsp;obtain ⟨sp1,sp2⟩:=hsp;obtain ⟨sl1,sl2,_⟩:=zCf.1 sL;obtain ⟨sr1,sr2,_⟩:=zCf.1 sR
     have hfin:A++(srt le ((L1++L2)++(R1++R2))++C)=A++(srt le (L1++R1)++(srt le (L2++R2)++C)):=by rw [<-zRx hc.tp sL sR sp1 sp2];simp only [List.append_assoc]
     have hone:∀ {a b:List Ev},zBx le a->zBx le b->(a=[] \/b=[])->srt le (a++b)=a++b:=fun {a b} ha hb hab=>by
      rcases hab with e|e
      ·subst e;exact yCp hc.tp hb
      ·subst e;rw [List.append_nil];exact yCp hc.tp ha
     rw [hfin]
     clear hfin sp1 sp2 hcs
     simp only [List.length_append] at hm hn hl2 hr2 hh q1 q3⊢
     have e24:((A.length+h+(A.length+(L1.length+L2.length)):Nat):Int)-((A.length+s:Nat):Int)=((A.length+(L1.length+L2.length)+(h-s):Nat):Int):=by omega
     have er0:A++((L1++L2)++((R1++R2)++C))=A++(L1++(L2++(R1++(R2++C)))):=by simp only [List.append_assoc]
     rw [er0];refine aA ?_;rw [e24]
     refine bcase_p (fun c1=>?_) (fun c1=>?_)<;>conv=>whnf
     ·refine aA ?_
      refine bcase_p (fun c2=>?_) (fun c2=>?_)<;>conv=>whnf
      ·refine aA ?_;refine zAt (yKq cf (A++L1) L2 R1 (R2++C) _ (A.length+s) (A.length+(L1.length+L2.length)) (A.length+(L1.length+L2.length)+(h-s)) (by rw [List.length_append];omega) (by rw [List.length_append];omega) (by rw [List.length_append];omega) (show A++(L1++(L2++(R1++(R2++C))))=_ by simp only [List.append_assoc]) (by intro e;subst e;simp only [List.length_nil] at c1;omega) (by intro e;subst e;simp only [List.length_nil] at hR1;omega) (by simp only [List.length_append];omega)) [(1000000,1000000)] rfl ⟨rfl,trivial⟩ rfl (w0 ?_)
       have er1:(A++L1)++(R1++(L2++(R2++C)))=A++(L1++(R1++(L2++(R2++C)))):=by simp only [List.append_assoc]
       rw [er1];refine aA ?_
       refine bcase_p (fun c3=>?_) (fun c3=>?_)<;>conv=>whnf
       ·refine aA ?_
        refine bcase_p (fun c4=>?_) (fun c4=>?_)<;>conv=>whnf
        ·refine aA ?_;refine zAt (IH A L1 R1 (L2++(R2++C)) (A++(L1++(R1++(L2++(R2++C))))) A.length (A.length+s) (A.length+h) rfl (by omega) (by omega) rfl (by omega) (by intro e;subst e;simp only [List.length_nil] at hL1;omega) (by intro e;subst e;simp only [List.length_nil] at hR1;omega) sl1 sr1 (by simp only [List.length_append];omega)) [(1000000,1000000)] rfl ⟨rfl,trivial⟩ rfl (aW ?_)
         refine bcase_p (fun c5=>?_) (fun c5=>?_)<;>conv=>whnf
         ·refine aA ?_
          refine bcase_p (fun c6=>?_) (fun c6=>?_)<;>conv=>whnf
          ·refine aA ?_;refine zAt (IH (A++srt le (L1++R1)) L2 R2 C (A++(srt le (L1++R1)++(L2++(R2++C)))) (A.length+h) (A.length+(L1.length+L2.length)+(h-s)) (A.length+(L1.length+L2.length)+(R1.length+R2.length)) (by rw [List.length_append,zAm,List.length_append];omega) (by rw [List.length_append,zAm,List.length_append];omega) (by rw [List.length_append,zAm,List.length_append];omega) (by simp only [List.append_assoc]) (by omega) (by intro e;subst e;simp only [List.length_nil] at c5;omega) (by intro e;subst e;simp only [List.length_nil] at c6;omega) sl2 sr2 (by simp only [List.length_append,zAm];omega)) [(1000000,1000000)] rfl ⟨rfl,trivial⟩ rfl (aW ?_);refine zAh rfl rfl rfl ⟨?_,trivial⟩;rw [show A++(srt le (L1++R1)++(srt le (L2++R2)++C))=(A++srt le (L1++R1))++(srt le (L2++R2)++C) by simp only [List.append_assoc]];rfl
          ·have hR0:R2=[]:=List.length_eq_zero_iff.1 (by omega);refine aA ?_;refine zAh rfl rfl rfl ⟨?_,trivial⟩;rw [show A++(srt le (L1++R1)++(srt le (L2++R2)++C))=A++(srt le (L1++R1)++(L2++(R2++C))) by rw [hone sl2 sr2 (.inr hR0)];simp only [List.append_assoc]];rfl
         ·have hL0:L2=[]:=List.length_eq_zero_iff.1 (by omega);refine aA ?_;refine zAh rfl rfl rfl ⟨?_,trivial⟩;rw [show A++(srt le (L1++R1)++(srt le (L2++R2)++C))=A++(srt le (L1++R1)++(L2++(R2++C))) by rw [hone sl2 sr2 (.inl hL0)];simp only [List.append_assoc]];rfl
        ·have hR0:R1=[]:=List.length_eq_zero_iff.1 (by omega)
         have er2:A++(L1++(R1++(L2++(R2++C))))=A++(srt le (L1++R1)++(L2++(R2++C))):=by rw [hone sl1 sr1 (.inr hR0)];simp only [List.append_assoc]
         rw [er2];refine aA ?_
         refine bcase_p (fun c5=>?_) (fun c5=>?_)<;>conv=>whnf
         ·refine aA ?_
          refine bcase_p (fun c6=>?_) (fun c6=>?_)<;>conv=>whnf
          ·refine aA ?_;refine zAt (IH (A++srt le (L1++R1)) L2 R2 C (A++(srt le (L1++R1)++(L2++(R2++C)))) (A.length+h) (A.length+(L1.length+L2.length)+(h-s)) (A.length+(L1.length+L2.length)+(R1.length+R2.length)) (by rw [List.length_append,zAm,List.length_append];omega) (by rw [List.length_append,zAm,List.length_append];omega) (by rw [List.length_append,zAm,List.length_append];omega) (by simp only [List.append_assoc]) (by omega) (by intro e;subst e;simp only [List.length_nil] at c5;omega) (by intro e;subst e;simp only [List.length_nil] at c6;omega) sl2 sr2 (by simp only [List.length_append,zAm];omega)) [(1000000,1000000)] rfl ⟨rfl,trivial⟩ rfl (aW ?_);refine zAh rfl rfl rfl ⟨?_,trivial⟩;rw [show A++(srt le (L1++R1)++(srt le (L2++R2)++C))=(A++srt le (L1++R1))++(srt le (L2++R2)++C) by simp only [List.append_assoc]];rfl
          ·have hR0:R2=[]:=List.length_eq_zero_iff.1 (by omega);refine aA ?_;refine zAh rfl rfl rfl ⟨?_,trivial⟩;rw [show A++(srt le (L1++R1)++(srt le (L2++R2)++C))=A++(srt le (L1++R1)++(L2++(R2++C))) by rw [hone sl2 sr2 (.inr hR0)];simp only [List.append_assoc]];rfl
         ·have hL0:L2=[]:=List.length_eq_zero_iff.1 (by omega);refine aA ?_;refine zAh rfl rfl rfl ⟨?_,trivial⟩;rw [show A++(srt le (L1++R1)++(srt le (L2++R2)++C))=A++(srt le (L1++R1)++(L2++(R2++C))) by rw [hone sl2 sr2 (.inl hL0)];simp only [List.append_assoc]];rfl
       ·have hL0:L1=[]:=List.length_eq_zero_iff.1 (by omega)
        have er2:A++(L1++(R1++(L2++(R2++C))))=A++(srt le (L1++R1)++(L2++(R2++C))):=by rw [hone sl1 sr1 (.inl hL0)];simp only [List.append_assoc]
        rw [er2];refine aA ?_
        refine bcase_p (fun c5=>?_) (fun c5=>?_)<;>conv=>whnf
        ·refine aA ?_
         refine bcase_p (fun c6=>?_) (fun c6=>?_)<;>conv=>whnf
         ·refine aA ?_;refine zAt (IH (A++srt le (L1++R1)) L2 R2 C (A++(srt le (L1++R1)++(L2++(R2++C)))) (A.length+h) (A.length+(L1.length+L2.length)+(h-s)) (A.length+(L1.length+L2.length)+(R1.length+R2.length)) (by rw [List.length_append,zAm,List.length_append];omega) (by rw [List.length_append,zAm,List.length_append];omega) (by rw [List.length_append,zAm,List.length_append];omega) (by simp only [List.append_assoc]) (by omega) (by intro e;subst e;simp only [List.length_nil] at c5;omega) (by intro e;subst e;simp only [List.length_nil] at c6;omega) sl2 sr2 (by simp only [List.length_append,zAm];omega)) [(1000000,1000000)] rfl ⟨rfl,trivial⟩ rfl (aW ?_);refine zAh rfl rfl rfl ⟨?_,trivial⟩;rw [show A++(srt le (L1++R1)++(srt le (L2++R2)++C))=(A++srt le (L1++R1))++(srt le (L2++R2)++C) by simp only [List.append_assoc]];rfl
         ·have hR0:R2=[]:=List.length_eq_zero_iff.1 (by omega);refine aA ?_;refine zAh rfl rfl rfl ⟨?_,trivial⟩;rw [show A++(srt le (L1++R1)++(srt le (L2++R2)++C))=A++(srt le (L1++R1)++(L2++(R2++C))) by rw [hone sl2 sr2 (.inr hR0)];simp only [List.append_assoc]];rfl
        ·have hL0:L2=[]:=List.length_eq_zero_iff.1 (by omega);refine aA ?_;refine zAh rfl rfl rfl ⟨?_,trivial⟩;rw [show A++(srt le (L1++R1)++(srt le (L2++R2)++C))=A++(srt le (L1++R1)++(L2++(R2++C))) by rw [hone sl2 sr2 (.inl hL0)];simp only [List.append_assoc]];rfl
      ·have hR0:R1=[]:=List.length_eq_zero_iff.1 (by omega)
       have er1:A++(L1++(L2++(R1++(R2++C))))=A++(L1++(R1++(L2++(R2++C)))):=by rw [hR0];rfl
       rw [er1];refine aA ?_
       refine bcase_p (fun c3=>?_) (fun c3=>?_)<;>conv=>whnf
       ·refine aA ?_
        refine bcase_p (fun c4=>?_) (fun c4=>?_)<;>conv=>whnf
        ·refine aA ?_;refine zAt (IH A L1 R1 (L2++(R2++C)) (A++(L1++(R1++(L2++(R2++C))))) A.length (A.length+s) (A.length+h) rfl (by omega) (by omega) rfl (by omega) (by intro e;subst e;simp only [List.length_nil] at hL1;omega) (by intro e;subst e;simp only [List.length_nil] at hR1;omega) sl1 sr1 (by simp only [List.length_append];omega)) [(1000000,1000000)] rfl ⟨rfl,trivial⟩ rfl (aW ?_)
         refine bcase_p (fun c5=>?_) (fun c5=>?_)<;>conv=>whnf
         ·refine aA ?_
          refine bcase_p (fun c6=>?_) (fun c6=>?_)<;>conv=>whnf
          ·refine aA ?_;refine zAt (IH (A++srt le (L1++R1)) L2 R2 C (A++(srt le (L1++R1)++(L2++(R2++C)))) (A.length+h) (A.length+(L1.length+L2.length)+(h-s)) (A.length+(L1.length+L2.length)+(R1.length+R2.length)) (by rw [List.length_append,zAm,List.length_append];omega) (by rw [List.length_append,zAm,List.length_append];omega) (by rw [List.length_append,zAm,List.length_append];omega) (by simp only [List.append_assoc]) (by omega) (by intro e;subst e;simp only [List.length_nil] at c5;omega) (by intro e;subst e;simp only [List.length_nil] at c6;omega) sl2 sr2 (by simp only [List.length_append,zAm];omega)) [(1000000,1000000)] rfl ⟨rfl,trivial⟩ rfl (aW ?_);refine zAh rfl rfl rfl ⟨?_,trivial⟩;rw [show A++(srt le (L1++R1)++(srt le (L2++R2)++C))=(A++srt le (L1++R1))++(srt le (L2++R2)++C) by simp only [List.append_assoc]];rfl
          ·have hR0:R2=[]:=List.length_eq_zero_iff.1 (by omega);refine aA ?_;refine zAh rfl rfl rfl ⟨?_,trivial⟩;rw [show A++(srt le (L1++R1)++(srt le (L2++R2)++C))=A++(srt le (L1++R1)++(L2++(R2++C))) by rw [hone sl2 sr2 (.inr hR0)];simp only [List.append_assoc]];rfl
         ·have hL0:L2=[]:=List.length_eq_zero_iff.1 (by omega);refine aA ?_;refine zAh rfl rfl rfl ⟨?_,trivial⟩;rw [show A++(srt le (L1++R1)++(srt le (L2++R2)++C))=A++(srt le (L1++R1)++(L2++(R2++C))) by rw [hone sl2 sr2 (.inl hL0)];simp only [List.append_assoc]];rfl
        ·have hR0:R1=[]:=List.length_eq_zero_iff.1 (by omega)
         have er2:A++(L1++(R1++(L2++(R2++C))))=A++(srt le (L1++R1)++(L2++(R2++C))):=by rw [hone sl1 sr1 (.inr hR0)];simp only [List.append_assoc]
         rw [er2];refine aA ?_
         refine bcase_p (fun c5=>?_) (fun c5=>?_)<;>conv=>whnf
         ·refine aA ?_
          refine bcase_p (fun c6=>?_) (fun c6=>?_)<;>conv=>whnf
          ·refine aA ?_;refine zAt (IH (A++srt le (L1++R1)) L2 R2 C (A++(srt le (L1++R1)++(L2++(R2++C)))) (A.length+h) (A.length+(L1.length+L2.length)+(h-s)) (A.length+(L1.length+L2.length)+(R1.length+R2.length)) (by rw [List.length_append,zAm,List.length_append];omega) (by rw [List.length_append,zAm,List.length_append];omega) (by rw [List.length_append,zAm,List.length_append];omega) (by simp only [List.append_assoc]) (by omega) (by intro e;subst e;simp only [List.length_nil] at c5;omega) (by intro e;subst e;simp only [List.length_nil] at c6;omega) sl2 sr2 (by simp only [List.length_append,zAm];omega)) [(1000000,1000000)] rfl ⟨rfl,trivial⟩ rfl (aW ?_);refine zAh rfl rfl rfl ⟨?_,trivial⟩;rw [show A++(srt le (L1++R1)++(srt le (L2++R2)++C))=(A++srt le (L1++R1))++(srt le (L2++R2)++C) by simp only [List.append_assoc]];rfl
          ·have hR0:R2=[]:=List.length_eq_zero_iff.1 (by omega);refine aA ?_;refine zAh rfl rfl rfl ⟨?_,trivial⟩;rw [show A++(srt le (L1++R1)++(srt le (L2++R2)++C))=A++(srt le (L1++R1)++(L2++(R2++C))) by rw [hone sl2 sr2 (.inr hR0)];simp only [List.append_assoc]];rfl
         ·have hL0:L2=[]:=List.length_eq_zero_iff.1 (by omega);refine aA ?_;refine zAh rfl rfl rfl ⟨?_,trivial⟩;rw [show A++(srt le (L1++R1)++(srt le (L2++R2)++C))=A++(srt le (L1++R1)++(L2++(R2++C))) by rw [hone sl2 sr2 (.inl hL0)];simp only [List.append_assoc]];rfl
       ·have hL0:L1=[]:=List.length_eq_zero_iff.1 (by omega)
        have er2:A++(L1++(R1++(L2++(R2++C))))=A++(srt le (L1++R1)++(L2++(R2++C))):=by rw [hone sl1 sr1 (.inl hL0)];simp only [List.append_assoc]
        rw [er2];refine aA ?_
        refine bcase_p (fun c5=>?_) (fun c5=>?_)<;>conv=>whnf
        ·refine aA ?_
         refine bcase_p (fun c6=>?_) (fun c6=>?_)<;>conv=>whnf
         ·refine aA ?_;refine zAt (IH (A++srt le (L1++R1)) L2 R2 C (A++(srt le (L1++R1)++(L2++(R2++C)))) (A.length+h) (A.length+(L1.length+L2.length)+(h-s)) (A.length+(L1.length+L2.length)+(R1.length+R2.length)) (by rw [List.length_append,zAm,List.length_append];omega) (by rw [List.length_append,zAm,List.length_append];omega) (by rw [List.length_append,zAm,List.length_append];omega) (by simp only [List.append_assoc]) (by omega) (by intro e;subst e;simp only [List.length_nil] at c5;omega) (by intro e;subst e;simp only [List.length_nil] at c6;omega) sl2 sr2 (by simp only [List.length_append,zAm];omega)) [(1000000,1000000)] rfl ⟨rfl,trivial⟩ rfl (aW ?_);refine zAh rfl rfl rfl ⟨?_,trivial⟩;rw [show A++(srt le (L1++R1)++(srt le (L2++R2)++C))=(A++srt le (L1++R1))++(srt le (L2++R2)++C) by simp only [List.append_assoc]];rfl
         ·have hR0:R2=[]:=List.length_eq_zero_iff.1 (by omega);refine aA ?_;refine zAh rfl rfl rfl ⟨?_,trivial⟩;rw [show A++(srt le (L1++R1)++(srt le (L2++R2)++C))=A++(srt le (L1++R1)++(L2++(R2++C))) by rw [hone sl2 sr2 (.inr hR0)];simp only [List.append_assoc]];rfl
        ·have hL0:L2=[]:=List.length_eq_zero_iff.1 (by omega);refine aA ?_;refine zAh rfl rfl rfl ⟨?_,trivial⟩;rw [show A++(srt le (L1++R1)++(srt le (L2++R2)++C))=A++(srt le (L1++R1)++(L2++(R2++C))) by rw [hone sl2 sr2 (.inl hL0)];simp only [List.append_assoc]];rfl
     ·have hL0:L2=[]:=List.length_eq_zero_iff.1 (by omega)
      have er1:A++(L1++(L2++(R1++(R2++C))))=A++(L1++(R1++(L2++(R2++C)))):=by rw [hL0];rfl
      rw [er1];refine aA ?_
      refine bcase_p (fun c3=>?_) (fun c3=>?_)<;>conv=>whnf
      ·refine aA ?_
       refine bcase_p (fun c4=>?_) (fun c4=>?_)<;>conv=>whnf
       ·refine aA ?_;refine zAt (IH A L1 R1 (L2++(R2++C)) (A++(L1++(R1++(L2++(R2++C))))) A.length (A.length+s) (A.length+h) rfl (by omega) (by omega) rfl (by omega) (by intro e;subst e;simp only [List.length_nil] at hL1;omega) (by intro e;subst e;simp only [List.length_nil] at hR1;omega) sl1 sr1 (by simp only [List.length_append];omega)) [(1000000,1000000)] rfl ⟨rfl,trivial⟩ rfl (aW ?_)
        refine bcase_p (fun c5=>?_) (fun c5=>?_)<;>conv=>whnf
        ·refine aA ?_
         refine bcase_p (fun c6=>?_) (fun c6=>?_)<;>conv=>whnf
         ·refine aA ?_;refine zAt (IH (A++srt le (L1++R1)) L2 R2 C (A++(srt le (L1++R1)++(L2++(R2++C)))) (A.length+h) (A.length+(L1.length+L2.length)+(h-s)) (A.length+(L1.length+L2.length)+(R1.length+R2.length)) (by rw [List.length_append,zAm,List.length_append];omega) (by rw [List.length_append,zAm,List.length_append];omega) (by rw [List.length_append,zAm,List.length_append];omega) (by simp only [List.append_assoc]) (by omega) (by intro e;subst e;simp only [List.length_nil] at c5;omega) (by intro e;subst e;simp only [List.length_nil] at c6;omega) sl2 sr2 (by simp only [List.length_append,zAm];omega)) [(1000000,1000000)] rfl ⟨rfl,trivial⟩ rfl (aW ?_);refine zAh rfl rfl rfl ⟨?_,trivial⟩;rw [show A++(srt le (L1++R1)++(srt le (L2++R2)++C))=(A++srt le (L1++R1))++(srt le (L2++R2)++C) by simp only [List.append_assoc]];rfl
         ·have hR0:R2=[]:=List.length_eq_zero_iff.1 (by omega);refine aA ?_;refine zAh rfl rfl rfl ⟨?_,trivial⟩;rw [show A++(srt le (L1++R1)++(srt le (L2++R2)++C))=A++(srt le (L1++R1)++(L2++(R2++C))) by rw [hone sl2 sr2 (.inr hR0)];simp only [List.append_assoc]];rfl
        ·have hL0:L2=[]:=List.length_eq_zero_iff.1 (by omega);refine aA ?_;refine zAh rfl rfl rfl ⟨?_,trivial⟩;rw [show A++(srt le (L1++R1)++(srt le (L2++R2)++C))=A++(srt le (L1++R1)++(L2++(R2++C))) by rw [hone sl2 sr2 (.inl hL0)];simp only [List.append_assoc]];rfl
       ·have hR0:R1=[]:=List.length_eq_zero_iff.1 (by omega)
        have er2:A++(L1++(R1++(L2++(R2++C))))=A++(srt le (L1++R1)++(L2++(R2++C))):=by rw [hone sl1 sr1 (.inr hR0)];simp only [List.append_assoc]
        rw [er2];refine aA ?_
        refine bcase_p (fun c5=>?_) (fun c5=>?_)<;>conv=>whnf
        ·refine aA ?_
         refine bcase_p (fun c6=>?_) (fun c6=>?_)<;>conv=>whnf
         ·refine aA ?_;refine zAt (IH (A++srt le (L1++R1)) L2 R2 C (A++(srt le (L1++R1)++(L2++(R2++C)))) (A.length+h) (A.length+(L1.length+L2.length)+(h-s)) (A.length+(L1.length+L2.length)+(R1.length+R2.length)) (by rw [List.length_append,zAm,List.length_append];omega) (by rw [List.length_append,zAm,List.length_append];omega) (by rw [List.length_append,zAm,List.length_append];omega) (by simp only [List.append_assoc]) (by omega) (by intro e;subst e;simp only [List.length_nil] at c5;omega) (by intro e;subst e;simp only [List.length_nil] at c6;omega) sl2 sr2 (by simp only [List.length_append,zAm];omega)) [(1000000,1000000)] rfl ⟨rfl,trivial⟩ rfl (aW ?_);refine zAh rfl rfl rfl ⟨?_,trivial⟩;rw [show A++(srt le (L1++R1)++(srt le (L2++R2)++C))=(A++srt le (L1++R1))++(srt le (L2++R2)++C) by simp only [List.append_assoc]];rfl
         ·have hR0:R2=[]:=List.length_eq_zero_iff.1 (by omega);refine aA ?_;refine zAh rfl rfl rfl ⟨?_,trivial⟩;rw [show A++(srt le (L1++R1)++(srt le (L2++R2)++C))=A++(srt le (L1++R1)++(L2++(R2++C))) by rw [hone sl2 sr2 (.inr hR0)];simp only [List.append_assoc]];rfl
        ·have hL0:L2=[]:=List.length_eq_zero_iff.1 (by omega);refine aA ?_;refine zAh rfl rfl rfl ⟨?_,trivial⟩;rw [show A++(srt le (L1++R1)++(srt le (L2++R2)++C))=A++(srt le (L1++R1)++(L2++(R2++C))) by rw [hone sl2 sr2 (.inl hL0)];simp only [List.append_assoc]];rfl
      ·have hL0:L1=[]:=List.length_eq_zero_iff.1 (by omega)
       have er2:A++(L1++(R1++(L2++(R2++C))))=A++(srt le (L1++R1)++(L2++(R2++C))):=by rw [hone sl1 sr1 (.inl hL0)];simp only [List.append_assoc]
       rw [er2];refine aA ?_
       refine bcase_p (fun c5=>?_) (fun c5=>?_)<;>conv=>whnf
       ·refine aA ?_
        refine bcase_p (fun c6=>?_) (fun c6=>?_)<;>conv=>whnf
        ·refine aA ?_;refine zAt (IH (A++srt le (L1++R1)) L2 R2 C (A++(srt le (L1++R1)++(L2++(R2++C)))) (A.length+h) (A.length+(L1.length+L2.length)+(h-s)) (A.length+(L1.length+L2.length)+(R1.length+R2.length)) (by rw [List.length_append,zAm,List.length_append];omega) (by rw [List.length_append,zAm,List.length_append];omega) (by rw [List.length_append,zAm,List.length_append];omega) (by simp only [List.append_assoc]) (by omega) (by intro e;subst e;simp only [List.length_nil] at c5;omega) (by intro e;subst e;simp only [List.length_nil] at c6;omega) sl2 sr2 (by simp only [List.length_append,zAm];omega)) [(1000000,1000000)] rfl ⟨rfl,trivial⟩ rfl (aW ?_);refine zAh rfl rfl rfl ⟨?_,trivial⟩;rw [show A++(srt le (L1++R1)++(srt le (L2++R2)++C))=(A++srt le (L1++R1))++(srt le (L2++R2)++C) by simp only [List.append_assoc]];rfl
        ·have hR0:R2=[]:=List.length_eq_zero_iff.1 (by omega);refine aA ?_;refine zAh rfl rfl rfl ⟨?_,trivial⟩;rw [show A++(srt le (L1++R1)++(srt le (L2++R2)++C))=A++(srt le (L1++R1)++(L2++(R2++C))) by rw [hone sl2 sr2 (.inr hR0)];simp only [List.append_assoc]];rfl
       ·have hL0:L2=[]:=List.length_eq_zero_iff.1 (by omega);refine aA ?_;refine zAh rfl rfl rfl ⟨?_,trivial⟩;rw [show A++(srt le (L1++R1)++(srt le (L2++R2)++C))=A++(srt le (L1++R1)++(L2++(R2++C))) by rw [hone sl2 sr2 (.inl hL0)];simp only [List.append_assoc]];rfl
end Go.Lk.Hy
