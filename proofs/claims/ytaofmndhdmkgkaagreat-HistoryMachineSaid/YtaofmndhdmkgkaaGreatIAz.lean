/-
  What is proved here: what functions of the program compute, and what follows; no condition beyond each theorem's own.
-/
import Derived.Test.YtaofmndhdmkgkaaGreatIAy
set_option linter.unusedSimpArgs false
set_option linter.unusedVariables false
set_option linter.unnecessarySimpa false
set_option linter.unusedSectionVars false
namespace Go.Lk
open Go Go.Proofs Go.RowKit Go.Lk
def atF (l:List Fr) (i:Nat):Fr:=l[i]?.getD (0,0,false)
def atP (l:List Pg) (i:Nat):Pg:=l[i]?.getD noPg
theorem zCg {l:List Fr} {i:Nat} (h:i<l.length):atF l i=l[i]:=by simp [atF,h]
theorem zDq {l:List Pg} {i:Nat} (h:i<l.length):atP l i=l[i]:=by simp [atP,h]
def z1z (x:Fr):Fr:=(x.1,x.2.1+1,true)
def zGd (x:Fr):Fr:=(x.1,x.2.1-1,x.2.2)
def zRm (f:FX) (i:Nat) (x:Fr):FX:=⟨f.fr.set i x,f.hand,f.tb,f.pg,f.dt⟩
noncomputable def pinS (f:FX) (p:Int):FX×Int:=
 if (zCc f p).2≠0 then (f,(zCc f p).2)
 else if 2147483647<= (atF f.fr (zCc f p).1.toNat).2.1 then (f,7) else (zRm f (zCc f p).1.toNat (z1z (atF f.fr (zCc f p).1.toNat)),0)
noncomputable def zEg (f:FX) (p:Int):FX×Int:=
 if (zCc f p).2≠0 then (f,(zCc f p).2)
 else if (atF f.fr (zCc f p).1.toNat).2.1=0 then (f,12) else (zRm f (zCc f p).1.toNat (zGd (atF f.fr (zCc f p).1.toNat)),0)
def wrPg (x:Pg) (b:ByteArray):Pg:=(x.1,x.2.1+1,b)
noncomputable def zBr (f:FX) (p:Int) (b:ByteArray) (now:Int):FX×Int:=
 if (zCc f p).2≠0 then (f,(zCc f p).2)
 else if (atF f.fr (zCc f p).1.toNat).2.1=0 then (f,12)
 else if 16<b.size then (f,5)
 else if 2147483647<= (atP f.pg (zCc f p).1.toNat).2.1 then (f,7)
 else if (Dt.markG f.dt p now).2≠0 then (f,(Dt.markG f.dt p now).2)
 else (⟨f.fr,f.hand,f.tb,f.pg.set (zCc f p).1.toNat (wrPg (atP f.pg (zCc f p).1.toNat) b),(Dt.markG f.dt p now).1⟩,0)
noncomputable def zFj (f:FX) (p:Int):FX×Int:=
 if (zCc f p).2≠0 then (f,(zCc f p).2)
 else if (Dt.cleanG f.dt p).2≠0 then (f,12) else (⟨f.fr,f.hand,f.tb,f.pg,(Dt.cleanG f.dt p).1⟩,0)
noncomputable def zJh (f:FX) (p:Int):FX×Int:=
 if (zCc f p).2≠0 then (f,(zCc f p).2)
 else if 0<(atF f.fr (zCc f p).1.toNat).2.1 then (f,6) else (relS f (zCc f p).1.toNat p,0)
theorem zCy (f:FX) (p:Int):(zCc f p).2≠0\/ ∃ i:Nat,zCc f p=((i:Int),0) /\AtF f p i:=by
 rcases zYb f p with ⟨_,e⟩|⟨_,_,e⟩|⟨i,_,e,h⟩
 ·exact .inl (by rw [e];decide)
 ·exact .inl (by rw [e];decide)
 ·exact .inr ⟨i,e,h⟩
theorem pin_ok (f:FX) (p:Int) (h1:f.tb.length<=1000000) (h2:f.dt.length<=1000000):zAi Tryz.prog 168 [zGk f,.int .i64 p] (.tup [zGk (pinS f p).1,.int .i64 (pinS f p).2]):=by
 refine zAe Tryz.func168 2 rfl (by kernel_rfl) (w0 ?_)
 have hmf:(f.fr.map encF).length=f.fr.length:=List.length_map ..
 refine aA ?_;have hl:=zV f p h1 h2
 rcases zCy f p with e|⟨i,e,hA⟩
 ·refine zAa hl (aW ?_);refine zDr (by simp [e]) (aW ?_);exact ret_of rfl (by rw [pinS,if_pos e];rfl)
 have hi:=hA.hi;have hl8:=hA.right.ck.most;have hlen:=hA.right.len;have hk:=zBq.1 (hA.right.ck.all i hi);rw [e] at hl;refine zAa (d:=.tup [.int .i64 i,.int .i64 0]) hl (aW ?_);refine zAd (by omega) (w0 ?_);refine zAc (x:=encF f.fr[i]) (by simp [hi]) (aW ?_)
 refine bcase_p (fun g1=>?_) (fun g1=>?_)<;>conv=>whnf
 ·refine aA ?_;exact ret_of rfl (by simp only [pinS,e,Int.toNat_natCast,zCg hi];rw [if_neg (by decide),if_pos (by exact g1)];rfl)
 refine aA ?_;refine zKh (zL f (by omega) (by omega)) (show 2<=8 by decide) (aW ?_);refine zAd (by omega) (w0 ?_);refine zAc (x:=encF f.fr[i]) (by simp [hi]) (aW ?_);refine zAd (by omega) (w0 ?_);refine zAc (x:=encF f.fr[i]) (by simp [hi]) (aW ?_);refine zAd (by show i<(List.set _ _ _).length;rw [List.length_set];omega) (w0 ?_);refine zAc (x:=encF (f.fr[i].1,f.fr[i].2.1+1,f.fr[i].2.2)) (by rw [List.getElem?_set_self (by omega)];rfl) (aW ?_);refine ret_of rfl ?_;show D.tup [.agg [.lst (((f.fr.map encF).set i _).set i _),_,_,_,_],_]=_;rw [List.set_set];have k1:(f.fr.map encF).set i (encF (z1z f.fr[i]))=(f.fr.set i (z1z f.fr[i])).map encF:=zTe f.fr i _;simp only [pinS,e,Int.toNat_natCast,zCg hi];rw [if_neg (by decide),if_neg (by exact g1)];exact congrArg (fun q=>D.tup [.agg [.lst q,.int .i64 f.hand,zCe f.tb,.lst (f.pg.map encP),zCe f.dt],.int .i64 0]) k1
theorem yPu (f:FX) (p:Int) (h1:f.tb.length<=1000000) (h2:f.dt.length<=1000000):zAi Tryz.prog 177 [zGk f,.int .i64 p] (.tup [zGk (zEg f p).1,.int .i64 (zEg f p).2]):=by
 refine zAe Tryz.func177 2 rfl (by kernel_rfl) (w0 ?_)
 have hmf:(f.fr.map encF).length=f.fr.length:=List.length_map ..
 refine aA ?_;have hl:=zV f p h1 h2
 rcases zCy f p with e|⟨i,e,hA⟩
 ·refine zAa hl (aW ?_);refine zDr (by simp [e]) (aW ?_);exact ret_of rfl (by rw [zEg,if_pos e];rfl)
 have hi:=hA.hi;have hl8:=hA.right.ck.most;have hlen:=hA.right.len;have hk:=zBq.1 (hA.right.ck.all i hi);rw [e] at hl;refine zAa (d:=.tup [.int .i64 i,.int .i64 0]) hl (aW ?_);refine zAd (by omega) (w0 ?_);refine zAc (x:=encF f.fr[i]) (by simp [hi]) (aW ?_)
 refine bcase_p (fun g1=>?_) (fun g1=>?_)<;>conv=>whnf
 ·refine aA ?_;exact ret_of rfl (by simp only [zEg,e,Int.toNat_natCast,zCg hi];rw [if_neg (by decide),if_pos (by exact g1)];rfl)
 refine aA ?_;refine zKh (zL f (by omega) (by omega)) (show 2<=8 by decide) (aW ?_);refine zAd (by omega) (w0 ?_);refine zAc (x:=encF f.fr[i]) (by simp [hi]) (aW ?_);refine zAd (by omega) (w0 ?_);refine zAc (x:=encF f.fr[i]) (by simp [hi]) (aW ?_);refine ret_of rfl ?_;have k1:(f.fr.map encF).set i (encF (zGd f.fr[i]))=(f.fr.set i (zGd f.fr[i])).map encF:=zTe f.fr i _;simp only [zEg,e,Int.toNat_natCast,zCg hi];rw [if_neg (by decide),if_neg (by exact g1)];exact congrArg (fun q=>D.tup [.agg [.lst q,.int .i64 f.hand,zCe f.tb,.lst (f.pg.map encP),zCe f.dt],.int .i64 0]) k1
theorem clean_ok (f:FX) (p:Int) (h1:f.tb.length<=1000000) (h2:f.dt.length<=1000000):zAi Tryz.prog 243 [zGk f,.int .i64 p] (.tup [zGk (zFj f p).1,.int .i64 (zFj f p).2]):=by
 refine zAe Tryz.func243 2 rfl (by kernel_rfl) (aW ?_);have hl:=zV f p h1 h2
 rcases zCy f p with e|⟨i,e,hA⟩
 ·refine zAa hl (aW ?_);refine zDr (by simp [e]) (aW ?_);exact ret_of rfl (by rw [zFj,if_pos e];rfl)
 rw [e] at hl;refine zAa (d:=.tup [.int .i64 i,.int .i64 0]) hl (aW ?_);refine zAa (Dt.clean_ok f.dt p h2) (aW ?_)
 refine bcase_n (fun g1=>?_) (fun g1=>?_)<;>conv=>whnf
 ·refine aA ?_;exact ret_of rfl (by rw [zFj,if_neg (by simp [e]),if_pos (by simpa using g1)];rfl)
 ·refine aA ?_;exact ret_of rfl (by rw [zFj,if_neg (by simp [e]),if_neg (by simpa using g1)];rfl)
theorem ySy (f:FX) (p:Int) (h1:f.tb.length<=1000000) (h2:f.dt.length<=1000000):zAi Tryz.prog 170 [zGk f,.int .i64 p] (.tup [zGk (zJh f p).1,.int .i64 (zJh f p).2]):=by
 refine zAe Tryz.func170 2 rfl (by kernel_rfl) (w0 ?_)
 have hmf:(f.fr.map encF).length=f.fr.length:=List.length_map ..
 refine aA ?_;have hl:=zV f p h1 h2
 rcases zCy f p with e|⟨i,e,hA⟩
 ·refine zAa hl (aW ?_);refine zDr (by simp [e]) (aW ?_);exact ret_of rfl (by rw [zJh,if_pos e];rfl)
 have hi:=hA.hi;have hl8:=hA.right.ck.most;have hlen:=hA.right.len;rw [e] at hl;refine zAa (d:=.tup [.int .i64 i,.int .i64 0]) hl (aW ?_);refine zAd (by omega) (w0 ?_);refine zAc (x:=encF f.fr[i]) (by simp [hi]) (aW ?_)
 refine bcase_p (fun g1=>?_) (fun g1=>?_)<;>conv=>whnf
 ·refine aA ?_;exact ret_of rfl (by simp only [zJh,e,Int.toNat_natCast,zCg hi];rw [if_neg (by decide),if_pos (by exact g1)];rfl)
 refine aA ?_;refine zAa (zYm f i p hi hA.hp hA.pg (by omega) (by omega) h1 h2) (aW ?_);exact ret_of rfl (by simp only [zJh,e,Int.toNat_natCast,zCg hi];rw [if_neg (by decide),if_neg (by exact g1)];rfl)
theorem yQf (f:FX) (p:Int) (b:ByteArray) (now:Int) (h1:f.tb.length<=1000000) (h2:f.dt.length<=1000000):
  zAi Tryz.prog 176 [zGk f,.int .i64 p,.str b,.int .i64 now] (.tup [zGk (zBr f p b now).1,.int .i64 (zBr f p b now).2]):=by
 refine zAe Tryz.func176 4 rfl (by kernel_rfl) (w0 ?_)
 have hmf:(f.fr.map encF).length=f.fr.length:=List.length_map ..
 have hmp:(f.pg.map encP).length=f.pg.length:=List.length_map ..
 refine aA ?_;have hl:=zV f p h1 h2
 rcases zCy f p with e|⟨i,e,hA⟩
 ·refine zAa hl (aW ?_);refine zDr (by simp [e]) (aW ?_);exact ret_of rfl (by rw [zBr,if_pos e];rfl)
 have hi:=hA.hi;have hip:=hA.hp;have hl8:=hA.right.ck.most;have hlen:=hA.right.len;have hpr:=pgR_out.1 hA.pgr;rw [e] at hl;refine zAa (d:=.tup [.int .i64 i,.int .i64 0]) hl (aW ?_);refine zAd (by omega) (w0 ?_);refine zAc (x:=encF f.fr[i]) (by simp [hi]) (aW ?_)
 refine bcase_p (fun g1=>?_) (fun g1=>?_)<;>conv=>whnf
 ·refine aA ?_;exact ret_of rfl (by simp only [zBr,e,Int.toNat_natCast,zCg hi];rw [if_neg (by decide),if_pos (by exact g1)];rfl)
 refine aA ?_
 refine bcase_p (fun g2=>?_) (fun g2=>?_)<;>conv=>whnf
 ·refine aA ?_;exact ret_of rfl (by simp only [zBr,e,Int.toNat_natCast,zCg hi];rw [if_neg (by decide),if_neg (by exact g1),if_pos (by omega)];rfl)
 refine aA ?_;refine zAd (by omega) (w0 ?_);refine zAc (x:=encP f.pg[i]) (by simp [hip]) (aW ?_)
 refine bcase_p (fun g3=>?_) (fun g3=>?_)<;>conv=>whnf
 ·refine aA ?_;exact ret_of rfl (by simp only [zBr,e,Int.toNat_natCast,zCg hi,zDq hip];rw [if_neg (by decide),if_neg (by exact g1),if_neg (by omega),if_pos (by exact g3)];rfl)
 refine aA ?_;refine zAa (Dt.mark_ok f.dt p now h2) (aW ?_)
 refine bcase_n (fun g4=>?_) (fun g4=>?_)<;>conv=>whnf
 ·refine aA ?_;exact ret_of rfl (by simp only [zBr,e,Int.toNat_natCast,zCg hi,zDq hip];rw [if_neg (by decide),if_neg (by exact g1),if_neg (by omega),if_neg (by exact g3),if_pos (by exact g4)];rfl)
 refine aA ?_;refine zKh (zL f (by omega) (by omega)) (show 2<=8 by decide) (aW ?_);refine zAd (by omega) (w0 ?_);refine zAc (x:=encP f.pg[i]) (by simp [hip]) (aW ?_);refine zAd (by show i<(List.set _ _ _).length;rw [List.length_set];omega) (w0 ?_);refine zAc (x:=[.int .i64 f.pg[i].1,.int .i64 f.pg[i].2.1,.str b]) (by rw [List.getElem?_set_self (by omega)];rfl) (aW ?_);refine zAd (by show i<(List.set _ _ _).length;rw [List.length_set];omega) (w0 ?_);refine zAc (x:=[.int .i64 f.pg[i].1,.int .i64 f.pg[i].2.1,.str b]) (by rw [List.getElem?_set_self (by omega)];rfl) (aW ?_);refine ret_of rfl ?_;show D.tup [.agg [_,_,_,.lst (((f.pg.map encP).set i _).set i _),_],_]=_;rw [List.set_set];have k1:(f.pg.map encP).set i (encP (wrPg f.pg[i] b))=(f.pg.set i (wrPg f.pg[i] b)).map encP:=z1n f.pg i _;simp only [zBr,e,Int.toNat_natCast,zCg hi,zDq hip];rw [if_neg (by decide),if_neg (by exact g1),if_neg (by omega),if_neg (by exact g3),if_neg (by simpa using g4)];exact congrArg (fun q=>D.tup [.agg [.lst (f.fr.map encF),.int .i64 f.hand,zCe f.tb,.lst q,zCe (Dt.markG f.dt p now).1],.int .i64 0]) k1
def bad (f:FX) (p:Pg) (now:Int):Prop:=¬zHm f\/pgR p=false\/now<0\/2147483647<now
noncomputable def inS (f:FX) (p:Pg) (i:Nat):FX:=⟨f.fr.set i (p.1,1,true),f.hand,(Tb.putS f.tb p.1 i).1,f.pg.set i p,f.dt⟩
open Classical in
noncomputable def zGn (f:FX) (p:Pg) (now:Int) (fresh:Bool):FX×Int:=
 if bad f p now then (f,1)
 else if (Tb.findS f.tb p.1).2=true then (f,4)
 else if (zMd f.fr).2=false then (f,7)
 else if (Tb.putS f.tb p.1 (zMd f.fr).1.toNat).2≠0 then (f,(Tb.putS f.tb p.1 (zMd f.fr).1.toNat).2)
 else if fresh=true then (if (Dt.markG f.dt p.1 now).2≠0 then (f,(Dt.markG f.dt p.1 now).2) else ({inS f p (zMd f.fr).1.toNat with dt:=(Dt.markG f.dt p.1 now).1},0))
 else (inS f p (zMd f.fr).1.toNat,0)
theorem zGz (l:List Fr):(zMd l=(0,false) /\ ∀ i (h:i<l.length),l[i].1≠0) \/ ∃ i:Nat,zMd l=((i:Int),true) /\ ∃ h:i<l.length,l[i].1=0:=by
 unfold zMd
 rcases freeAt_lt (l:=l) (k:=0) with ⟨h1,h2⟩|⟨i,h1,h2,h3⟩
 ·exact .inl ⟨if_pos h1,h2⟩
 ·rw [Nat.zero_add] at h1;exact .inr ⟨i,by rw [if_neg (by omega),h1],h2,h3⟩
theorem fsEq {a a' b b':List (List D)} {h t d e:D} (h1:a=a') (h2:b=b'):D.tup [.agg [.lst a,h,t,.lst b,d],e]=D.tup [.agg [.lst a',h,t,.lst b',d],e]:=by rw [h1,h2]
theorem yTy (f:FX) (p:Pg) (now:Int) (fresh:Bool) (h1:f.tb.length<=1000000) (h2:f.dt.length<=1000000):
  zAi Tryz.prog 238 [zGk f,.agg (encP p),.int .i64 now,.bool fresh] (.tup [zGk (zGn f p now fresh).1,.int .i64 (zGn f p now fresh).2]):=by
 refine zAe Tryz.func238 4 rfl (by kernel_rfl) (w0 ?_)
 have hmf:(f.fr.map encF).length=f.fr.length:=List.length_map ..
 have hmp:(f.pg.map encP).length=f.pg.length:=List.length_map ..
 have hB (hb:bad f p now):zGn f p now fresh=(f,1):=if_pos hb;refine aA ?_;have hr:=zKu f h1 h2
 cases hR:zKs f with
 |false=>
  rw [hR] at hr;refine zAa hr (aW ?_);exact ret_of rfl (by rw [hB (.inl (zKt.1 hR))];rfl)
 |true=>
 rw [hR] at hr;refine zAa hr (aW ?_);have hr:=pageRight_ok p
 cases hP:pgR p with
 |false=>
  rw [hP] at hr;refine zAa hr (aW ?_);exact ret_of rfl (by rw [hB (.inr (.inl hP))];rfl)
 |true=>
 rw [hP] at hr;refine zAa hr (aW ?_)
 refine bcase_p (fun g1=>?_) (fun g1=>?_)<;>conv=>whnf
 ·refine aA ?_;exact ret_of rfl (by rw [hB (.inr (.inr (.inl g1)))];rfl)
 refine aA ?_
 refine bcase_p (fun g2=>?_) (fun g2=>?_)<;>conv=>whnf
 ·refine aA ?_;exact ret_of rfl (by rw [hB (.inr (.inr (.inr g2)))];rfl)
 have hnb:¬bad f p now:=fun h=>by
  rcases h with h|h|h|h
  ·exact h (zHb.1 hR)
  ·rw [hP] at h;cases h
  ·exact g1 h
  ·exact g2 h
 have hF:=zHb.1 hR;have hl8:=hF.ck.most;have hlen:=hF.len;refine aA ?_;have hr:=zZr f p.1 h1
 cases hq:(Tb.findS f.tb p.1).2 with
 |true=>
  rw [hq] at hr;refine zAa hr (aW ?_);exact ret_of rfl (by rw [zGn,if_neg hnb,if_pos hq];rfl)
 |false=>
 rw [hq] at hr;refine zAa hr (aW ?_);have hr:=zRs f (by omega)
 rcases zGz f.fr with ⟨e,hno⟩|⟨i,e,hi,hz⟩
 ·rw [e] at hr;refine zAa (d:=.tup [.int .i64 0,.bool false]) hr (aW ?_);exact ret_of rfl (by rw [zGn,if_neg hnb,if_neg (by simp [hq]),if_pos (by rw [e])];rfl)
 rw [e] at hr;refine zAa (d:=.tup [.int .i64 i,.bool true]) hr (aW ?_);refine zKh (zL f (by omega) (by omega)) (show 2<=8 by decide) (aW ?_);refine zAd (by omega) (w0 ?_);refine zAc (x:=encF f.fr[i]) (by simp [hi]) (aW ?_)
 have hip:i<f.pg.length:=by omega
 refine zAd (by omega) (w0 ?_);refine zAc (x:=encP f.pg[i]) (by simp [hip]) (aW ?_)
 have hL:zGn f p now fresh=if (Tb.putS f.tb p.1 i).2≠0 then (f,(Tb.putS f.tb p.1 i).2)
   else if fresh=true then (if (Dt.markG f.dt p.1 now).2≠0 then (f,(Dt.markG f.dt p.1 now).2) else ({inS f p i with dt:=(Dt.markG f.dt p.1 now).1},0))
   else (inS f p i,0):=by
  rw [zGn,if_neg hnb,if_neg (by simp [hq]),if_neg (by rw [e];simp),e];rfl
 rw [hL];have k1:(f.fr.map encF).set i (encF (p.1,1,true))=(f.fr.set i (p.1,1,true)).map encF:=zTe f.fr i _;have k2:(f.pg.map encP).set i (encP p)=(f.pg.set i p).map encP:=z1n f.pg i p;refine zAa (Tb.put_ok f.tb p.1 i h1) (aW ?_)
 refine bcase_n (fun g4=>?_) (fun g4=>?_)<;>conv=>whnf
 ·refine aA ?_;exact ret_of rfl (by rw [if_pos g4];rfl)
 refine aA ?_;rw [if_neg (by simpa using g4)]
 cases fresh with
 |false=>
  refine aA ?_;refine ret_of rfl ?_;rw [if_neg (by decide)];exact fsEq k1 k2
 |true=>
  rw [if_pos rfl];refine aA ?_;refine zAa (Dt.mark_ok f.dt p.1 now h2) (aW ?_)
  refine bcase_n (fun g5=>?_) (fun g5=>?_)<;>conv=>whnf
  ·refine aA ?_;exact ret_of rfl (by rw [if_pos g5];rfl)
  ·refine aA ?_;refine ret_of rfl ?_;rw [if_neg (by simpa using g5)];exact fsEq k1 k2
open Classical in
noncomputable def swpG (l:List Fr) (a:Nat):Option (List Fr×Nat):=if h:∃ q:List Fr×Nat,Swp l a q.1 q.2 then some (Classical.choose h) else none
def zIa (f:FX) (q:List Fr×Nat):FX:=⟨q.1,(((q.2+1)%f.fr.length:Nat):Int),f.tb,f.pg,f.dt⟩
open Classical in
noncomputable def zBy (f:FX):FX×Pg×Bool×Int:=
 if ¬zHm f then (f,noPg,false,1)
 else if (zMd f.fr).2=true then (f,noPg,false,0)
 else match swpG f.fr f.hand.toNat with
  |none=>(f,noPg,false,6)
  |some q=>if (Dt.sinceG f.dt (atP f.pg q.2).1).2=true then (zIa f q,atP f.pg q.2,true,0) else (relS (zIa f q) q.2 (atP f.pg q.2).1,atP f.pg q.2,false,0)
theorem zYu {l:List Fr} {h:Int} (hR:zNh l h):(swpG l h.toNat=none/\looseAt l 0<0) \/ ∃ q:List Fr×Nat,swpG l h.toNat=some q/\Swp l h.toNat q.1 q.2:=by
 unfold swpG
 by_cases hx:∃ q:List Fr×Nat,Swp l h.toNat q.1 q.2
 ·exact .inr ⟨_,dif_pos hx,Classical.choose_spec hx⟩
 ·refine .inl ⟨dif_neg hx,?_⟩
  rcases looseAt_lt (l:=l) (k:=0) with h1|⟨i,h1,hi,h2⟩
  ·exact h1
  ·obtain ⟨l2,a2,hs⟩:=yRo (j:=i) (mSw i l h.toNat+1) (l:=l) (a:=h.toNat) (by have:=hR.h0;have:=hR.h1;omega) hi h2 (by omega);exact absurd ⟨(l2,a2),hs⟩ hx
theorem yVb (f:FX) (h1:f.tb.length<=1000000) (h2:f.dt.length<=1000000):
  zAi Tryz.prog 275 [zGk f] (.tup [zGk (zBy f).1,.agg (encP (zBy f).2.1),.bool (zBy f).2.2.1,.int .i64 (zBy f).2.2.2]):=by
 refine zAe Tryz.func275 1 rfl (by kernel_rfl) (w0 ?_)
 have hmf:(f.fr.map encF).length=f.fr.length:=List.length_map ..
 have hmp:(f.pg.map encP).length=f.pg.length:=List.length_map ..
 refine aA ?_;have hr:=zKu f h1 h2
 cases hR:zKs f with
 |false=>
  rw [hR] at hr;refine zAa hr (aW ?_);exact ret_of rfl (by rw [zBy,if_pos (zKt.1 hR)];rfl)
 |true=>
 rw [hR] at hr;refine zAa hr (aW ?_);have hF:=zHb.1 hR;have hl1:=hF.ck.one;have hl8:=hF.ck.most;have hlen:=hF.len;have hr:=zRs f (by omega)
 rcases zGz f.fr with ⟨e,hno⟩|⟨i,e,hi,hz⟩
 rotate_left
 ·rw [e] at hr;refine zAa (d:=.tup [.int .i64 i,.bool true]) hr (aW ?_);exact ret_of rfl (by rw [zBy,if_neg (by simpa using hF),if_pos (by rw [e])];rfl)
 rw [e] at hr;refine zAa (d:=.tup [.int .i64 0,.bool false]) hr (aW ?_)
 rcases zYu hF.ck with ⟨eq,hlo⟩|⟨q,eq,hs⟩
 ·refine zAa (yPm f.fr f.hand (.inr hlo) (by omega)) (aW ?_);exact ret_of rfl (by rw [zBy,if_neg (by simpa using hF),if_neg (by rw [e];simp),eq];rfl)
 have hh:((f.hand.toNat:Nat):Int)=f.hand:=by have:=hF.ck.h0;omega
 have hsw:=yLp f.fr f.hand.toNat (by rw [hh];exact hF.ck) hs;rw [hh] at hsw;obtain ⟨o1,o2,o3,o4,o5⟩:=hs.out
 have hip:q.2<f.pg.length:=by omega
 refine zAa hsw (aW ?_);refine zAd (by omega) (w0 ?_);refine zAc (x:=encP f.pg[q.2]) (by simp [hip]) (aW ?_);have hr:=Dt.since_ok f.dt f.pg[q.2].1 h2
 cases hd:(Dt.sinceG f.dt f.pg[q.2].1).2 with
 |true=>
  rw [hd] at hr;refine zAa hr (aW ?_);refine ret_of rfl ?_;rw [zBy,if_neg (by simpa using hF),if_neg (by rw [e];simp),eq];simp only [zDq hip];rw [if_pos hd];rfl
 |false=>
  rw [hd] at hr;refine zAa hr (aW ?_);refine zAa (zYm (zIa f q) q.2 f.pg[q.2].1 (by show q.2<q.1.length;exact o4) hip rfl (by show q.1.length<=_;omega) (by show f.pg.length<=_;omega) h1 h2) (aW ?_);refine ret_of rfl ?_;rw [zBy,if_neg (by simpa using hF),if_neg (by rw [e];simp),eq];simp only [zDq hip];rw [if_neg (by rw [hd];decide)];rfl
theorem new_ok (n:Int):zAi Tryz.prog 127 [.int .i64 n] (.tup [zGk (if n<1\/8<n then noFS else zK n.toNat),.int .i64 (if n<1\/8<n then 1 else 0)]):=by
 refine zAe Tryz.func127 1 rfl (by kernel_rfl) (aW ?_)
 refine bcase_p (fun g1=>?_) (fun g1=>?_)<;>conv=>whnf
 ·refine aA ?_;exact ret_of rfl (by rw [if_pos (.inl g1),if_pos (.inl g1)];rfl)
 refine aA ?_
 refine bcase_p (fun g2=>?_) (fun g2=>?_)<;>conv=>whnf
 ·refine aA ?_;exact ret_of rfl (by rw [if_pos (.inr g2),if_pos (.inr g2)];rfl)
 refine aA ?_;obtain ⟨m,rfl⟩:∃ m:Nat,n=m:=⟨n.toNat,by omega⟩;rw [if_neg (by omega),if_neg (by omega)];refine aA ?_;refine zAj 8 100 (by omega) (by decide) (by decide) (by decide) (aW ?_);refine zAa Tb.new_ok (aW ?_);refine aA ?_;refine zAj 8 100 (by omega) (by decide) (by decide) (by decide) (aW ?_);refine ret_of rfl ?_;rw [show zK (m:Int).toNat=zK m from rfl]
 have k1:List.replicate (m:Int).toNat (T 148).zero=(List.replicate m (0,0,false)).map encF:=by rw [List.map_replicate];rfl
 have k2:List.replicate (m:Int).toNat (T 57).zero=(List.replicate m noPg).map encP:=by rw [List.map_replicate];rfl
 exact fsEq k1 k2
theorem z8h {l:List Fr} {i:Nat} {x:Fr} (h:i<l.length):nFr (l.set i x)+(if l[i].1=0 then 0 else 1)=nFr l+(if x.1=0 then 0 else 1):=by
 have hp:(if l[i].1=0 then 0 else 1) <=nFr l:=by
  by_cases e:l[i].1=0
  ·rw [if_pos e];exact Nat.zero_le _
  ·rw [if_neg e];exact List.countP_pos_iff.2 ⟨l[i],List.getElem_mem h,by simp [e]⟩
 have e0:nFr (l.set i x)=nFr l-(if (!decide (l[i].1=0))=true then 1 else 0)+(if (!decide (x.1=0))=true then 1 else 0):=by
  unfold nFr;exact List.countP_set h
 rw [e0];generalize nFr l=n at hp⊢
 by_cases e:l[i].1=0<;>by_cases e2:x.1=0<;>simp only [e,e2,if_true,if_false,decide_true,decide_false,Bool.not_true,Bool.not_false,Bool.false_eq_true] at hp⊢<;>omega
theorem yGv {l:List Fr} {h:Int} {i:Nat} {x:Fr} (hR:zNh l h) (hx:frOk x=true):zNh (l.set i x) h:=by
 refine ⟨by rw [List.length_set];exact hR.one,by rw [List.length_set];exact hR.most,hR.h0,by rw [List.length_set];exact hR.h1,fun j hj=>?_⟩;rw [List.getElem_set]
 split
 ·exact hx
 ·exact hR.all j (by rw [List.length_set] at hj;exact hj)
theorem FM.pins {f:FX} {p:Int} {i:Nat} {x:Fr} (hA:AtF f p i) (hx:frOk x=true) (h1:x.1=p):FM (zRm f i x):=by
 have h:=hA.right;have hi:=hA.hi;show FM ⟨f.fr.set i x,f.hand,f.tb,f.pg,f.dt⟩;refine ⟨yGv h.ck hx,h.tb,h.dt,by show f.pg.length=(f.fr.set i x).length;rw [List.length_set];exact h.len,fun j hj hj1 hj2=>?_,?_,h.dirty⟩
 ·show ((f.fr.set i x)[j].1=0/\ (f.fr.set i x)[j].2.1=0/\f.pg[j]=noPg) \/ (1<= (f.fr.set i x)[j].1/\ (f.fr.set i x)[j].1=f.pg[j].1/\pgR f.pg[j]=true/\Tb.MemS f.tb ((f.fr.set i x)[j].1,(j:Int)))
  have hj':j<f.fr.length:=by have:j<(f.fr.set i x).length:=hj;rw [List.length_set] at this;exact this
  by_cases e:i=j
  ·subst e;rw [List.getElem_set_self,h1];exact .inr ⟨hA.p1,hA.pg.symm,hA.pgr,hA.mem⟩
  ·rw [List.getElem_set_ne e];exact h.place j hj' hj' hj2
 ·show Tb.cntS f.tb=nFr (f.fr.set i x);have:=z8h (x:=x) hi;rw [if_neg (by rw [hA.fr];have:=hA.p1;omega),if_neg (by rw [h1];have:=hA.p1;omega)] at this
  rw [h.cnt];omega
theorem FM.wrote {f:FX} {p:Int} {i:Nat} {x:Pg} {l:List (Int×Int)} (hA:AtF f p i) (hx:pgR x=true) (h1:x.1=p) (hl:Dt.rightB l=true) (hm:∀ y∈l,y∈f.dt\/y.1=p):FM ⟨f.fr,f.hand,f.tb,f.pg.set i x,l⟩:=by
 have h:=hA.right;refine ⟨h.ck,h.tb,hl,by show (f.pg.set i x).length=f.fr.length;rw [List.length_set];exact h.len,fun j hj hj1 hj2=>?_,h.cnt,fun y hy=>?_⟩
 ·show (f.fr[j].1=0/\f.fr[j].2.1=0/\ (f.pg.set i x)[j]=noPg) \/ (1<=f.fr[j].1/\f.fr[j].1=(f.pg.set i x)[j].1/\pgR (f.pg.set i x)[j]=true/\Tb.MemS f.tb (f.fr[j].1,(j:Int)))
  have hj':j<f.pg.length:=by have:j<(f.pg.set i x).length:=hj2;rw [List.length_set] at this;exact this
  by_cases e:i=j
  ·subst e;refine .inr ?_;rw [List.getElem_set_self];exact ⟨by rw [hA.fr];exact hA.p1,by rw [hA.fr,h1],hx,by rw [hA.fr];exact hA.mem⟩
  ·rw [List.getElem_set_ne e];exact h.place j hj hj hj'
 ·rcases hm y hy with q|q
  ·exact h.dirty y q
  ·exact ⟨_,by rw [q];exact hA.mem⟩
theorem FM.dirt {f:FX} {l:List (Int×Int)} (h:FM f) (hl:Dt.rightB l=true) (hm:∀ y∈l,y∈f.dt):FM ⟨f.fr,f.hand,f.tb,f.pg,l⟩:=
 ⟨h.ck,h.tb,hl,h.len,h.place,h.cnt,fun y hy=>h.dirty y (hm y hy)⟩
theorem zJd {l:List (Int×Int)} {p:Int} (h:Dt.rightB l=true):Dt.rightB (Dt.cleanG l p).1=true/\ ∀ x,x∈(Dt.cleanG l p).1↔x∈l/\x.1≠p:=by
 rw [Dt.clean_right h]
 by_cases e:0<=Dt.placeG l p 0
 ·rw [if_pos e];exact ⟨Dt.right_filter h _,fun x=>by simp [List.mem_filter]⟩
 ·rw [if_neg e];exact ⟨h,fun x=>⟨fun hx=>⟨hx,fun e2=>e (Dt.placeG_mem.2 ⟨x,hx,e2⟩)⟩,fun hx=>hx.1⟩⟩
theorem rel_tb {f:FX} {p:Int} {i:Nat} (hA:AtF f p i):∃ l',Tb.delS f.tb p=(l',0) /\Tb.RT l'/\Tb.Cut l'/\Tb.cntS l'+1=Tb.cntS f.tb/\ ∀ x,Tb.freeB x=false->(Tb.MemS l' x↔x.1≠p/\Tb.MemS f.tb x):=
 Tb.del_gen hA.right.tb (ySs hA.right.tb (by have:=hA.right.nfr;omega)) hA.p1 hA.mem
theorem FM.rel {f:FX} {p:Int} {i:Nat} (hA:AtF f p i):FM (relS f i p):=by
 have h:=hA.right;have hi:=hA.hi;have hp1:=hA.p1;obtain ⟨l',e1,e2,_,e3,e4⟩:=rel_tb hA;obtain ⟨c1,c2⟩:=zJd (p:=p) h.dt
 have er:relS f i p=⟨f.fr.set i (0,0,false),f.hand,l',f.pg.set i noPg,(Dt.cleanG f.dt p).1⟩:=by rw [relS,e1]
 rw [er];refine ⟨yGv h.ck (by decide),e2,c1,by simp [h.len],fun j hj hj1 hj2=>?_,?_,fun y hy=>?_⟩
 ·show ((f.fr.set i (0,0,false))[j].1=0/\ (f.fr.set i (0,0,false))[j].2.1=0/\ (f.pg.set i noPg)[j]=noPg) \/ (1<= (f.fr.set i (0,0,false))[j].1/\ (f.fr.set i (0,0,false))[j].1=(f.pg.set i noPg)[j].1/\pgR (f.pg.set i noPg)[j]=true/\Tb.MemS l' ((f.fr.set i (0,0,false))[j].1,(j:Int)))
  have hj':j<f.fr.length:=by have:j<(f.fr.set i (0,0,false)).length:=hj;rw [List.length_set] at this;exact this
  have hj2':j<f.pg.length:=by rw [h.len];exact hj'
  by_cases e:i=j
  ·subst e;rw [List.getElem_set_self,List.getElem_set_self];exact .inl ⟨rfl,rfl,rfl⟩
  ·rw [List.getElem_set_ne e,List.getElem_set_ne e]
   rcases h.place j hj' hj' hj2' with q|⟨q1,q2,q3,q4⟩
   ·exact .inl q
   ·refine .inr ⟨q1,q2,q3,(e4 _ (Tb.page_nonfree (x:=(f.fr[j].1,(j:Int))) q1)).2 ⟨fun e5=>e ?_,q4⟩⟩;exact h.uni hi hj' (by rw [hA.fr];omega) (by rw [hA.fr];exact e5.symm)
 ·show Tb.cntS l'=nFr (f.fr.set i (0,0,false));have:=z8h (x:=(0,0,false)) hi;rw [if_neg (by rw [hA.fr];omega)] at this;simp at this;have:=h.cnt;omega
 ·obtain ⟨y1,y2⟩:=(c2 y).1 hy;obtain ⟨k,hk⟩:=h.dirty y y1;refine ⟨k,(e4 _ ?_).2 ⟨y2,hk⟩⟩;obtain ⟨q,hq,rfl⟩:=List.mem_iff_getElem.1 y1;exact Tb.page_nonfree (x:=(f.dt[q].1,k)) ((Dt.rightB_out h.dt).2 q hq).2.1
theorem yTk {f:FX} {p:Int} {i:Nat} (h:FM f) (hp1:1<=p) (hp2:p<=16) (hi:i<f.fr.length) (hf:Tb.findS f.tb p=(0,false)):
  ∃ l',Tb.putS f.tb p i=(l',0) /\Tb.RT l'/\Tb.cntS l'=Tb.cntS f.tb+1/\ ∀ x,Tb.freeB x=false->(Tb.MemS l' x↔x=(p,(i:Int)) \/Tb.MemS f.tb x):=by
 have hl8:=h.ck.most;obtain ⟨l',k,_,_,_,e1,e2,_,e3,e4⟩:=Tb.put_gen (p:=p) (f:=(i:Int)) h.tb (Tb.fits_out.2 ⟨hp1,by omega,by omega,by omega⟩) (fun j hj e=>(yEa h.tb hp1).1 (by rw [hf]) _ ⟨j,hj,Prod.ext e rfl⟩) (by have:=h.nfr;omega);exact ⟨l',e1,e2,e3,e4⟩
theorem FM.loaded {f:FX} {p:Pg} {i:Nat} {l:List (Int×Int)} (h:FM f) (hp:pgR p=true) (hi:i<f.fr.length) (hz:f.fr[i].1=0) (hf:Tb.findS f.tb p.1=(0,false)) (hl:Dt.rightB l=true) (hm:∀ y∈l,y∈f.dt\/y.1=p.1):
  FM {inS f p i with dt:=l} /\AtF {inS f p i with dt:=l} p.1 i:=by
 have hpr:=pgR_out.1 hp;obtain ⟨l',e1,e2,e3,e4⟩:=yTk h hpr.1 hpr.2.1 hi hf
 have hip:i<f.pg.length:=by rw [h.len];exact hi
 have er:({inS f p i with dt:=l}:FX)=⟨f.fr.set i (p.1,1,true),f.hand,l',f.pg.set i p,l⟩:=by rw [inS,e1]
 have hnf:Tb.freeB (p.1,(i:Int))=false:=Tb.page_nonfree (x:=(p.1,(i:Int))) hpr.1
 have hM:FM {inS f p i with dt:=l}:=by
  rw [er];refine ⟨yGv h.ck (zBq.2 ⟨by show 0<=p.1;omega,by show p.1<=16;omega,show (0:Int) <=1 by decide,show (1:Int) <=2147483647 by decide⟩),e2,hl,by simp [h.len],fun j hj hj1 hj2=>?_,?_,fun y hy=>?_⟩
  ·show ((f.fr.set i (p.1,1,true))[j].1=0/\ (f.fr.set i (p.1,1,true))[j].2.1=0/\ (f.pg.set i p)[j]=noPg) \/ (1<= (f.fr.set i (p.1,1,true))[j].1/\ (f.fr.set i (p.1,1,true))[j].1=(f.pg.set i p)[j].1/\pgR (f.pg.set i p)[j]=true/\Tb.MemS l' ((f.fr.set i (p.1,1,true))[j].1,(j:Int)))
   have hj':j<f.fr.length:=by have:j<(f.fr.set i (p.1,1,true)).length:=hj;rw [List.length_set] at this;exact this
   have hj2':j<f.pg.length:=by rw [h.len];exact hj'
   by_cases e:i=j
   ·subst e;rw [List.getElem_set_self,List.getElem_set_self];exact .inr ⟨hpr.1,rfl,hp,(e4 _ hnf).2 (.inl rfl)⟩
   ·rw [List.getElem_set_ne e,List.getElem_set_ne e]
    rcases h.place j hj' hj' hj2' with q|⟨q1,q2,q3,q4⟩
    ·exact .inl q
    ·exact .inr ⟨q1,q2,q3,(e4 _ (Tb.page_nonfree (x:=(f.fr[j].1,(j:Int))) q1)).2 (.inr q4)⟩
  ·show Tb.cntS l'=nFr (f.fr.set i (p.1,1,true));have:=z8h (x:=(p.1,1,true)) hi;rw [if_pos hz,if_neg (show ¬p.1=0 by omega)] at this;have:=h.cnt;omega
  ·rcases hm y hy with q|q
   ·obtain ⟨k,hk⟩:=h.dirty y q;obtain ⟨q',hq,rfl⟩:=List.mem_iff_getElem.1 q;exact ⟨k,(e4 _ (Tb.page_nonfree (x:=(f.dt[q'].1,k)) ((Dt.rightB_out h.dt).2 q' hq).2.1)).2 (.inr hk)⟩
   ·exact ⟨i,by rw [q];exact (e4 _ hnf).2 (.inl rfl)⟩
 exact ⟨hM,zEd hM (by omega) (by show i<(f.fr.set i _).length;rw [List.length_set];exact hi) (by simp [inS])⟩
theorem zLu {l:List (Int×Int)} {p t:Int} (h:(Dt.markG l p t).2=0):Dt.rightB (Dt.markG l p t).1=true/\ (∀ y∈(Dt.markG l p t).1,y∈l\/y.1=p) /\ (∀ y∈l,y∈(Dt.markG l p t).1) /\ ∃ y∈(Dt.markG l p t).1,y.1=p:=by
 refine ⟨Dt.mark_keeps h,?_⟩;unfold Dt.markG at h⊢
 split
 ·rename_i h1;rw [if_pos h1] at h;cases h
 ·rename_i h1;rw [if_neg h1] at h
  split
  ·rename_i h2;rw [if_pos h2] at h;cases h
  ·rename_i h2;rw [if_neg h2] at h
   split
   ·rename_i h3;obtain ⟨x,hx,e⟩:=Dt.placeG_mem.1 h3;exact ⟨fun y hy=>.inl hy,fun y hy=>hy,x,hx,e⟩
   ·refine ⟨fun y hy=>?_,fun y hy=>List.mem_append_left _ hy,(p,t),by simp,rfl⟩
    rcases List.mem_append.1 hy with q|q
    ·exact .inl q
    ·exact .inr (by simp at q;rw [q])
theorem FM.swp {f:FX} {q:List Fr×Nat} (h:FM f) (hs:Swp f.fr f.hand.toNat q.1 q.2):FM (zIa f q):=by
 obtain ⟨o1,o2,o3,o4,o5⟩:=hs.out;have hl1:=h.ck.one
 have hcnt:nFr q.1=nFr f.fr:=by
  rw [<-zMt,<-zMt]
  have:zFl q.1=zFl f.fr:=by
   have:∀ (a b:List Fr),a.length=b.length->(∀ i (hi:i<b.length) (hi2:i<a.length),a[i].1=b[i].1)->zFl a=zFl b:=by
    intro a
    induction a with
    |nil=>intro b hb _;cases b with
     |nil=>rfl
     |cons _ _=>simp at hb
    |cons x r ih=>
     intro b hb hx
     cases b with
     |nil=>simp at hb
     |cons y s=>
      have e0:x.1=y.1:=hx 0 (by simp) (by simp)
      have ih':=ih s (by simpa using hb) fun i hi hi2=>hx (i+1) (by simpa using hi) (by simpa using hi2)
      unfold zFl at ih'⊢
      by_cases hy:y.1=0
      ·rw [List.filter_cons_of_neg (by simp [e0,hy]),List.filter_cons_of_neg (by simp [hy])];exact ih'
      ·rw [List.filter_cons_of_pos (by simp [e0,hy]),List.filter_cons_of_pos (by simp [hy]),List.map_cons,List.map_cons,ih',e0]
   exact this _ _ o1 fun i hi hi2=>(o3 i hi hi2).1
  rw [this]
 refine ⟨⟨by show 1<=q.1.length;omega,by show q.1.length<=8;have:=h.ck.most;omega,Int.natCast_nonneg _,?_,fun j hj=>?_⟩,h.tb,h.dt,by show f.pg.length=q.1.length;rw [h.len,o1],fun j hj hj1 hj2=>?_,by show Tb.cntS f.tb=nFr q.1;rw [hcnt];exact h.cnt,h.dirty⟩
 ·show (((q.2+1)%f.fr.length:Nat):Int)<(q.1.length:Int);have:=Nat.mod_lt (q.2+1) (show 0<f.fr.length by omega);omega
 ·have hj':j<q.1.length:=hj;show frOk q.1[j]=true;have h3:=o3 j (by omega) hj';have:=zBq.1 (h.ck.all j (by omega));exact zBq.2 (by omega)
 ·have hj':j<q.1.length:=hj1;have h3:=o3 j (by omega) hj';show (q.1[j].1=0/\q.1[j].2.1=0/\f.pg[j]=noPg) \/ (1<=q.1[j].1/\q.1[j].1=f.pg[j].1/\pgR f.pg[j]=true/\Tb.MemS f.tb (q.1[j].1,(j:Int)));rw [h3.1,h3.2];exact h.place j (by omega) (by omega) hj2
theorem FM.new {n:Nat} (h1:1<=n) (h8:n<=8):FM (zK n):=by
 refine ⟨⟨by simpa [zK] using h1,by simpa [zK] using h8,show (0:Int) <=0 by decide,by simp [zK];omega,fun i hi=>by simp [zK];decide⟩,Tb.new_rt,rfl,by simp [zK],fun i hi hi1 hi2=>.inl (by simp [zK]),?_,fun x hx=>by cases hx⟩;show Tb.cntS (List.replicate 16 (0,0))=nFr (List.replicate n (0,0,false))
 have:nFr (List.replicate n (0,0,false))=0:=by
  unfold nFr;rw [List.countP_eq_zero];intro x hx;rw [List.eq_of_mem_replicate hx]
  decide
 rw [this];decide
theorem FM.find_cases {f:FX} (h:FM f) {q:Int} (hq:q≠0):(Tb.findS f.tb q=(0,false) /\ ∀ i (hi:i<f.fr.length),f.fr[i].1≠q) \/ ∃ i:Nat,Tb.findS f.tb q=((i:Int),true) /\AtF f q i:=by
 rcases zYb f q with ⟨h1,_⟩|⟨_,e,_⟩|⟨i,e,_,hA⟩
 ·exact absurd (zGg.2 h) h1
 ·refine .inl ⟨e,fun i hi e2=>?_⟩;have hA:=zEd h hq hi e2;rw [(zCa h.tb).2 ⟨hA.p1,hA.mem⟩] at e
  cases e
 ·exact .inr ⟨i,e,hA⟩
theorem findF_at {f:FX} {p:Int} {i:Nat} (h:AtF f p i):zFh f p=((i:Int),true):=by
 rw [zFh,if_pos (zGg.2 h.right)];exact (zCa h.right.tb).2 ⟨h.p1,h.mem⟩
theorem zCp {f:FX} {p:Int} (h:FM f) (hn:∀ i (hi:i<f.fr.length),f.fr[i].1≠p) (hp:p≠0):zFh f p=(0,false):=by
 rw [zFh,if_pos (zGg.2 h)]
 rcases h.find_cases hp with ⟨e,_⟩|⟨i,_,hA⟩
 ·exact e
 ·exact absurd hA.fr (hn i hA.hi)
theorem zDy {f:FX} (h:FM f):(∃ i,∃ hi:i<f.fr.length,f.fr[i].1=0/\zBy f=(f,noPg,false,0)) \/
  ((∀ i (hi:i<f.fr.length),f.fr[i].1≠0) /\ (∀ i (hi:i<f.fr.length),f.fr[i].2.1≠0) /\zBy f=(f,noPg,false,6)) \/
  ((∀ i (hi:i<f.fr.length),f.fr[i].1≠0) /\ ∃ (l:List Fr) (a:Nat) (p:Int) (hA:AtF f p a),Swp f.fr f.hand.toNat l a/\AtF (zIa f (l,a)) p a/\ (f.fr[a]'hA.hi).2.1=0/\
   zBy f=if (Dt.sinceG f.dt p).2=true then (zIa f (l,a),f.pg[a]'hA.hp,true,0) else (relS (zIa f (l,a)) a p,f.pg[a]'hA.hp,false,0)):=by
 have hF:=zGg.2 h
 rcases zGz f.fr with ⟨e,hno⟩|⟨i,e,hi,hz⟩
 rotate_left
 ·exact .inl ⟨i,hi,hz,by rw [zBy,if_neg (by simpa using hF),if_pos (by rw [e])]⟩
 refine .inr ?_
 rcases zYu h.ck with ⟨eq,hlo⟩|⟨⟨l,a⟩,eq,hs⟩
 ·exact .inl ⟨hno,fun i hi=>zYc hlo i hi,by rw [zBy,if_neg (by simpa using hF),if_neg (by rw [e];simp),eq]⟩
 refine .inr ⟨hno,l,a,?_⟩;obtain ⟨o1,o2,o3,o4,o5⟩:=hs.out;have hA:=zEd h (hno a o2) o2 rfl;have hM:=h.swp (q:=(l,a)) hs;have hA2:AtF (zIa f (l,a)) f.fr[a].1 a:=zEd hM (hno a o2) (by show a<l.length;exact o4) (o3 a o2 o4).1;refine ⟨f.fr[a].1,hA,hs,hA2,by rw [<-(o3 a o2 o4).2];exact o5,?_⟩;have hip:=hA.hp;rw [zBy,if_neg (by simpa using hF),if_neg (by rw [e];simp),eq];simp only [zDq hip];rw [hA.pg]
structure Act where
 kind:Int
 id:Int
 now:Int
 body:ByteArray
 p:Pg
def zDc (l:List Fr) (w:Nat->Int):Prop:=∀ q:Nat,1<=q->q<=16->(∃ i,∃ hi:i<l.length,l[i].1=(q:Int) /\w q=l[i].2.1) \/ ((∀ i (hi:i<l.length),l[i].1≠(q:Int)) /\w q=0)
theorem zDc.set {l:List Fr} {w w':Nat->Int} {i:Nat} {x:Fr} (h:zDc l w) (hi:i<l.length) (hu:∀ j (hj:j<l.length),l[j].1≠0->l[j].1=l[i].1->j=i)
  (h':∀ q:Nat,1<=q->q<=16->(x.1=(q:Int)->w' q=x.2.1) /\ (x.1≠(q:Int)->l[i].1=(q:Int)->w' q=0) /\ (x.1≠(q:Int)->l[i].1≠(q:Int)->w' q=w q)):zDc (l.set i x) w':=by
 intro q h1 h16;obtain ⟨a1,a2,a3⟩:=h' q h1 h16
 have hat:∀ j (hj:j<(l.set i x).length),(l.set i x)[j]=if i=j then x else l[j]'(by simpa using hj):=fun j hj=>by rw [List.getElem_set]
 by_cases e1:x.1=(q:Int)
 ·exact .inl ⟨i,by simpa using hi,by rw [hat,if_pos rfl];exact e1,by rw [hat,if_pos rfl];exact a1 e1⟩
 by_cases e2:l[i].1=(q:Int)
 ·refine .inr ⟨fun j hj e=>?_,a2 e1 e2⟩;rw [hat] at e
  by_cases e3:i=j
  ·rw [if_pos e3] at e;exact e1 e
  ·rw [if_neg e3] at e;exact e3 (hu j (by simpa using hj) (by rw [e];omega) (by rw [e,e2])).symm
 rcases h q h1 h16 with ⟨j,hj,e3,e4⟩|⟨e3,e4⟩
 ·have hne:i≠j:=fun e=>e2 (by subst e;exact e3)
  refine .inl ⟨j,by simpa using hj,?_,?_⟩
  ·rw [hat,if_neg hne];exact e3
  ·rw [hat,if_neg hne,a3 e1 e2];exact e4
 ·refine .inr ⟨fun j hj e=>?_,by rw [a3 e1 e2];exact e4⟩;rw [hat] at e
  by_cases e5:i=j
  ·rw [if_pos e5] at e;exact e1 e
  ·rw [if_neg e5] at e;exact e3 j (by simpa using hj) e
theorem zDc.same {l l':List Fr} {w:Nat->Int} (h:zDc l w) (hl:l'.length=l.length) (hs:∀ i (hi:i<l.length) (hi2:i<l'.length),l'[i].1=l[i].1/\l'[i].2.1=l[i].2.1):zDc l' w:=by
 intro q h1 h16
 rcases h q h1 h16 with ⟨j,hj,e3,e4⟩|⟨e3,e4⟩
 ·have:=hs j hj (by omega);exact .inl ⟨j,by omega,by rw [this.1];exact e3,by rw [this.2];exact e4⟩
 ·exact .inr ⟨fun j hj=>by rw [(hs j (by omega) hj).1];exact e3 j (by omega),e4⟩
theorem AtF.uni {f:FX} {p:Int} {i j:Nat} (h:AtF f p i) (hj:j<f.fr.length) (e:f.fr[j].1=p):j=i:=
 h.right.uni hj h.hi (by rw [e];have:=h.p1;omega) (by rw [e,h.fr])
theorem AtF.uniq {f:FX} {p:Int} {i:Nat} (h:AtF f p i):∀ j (hj:j<f.fr.length),f.fr[j].1≠0->f.fr[j].1=(f.fr[i]'h.hi).1->j=i:=fun j hj h0 e=>h.right.uni hj h.hi h0 e
theorem zDc.at {f:FX} {w:Nat->Int} {p:Int} {i:Nat} (h:zDc f.fr w) (hA:AtF f p i):w p.toNat=(f.fr[i]'hA.hi).2.1:=by
 have hp1:=hA.p1;have hp16:=hA.p16;have hi:=hA.hi
 rcases h p.toNat (by omega) (by omega) with ⟨j,hj,e1,e2⟩|⟨e1,_⟩
 ·have e1:f.fr[j].1=p:=by rw [e1];omega
  have:=hA.uni hj e1;subst this;exact e2
 ·exact absurd (hA.fr.trans (by omega:p=((p.toNat:Nat):Int))) (e1 i hA.hi)
def setW (w:Nat->Int) (p v:Int):Nat->Int:=fun q=>if q=p.toNat then v else w q
def zKz (w:Nat->Int) (a:Act) (e:Int):Nat->Int:=
 if e≠0 then w else if a.kind=1 then setW w a.id (w a.id.toNat+1) else if a.kind=2 then setW w a.id (w a.id.toNat-1) else if a.kind=6 then setW w a.p.1 1 else w
theorem z9c {w:Nat->Int} {p v:Int} {q:Nat} (h:p=(q:Int)):setW w p v q=v:=if_pos (by omega)
theorem z9d {w:Nat->Int} {p v:Int} {q:Nat} (hp:0<=p) (h:p≠(q:Int)):setW w p v q=w q:=if_neg (by omega)
structure Kept (f:FX) (w:Nat->Int) (a:Act) (r:FX×Int):Prop where
 fm:FM r.1
 pins:zDc r.1.fr (zKz w a r.2)
 id:r.2=0->a.kind=1\/a.kind=2->1<=a.id/\a.id<=16/\0<=w a.id.toNat/\w a.id.toNat<=2147483647
 pg:r.2=0->a.kind=6->1<=a.p.1/\a.p.1<=16
theorem Kept.none {f:FX} {w:Nat->Int} {a:Act} {e:Int} (h:FM f) (hw:zDc f.fr w) (he:e≠0):Kept f w a (f,e):=by
 refine ⟨h,?_,fun h=>absurd h he,fun h=>absurd h he⟩;show zDc f.fr (zKz w a e)
 rw [zKz,if_pos he];exact hw
theorem Kept.pin {f:FX} {w:Nat->Int} {a:Act} (h:FM f) (hw:zDc f.fr w) (hk:a.kind=1):Kept f w a (pinS f a.id):=by
 rcases zCy f a.id with e|⟨i,e,hA⟩
 ·rw [pinS,if_pos e];exact .none h hw e
 have hi:=hA.hi;have hp1:=hA.p1;have hfr:=zBq.1 (h.ck.all i hi);have hwa:=hw.at hA;rw [pinS,if_neg (by rw [e];simp),e,Int.toNat_natCast,zCg hi]
 by_cases g:2147483647<=f.fr[i].2.1
 ·rw [if_pos g];exact .none h hw (by decide)
 rw [if_neg g];refine ⟨FM.pins hA (zBq.2 ?_) hA.fr,?_,fun _ _=>⟨hA.p1,hA.p16,by omega,by omega⟩,fun _ h6=>by omega⟩
 ·show 0<=f.fr[i].1/\f.fr[i].1<=16/\0<=f.fr[i].2.1+1/\f.fr[i].2.1+1<=2147483647;omega
 ·show zDc (f.fr.set i (z1z f.fr[i])) (zKz w a 0);rw [zKz,if_neg (by decide),if_pos hk]
  refine hw.set hi hA.uniq fun q h1 h16=>⟨fun e=>?_,fun e e2=>absurd e2 e,fun e e2=>?_⟩
  ·have e:f.fr[i].1=(q:Int):=e
   rw [z9c (by rw [<-hA.fr];exact e),hwa];rfl
  ·rw [z9d (by omega) (by rw [<-hA.fr];exact e2)]
theorem Kept.unpin {f:FX} {w:Nat->Int} {a:Act} (h:FM f) (hw:zDc f.fr w) (hk:a.kind=2):Kept f w a (zEg f a.id):=by
 rcases zCy f a.id with e|⟨i,e,hA⟩
 ·rw [zEg,if_pos e];exact .none h hw e
 have hi:=hA.hi;have hp1:=hA.p1;have hfr:=zBq.1 (h.ck.all i hi);have hwa:=hw.at hA;rw [zEg,if_neg (by rw [e];simp),e,Int.toNat_natCast,zCg hi]
 by_cases g:f.fr[i].2.1=0
 ·rw [if_pos g];exact .none h hw (by decide)
 rw [if_neg g];refine ⟨FM.pins hA (zBq.2 ?_) hA.fr,?_,fun _ _=>⟨hA.p1,hA.p16,by omega,by omega⟩,fun _ h6=>by omega⟩
 ·show 0<=f.fr[i].1/\f.fr[i].1<=16/\0<=f.fr[i].2.1-1/\f.fr[i].2.1-1<=2147483647;omega
 ·show zDc (f.fr.set i (zGd f.fr[i])) (zKz w a 0);rw [zKz,if_neg (by decide),if_neg (by omega),if_pos hk]
  refine hw.set hi hA.uniq fun q h1 h16=>⟨fun e=>?_,fun e e2=>absurd e2 e,fun e e2=>?_⟩
  ·have e:f.fr[i].1=(q:Int):=e
   rw [z9c (by rw [<-hA.fr];exact e),hwa];rfl
  ·rw [z9d (by omega) (by rw [<-hA.fr];exact e2)]
theorem Kept.write {f:FX} {w:Nat->Int} {a:Act} (h:FM f) (hw:zDc f.fr w) (hk:a.kind=3):Kept f w a (zBr f a.id a.body a.now):=by
 rcases zCy f a.id with e|⟨i,e,hA⟩
 ·rw [zBr,if_pos e];exact .none h hw e
 have hi:=hA.hi;have hip:=hA.hp;have hpr:=pgR_out.1 hA.pgr;rw [zBr,if_neg (by rw [e];simp),e,Int.toNat_natCast,zCg hi,zDq hip]
 by_cases g:f.fr[i].2.1=0
 ·rw [if_pos g];exact .none h hw (by decide)
 rw [if_neg g]
 by_cases g:16<a.body.size
 ·rw [if_pos g];exact .none h hw (by decide)
 rw [if_neg g]
 by_cases g:2147483647<=f.pg[i].2.1
 ·rw [if_pos g];exact .none h hw (by decide)
 rw [if_neg g]
 by_cases g:(Dt.markG f.dt a.id a.now).2≠0
 ·rw [if_pos g];exact .none h hw g
 rw [if_neg g];obtain ⟨m1,m2,_⟩:=zLu (show (Dt.markG f.dt a.id a.now).2=0 by simpa using g);refine ⟨FM.wrote hA (pgR_out.2 ?_) hA.pg m1 m2,?_,fun _ h6=>by omega,fun _ h6=>by omega⟩
 ·show 1<=f.pg[i].1/\f.pg[i].1<=16/\1<=f.pg[i].2.1+1/\f.pg[i].2.1+1<=2147483647/\a.body.size<=16;omega
 ·show zDc f.fr (zKz w a 0)
  rw [zKz,if_neg (by decide),if_neg (by omega),if_neg (by omega),if_neg (by omega)];exact hw
theorem zDc.rel {f:FX} {w:Nat->Int} {p:Int} {i:Nat} (hw:zDc f.fr w) (hA:AtF f p i) (h0:(f.fr[i]'hA.hi).2.1=0):zDc (relS f i p).fr w:=by
 have hi:=hA.hi;have hwa:=hw.at hA;have hp1:=hA.p1;show zDc (f.fr.set i (0,0,false)) w
 refine hw.set hi hA.uniq fun q h1 h16=>⟨fun e=>?_,fun e e2=>?_,fun _ _=>rfl⟩
 ·have e:(0:Int)=(q:Int):=e;omega
 ·have:p.toNat=q:=by rw [<-hA.fr,e2];exact Int.toNat_natCast q
  rw [this] at hwa;rw [hwa,h0]
theorem Kept.drop {f:FX} {w:Nat->Int} {a:Act} (h:FM f) (hw:zDc f.fr w) (hk:a.kind=5):Kept f w a (zJh f a.id):=by
 rcases zCy f a.id with e|⟨i,e,hA⟩
 ·rw [zJh,if_pos e];exact .none h hw e
 have hi:=hA.hi;have hfr:=zBq.1 (h.ck.all i hi);rw [zJh,if_neg (by rw [e];simp),e,Int.toNat_natCast,zCg hi]
 by_cases g:0<f.fr[i].2.1
 ·rw [if_pos g];exact .none h hw (by decide)
 rw [if_neg g];refine ⟨FM.rel hA,?_,fun _ h6=>by omega,fun _ h6=>by omega⟩;show zDc (relS f i a.id).fr (zKz w a 0)
 rw [zKz,if_neg (by decide),if_neg (by omega),if_neg (by omega),if_neg (by omega)];exact hw.rel hA (by omega)
theorem yEo (f:FX) (p:Pg) (now:Int) (fresh:Bool):((zGn f p now fresh).1=f/\ (zGn f p now fresh).2≠0) \/
  ∃ (i:Nat) (hi:i<f.fr.length) (l:List (Int×Int)),f.fr[i].1=0/\pgR p=true/\FM f/\zMd f.fr=((i:Int),true) /\Tb.findS f.tb p.1=(0,false) /\zGn f p now fresh=({inS f p i with dt:=l},0) /\FM {inS f p i with dt:=l} /\AtF {inS f p i with dt:=l} p.1 i/\
   (fresh=false->l=f.dt) /\ (fresh=true->l=(Dt.markG f.dt p.1 now).1):=by
 unfold zGn
 by_cases hb:bad f p now
 ·rw [if_pos hb];exact .inl ⟨rfl,show (1:Int)≠0 by decide⟩
 rw [if_neg hb]
 have hR:zHm f:=Classical.byContradiction fun h=>hb (.inl h)
 have hM:=zGg.1 hR
 have hP:pgR p=true:=by
  cases e:pgR p with
  |true=>rfl
  |false=>exact absurd (.inr (.inl e)) hb
 by_cases hf:(Tb.findS f.tb p.1).2=true
 ·rw [if_pos hf];exact .inl ⟨rfl,show (4:Int)≠0 by decide⟩
 rw [if_neg hf];have hff:=zXn (p:=p.1) (l:=f.tb) (by simpa using hf)
 rcases zGz f.fr with ⟨e,hno⟩|⟨i,e,hi,hz⟩
 ·rw [if_pos (by rw [e])];exact .inl ⟨rfl,show (7:Int)≠0 by decide⟩
 rw [if_neg (by rw [e];simp),e,Int.toNat_natCast];obtain ⟨l',t1,_⟩:=yTk hM (pgR_out.1 hP).1 (pgR_out.1 hP).2.1 hi hff;rw [if_neg (by rw [t1];simp)]
 cases fresh with
 |false=>
  rw [if_neg (by decide)]
  obtain ⟨m1,m2⟩:=hM.loaded hP hi hz hff hM.dt fun y hy=>.inl hy
  exact .inr ⟨i,hi,f.dt,hz,hP,hM,rfl,hff,rfl,m1,m2,fun _=>rfl,fun h=>by cases h⟩
 |true=>
  rw [if_pos rfl]
  by_cases g:(Dt.markG f.dt p.1 now).2≠0
  ·rw [if_pos g];exact .inl ⟨rfl,g⟩
  rw [if_neg g];obtain ⟨k1,k2,_⟩:=zLu (show (Dt.markG f.dt p.1 now).2=0 by simpa using g);obtain ⟨m1,m2⟩:=hM.loaded hP hi hz hff k1 k2;exact .inr ⟨i,hi,_,hz,hP,hM,rfl,hff,rfl,m1,m2,(fun h=>by cases h),fun _=>rfl⟩
theorem Kept.load {f:FX} {w:Nat->Int} {a:Act} (b:Bool) (h:FM f) (hw:zDc f.fr w) (hk:a.kind=6):Kept f w a (zGn f a.p a.now b):=by
 rcases yEo f a.p a.now b with ⟨e1,e2⟩|⟨i,hi,l,hz,hP,_,_,hff,e,m1,m2,_⟩
 ·have:=Kept.none (a:=a) h hw e2;rw [<-e1] at this;rw [e1] at this;exact (Prod.ext e1 rfl:zGn f a.p a.now b=(f,(zGn f a.p a.now b).2))▸this
 rw [e];have hp1:=m2.p1;refine ⟨m1,?_,fun _ h6=>by omega,fun _ _=>⟨m2.p1,m2.p16⟩⟩;show zDc (f.fr.set i (a.p.1,1,true)) (zKz w a 0);rw [zKz,if_neg (by decide),if_neg (by omega),if_neg (by omega),if_pos hk]
 refine hw.set hi (fun j hj h0 e=>by rw [hz] at e;exact absurd e h0) fun q h1 h16=>⟨fun e=>?_,fun _ e2=>?_,fun e _=>?_⟩
 ·exact z9c e
 ·rw [hz] at e2;omega
 ·exact z9d (by omega) e
end Go.Lk
