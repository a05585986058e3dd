/-
  What is proved here: what functions of the program compute, and what follows; no condition beyond each theorem's own.
-/
import Derived.Test.YtaofmndhdmkgkaaGreatGAi
import Derived.Test.YtaofmndhdmkgkaaGreatGAk
import Derived.Test.YtaofmndhdmkgkaaGreatGAm
set_option linter.unusedSimpArgs false
set_option linter.unusedVariables false
set_option linter.unnecessarySimpa false
set_option linter.unusedSectionVars false
namespace Go.Lk.Hy
open Go Go.Proofs Go.RowKit Go.Lk
theorem okRows_sub {sz:Nat} {l:List (List D)} (h:okRows sz l=true) (n m:Nat):okRows sz ((l.drop n).take m)=true:=by
 simp only [okRows,List.all_eq_true] at h⊢;intro x hx;exact h x (List.mem_of_mem_drop (List.mem_of_mem_take hx))
theorem okRows_drop {sz:Nat} {l:List (List D)} (h:okRows sz l=true) (n:Nat):okRows sz (l.drop n)=true:=by
 simp only [okRows,List.all_eq_true] at h⊢;intro x hx;exact h x (List.mem_of_mem_drop hx)
theorem ins_grow {α:Type} {A Z V B X Y:List α} {i m n:Nat} (hA:A.length=i) (hV:V.length=m) (hB:B.length=n-i) (hi:i<=n) (k:Nat) (hk:k=n+m):
  (((A++Z).take i++(V++X)).take (i+m)++(B++Y)).take k=A++(V++B):=by
 have h1:(A++Z).take i=A:=List.take_left' hA
 have h2:(A++(V++X)).take (i+m)=A++V:=by rw [<-List.append_assoc];exact List.take_left' (by simp [hA,hV])
 rw [h1,h2]
 have h3:(A++V++(B++Y))=(A++(V++B))++Y:=by simp
 rw [h3];exact List.take_left' (by simp [hA,hV,hB,hk];omega)
theorem ins_in {α:Type} {R V B Y:List α} {i m n:Nat} (hR:n+m<=R.length) (hV:V.length=m) (hB:B.length=n-i) (hi:i<=n) (k:Nat) (hk:k=n+m):
  ((R.take (i+m)++(B++Y)).take i++(V++(R.take (i+m)++(B++Y)).drop (i+m))).take k=R.take i++(V++B):=by
 have h1:(R.take (i+m)).length=i+m:=by rw [List.length_take];omega
 have h2:(R.take i).length=i:=by rw [List.length_take];omega
 have h3:(R.take (i+m)++(B++Y)).take i=R.take i:=by rw [List.take_append_of_le_length (by omega),List.take_take,Nat.min_eq_left (by omega)]
 have h4:(R.take (i+m)++(B++Y)).drop (i+m)=B++Y:=List.drop_left' h1;rw [h3,h4]
 have h5:R.take i++(V++(B++Y))=(R.take i++(V++B))++Y:=by simp
 rw [h5];exact List.take_left' (by simp [h2,hV,hB,hk];omega)
theorem yLo {l vs:List (List D)} {i:Nat} (hi:i<=l.length) (hl:l.length<=1000000) (hv0:0<vs.length) (hv:vs.length<=1000) (hok:okRows 3 l=true) (hp:okRows 3 vs=true):
  zXw Tryz.prog 135 l 3 [.d (.int .i64 i),.own 1000000] [(1000000,.row vs 3 false)] [(1000000,.row vs 3 false)] (l.take i++(vs++l.drop i)):=by
 refine zKn Tryz.func135 3 rfl (by kernel_rfl) (by rfl) ?_;refine ⟨fun cap hcap=>?_,fun h0=>?_⟩
 ·obtain ⟨R,hR⟩:∃ R,R=l++List.replicate (cap-l.length) (List.replicate 3 D.unk):=⟨_,rfl⟩
  have hRl:R.length=cap:=by rw [hR];simp;omega
  have hRt:R.take l.length=l:=by rw [hR];simp
  have hRi:R.take i=l.take i:=by rw [hR,List.take_append_of_le_length hi]
  rw [<-hR]
  conv=>whnf
  refine zCz (by omega) hcap (aW ?_)
  refine bcase_p (fun hm0=>?_) (fun hm0=>?_)<;>conv=>whnf
  ·omega
  refine aA ?_
  refine bcase_p (fun hin=>?_) (fun hin=>?_)<;>conv=>whnf
  ·have hin':i=l.length:=by omega
   subst hin';refine aA ?_;refine zAh hp (w0 ?_);refine ⟨fun hf=>?_,fun hf=>?_⟩
   ·conv=>whnf
    refine zAh (by omega) (w0 ?_);refine zCw rfl rfl rfl ?_ ?_ rfl ⟨rfl,trivial⟩
    ·simp;omega
    ·rw [Nat.zero_add,hRt,<-List.append_assoc];rw [List.take_append_of_le_length (by simp)];rw [List.take_of_length_le (by simp)];simp
   ·conv=>whnf
    refine zAh (by omega) (w0 ?_);refine zKj (Nat.le_trans (Nat.mul_le_mul_right _ (by show l.length+vs.length<=1001000;omega)) (by decide)) (by omega) (w0 ?_);refine zCw rfl rfl rfl ?_ ?_ rfl ⟨rfl,trivial⟩
    ·simp [hRl];omega
    ·rw [List.drop_zero,hRt];rw [List.take_of_length_le (by simp)];simp
  ·have hilt:i<l.length:=by omega
   refine aA ?_
   refine bcase_p (fun hcp=>?_) (fun hcp=>?_)<;>conv=>whnf
   ·refine zHw (by simp;omega) (aW ?_)
    have eN:((l.length:Nat):Int)+((vs.length:Nat):Int)-(i:Int)=((l.length+vs.length-i:Nat):Int):=by omega
    rw [eN];simp only [Int.toNat_natCast,Nat.sub_zero,Nat.zero_add];refine zKj (Nat.le_trans (Nat.mul_le_mul_right _ (by show i+(l.length+vs.length-i) <=1001000;omega)) (by decide)) (by omega) (w0 ?_);refine zCz (by omega) (by simp) (w0 ?_);have em:Nat.min vs.length (i+(l.length+vs.length-i)-i)=vs.length:=Nat.min_eq_left (by omega);rw [em,List.take_length];refine zAh ⟨by simp;omega,hp⟩ (aW ?_);refine zCz (by omega) (by simp) (w0 ?_);refine zCz (by omega) hcap (w0 ?_);refine zAh (by omega) (w0 ?_)
    have es:List.take (l.length-i) (List.drop (0+i) R)=l.drop i:=by rw [Nat.zero_add,<-List.drop_take,hRt]
    rw [es];have em2:Nat.min (l.drop i).length (i+(l.length+vs.length-i)-(i+vs.length))=(l.drop i).length:=Nat.min_eq_left (by rw [List.length_drop];omega);rw [em2,List.take_length];refine zAh ⟨by simp;omega,okRows_drop hok i⟩ (aW ?_);refine zCw rfl rfl rfl ?_ ?_ rfl ⟨rfl,trivial⟩
    ·simp;omega
    ·have e0:(R.take i).length=i:=by rw [List.length_take];omega
     have e1:(l.take i).length=i:=by rw [List.length_take];omega
     have e2:(l.drop i).length=l.length-i:=List.length_drop ..
     simp only [List.drop_zero,Nat.zero_add,hRi];exact ins_grow e1 rfl e2 hi _ (by omega)
   ·refine aA ?_;refine zHw (by show l.length+vs.length<=cap;omega) (aW ?_);refine zCz (by omega) (by show l.length+vs.length-0<=cap-0;omega) (w0 ?_);refine z4f (zNp (t:=22) (tR:=4) zYf Tryz.func190 (by kernel_rfl) (by kernel_rfl) (by kernel_rfl) (by kernel_rfl) rfl rfl rfl (by decide) (by intro e;rw [e] at hv0;exact absurd hv0 (by decide)) (by omega) (by decide)) (aW ?_);refine zCz (by omega) (by show l.length+vs.length-0<=cap-0;omega) (w0 ?_);refine zCz (by omega) (by show l.length+vs.length-0<=cap-0;omega) (w0 ?_);refine zAh (by omega) (w0 ?_)
    have es:(List.take (l.length+vs.length-0-i) (List.drop (0+0+i) R)).length=l.length+vs.length-i:=by rw [List.length_take,List.length_drop];omega
    have em:Nat.min (List.take (l.length+vs.length-0-i) (List.drop (0+0+i) R)).length (l.length+vs.length-0-(i+vs.length))=l.length-i:=by rw [es];exact (Nat.min_eq_right (by omega)).trans (by omega)
    rw [em]
    have es2:List.take (l.length-i) (List.take (l.length+vs.length-0-i) (List.drop (0+0+i) R))=l.drop i:=by
     rw [List.take_take,Nat.min_eq_left (by omega),show 0+0+i=i by omega,<-List.drop_take,hRt]
    rw [es2];refine zAh ⟨by omega,okRows_drop hok i⟩ (aW ?_);refine zCz (by omega) (by show l.length+vs.length-0<=cap-0;omega) (w0 ?_);have em3:Nat.min vs.length (l.length+vs.length-0-i)=vs.length:=Nat.min_eq_left (by omega);rw [em3,List.take_length];refine zAh ⟨by simp;omega,hp⟩ (aW ?_);refine zCw rfl rfl rfl ?_ ?_ rfl ⟨rfl,trivial⟩
    ·simp;omega
    ·have e0:(0:Nat)+0+i=i:=by omega
     have e1:(0:Nat)+0+(i+vs.length)=i+vs.length:=by omega
     have e2:(l.drop i).length=l.length-i:=List.length_drop ..
     rw [e0,e1,<-hRi];exact ins_in (n:=l.length) (by omega) rfl e2 hi _ (by omega)
 ·conv=>whnf
  refine zDg (by rw [h0] at hi;exact hi) (w0 ?_)
  have hi0:i=0:=by rw [h0] at hi;simpa using hi
  subst hi0;refine aA ?_
  refine bcase_p (fun hm0=>?_) (fun hm0=>?_)<;>conv=>whnf
  ·omega
  refine aA ?_;refine zAh hp (w0 ?_);refine zKj (Nat.le_trans (Nat.mul_le_mul_right _ (by show vs.length<=1001000;omega)) (by decide)) (by omega) (w0 ?_);subst h0;refine yFx rfl rfl ?_ rfl ⟨rfl,trivial⟩;show some (Blk.row vs 3 false)=some (Blk.row ([].take 0++(vs++[].drop 0)) 3 false);simp
theorem yKc {l:List (List D)} {i j:Nat} (hi:i<j) (hj:j<=l.length) (hl:l.length<=1000000) (hok:okRows 3 l=true):
  zXw Tryz.prog 136 l 3 [.d (.int .i64 i),.d (.int .i64 j)] [] [] (l.take i++l.drop j):=by
 refine zKn Tryz.func136 3 rfl (by kernel_rfl) (by rfl) ?_;refine ⟨fun cap hcap=>?_,fun h0=>by rw [h0] at hj;simp at hj;omega⟩;obtain ⟨R,hR⟩:∃ R,R=l++List.replicate (cap-l.length) (List.replicate 3 D.unk):=⟨_,rfl⟩
 have hRl:R.length=cap:=by rw [hR];simp;omega
 have hRt:R.take l.length=l:=by rw [hR];simp
 have hRi:R.take i=l.take i:=by rw [hR,List.take_append_of_le_length (by omega)]
 rw [<-hR]
 conv=>whnf
 refine zAh ⟨(by intro e;cases e),by omega,by show (l.length:Int) <=cap;omega⟩ (w0 ?_);refine z7n (by omega) (by simpa using hj) (aW ?_)
 refine bcase_p (fun hij=>?_) (fun hij=>?_)<;>conv=>whnf
 ·omega
 refine aA ?_;refine zHw (by show i<=cap;omega) (w0 ?_);refine zCz (by omega) (by show l.length<=cap;omega) (w0 ?_)
 have es:List.take (l.length-j) (List.drop (0+j) R)=l.drop j:=by rw [Nat.zero_add,<-List.drop_take,hRt]
 have e2:(l.drop j).length=l.length-j:=List.length_drop ..
 rw [es];refine zAh ⟨by omega,okRows_drop hok j⟩ (w0 ?_);refine ⟨fun hf=>?_,fun hf=>absurd (show i-0+(l.drop j).length<=cap-0 by omega) hf⟩
 conv=>whnf
 refine zAh (by omega) (aW ?_);refine z7n (by omega) (by show l.length<=cap-0;omega) (w0 ?_);refine zAh ⟨by simp;omega,rfl⟩ (aW ?_);refine zCw rfl rfl rfl ?_ ?_ rfl trivial
 ·simp;omega
 ·have e1:(l.take i).length=i:=by rw [List.length_take];omega
  have e3:(0:Nat)+0+(i-0)=i:=by omega
  have h1:∀ Y:List (List D),(List.take (0+(i-0)) R++(l.drop j++Y)).take (0+(i-0+(l.drop j).length))=l.take i++l.drop j:=by
   intro Y;rw [show 0+(i-0)=i by omega,hRi,<-List.append_assoc];exact List.take_left' (by rw [List.length_append,e1];omega)
  rw [h1];exact List.take_left' (by rw [List.length_append,e1];omega)
end Go.Lk.Hy
namespace Go.Lk.Hy
open Go Go.Proofs Go.RowKit Go.Lk Go.Lk.St
structure Ev where
 who:Int
 kind:Int
 id:Int
 body:ByteArray
 e:Int
 pid:Int
 ver:Int
 text:ByteArray
 began:Int
 done:Int
 ended:Int
def encE (x:Ev):List D:=[.int .i64 x.who,.int .i64 x.kind,.int .i64 x.id,.str x.body,.int .i64 x.e,.int .i64 x.pid,.int .i64 x.ver,.str x.text,.int .i64 x.began,.int .i64 x.done,.int .i64 x.ended]
theorem yKi:∀ (l:List Ev),okRows 11 (l.map encE)=true
 | []=>rfl
 |_::r=>yKi r
structure Cmp (cf:FuncId) (le:Ev->Ev->Bool):Prop where
 tp:TP le
 call:∀ x y,∃ c:Int,zAj Tryz.prog cf [.agg (encE x),.agg (encE y)] (.int .i64 c) /\ (c<0↔le y x=false)
theorem zKl {α:Type} {P Q:List α} {x y:α} {i:Nat} (h:i=P.length):(P++x::Q).set i y=P++y::Q:=by subst h;simp
theorem zFc {α:Type} {P Q:List α} {x:α} {i:Nat} (h:i=P.length):(P++x::Q)[i]?=some x:=by subst h;simp
theorem zGd (l:List Ev) (i:Nat) (x:Ev):(l.map encE).set i (encE x)=(l.set i x).map encE:=by rw [List.map_set]
theorem zBm {l:List Ev} {i:Nat} {x:Ev} (h:l[i]?=some x):(l.map encE)[i]?=some (encE x):=by rw [List.getElem?_map,h];rfl
def swR (A X B Y C:List Ev) (k:Nat):List Ev:=A++((Y.take k++X.drop k)++(B++((X.take k++Y.drop k)++C)))
theorem yBe {A X B Y C:List Ev} {k:Nat} (hX:k<X.length) (hY:k<Y.length):swR A X B Y C k=(A++Y.take k)++X[k]::(X.drop (k+1)++(B++((X.take k++Y.drop k)++C))):=by
 rw [swR,zBg hX];simp only [List.append_assoc,List.cons_append]
theorem yYy {A X B Y C:List Ev} {k:Nat} (hX:k<X.length) (hY:k<Y.length):swR A X B Y C k=(A++((Y.take k++X.drop k)++(B++X.take k)))++Y[k]::(Y.drop (k+1)++C):=by
 rw [swR,zBg hY];simp only [List.append_assoc,List.cons_append]
theorem yYx {A X B Y C:List Ev} {k i j:Nat} (hX:k<X.length) (hY:k<Y.length) (hl:X.length=Y.length) (hi:i=A.length+k) (hj:j=A.length+X.length+B.length+k):
  (swR A X B Y C k)[i]?=some X[k] /\ (swR A X B Y C k)[j]?=some Y[k] /\ ((swR A X B Y C k).set i Y[k])[j]?=some Y[k] /\ ((swR A X B Y C k).set i Y[k]).set j X[k]=swR A X B Y C (k+1) /\ (swR A X B Y C k).length=A.length+X.length+B.length+Y.length+C.length:=by
 have tX:(X.take k).length=k:=by simp;omega
 have tY:(Y.take k).length=k:=by simp;omega
 refine ⟨by rw [yBe hX hY];exact zFc (by simp [tY,hi]),by rw [yYy hX hY];exact zFc (by simp [tX,tY,hj];omega),?_,?_,by simp [swR];omega⟩
 ·rw [yBe hX hY,zKl (by simp [tY,hi]),zBg hY]
  have:A++Y.take k++Y[k]::(X.drop (k+1)++(B++(X.take k++Y[k]::Y.drop (k+1)++C)))=(A++(Y.take k++(Y[k]::(X.drop (k+1)++(B++X.take k)))))++Y[k]::(Y.drop (k+1)++C):=by simp only [List.append_assoc,List.cons_append]
  rw [this];exact zFc (by simp [tX,tY,hj];omega)
 ·rw [yBe hX hY,zKl (by simp [tY,hi]),zBg hY]
  have:A++Y.take k++Y[k]::(X.drop (k+1)++(B++(X.take k++Y[k]::Y.drop (k+1)++C)))=(A++(Y.take k++(Y[k]::(X.drop (k+1)++(B++X.take k)))))++Y[k]::(Y.drop (k+1)++C):=by simp only [List.append_assoc,List.cons_append]
  rw [this,zKl (by simp [tX,tY,hj];omega),swR,zAs hX,zAs hY];simp only [List.append_assoc,List.cons_append,List.nil_append]
theorem zMi (cf:FuncId) (A X B Y C:List Ev) (hl:X.length=Y.length) (hm:A.length+X.length+B.length+Y.length+C.length<=1000000):
  zAx Tryz.prog 301 [.own 1000000,.d (.int .i64 A.length),.d (.int .i64 ((A.length+X.length+B.length:Nat):Int)),.d (.int .i64 X.length),.d (.fn cf [])] [(1000000,.row ((A++(X++(B++(Y++C)))).map encE) 11 false)] [(1000000,.row ((A++(Y++(B++(X++C)))).map encE) 11 false)] (.tup []):=by
 refine zAr Tryz.func301 5 rfl (by kernel_rfl) (by rfl) (w0 ?_);refine zAq (ι:=Nat) (fun k=>[(0,.own 1000000),(1,.d (.int .i64 A.length)),(2,.d (.int .i64 ((A.length+X.length+B.length:Nat):Int))),(3,.d (.int .i64 X.length)),(10,.d (.int .i64 k))]) (fun k=>[(1000000,.row ((swR A X B Y C k).map encE) 11 false)])
  (fun k=>k<=X.length) (fun k=>X.length-k) 0 (Nat.zero_le _) (le0 (zAb ⟨rfl,rfl,rfl,rfl,rfl,trivial⟩ ⟨rfl,trivial⟩ ⟨rfl,rfl,rfl,rfl⟩)) ?_
 intro k hk
 conv=>whnf
 refine bcase_p (fun h=>?_) (fun h=>?_)<;>conv=>whnf
 ·have hX:k<X.length:=by omega
  have hY:k<Y.length:=by omega
  obtain ⟨g1,g2,g3,g4,g5⟩:=yYx (A:=A) (B:=B) (C:=C) hX hY hl rfl rfl
  have hml:((swR A X B Y C k).map encE).length=A.length+X.length+B.length+Y.length+C.length:=by rw [List.length_map,g5]
  have e1:(A.length:Int)+(k:Int)=((A.length+k:Nat):Int):=by omega
  have e2:((A.length+X.length+B.length:Nat):Int)+(k:Int)=((A.length+X.length+B.length+k:Nat):Int):=by omega
  refine aA ?_;rw [e1,e2];refine zAd (by omega) (w0 ?_);refine zAc (zBm g2) (aW ?_);refine zAd (by omega) (w0 ?_);refine zAc (zBm g1) (aW ?_);refine zAd (by omega) (w0 ?_);refine zAc (zBm g1) (w0 ?_);have s1:((swR A X B Y C k).map encE).set (A.length+k) (zAy (encE X[k]) 0 (encE Y[k]))=((swR A X B Y C k).set (A.length+k) Y[k]).map encE:=zGd _ _ _;refine aA ?_;refine zAd (by show _<(List.set _ _ _).length;rw [List.length_set];omega) (w0 ?_);refine zAc (x:=encE Y[k]) (by show (List.set _ _ (zAy (encE X[k]) 0 (encE Y[k])))[_]?=_;rw [s1];exact zBm g3) (aW ?_)
  have s2:(((swR A X B Y C k).map encE).set (A.length+k) (zAy (encE X[k]) 0 (encE Y[k]))).set (A.length+X.length+B.length+k) (zAy (encE Y[k]) 0 (encE X[k]))=(swR A X B Y C (k+1)).map encE:=by rw [s1,<-g4];exact zGd _ _ _
  exact ⟨k+1,by omega,by omega,le0 (zAb ⟨rfl,rfl,rfl,rfl,rfl,trivial⟩ ⟨by rw [<-s2];rfl,trivial⟩ ⟨by show some (Blk.row ((swR A X B Y C (k+1)).map encE) 11 false)=_;rw [<-s2];rfl,rfl,rfl,rfl⟩)⟩
 ·have hkl:k=X.length:=by omega
  subst hkl
  have e:swR A X B Y C X.length=A++(Y++(B++(X++C))):=by simp [swR,List.take_of_length_le,hl]
  rw [e];exact zAi rfl rfl rfl ⟨rfl,trivial⟩
theorem zEo {α:Type} {X:List α} {n:Nat} (h:n<=X.length):∃ X1 X2,X=X1++X2/\X1.length=n:=⟨X.take n,X.drop n,(List.take_append_drop n X).symm,by simp;omega⟩
theorem yNp (cf:FuncId) (A L R C:List Ev) (hL:L≠[]) (hR:R≠[]) (hm:A.length+L.length+R.length+C.length<=1000000):
  zAx Tryz.prog 281 [.own 1000000,.d (.int .i64 A.length),.d (.int .i64 ((A.length+L.length:Nat):Int)),.d (.int .i64 ((A.length+L.length+R.length:Nat):Int)),.d (.fn cf [])] [(1000000,.row ((A++(L++(R++C))).map encE) 11 false)] [(1000000,.row ((A++(R++(L++C))).map encE) 11 false)] (.tup []):=by
 refine zAr Tryz.func281 5 rfl (by kernel_rfl) (by rfl) (w0 ?_);have l0:0<L.length:=List.length_pos_iff.2 hL;have r0:0<R.length:=List.length_pos_iff.2 hR
 have e1:((A.length+L.length:Nat):Int)-(A.length:Int)=((L.length:Nat):Int):=by omega
 have e2:((A.length+L.length+R.length:Nat):Int)-((A.length+L.length:Nat):Int)=((R.length:Nat):Int):=by omega
 refine aA ?_;rw [e1,e2];refine zAq (ι:=List Ev×List Ev×List Ev×List Ev) (fun s=>[(0,.own 1000000),(2,.d (.int .i64 ((A.length+L.length:Nat):Int))),(4,.d (.fn cf [])),(10,.d (.int .i64 s.2.1.length)),(11,.d (.int .i64 s.2.2.1.length))]) (fun s=>[(1000000,.row ((s.1++(s.2.1++(s.2.2.1++s.2.2.2))).map encE) 11 false)])
  (fun s=>0<s.2.1.length/\0<s.2.2.1.length/\s.1.length+s.2.1.length=A.length+L.length/\s.1.length+s.2.1.length+s.2.2.1.length+s.2.2.2.length=A.length+L.length+R.length+C.length/\s.1++(s.2.2.1++(s.2.1++s.2.2.2))=A++(R++(L++C))) (fun s=>s.2.1.length+s.2.2.1.length) (A,L,R,C) ⟨l0,r0,rfl,rfl,rfl⟩ (le0 (zAb ⟨rfl,rfl,rfl,rfl,rfl,trivial⟩ ⟨rfl,trivial⟩ ⟨rfl,rfl,rfl,rfl⟩)) ?_
 rintro ⟨A',X,Y,C'⟩ ⟨x0,y0,hpos,htot,hfin⟩;simp only at x0 y0 hpos htot hfin⊢
 conv=>whnf
 have ei:((A.length+L.length:Nat):Int)-(X.length:Int)=((A'.length:Nat):Int):=by omega
 refine bcase_n (fun hne=>?_) (fun hne=>?_)<;>conv=>whnf
 ·refine aA ?_
  refine bcase_p (fun hgt=>?_) (fun hgt=>?_)<;>conv=>whnf
  ·obtain ⟨X1,X2,rfl,hx1⟩:=zEo (X:=X) (n:=Y.length) (by omega);rw [List.length_append] at ei hpos htot hgt hne x0
   have ea:(X1++X2)++(Y++C')=X1++(X2++(Y++C')):=by simp
   rw [ea,List.length_append];refine aA ?_;rw [ei]
   have em:((A.length+L.length:Nat):Int)=((A'.length+X1.length+X2.length:Nat):Int):=by omega
   rw [em,<-hx1];refine zAu (zMi cf A' X1 X2 Y C' hx1 (by omega)) [(1000000,1000000)] rfl ⟨rfl,trivial⟩ rfl (aW ?_)
   have es:((X1.length+X2.length:Nat):Int)-(X1.length:Int)=((X2.length:Nat):Int):=by omega
   rw [es]
   have er:A'++(Y++(X2++(X1++C')))=(A'++Y)++(X2++(X1++C')):=by simp
   exact ⟨(A'++Y,X2,X1,C'),⟨by simp only [];omega,by simp only [];omega,by simp;omega,by simp;omega,by simp [<-hfin]⟩,by simp only [];omega,le0 (zAb ⟨rfl,rfl,rfl,rfl,rfl,trivial⟩ ⟨by rw [<-er];rfl,trivial⟩ ⟨by show some (Blk.row (((A'++Y)++(X2++(X1++C'))).map encE) 11 false)=_;rw [<-er];rfl,rfl,rfl,rfl⟩)⟩
  ·obtain ⟨Y1,Y2,rfl,hy1⟩:=zEo (X:=Y) (n:=Y.length-X.length) (by omega);rw [List.length_append] at htot hgt hne y0 hy1
   have hy2:X.length=Y2.length:=by omega
   have ea:(Y1++Y2)++C'=Y1++(Y2++C'):=by simp
   rw [ea,List.length_append];refine aA ?_;rw [ei]
   have em:((A.length+L.length:Nat):Int)+((Y1.length+Y2.length:Nat):Int)-(X.length:Int)=((A'.length+X.length+Y1.length:Nat):Int):=by omega
   rw [em];refine zAu (zMi cf A' X Y1 Y2 C' hy2 (by omega)) [(1000000,1000000)] rfl ⟨rfl,trivial⟩ rfl (aW ?_)
   have es:((Y1.length+Y2.length:Nat):Int)-(X.length:Int)=((Y1.length:Nat):Int):=by omega
   rw [es];exact ⟨(A',Y2,Y1,X++C'),⟨by simp only [];omega,by simp only [];omega,by simp only [];omega,by simp only [List.length_append];omega,by simp only [];rw [<-hfin];simp⟩,by simp only [];omega,le0 (zAb ⟨rfl,rfl,rfl,by rw [<-hy2];rfl,rfl,trivial⟩ ⟨rfl,trivial⟩ ⟨rfl,rfl,rfl,rfl⟩)⟩
 ·have hxy:X.length=Y.length:=by omega
  refine aA ?_;rw [ei]
  have em:((A.length+L.length:Nat):Int)=((A'.length+X.length+([]:List Ev).length:Nat):Int):=by simp;omega
  rw [em];refine zAu (zMi cf A' X [] Y C' hxy (by simp;omega)) [(1000000,1000000)] rfl ⟨rfl,trivial⟩ rfl (aW ?_);refine zAi rfl rfl rfl ⟨?_,trivial⟩;rw [<-hfin];rfl
theorem yAz {le:Ev->Ev->Bool} (h:TP le) {T:List Ev} {u x:Ev} (hs:zBy le (T++[u])) (hu:le u x=true):∀ y∈T++[u],le y x=true:=fun y hy=>by
 rcases List.mem_append.1 hy with hy|hy
 ·exact h.trans _ _ _ ((zCi.1 hs).2.2 y hy u (by simp)) hu
 ·rw [List.mem_singleton.1 hy];exact hu
theorem yGw (cf:FuncId) (le:Ev->Ev->Bool) (hc:Cmp cf le) (A X C:List Ev) (hm:A.length+X.length+C.length<=1000000):
  zAx Tryz.prog 249 [.own 1000000,.d (.int .i64 A.length),.d (.int .i64 ((A.length+X.length:Nat):Int)),.d (.fn cf [])] [(1000000,.row ((A++(X++C)).map encE) 11 false)] [(1000000,.row ((A++(srt le X++C)).map encE) 11 false)] (.tup []):=by
 refine zAr Tryz.func249 4 rfl (by kernel_rfl) (by rfl) (aW ?_)
 have e0:A++(X++C)=A++(srt le (X.take 1)++(X.drop 1++C)):=by
  cases X with
  |nil=>rfl
  |cons x r=>rfl
 rw [e0];refine zAq (ι:=Nat) (fun k=>[(0,.own 1000000),(1,.d (.int .i64 A.length)),(2,.d (.int .i64 ((A.length+X.length:Nat):Int))),(3,.d (.fn cf [])),(8,.d (.int .i64 ((A.length:Int)+(k:Int))))]) (fun k=>[(1000000,.row ((A++(srt le (X.take k)++(X.drop k++C))).map encE) 11 false)])
  (fun k=>1<=k/\ (k<=X.length\/k=1)) (fun k=>X.length+1-k) 1 ⟨Nat.le_refl _,.inr rfl⟩ (le0 (zAb ⟨rfl,rfl,rfl,rfl,rfl,trivial⟩ ⟨rfl,trivial⟩ ⟨rfl,rfl,rfl,rfl⟩)) ?_
 rintro k ⟨hk1,hk⟩
 conv=>whnf
 refine bcase_p (fun h=>?_) (fun h=>?_)<;>conv=>whnf
 ·have hkX:k<X.length:=by omega
  refine aA ?_;have hd:X.drop k=X[k]::X.drop (k+1):=zBg hkX;generalize hx:X[k]=x at hd;rw [hd,List.cons_append]
  have hlen:(srt le (X.take k)).length=k:=by rw [zAm];simp;omega
  have hdl:(X.drop (k+1)).length+k+1=X.length:=by simp;omega
  refine zAq (ι:=List Ev×List Ev) (fun s=>[(0,.own 1000000),(1,.d (.int .i64 A.length)),(2,.d (.int .i64 ((A.length+X.length:Nat):Int))),(3,.d (.fn cf [])),(8,.d (.int .i64 ((A.length:Int)+(k:Int)))),(9,.d (.int .i64 ((A.length:Int)+(s.1.length:Int))))]) (fun s=>[(1000000,.row ((A++(s.1++(x::(s.2++(X.drop (k+1)++C))))).map encE) 11 false)])
   (fun s=>s.1++s.2=srt le (X.take k) /\ ∀ y∈s.2,le y x=false) (fun s=>s.1.length) (srt le (X.take k),[]) ⟨by simp,fun y h=>by cases h⟩ (le0 (zAb ⟨rfl,rfl,rfl,rfl,rfl,by show AV.d (.int .i64 ((A.length:Int)+(k:Int)))=AV.d (.int .i64 ((A.length:Int)+((srt le (X.take k)).length:Int)));rw [hlen],trivial⟩ ⟨rfl,trivial⟩ ⟨rfl,rfl,rfl,rfl⟩)) ?_
  rintro ⟨S1,S2⟩ ⟨h12,hS2⟩;simp only at h12 hS2⊢
  have hS12:S1.length+S2.length=k:=by rw [<-hlen,<-h12];simp
  have hml:((A++(S1++(x::(S2++(X.drop (k+1)++C))))).map encE).length=A.length+X.length+C.length:=by simp only [List.length_map,List.length_append,List.length_cons];omega
  conv=>whnf
  refine bcase_p (fun h1=>?_) (fun h1=>?_)<;>conv=>whnf
  ·obtain ⟨T,u,rfl⟩:∃ T u,S1=T++[u]:=by
    rcases List.eq_nil_or_concat S1 with e|⟨T,u,e⟩
    ·subst e;simp at h1
    ·exact ⟨T,u,by simpa using e⟩
   rw [List.length_append,List.length_singleton] at hS12
   have g1:(A++((T++[u])++(x::(S2++(X.drop (k+1)++C)))))[A.length+(T.length+1)]?=some x:=by
    have:A++((T++[u])++(x::(S2++(X.drop (k+1)++C))))=(A++(T++[u]))++x::(S2++(X.drop (k+1)++C)):=by simp only [List.append_assoc,List.cons_append]
    rw [this];exact zFc (by simp)
   have hsh:A++((T++[u])++(x::(S2++(X.drop (k+1)++C))))=(A++T)++u::(x::(S2++(X.drop (k+1)++C))):=by simp only [List.append_assoc,List.cons_append,List.nil_append]
   have g2:(A++((T++[u])++(x::(S2++(X.drop (k+1)++C)))))[A.length+T.length]?=some u:=by rw [hsh];exact zFc (by simp)
   have ej:(A.length:Int)+((T++[u]).length:Int)=((A.length+(T.length+1):Nat):Int):=by rw [List.length_append,List.length_singleton];omega
   have ej1:((A.length+(T.length+1):Nat):Int)-1=((A.length+T.length:Nat):Int):=by omega
   rw [ej];refine aA ?_;refine zAd (by omega) (w0 ?_);refine zAc (zBm g1) (aW ?_);rw [ej1];refine zAd (by omega) (w0 ?_);refine zAc (zBm g2) (aW ?_);obtain ⟨c,hcall,hlt⟩:=hc.call x u;refine zAa hcall (aW ?_)
   refine bcase_p (fun h2=>?_) (fun h2=>?_)<;>conv=>whnf
   ·have hlt2:=hlt.1 h2;refine aA ?_;rw [ej1];refine zAd (by omega) (w0 ?_);refine zAc (zBm g2) (aW ?_);refine zAd (by omega) (w0 ?_);refine zAc (zBm g1) (aW ?_);refine zAd (by omega) (w0 ?_);refine zAc (zBm g1) (w0 ?_)
    have hsh2:A++((T++[u])++(x::(S2++(X.drop (k+1)++C))))=(A++(T++[u]))++x::(S2++(X.drop (k+1)++C)):=by simp only [List.append_assoc,List.cons_append]
    have hs1:(A++((T++[u])++(x::(S2++(X.drop (k+1)++C))))).set (A.length+(T.length+1)) u=(A++T)++u::(u::(S2++(X.drop (k+1)++C))):=by rw [hsh2,zKl (by simp)];simp only [List.append_assoc,List.cons_append,List.nil_append]
    have hs2:((A++T)++u::(u::(S2++(X.drop (k+1)++C)))).set (A.length+T.length) x=A++(T++(x::((u::S2)++(X.drop (k+1)++C)))):=by rw [zKl (by simp)];simp only [List.append_assoc,List.cons_append]
    have s1:((A++((T++[u])++(x::(S2++(X.drop (k+1)++C))))).map encE).set (A.length+(T.length+1)) (zAy (encE x) 0 (encE u))=((A++T)++u::(u::(S2++(X.drop (k+1)++C)))).map encE:=by rw [<-hs1];exact zGd _ _ _
    refine aA ?_;refine zAd (by show _<(List.set _ _ _).length;rw [List.length_set];omega) (w0 ?_);refine zAc (x:=encE u) (by show (List.set _ _ (zAy (encE x) 0 (encE u)))[_]?=_;rw [s1];exact zBm (zFc (by simp))) (aW ?_)
    have s2:(((A++((T++[u])++(x::(S2++(X.drop (k+1)++C))))).map encE).set (A.length+(T.length+1)) (zAy (encE x) 0 (encE u))).set (A.length+T.length) (zAy (encE u) 0 (encE x))=(A++(T++(x::((u::S2)++(X.drop (k+1)++C))))).map encE:=by rw [s1,<-hs2];exact zGd _ _ _
    rw [ej1];exact ⟨(T,u::S2),⟨by rw [<-h12];simp,fun y hy=>by rcases List.mem_cons.1 hy with e|e;rw [e];exact hlt2;exact hS2 y e⟩,by simp,le0 (zAb ⟨rfl,rfl,rfl,rfl,rfl,rfl,trivial⟩ ⟨by rw [<-s2];rfl,trivial⟩ ⟨by show some (Blk.row ((A++(T++(x::((u::S2)++(X.drop (k+1)++C))))).map encE) 11 false)=_;rw [<-s2];rfl,rfl,rfl,rfl⟩)⟩
   ·have hle:le u x=true:=by
     cases e:le u x with
     |true=>rfl
     |false=>exact absurd (hlt.2 e) h2
    have hle2:∀ y∈T++[u],le y x=true:=yAz hc.tp (zCi.1 (by rw [h12];exact zBx hc.tp _:zBy le ((T++[u])++S2))).1 hle
    generalize T++[u]=S1 at*
    refine aA ?_
    have hsrt:srt le (X.take (k+1))=S1++x::S2:=by rw [zAs hkX,hx,yLk hc.tp (a:=S1) (b:=S2) (by rw [h12];exact zBx hc.tp _) hle2 hS2,h12];exact yOh hc.tp ((zFk hc.tp _).app (Same.refl _))
    have er:A++(S1++(x::(S2++(X.drop (k+1)++C))))=A++(srt le (X.take (k+1))++(X.drop (k+1)++C)):=by rw [hsrt];simp only [List.append_assoc,List.cons_append]
    exact ⟨k+1,⟨by omega,by omega⟩,by omega,le0 (zAb ⟨rfl,rfl,rfl,rfl,rfl,trivial⟩ ⟨by rw [<-er];rfl,trivial⟩ ⟨by show some (Blk.row ((A++(srt le (X.take (k+1))++(X.drop (k+1)++C))).map encE) 11 false)=_;rw [<-er];rfl,rfl,rfl,rfl⟩)⟩
  ·have hS0:S1=[]:=List.length_eq_zero_iff.1 (by omega);subst hS0
   have hq:∀ y∈([]:List Ev),le y x=true:=fun y h=>by cases h
   generalize ([]:List Ev)=S1 at*
   refine aA ?_
   have hsrt:srt le (X.take (k+1))=S1++x::S2:=by rw [zAs hkX,hx,yLk hc.tp (a:=S1) (b:=S2) (by rw [h12];exact zBx hc.tp _) hq hS2,h12];exact yOh hc.tp ((zFk hc.tp _).app (Same.refl _))
   have er:A++(S1++(x::(S2++(X.drop (k+1)++C))))=A++(srt le (X.take (k+1))++(X.drop (k+1)++C)):=by rw [hsrt];simp only [List.append_assoc,List.cons_append]
   exact ⟨k+1,⟨by omega,by omega⟩,by omega,le0 (zAb ⟨rfl,rfl,rfl,rfl,rfl,trivial⟩ ⟨by rw [<-er];rfl,trivial⟩ ⟨by show some (Blk.row ((A++(srt le (X.take (k+1))++(X.drop (k+1)++C))).map encE) 11 false)=_;rw [<-er];rfl,rfl,rfl,rfl⟩)⟩
 ·have e1:srt le (X.take k)++(X.drop k++C)=srt le X++C:=by
   rw [List.take_of_length_le (by omega),List.drop_eq_nil_of_le (by omega)];rfl
  rw [e1];refine aA ?_;exact zAi rfl rfl rfl ⟨rfl,trivial⟩
section
variable {E:Type} {le:E->E->Bool}
theorem zCa (h:TP le) {l:List E} (hs:zBy le l) {i j:Nat} (hi:i<l.length) (hj:j<l.length) (hij:i<=j):le l[i] l[j]=true:=by
 by_cases e:i=j
 ·subst e;exact h.refl _
 ·exact List.pairwise_iff_getElem.1 hs i j hi hj (by omega)
def zQn (a b h:Nat):Nat:=if a>h then h-b else 0
def zQm (a h:Nat):Nat:=if a>h then h else a
theorem z7k (tp:TP le) {L R:List E} (hL:zBy le L) (hR:zBy le R) {h s:Nat} (hh:h=(L.length+R.length)/2) (h1:zQn L.length R.length h<=s) (h2:s<=zQm L.length h)
  (P1:∀ u,zQn L.length R.length h<=u->u<s->∀ (hu:u<L.length) (hv:h-1-u<R.length),le L[u] R[h-1-u]=true)
  (P2:∀ u,s<=u->u<zQm L.length h->∀ (hu:u<L.length) (hv:h-1-u<R.length),le L[u] R[h-1-u]=false):
  (∀ x∈L.drop s,∀ y∈R.take (h-s),le x y=false) /\ ∀ x∈L.take s,∀ y∈R.drop (h-s),le x y=true:=by
 have hcs:(L.length>h/\zQn L.length R.length h=h-R.length/\zQm L.length h=h) \/ (L.length<=h/\zQn L.length R.length h=0/\zQm L.length h=L.length):=by
  by_cases hc:L.length>h
  ·exact .inl ⟨hc,if_pos hc,if_pos hc⟩
  ·exact .inr ⟨by omega,if_neg hc,if_neg hc⟩
 constructor
 ·intro x hx y hy;obtain ⟨i,hi,rfl⟩:=List.mem_iff_getElem.1 hx;obtain ⟨j,hj,rfl⟩:=List.mem_iff_getElem.1 hy;simp only [List.getElem_drop,List.getElem_take];simp only [List.length_drop] at hi;simp only [List.length_take] at hj
  have hs:s<zQm L.length h:=by omega
  have hsl:s<L.length:=by omega
  have hv:h-1-s<R.length:=by omega
  cases e:le L[s+i] R[j] with
  |false=>rfl
  |true=>
   have q:=P2 s (Nat.le_refl _) hs hsl hv;have:=tp.trans _ _ _ (tp.trans _ _ _ (zCa tp hL hsl (show s+i<L.length by omega) (by omega)) e) (zCa tp hR (show j<R.length by omega) hv (by omega))
   rw [this] at q;cases q
 ·intro x hx y hy;obtain ⟨i,hi,rfl⟩:=List.mem_iff_getElem.1 hx;obtain ⟨j,hj,rfl⟩:=List.mem_iff_getElem.1 hy;simp only [List.getElem_drop,List.getElem_take];simp only [List.length_take] at hi;simp only [List.length_drop] at hj
  have hs:zQn L.length R.length h<s:=by omega
  have hv:h-1-(s-1)<R.length:=by omega
  have hsl:s-1<L.length:=by omega
  have q:=P1 (s-1) (by omega) (by omega) hsl hv;exact tp.trans _ _ _ (tp.trans _ _ _ (zCa tp hL (show i<L.length by omega) hsl (by omega)) q) (zCa tp hR hv (show h-s+j<R.length by omega) (by omega))
end
theorem wu64 {n:Int} (h0:0<=n) (h1:n<=9223372036854775807):IntKind.u64.wrap n=n:=by
 rw [IntKind.wrap_u64];omega
theorem half {a b:Nat}:Int.fdiv (((a+b:Nat):Int)) (2^(min (1:Int).toNat (IntKind.bits .u64)))=(((a+b)/2:Nat):Int):=by
 rw [show (2:Int)^(min (1:Int).toNat (IntKind.bits .u64))=2 from rfl,Int.fdiv_eq_ediv_of_nonneg _ (by decide)];omega
theorem yNo (cf:FuncId) (A L R C X:List Ev) (a m b:Nat) (ha:a=A.length) (hmm:m=A.length+L.length) (hb:b=A.length+L.length+R.length) (hX:X=A++(L++(R++C))) (hL:L≠[]) (hR:R≠[]) (hm:A.length+L.length+R.length+C.length<=1000000):
  zAx Tryz.prog 281 [.own 1000000,.d (.int .i64 (a:Int)),.d (.int .i64 (m:Int)),.d (.int .i64 (b:Int)),.d (.fn cf [])] [(1000000,.row (X.map encE) 11 false)] [(1000000,.row ((A++(R++(L++C))).map encE) 11 false)] (.tup []):=by
 subst ha hmm hb hX;exact yNp cf A L R C hL hR hm
set_option maxHeartbeats 4000000 in
theorem zXo (cf:FuncId) (le:Ev->Ev->Bool) (hc:Cmp cf le):∀ (n:Nat) (A L R C:List Ev),L.length+R.length<=n->L≠[]->R≠[]->zBy le L->zBy le R->A.length+L.length+R.length+C.length<=1000000->
  zAx Tryz.prog 250 [.own 1000000,.d (.int .i64 A.length),.d (.int .i64 ((A.length+L.length:Nat):Int)),.d (.int .i64 ((A.length+L.length+R.length:Nat):Int)),.d (.fn cf [])] [(1000000,.row ((A++(L++(R++C))).map encE) 11 false)] [(1000000,.row ((A++(srt le (L++R)++C)).map encE) 11 false)] (.tup [])
 |0,A,L,R,C,hn,hL,hR,_,_,_=>absurd (List.length_eq_zero_iff.1 (show L.length=0 by omega)) hL
 |n+1,A,L,R,C,hn,hL,hR,sL,sR,hm=>by
  refine zAr Tryz.func250 5 rfl (by kernel_rfl) (by rfl) (w0 ?_);have l0:0<L.length:=List.length_pos_iff.2 hL;have r0:0<R.length:=List.length_pos_iff.2 hR
  have e1:((A.length+L.length:Nat):Int)-(A.length:Int)=((L.length:Nat):Int):=by omega
  have e2:((A.length+L.length+R.length:Nat):Int)-((A.length+L.length:Nat):Int)=((R.length:Nat):Int):=by omega
  refine aA ?_;rw [e1]
  refine bcase_p (fun hl1=>?_) (fun hl1=>?_)<;>conv=>whnf
  ·obtain ⟨x,rfl⟩:∃ x,L=[x]:=by
    match L,hl1 with
    | [x],_=>exact ⟨x,rfl⟩
    |_::_::_,h=>simp at h;omega
   clear e1 e2 l0 hL sL hl1
   refine aA ?_;have ga:(A++([x]++(R++C)))[A.length]?=some x:=zFc rfl
   have hml:((A++([x]++(R++C))).map encE).length=A.length+1+R.length+C.length:=by simp;omega
   have gr (r:Nat) (hr:r<R.length):(A++([x]++(R++C)))[A.length+1+r]?=some R[r]:=by
    rw [List.getElem?_append_right (by omega),show A.length+1+r-A.length=r+1 by omega,List.singleton_append,List.getElem?_cons_succ,List.getElem?_append_left hr,List.getElem?_eq_getElem hr]
   refine zAq (ι:=Nat×Nat) (fun s=>[(0,.own 1000000),(1,.d (.int .i64 A.length)),(4,.d (.fn cf [])),(10,.d (.int .i64 ((A.length+1+s.1:Nat):Int))),(11,.d (.int .i64 ((A.length+1+s.2:Nat):Int)))]) (fun s=>[(1000000,.row ((A++([x]++(R++C))).map encE) 11 false)])
    (fun s=>s.1<=s.2/\s.2<=R.length/\ (∀ i,i<s.1->∀ h:i<R.length,le x R[i]=false) /\ (∀ i,s.2<=i->∀ h:i<R.length,le x R[i]=true)) (fun s=>s.2-s.1) (0,R.length) ⟨Nat.zero_le _,Nat.le_refl _,fun i h=>absurd h (Nat.not_lt_zero _),fun i h h2=>by omega⟩ (le0 (zAb ⟨rfl,rfl,rfl,rfl,rfl,trivial⟩ ⟨rfl,trivial⟩ ⟨rfl,rfl,rfl,rfl⟩)) ?_
   rintro ⟨p,q⟩ ⟨hpq,hqR,hP,hQ⟩;simp only at hpq hqR hP hQ⊢
   conv=>whnf
   refine bcase_p (fun hlt=>?_) (fun hlt=>?_)<;>conv=>whnf
   ·have es:((A.length+1+p:Nat):Int)+((A.length+1+q:Nat):Int)=(((A.length+1+p)+(A.length+1+q):Nat):Int):=by omega
    have eh:((A.length+1+p)+(A.length+1+q))/2=A.length+1+(p+q)/2:=by omega
    have hr:(p+q)/2<R.length:=by omega
    have hb1:p<= (p+q)/2:=by omega
    have hb2:(p+q)/2<q:=by omega
    refine aA ?_;rw [es];refine zCg (wu64 (by omega) (by omega)) (aW ?_);rw [half,eh];generalize hrr:(p+q)/2=r at hr hb1 hb2⊢;refine aA ?_;refine zAd (by omega) (w0 ?_);refine zAc (zBm (gr r hr)) (aW ?_);refine zAd (by omega) (w0 ?_);refine zAc (zBm ga) (aW ?_);obtain ⟨c,hcall,hlt2⟩:=hc.call R[r] x;refine zAa hcall (aW ?_)
    refine bcase_p (fun h2=>?_) (fun h2=>?_)<;>conv=>whnf
    ·have h3:=hlt2.1 h2;refine aA ?_
     have e1:((A.length+1+r:Nat):Int)+1=((A.length+1+(r+1):Nat):Int):=by omega
     rw [e1]
     exact ⟨(r+1,q),⟨by simp only [];omega,hqR,fun i hi hiR=>by
      cases e:le x R[i] with
      |false=>rfl
      |true=>(rw [hc.tp.trans _ _ _ e (zCa hc.tp sR hiR hr (by simp only [] at hi;omega))] at h3;cases h3),hQ⟩,by simp only [];omega,(le0 (zAb ⟨rfl,rfl,rfl,rfl,rfl,trivial⟩ ⟨rfl,trivial⟩ ⟨rfl,rfl,rfl,rfl⟩))⟩
    ·have h3:le x R[r]=true:=by
      cases e:le x R[r] with
      |true=>rfl
      |false=>exact absurd (hlt2.2 e) h2
     refine aA ?_;exact ⟨(p,r),⟨hb1,by simp only [];omega,hP,fun i hi hiR=>hc.tp.trans _ _ _ h3 (zCa hc.tp sR hr hiR hi)⟩,by simp only [];omega,(le0 (zAb ⟨rfl,rfl,rfl,rfl,rfl,trivial⟩ ⟨rfl,trivial⟩ ⟨rfl,rfl,rfl,rfl⟩))⟩
   ·have hpq2:p=q:=by omega
    subst hpq2;obtain ⟨R1,R2,rfl,hR1⟩:=zEo (X:=R) (n:=p) hqR
    have f1:∀ y∈R1,le x y=false:=fun y hy=>by
     obtain ⟨i,hi,rfl⟩:=List.mem_iff_getElem.1 hy;have:=hP i (by omega) (by simp;omega)
     rwa [List.getElem_append_left hi] at this
    have f2:∀ y∈R2,le x y=true:=fun y hy=>by
     obtain ⟨i,hi,rfl⟩:=List.mem_iff_getElem.1 hy;have:=hQ (R1.length+i) (by omega) (by simp;omega);rw [List.getElem_append_right (by omega)] at this
     simpa [Nat.add_sub_cancel_left] using this
    subst hR1
    have hfin:A++(srt le ([x]++(R1++R2))++C)=A++(R1++(x::(R2++C))):=by
     rw [List.singleton_append,<-yLl hc.tp sR f1 f2];simp
    rw [hfin]
    clear hfin gr hP hQ ga hml
    rw [List.length_append] at hm hqR
    have ei:((A.length+1+R1.length:Nat):Int)-1=((A.length+R1.length:Nat):Int):=by omega
    refine aA ?_;refine zAq (ι:=Nat) (fun u=>[(0,.own 1000000),(10,.d (.int .i64 ((A.length+1+R1.length:Nat):Int))),(13,.d (.int .i64 ((A.length+u:Nat):Int)))]) (fun u=>[(1000000,.row ((A++(R1.take u++(x::(R1.drop u++(R2++C))))).map encE) 11 false)])
     (fun u=>u<=R1.length) (fun u=>R1.length-u) 0 (Nat.zero_le _) (le0 (zAb ⟨rfl,rfl,rfl,trivial⟩ ⟨by show some (Blk.row ((A++([x]++((R1++R2)++C))).map encE) 11 false)=_;simp,trivial⟩ ⟨by show some _=some (Blk.row ((A++([x]++((R1++R2)++C))).map encE) 11 false);simp,rfl,rfl,rfl⟩)) ?_
    intro u hu
    conv=>whnf
    refine aA ?_;rw [ei]
    refine bcase_p (fun h4=>?_) (fun h4=>?_)<;>conv=>whnf
    ·have hu2:u<R1.length:=by omega
     have hd:R1.drop u=R1[u]::R1.drop (u+1):=zBg hu2;have ht:R1.take (u+1)=R1.take u++[R1[u]]:=zAs hu2
     have hl:(R1.take u).length=u:=by simp;omega
     have hl2:(R1.drop (u+1)).length+(u+1)=R1.length:=by simp;omega
     generalize R1[u]=y at hd ht
     have ez:A++(R1.take u++(x::(R1.drop u++(R2++C))))=(A++R1.take u)++x::(y::(R1.drop (u+1)++(R2++C))):=by rw [hd];simp only [List.append_assoc,List.cons_append]
     have ez2:(A++R1.take u)++x::(y::(R1.drop (u+1)++(R2++C)))=((A++R1.take u)++[x])++y::(R1.drop (u+1)++(R2++C)):=by simp only [List.append_assoc,List.cons_append,List.nil_append]
     rw [ez]
     have hml:(((A++R1.take u)++x::(y::(R1.drop (u+1)++(R2++C)))).map encE).length=A.length+1+R1.length+R2.length+C.length:=by simp only [List.length_map,List.length_append,List.length_cons,hl];omega
     have g1:((A++R1.take u)++x::(y::(R1.drop (u+1)++(R2++C))))[A.length+u]?=some x:=zFc (by simp [hl])
     have g2:((A++R1.take u)++x::(y::(R1.drop (u+1)++(R2++C))))[A.length+(u+1)]?=some y:=by rw [ez2];exact zFc (by simp [hl]<;>omega)
     have eu:((A.length+u:Nat):Int)+1=((A.length+(u+1):Nat):Int):=by omega
     have hs1:((A++R1.take u)++x::(y::(R1.drop (u+1)++(R2++C)))).set (A.length+u) y=(A++R1.take u)++y::(y::(R1.drop (u+1)++(R2++C))):=zKl (by simp [hl])
     have hs2:((A++R1.take u)++y::(y::(R1.drop (u+1)++(R2++C)))).set (A.length+(u+1)) x=A++(R1.take (u+1)++(x::(R1.drop (u+1)++(R2++C)))):=by
      rw [show (A++R1.take u)++y::(y::(R1.drop (u+1)++(R2++C)))=((A++R1.take u)++[y])++y::(R1.drop (u+1)++(R2++C)) by simp only [List.append_assoc,List.cons_append,List.nil_append],zKl (by simp [hl]<;>omega),ht];simp only [List.append_assoc,List.cons_append,List.nil_append]
     have g3:((A++R1.take u)++y::(y::(R1.drop (u+1)++(R2++C))))[A.length+(u+1)]?=some y:=by
      rw [show (A++R1.take u)++y::(y::(R1.drop (u+1)++(R2++C)))=((A++R1.take u)++[y])++y::(R1.drop (u+1)++(R2++C)) by simp only [List.append_assoc,List.cons_append,List.nil_append]];exact zFc (by simp [hl]<;>omega)
     generalize (A++R1.take u)++x::(y::(R1.drop (u+1)++(R2++C)))=Z0 at*
     generalize (A++R1.take u)++y::(y::(R1.drop (u+1)++(R2++C)))=Z1 at*
     refine aA ?_;rw [eu];refine zAd (by omega) (w0 ?_);refine zAc (zBm g2) (aW ?_);refine zAd (by omega) (w0 ?_);refine zAc (zBm g1) (aW ?_);refine zAd (by omega) (w0 ?_);refine zAc (zBm g1) (w0 ?_)
     have s1:(Z0.map encE).set (A.length+u) (zAy (encE x) 0 (encE y))=Z1.map encE:=by rw [<-hs1];exact zGd _ _ _
     refine aA ?_;refine zAd (by show _<(List.set _ _ _).length;rw [List.length_set];omega) (w0 ?_);refine zAc (x:=encE y) (by show (List.set _ _ (zAy (encE x) 0 (encE y)))[_]?=_;rw [s1];exact zBm g3) (aW ?_);rw [eu];exact ⟨u+1,hu2,by omega,le0 (zAb ⟨rfl,rfl,rfl,trivial⟩ ⟨by rw [<-hs2,<-zGd,<-s1];rfl,trivial⟩ ⟨by rw [show stL.hpL [(1000000,Blk.row ((A++(R1.take (u+1)++(x::(R1.drop (u+1)++(R2++C))))).map encE) 11 false)] 1000000=some (Blk.row ((A++(R1.take (u+1)++(x::(R1.drop (u+1)++(R2++C))))).map encE) 11 false) from rfl,<-hs2,<-zGd,<-s1];rfl,rfl,rfl,rfl⟩)⟩
    ·have hu2:u=R1.length:=by omega
     subst hu2;rw [List.take_of_length_le (Nat.le_refl _),List.drop_eq_nil_of_le (Nat.le_refl _),List.nil_append];refine aA ?_;exact zAi rfl rfl rfl ⟨rfl,trivial⟩
  refine aA ?_;rw [e2]
  refine bcase_p (fun hr1=>?_) (fun hr1=>?_)<;>conv=>whnf
  ·obtain ⟨x,rfl⟩:∃ x,R=[x]:=by
    match R,hr1 with
    | [x],_=>exact ⟨x,rfl⟩
    |_::_::_,h=>simp at h;omega
   clear e1 e2 r0 hR sR hr1 hl1
   refine aA ?_
   have ga:(A++(L++([x]++C)))[A.length+L.length]?=some x:=by rw [<-List.append_assoc];exact zFc (by simp)
   have hml:((A++(L++([x]++C))).map encE).length=A.length+L.length+1+C.length:=by simp;omega
   have gr (r:Nat) (hr:r<L.length):(A++(L++([x]++C)))[A.length+r]?=some L[r]:=by
    rw [List.getElem?_append_right (by omega),Nat.add_sub_cancel_left,List.getElem?_append_left hr,List.getElem?_eq_getElem hr]
   refine zAq (ι:=Nat×Nat) (fun s=>[(0,.own 1000000),(2,.d (.int .i64 ((A.length+L.length:Nat):Int))),(4,.d (.fn cf [])),(14,.d (.int .i64 ((A.length+s.1:Nat):Int))),(15,.d (.int .i64 ((A.length+s.2:Nat):Int)))]) (fun s=>[(1000000,.row ((A++(L++([x]++C))).map encE) 11 false)])
    (fun s=>s.1<=s.2/\s.2<=L.length/\ (∀ i,i<s.1->∀ h:i<L.length,le L[i] x=true) /\ (∀ i,s.2<=i->∀ h:i<L.length,le L[i] x=false)) (fun s=>s.2-s.1) (0,L.length) ⟨Nat.zero_le _,Nat.le_refl _,fun i h=>absurd h (Nat.not_lt_zero _),fun i h h2=>by omega⟩ (le0 (zAb ⟨rfl,rfl,rfl,rfl,rfl,trivial⟩ ⟨rfl,trivial⟩ ⟨rfl,rfl,rfl,rfl⟩)) ?_
   rintro ⟨p,q⟩ ⟨hpq,hqL,hP,hQ⟩;simp only at hpq hqL hP hQ⊢
   conv=>whnf
   refine bcase_p (fun hlt=>?_) (fun hlt=>?_)<;>conv=>whnf
   ·have es:((A.length+p:Nat):Int)+((A.length+q:Nat):Int)=(((A.length+p)+(A.length+q):Nat):Int):=by omega
    have eh:((A.length+p)+(A.length+q))/2=A.length+(p+q)/2:=by omega
    have hr:(p+q)/2<L.length:=by omega
    have hb1:p<= (p+q)/2:=by omega
    have hb2:(p+q)/2<q:=by omega
    refine aA ?_;rw [es];refine zCg (wu64 (by omega) (by omega)) (aW ?_);rw [half,eh];generalize hrr:(p+q)/2=r at hr hb1 hb2⊢;refine aA ?_;refine zAd (by omega) (w0 ?_);refine zAc (zBm ga) (aW ?_);refine zAd (by omega) (w0 ?_);refine zAc (zBm (gr r hr)) (aW ?_);obtain ⟨c,hcall,hlt2⟩:=hc.call x L[r];refine zAa hcall (aW ?_)
    refine bcase_n (fun h2=>?_) (fun h2=>?_)<;>conv=>whnf
    ·have h3:le L[r] x=true:=by
      cases e:le L[r] x with
      |true=>rfl
      |false=>exact absurd (hlt2.2 e) h2
     refine aA ?_
     have e1:((A.length+r:Nat):Int)+1=((A.length+(r+1):Nat):Int):=by omega
     rw [e1];exact ⟨(r+1,q),⟨by simp only [];omega,hqL,fun i hi hiR=>hc.tp.trans _ _ _ (zCa hc.tp sL hiR hr (by simp only [] at hi;omega)) h3,hQ⟩,by simp only [];omega,(le0 (zAb ⟨rfl,rfl,rfl,rfl,rfl,trivial⟩ ⟨rfl,trivial⟩ ⟨rfl,rfl,rfl,rfl⟩))⟩
    ·have h3:=hlt2.1 h2;refine aA ?_
     exact ⟨(p,r),⟨hb1,by simp only [];omega,hP,fun i hi hiR=>by
      cases e:le L[i] x with
      |false=>rfl
      |true=>(rw [hc.tp.trans _ _ _ (zCa hc.tp sL hr hiR hi) e] at h3;cases h3)⟩,by simp only [];omega,(le0 (zAb ⟨rfl,rfl,rfl,rfl,rfl,trivial⟩ ⟨rfl,trivial⟩ ⟨rfl,rfl,rfl,rfl⟩))⟩
   ·have hpq2:p=q:=by omega
    subst hpq2;obtain ⟨L1,L2,rfl,hL1⟩:=zEo (X:=L) (n:=p) hqL
    have f1:∀ y∈L1,le y x=true:=fun y hy=>by
     obtain ⟨i,hi,rfl⟩:=List.mem_iff_getElem.1 hy;have:=hP i (by omega) (by simp;omega)
     rwa [List.getElem_append_left hi] at this
    have f2:∀ y∈L2,le y x=false:=fun y hy=>by
     obtain ⟨i,hi,rfl⟩:=List.mem_iff_getElem.1 hy;have:=hQ (L1.length+i) (by omega) (by simp;omega);rw [List.getElem_append_right (by omega)] at this
     simpa [Nat.add_sub_cancel_left] using this
    subst hL1
    have hfin:A++(srt le ((L1++L2)++[x])++C)=A++(L1++(x::(L2++C))):=by
     rw [<-yLk hc.tp sL f1 f2];simp
    rw [hfin]
    clear hfin gr hP hQ ga hml
    rw [List.length_append] at hm hqL⊢;refine aA ?_;refine zAq (ι:=Nat) (fun u=>[(0,.own 1000000),(14,.d (.int .i64 ((A.length+L1.length:Nat):Int))),(17,.d (.int .i64 ((A.length+(L1.length+u):Nat):Int)))]) (fun u=>[(1000000,.row ((A++(L1++(L2.take u++(x::(L2.drop u++C))))).map encE) 11 false)])
     (fun u=>u<=L2.length) (fun u=>u) L2.length (Nat.le_refl _) (le0 (zAb ⟨rfl,rfl,rfl,trivial⟩ ⟨by show some (Blk.row ((A++((L1++L2)++([x]++C))).map encE) 11 false)=_;simp,trivial⟩ ⟨by show some _=some (Blk.row ((A++((L1++L2)++([x]++C))).map encE) 11 false);simp,rfl,rfl,rfl⟩)) ?_
    intro u hu
    conv=>whnf
    refine bcase_p (fun h4=>?_) (fun h4=>?_)<;>conv=>whnf
    ·obtain ⟨v,rfl⟩:∃ v,u=v+1:=⟨u-1,by omega⟩
     have hu2:v<L2.length:=by omega
     have hd:L2.drop v=L2[v]::L2.drop (v+1):=zBg hu2;have ht:L2.take (v+1)=L2.take v++[L2[v]]:=zAs hu2
     have hl:(L2.take v).length=v:=by simp;omega
     have hl2:(L2.drop (v+1)).length+(v+1)=L2.length:=by simp;omega
     generalize L2[v]=y at hd ht
     have ez:A++(L1++(L2.take (v+1)++(x::(L2.drop (v+1)++C))))=(A++(L1++L2.take v))++y::(x::(L2.drop (v+1)++C)):=by rw [ht];simp only [List.append_assoc,List.cons_append,List.nil_append]
     have ez2:(A++(L1++L2.take v))++y::(x::(L2.drop (v+1)++C))=((A++(L1++L2.take v))++[y])++x::(L2.drop (v+1)++C):=by simp only [List.append_assoc,List.cons_append,List.nil_append]
     have ez3:(A++(L1++L2.take v))++y::(y::(L2.drop (v+1)++C))=((A++(L1++L2.take v))++[y])++y::(L2.drop (v+1)++C):=by simp only [List.append_assoc,List.cons_append,List.nil_append]
     rw [ez]
     have hml:(((A++(L1++L2.take v))++y::(x::(L2.drop (v+1)++C))).map encE).length=A.length+L1.length+L2.length+1+C.length:=by simp only [List.length_map,List.length_append,List.length_cons,hl];omega
     have g2:((A++(L1++L2.take v))++y::(x::(L2.drop (v+1)++C)))[A.length+(L1.length+v)]?=some y:=zFc (by simp [hl])
     have g1:((A++(L1++L2.take v))++y::(x::(L2.drop (v+1)++C)))[A.length+(L1.length+(v+1))]?=some x:=by rw [ez2];exact zFc (by simp [hl]<;>omega)
     have eu:((A.length+(L1.length+(v+1)):Nat):Int)-1=((A.length+(L1.length+v):Nat):Int):=by omega
     have hs1:((A++(L1++L2.take v))++y::(x::(L2.drop (v+1)++C))).set (A.length+(L1.length+(v+1))) y=(A++(L1++L2.take v))++y::(y::(L2.drop (v+1)++C)):=by rw [ez2,zKl (by simp [hl]<;>omega),ez3]
     have hs2:((A++(L1++L2.take v))++y::(y::(L2.drop (v+1)++C))).set (A.length+(L1.length+v)) x=A++(L1++(L2.take v++(x::(L2.drop v++C)))):=by
      rw [zKl (by simp [hl]),hd];simp only [List.append_assoc,List.cons_append,List.nil_append]
     have g3:((A++(L1++L2.take v))++y::(y::(L2.drop (v+1)++C)))[A.length+(L1.length+v)]?=some y:=zFc (by simp [hl])
     generalize (A++(L1++L2.take v))++y::(x::(L2.drop (v+1)++C))=Z0 at*
     generalize (A++(L1++L2.take v))++y::(y::(L2.drop (v+1)++C))=Z1 at*
     refine aA ?_;rw [eu];refine zAd (by omega) (w0 ?_);refine zAc (zBm g2) (aW ?_);refine zAd (by omega) (w0 ?_);refine zAc (zBm g1) (aW ?_);refine zAd (by omega) (w0 ?_);refine zAc (zBm g1) (w0 ?_)
     have s1:(Z0.map encE).set (A.length+(L1.length+(v+1))) (zAy (encE x) 0 (encE y))=Z1.map encE:=by rw [<-hs1];exact zGd _ _ _
     refine aA ?_;refine zAd (by show _<(List.set _ _ _).length;rw [List.length_set];omega) (w0 ?_);refine zAc (x:=encE y) (by show (List.set _ _ (zAy (encE x) 0 (encE y)))[_]?=_;rw [s1];exact zBm g3) (aW ?_);rw [eu];exact ⟨v,by omega,by omega,le0 (zAb ⟨rfl,rfl,rfl,trivial⟩ ⟨by rw [<-hs2,<-zGd,<-s1];rfl,trivial⟩ ⟨by rw [show stL.hpL [(1000000,Blk.row ((A++(L1++(L2.take v++(x::(L2.drop v++C))))).map encE) 11 false)] 1000000=some (Blk.row ((A++(L1++(L2.take v++(x::(L2.drop v++C))))).map encE) 11 false) from rfl,<-hs2,<-zGd,<-s1];rfl,rfl,rfl,rfl⟩)⟩
    ·have hu2:u=0:=by omega
     subst hu2;rw [List.take_zero,List.drop_zero,List.nil_append];refine aA ?_;exact zAi rfl rfl rfl ⟨rfl,trivial⟩
  ·clear e1 e2
   have hl2:2<=L.length:=by omega
   have hr2:2<=R.length:=by omega
   have IH:∀ (A L R C X:List Ev) (a m b:Nat),a=A.length->m=A.length+L.length->b=A.length+L.length+R.length->X=A++(L++(R++C))->L.length+R.length<=n->L≠[]->R≠[]->zBy le L->zBy le R->A.length+L.length+R.length+C.length<=1000000->
     zAx Tryz.prog 250 [.own 1000000,.d (.int .i64 (a:Int)),.d (.int .i64 (m:Int)),.d (.int .i64 (b:Int)),.d (.fn cf [])] [(1000000,.row (X.map encE) 11 false)] [(1000000,.row ((A++(srt le (L++R)++C)).map encE) 11 false)] (.tup []):=by
    intro A L R C X a m b h1 h2 h3 h4 h5 h6 h7 h8 h9 h10;subst h1 h2 h3 h4;exact zXo cf le hc n A L R C h5 h6 h7 h8 h9 h10
   obtain ⟨h,hh⟩:∃ h,h=(L.length+R.length)/2:=⟨_,rfl⟩
   have es:(A.length:Int)+((A.length+L.length+R.length:Nat):Int)=((A.length+(A.length+L.length+R.length):Nat):Int):=by omega
   have eh:(A.length+(A.length+L.length+R.length))/2=A.length+h:=by omega
   have en:((A.length+h:Nat):Int)+((A.length+L.length:Nat):Int)=((A.length+h+(A.length+L.length):Nat):Int):=by omega
   have ep:((A.length+h+(A.length+L.length):Nat):Int)-1=((A.length+h+(A.length+L.length)-1:Nat):Int):=by omega
   refine aA ?_;rw [es];refine zCg (wu64 (by omega) (by omega)) (aW ?_);rw [half,eh];refine aA ?_;rw [en]
   refine bcase_p (fun hb=>?_) (fun hb=>?_)<;>conv=>whnf
   ·have hlo:zQn L.length R.length h=h-R.length:=if_pos (by omega);have hhi:zQm L.length h=h:=if_pos (by omega)
    have e20:((A.length+h+(A.length+L.length):Nat):Int)-((A.length+L.length+R.length:Nat):Int)=((A.length+zQn L.length R.length h:Nat):Int):=by rw [hlo];omega
    have e21:A.length+h=A.length+zQm L.length h:=by rw [hhi]
    have hcs:L.length>h/\zQn L.length R.length h=h-R.length/\zQm L.length h=h\/L.length<=h/\zQn L.length R.length h=0/\zQm L.length h=L.length:=.inl ⟨by omega,hlo,hhi⟩;refine aA ?_;rw [e20,ep]
    have gl (u:Nat) (hu:u<L.length):(A++(L++(R++C)))[A.length+u]?=some L[u]:=by
     rw [List.getElem?_append_right (by omega),Nat.add_sub_cancel_left,List.getElem?_append_left hu,List.getElem?_eq_getElem hu]
    have gr (v:Nat) (hv:v<R.length):(A++(L++(R++C)))[A.length+L.length+v]?=some R[v]:=by
     rw [List.getElem?_append_right (by omega),List.getElem?_append_right (by omega),show A.length+L.length+v-A.length-L.length=v by omega,List.getElem?_append_left hv,List.getElem?_eq_getElem hv]
    have hml:((A++(L++(R++C))).map encE).length=A.length+L.length+R.length+C.length:=by simp only [List.length_map,List.length_append];omega
    generalize hlo':zQn L.length R.length h=lo at hcs⊢;generalize hhi':zQm L.length h=hi at hcs⊢;refine zAq (ι:=Nat×Nat) (fun s=>[(0,.own 1000000),(1,.d (.int .i64 A.length)),(2,.d (.int .i64 ((A.length+L.length:Nat):Int))),(3,.d (.int .i64 ((A.length+L.length+R.length:Nat):Int))),(4,.d (.fn cf [])),(18,.d (.int .i64 ((A.length+h:Nat):Int))),(19,.d (.int .i64 ((A.length+h+(A.length+L.length):Nat):Int))),(20,.d (.int .i64 ((A.length+s.1:Nat):Int))),(21,.d (.int .i64 ((A.length+s.2:Nat):Int))),(22,.d (.int .i64 ((A.length+h+(A.length+L.length)-1:Nat):Int)))]) (fun s=>[(1000000,.row ((A++(L++(R++C))).map encE) 11 false)])
     (fun s=>lo<=s.1/\s.1<=s.2/\s.2<=hi/\ (∀ u,lo<=u->u<s.1->∀ (hu:u<L.length) (hv:h-1-u<R.length),le L[u] R[h-1-u]=true) /\ (∀ u,s.2<=u->u<hi->∀ (hu:u<L.length) (hv:h-1-u<R.length),le L[u] R[h-1-u]=false)) (fun s=>s.2-s.1) (lo,hi) ⟨Nat.le_refl _,by simp only [];omega,Nat.le_refl _,fun u h1 h2=>by simp only [] at h2;omega,fun u h1 h2=>by simp only [] at h1;omega⟩
     (le0 (zAb ⟨rfl,rfl,rfl,rfl,rfl,rfl,rfl,rfl,(by rw [<-hhi',hhi];rfl),rfl,trivial⟩ ⟨rfl,trivial⟩ ⟨rfl,rfl,rfl,rfl⟩)) ?_
    rintro ⟨s,r⟩ ⟨q1,q2,q3,hP,hQ⟩;simp only at q1 q2 q3 hP hQ⊢
    conv=>whnf
    refine bcase_p (fun hlt=>?_) (fun hlt=>?_)<;>conv=>whnf
    ·have es2:((A.length+s:Nat):Int)+((A.length+r:Nat):Int)=(((A.length+s)+(A.length+r):Nat):Int):=by omega
     have eh2:((A.length+s)+(A.length+r))/2=A.length+(s+r)/2:=by omega
     have hb1:s<= (s+r)/2:=by omega
     have hb2:(s+r)/2<r:=by omega
     refine aA ?_;rw [es2];refine zCg (wu64 (by omega) (by omega)) (aW ?_);rw [half,eh2];generalize hrr:(s+r)/2=u at hb1 hb2⊢
     have hu:u<L.length:=by omega
     have hv:h-1-u<R.length:=by omega
     have ei:((A.length+h+(A.length+L.length)-1:Nat):Int)-((A.length+u:Nat):Int)=((A.length+L.length+(h-1-u):Nat):Int):=by omega
     refine aA ?_;rw [ei];refine zAd (by omega) (w0 ?_);refine zAc (zBm (gr _ hv)) (aW ?_);refine zAd (by omega) (w0 ?_);refine zAc (zBm (gl u hu)) (aW ?_);obtain ⟨c,hcall,hlt2⟩:=hc.call R[h-1-u] L[u];refine zAa hcall (aW ?_)
     refine bcase_n (fun h2=>?_) (fun h2=>?_)<;>conv=>whnf
     ·have h3:le L[u] R[h-1-u]=true:=by
       cases e:le L[u] R[h-1-u] with
       |true=>rfl
       |false=>exact absurd (hlt2.2 e) h2
      refine aA ?_
      have e1:((A.length+u:Nat):Int)+1=((A.length+(u+1):Nat):Int):=by omega
      rw [e1];exact ⟨(u+1,r),⟨by simp only [];omega,by simp only [];omega,q3,fun w k1 k2 hw hv2=>hc.tp.trans _ _ _ (zCa hc.tp sL hw hu (by simp only [] at k2;omega)) (hc.tp.trans _ _ _ h3 (zCa hc.tp sR hv hv2 (by simp only [] at k2;omega))),hQ⟩,by simp only [];omega,(le0 (zAb ⟨rfl,rfl,rfl,rfl,rfl,rfl,rfl,rfl,rfl,rfl,trivial⟩ ⟨rfl,trivial⟩ ⟨rfl,rfl,rfl,rfl⟩))⟩
     ·have h3:=hlt2.1 h2;refine aA ?_
      exact ⟨(s,u),⟨q1,by simp only [];omega,by simp only [];omega,hP,fun w k1 k2 hw hv2=>by
       cases e:le L[w] R[h-1-w] with
       |false=>rfl
       |true=>(rw [hc.tp.trans _ _ _ (zCa hc.tp sL hu hw (by simp only [] at k1;omega)) (hc.tp.trans _ _ _ e (zCa hc.tp sR hv2 hv (by simp only [] at k1;omega)))] at h3;cases h3)⟩,by simp only [];omega,(le0 (zAb ⟨rfl,rfl,rfl,rfl,rfl,rfl,rfl,rfl,rfl,rfl,trivial⟩ ⟨rfl,trivial⟩ ⟨rfl,rfl,rfl,rfl⟩))⟩
    ·have hsr:s=r:=by omega
     subst hsr;have hsp:=z7k hc.tp sL sR (h:=h) (s:=s) hh (by omega) (by omega) (by rw [hlo'];exact hP) (by rw [hhi'];exact hQ)
     clear hP hQ gl gr hml
     have hsh:s<=h:=by omega
     obtain ⟨L1,L2,rfl,hL1⟩:=zEo (X:=L) (n:=s) (by omega);obtain ⟨R1,R2,rfl,hR1⟩:=zEo (X:=R) (n:=h-s) (by omega);rw [<-hR1,<-hL1,List.take_left,List.drop_left,List.take_left,List.drop_left] at hsp;obtain ⟨sp1,sp2⟩:=hsp;obtain ⟨sl1,sl2,_⟩:=zCi.1 sL;obtain ⟨sr1,sr2,_⟩:=zCi.1 sR
     have hfin:A++(srt le ((L1++L2)++(R1++R2))++C)=A++(srt le (L1++R1)++(srt le (L2++R2)++C)):=by rw [<-zSx hc.tp sL sR sp1 sp2];simp only [List.append_assoc]
     have hone:∀ {a b:List Ev},zBy le a->zBy le b->(a=[] \/b=[])->srt le (a++b)=a++b:=fun {a b} ha hb hab=>by
      rcases hab with e|e
      ·subst e;exact yEy hc.tp hb
      ·subst e;rw [List.append_nil];exact yEy hc.tp ha
     rw [hfin]
     clear hfin sp1 sp2 hcs
     simp only [List.length_append] at hm hn hl2 hr2 hh q1 q3⊢
     have e24:((A.length+h+(A.length+(L1.length+L2.length)):Nat):Int)-((A.length+s:Nat):Int)=((A.length+(L1.length+L2.length)+(h-s):Nat):Int):=by omega
     have er0:A++((L1++L2)++((R1++R2)++C))=A++(L1++(L2++(R1++(R2++C)))):=by simp only [List.append_assoc]
     rw [er0];refine aA ?_;rw [e24]
     refine bcase_p (fun c1=>?_) (fun c1=>?_)<;>conv=>whnf
     ·refine aA ?_
      refine bcase_p (fun c2=>?_) (fun c2=>?_)<;>conv=>whnf
      ·refine aA ?_;refine zAu (yNo cf (A++L1) L2 R1 (R2++C) _ (A.length+s) (A.length+(L1.length+L2.length)) (A.length+(L1.length+L2.length)+(h-s)) (by rw [List.length_append];omega) (by rw [List.length_append];omega) (by rw [List.length_append];omega) (show A++(L1++(L2++(R1++(R2++C))))=_ by simp only [List.append_assoc]) (by intro e;subst e;simp only [List.length_nil] at c1;omega) (by intro e;subst e;simp only [List.length_nil] at hR1;omega) (by simp only [List.length_append];omega)) [(1000000,1000000)] rfl ⟨rfl,trivial⟩ rfl (w0 ?_)
       have er1:(A++L1)++(R1++(L2++(R2++C)))=A++(L1++(R1++(L2++(R2++C)))):=by simp only [List.append_assoc]
       rw [er1];refine aA ?_
       refine bcase_p (fun c3=>?_) (fun c3=>?_)<;>conv=>whnf
       ·refine aA ?_
        refine bcase_p (fun c4=>?_) (fun c4=>?_)<;>conv=>whnf
        ·refine aA ?_;refine zAu (IH A L1 R1 (L2++(R2++C)) (A++(L1++(R1++(L2++(R2++C))))) A.length (A.length+s) (A.length+h) rfl (by omega) (by omega) rfl (by omega) (by intro e;subst e;simp only [List.length_nil] at hL1;omega) (by intro e;subst e;simp only [List.length_nil] at hR1;omega) sl1 sr1 (by simp only [List.length_append];omega)) [(1000000,1000000)] rfl ⟨rfl,trivial⟩ rfl (aW ?_)
         refine bcase_p (fun c5=>?_) (fun c5=>?_)<;>conv=>whnf
         ·refine aA ?_
          refine bcase_p (fun c6=>?_) (fun c6=>?_)<;>conv=>whnf
          ·refine aA ?_;refine zAu (IH (A++srt le (L1++R1)) L2 R2 C (A++(srt le (L1++R1)++(L2++(R2++C)))) (A.length+h) (A.length+(L1.length+L2.length)+(h-s)) (A.length+(L1.length+L2.length)+(R1.length+R2.length)) (by rw [List.length_append,zAm,List.length_append];omega) (by rw [List.length_append,zAm,List.length_append];omega) (by rw [List.length_append,zAm,List.length_append];omega) (by simp only [List.append_assoc]) (by omega) (by intro e;subst e;simp only [List.length_nil] at c5;omega) (by intro e;subst e;simp only [List.length_nil] at c6;omega) sl2 sr2 (by simp only [List.length_append,zAm];omega)) [(1000000,1000000)] rfl ⟨rfl,trivial⟩ rfl (aW ?_);refine zAi rfl rfl rfl ⟨?_,trivial⟩;rw [show A++(srt le (L1++R1)++(srt le (L2++R2)++C))=(A++srt le (L1++R1))++(srt le (L2++R2)++C) by simp only [List.append_assoc]];rfl
          ·have hR0:R2=[]:=List.length_eq_zero_iff.1 (by omega);refine aA ?_;refine zAi rfl rfl rfl ⟨?_,trivial⟩;rw [show A++(srt le (L1++R1)++(srt le (L2++R2)++C))=A++(srt le (L1++R1)++(L2++(R2++C))) by rw [hone sl2 sr2 (.inr hR0)];simp only [List.append_assoc]];rfl
         ·have hL0:L2=[]:=List.length_eq_zero_iff.1 (by omega);refine aA ?_;refine zAi rfl rfl rfl ⟨?_,trivial⟩;rw [show A++(srt le (L1++R1)++(srt le (L2++R2)++C))=A++(srt le (L1++R1)++(L2++(R2++C))) by rw [hone sl2 sr2 (.inl hL0)];simp only [List.append_assoc]];rfl
        ·have hR0:R1=[]:=List.length_eq_zero_iff.1 (by omega)
         have er2:A++(L1++(R1++(L2++(R2++C))))=A++(srt le (L1++R1)++(L2++(R2++C))):=by rw [hone sl1 sr1 (.inr hR0)];simp only [List.append_assoc]
         rw [er2];refine aA ?_
         refine bcase_p (fun c5=>?_) (fun c5=>?_)<;>conv=>whnf
         ·refine aA ?_
          refine bcase_p (fun c6=>?_) (fun c6=>?_)<;>conv=>whnf
          ·refine aA ?_;refine zAu (IH (A++srt le (L1++R1)) L2 R2 C (A++(srt le (L1++R1)++(L2++(R2++C)))) (A.length+h) (A.length+(L1.length+L2.length)+(h-s)) (A.length+(L1.length+L2.length)+(R1.length+R2.length)) (by rw [List.length_append,zAm,List.length_append];omega) (by rw [List.length_append,zAm,List.length_append];omega) (by rw [List.length_append,zAm,List.length_append];omega) (by simp only [List.append_assoc]) (by omega) (by intro e;subst e;simp only [List.length_nil] at c5;omega) (by intro e;subst e;simp only [List.length_nil] at c6;omega) sl2 sr2 (by simp only [List.length_append,zAm];omega)) [(1000000,1000000)] rfl ⟨rfl,trivial⟩ rfl (aW ?_);refine zAi rfl rfl rfl ⟨?_,trivial⟩;rw [show A++(srt le (L1++R1)++(srt le (L2++R2)++C))=(A++srt le (L1++R1))++(srt le (L2++R2)++C) by simp only [List.append_assoc]];rfl
          ·have hR0:R2=[]:=List.length_eq_zero_iff.1 (by omega);refine aA ?_;refine zAi rfl rfl rfl ⟨?_,trivial⟩;rw [show A++(srt le (L1++R1)++(srt le (L2++R2)++C))=A++(srt le (L1++R1)++(L2++(R2++C))) by rw [hone sl2 sr2 (.inr hR0)];simp only [List.append_assoc]];rfl
         ·have hL0:L2=[]:=List.length_eq_zero_iff.1 (by omega);refine aA ?_;refine zAi rfl rfl rfl ⟨?_,trivial⟩;rw [show A++(srt le (L1++R1)++(srt le (L2++R2)++C))=A++(srt le (L1++R1)++(L2++(R2++C))) by rw [hone sl2 sr2 (.inl hL0)];simp only [List.append_assoc]];rfl
       ·have hL0:L1=[]:=List.length_eq_zero_iff.1 (by omega)
        have er2:A++(L1++(R1++(L2++(R2++C))))=A++(srt le (L1++R1)++(L2++(R2++C))):=by rw [hone sl1 sr1 (.inl hL0)];simp only [List.append_assoc]
        rw [er2];refine aA ?_
        refine bcase_p (fun c5=>?_) (fun c5=>?_)<;>conv=>whnf
        ·refine aA ?_
         refine bcase_p (fun c6=>?_) (fun c6=>?_)<;>conv=>whnf
         ·refine aA ?_;refine zAu (IH (A++srt le (L1++R1)) L2 R2 C (A++(srt le (L1++R1)++(L2++(R2++C)))) (A.length+h) (A.length+(L1.length+L2.length)+(h-s)) (A.length+(L1.length+L2.length)+(R1.length+R2.length)) (by rw [List.length_append,zAm,List.length_append];omega) (by rw [List.length_append,zAm,List.length_append];omega) (by rw [List.length_append,zAm,List.length_append];omega) (by simp only [List.append_assoc]) (by omega) (by intro e;subst e;simp only [List.length_nil] at c5;omega) (by intro e;subst e;simp only [List.length_nil] at c6;omega) sl2 sr2 (by simp only [List.length_append,zAm];omega)) [(1000000,1000000)] rfl ⟨rfl,trivial⟩ rfl (aW ?_);refine zAi rfl rfl rfl ⟨?_,trivial⟩;rw [show A++(srt le (L1++R1)++(srt le (L2++R2)++C))=(A++srt le (L1++R1))++(srt le (L2++R2)++C) by simp only [List.append_assoc]];rfl
         ·have hR0:R2=[]:=List.length_eq_zero_iff.1 (by omega);refine aA ?_;refine zAi rfl rfl rfl ⟨?_,trivial⟩;rw [show A++(srt le (L1++R1)++(srt le (L2++R2)++C))=A++(srt le (L1++R1)++(L2++(R2++C))) by rw [hone sl2 sr2 (.inr hR0)];simp only [List.append_assoc]];rfl
        ·have hL0:L2=[]:=List.length_eq_zero_iff.1 (by omega);refine aA ?_;refine zAi rfl rfl rfl ⟨?_,trivial⟩;rw [show A++(srt le (L1++R1)++(srt le (L2++R2)++C))=A++(srt le (L1++R1)++(L2++(R2++C))) by rw [hone sl2 sr2 (.inl hL0)];simp only [List.append_assoc]];rfl
      ·have hR0:R1=[]:=List.length_eq_zero_iff.1 (by omega)
       have er1:A++(L1++(L2++(R1++(R2++C))))=A++(L1++(R1++(L2++(R2++C)))):=by rw [hR0];rfl
       rw [er1];refine aA ?_
       refine bcase_p (fun c3=>?_) (fun c3=>?_)<;>conv=>whnf
       ·refine aA ?_
        refine bcase_p (fun c4=>?_) (fun c4=>?_)<;>conv=>whnf
        ·refine aA ?_;refine zAu (IH A L1 R1 (L2++(R2++C)) (A++(L1++(R1++(L2++(R2++C))))) A.length (A.length+s) (A.length+h) rfl (by omega) (by omega) rfl (by omega) (by intro e;subst e;simp only [List.length_nil] at hL1;omega) (by intro e;subst e;simp only [List.length_nil] at hR1;omega) sl1 sr1 (by simp only [List.length_append];omega)) [(1000000,1000000)] rfl ⟨rfl,trivial⟩ rfl (aW ?_)
         refine bcase_p (fun c5=>?_) (fun c5=>?_)<;>conv=>whnf
         ·refine aA ?_
          refine bcase_p (fun c6=>?_) (fun c6=>?_)<;>conv=>whnf
          ·refine aA ?_;refine zAu (IH (A++srt le (L1++R1)) L2 R2 C (A++(srt le (L1++R1)++(L2++(R2++C)))) (A.length+h) (A.length+(L1.length+L2.length)+(h-s)) (A.length+(L1.length+L2.length)+(R1.length+R2.length)) (by rw [List.length_append,zAm,List.length_append];omega) (by rw [List.length_append,zAm,List.length_append];omega) (by rw [List.length_append,zAm,List.length_append];omega) (by simp only [List.append_assoc]) (by omega) (by intro e;subst e;simp only [List.length_nil] at c5;omega) (by intro e;subst e;simp only [List.length_nil] at c6;omega) sl2 sr2 (by simp only [List.length_append,zAm];omega)) [(1000000,1000000)] rfl ⟨rfl,trivial⟩ rfl (aW ?_);refine zAi rfl rfl rfl ⟨?_,trivial⟩;rw [show A++(srt le (L1++R1)++(srt le (L2++R2)++C))=(A++srt le (L1++R1))++(srt le (L2++R2)++C) by simp only [List.append_assoc]];rfl
          ·have hR0:R2=[]:=List.length_eq_zero_iff.1 (by omega);refine aA ?_;refine zAi rfl rfl rfl ⟨?_,trivial⟩;rw [show A++(srt le (L1++R1)++(srt le (L2++R2)++C))=A++(srt le (L1++R1)++(L2++(R2++C))) by rw [hone sl2 sr2 (.inr hR0)];simp only [List.append_assoc]];rfl
         ·have hL0:L2=[]:=List.length_eq_zero_iff.1 (by omega);refine aA ?_;refine zAi rfl rfl rfl ⟨?_,trivial⟩;rw [show A++(srt le (L1++R1)++(srt le (L2++R2)++C))=A++(srt le (L1++R1)++(L2++(R2++C))) by rw [hone sl2 sr2 (.inl hL0)];simp only [List.append_assoc]];rfl
        ·have hR0:R1=[]:=List.length_eq_zero_iff.1 (by omega)
         have er2:A++(L1++(R1++(L2++(R2++C))))=A++(srt le (L1++R1)++(L2++(R2++C))):=by rw [hone sl1 sr1 (.inr hR0)];simp only [List.append_assoc]
         rw [er2];refine aA ?_
         refine bcase_p (fun c5=>?_) (fun c5=>?_)<;>conv=>whnf
         ·refine aA ?_
          refine bcase_p (fun c6=>?_) (fun c6=>?_)<;>conv=>whnf
          ·refine aA ?_;refine zAu (IH (A++srt le (L1++R1)) L2 R2 C (A++(srt le (L1++R1)++(L2++(R2++C)))) (A.length+h) (A.length+(L1.length+L2.length)+(h-s)) (A.length+(L1.length+L2.length)+(R1.length+R2.length)) (by rw [List.length_append,zAm,List.length_append];omega) (by rw [List.length_append,zAm,List.length_append];omega) (by rw [List.length_append,zAm,List.length_append];omega) (by simp only [List.append_assoc]) (by omega) (by intro e;subst e;simp only [List.length_nil] at c5;omega) (by intro e;subst e;simp only [List.length_nil] at c6;omega) sl2 sr2 (by simp only [List.length_append,zAm];omega)) [(1000000,1000000)] rfl ⟨rfl,trivial⟩ rfl (aW ?_);refine zAi rfl rfl rfl ⟨?_,trivial⟩;rw [show A++(srt le (L1++R1)++(srt le (L2++R2)++C))=(A++srt le (L1++R1))++(srt le (L2++R2)++C) by simp only [List.append_assoc]];rfl
          ·have hR0:R2=[]:=List.length_eq_zero_iff.1 (by omega);refine aA ?_;refine zAi rfl rfl rfl ⟨?_,trivial⟩;rw [show A++(srt le (L1++R1)++(srt le (L2++R2)++C))=A++(srt le (L1++R1)++(L2++(R2++C))) by rw [hone sl2 sr2 (.inr hR0)];simp only [List.append_assoc]];rfl
         ·have hL0:L2=[]:=List.length_eq_zero_iff.1 (by omega);refine aA ?_;refine zAi rfl rfl rfl ⟨?_,trivial⟩;rw [show A++(srt le (L1++R1)++(srt le (L2++R2)++C))=A++(srt le (L1++R1)++(L2++(R2++C))) by rw [hone sl2 sr2 (.inl hL0)];simp only [List.append_assoc]];rfl
       ·have hL0:L1=[]:=List.length_eq_zero_iff.1 (by omega)
        have er2:A++(L1++(R1++(L2++(R2++C))))=A++(srt le (L1++R1)++(L2++(R2++C))):=by rw [hone sl1 sr1 (.inl hL0)];simp only [List.append_assoc]
        rw [er2];refine aA ?_
        refine bcase_p (fun c5=>?_) (fun c5=>?_)<;>conv=>whnf
        ·refine aA ?_
         refine bcase_p (fun c6=>?_) (fun c6=>?_)<;>conv=>whnf
         ·refine aA ?_;refine zAu (IH (A++srt le (L1++R1)) L2 R2 C (A++(srt le (L1++R1)++(L2++(R2++C)))) (A.length+h) (A.length+(L1.length+L2.length)+(h-s)) (A.length+(L1.length+L2.length)+(R1.length+R2.length)) (by rw [List.length_append,zAm,List.length_append];omega) (by rw [List.length_append,zAm,List.length_append];omega) (by rw [List.length_append,zAm,List.length_append];omega) (by simp only [List.append_assoc]) (by omega) (by intro e;subst e;simp only [List.length_nil] at c5;omega) (by intro e;subst e;simp only [List.length_nil] at c6;omega) sl2 sr2 (by simp only [List.length_append,zAm];omega)) [(1000000,1000000)] rfl ⟨rfl,trivial⟩ rfl (aW ?_);refine zAi rfl rfl rfl ⟨?_,trivial⟩;rw [show A++(srt le (L1++R1)++(srt le (L2++R2)++C))=(A++srt le (L1++R1))++(srt le (L2++R2)++C) by simp only [List.append_assoc]];rfl
         ·have hR0:R2=[]:=List.length_eq_zero_iff.1 (by omega);refine aA ?_;refine zAi rfl rfl rfl ⟨?_,trivial⟩;rw [show A++(srt le (L1++R1)++(srt le (L2++R2)++C))=A++(srt le (L1++R1)++(L2++(R2++C))) by rw [hone sl2 sr2 (.inr hR0)];simp only [List.append_assoc]];rfl
        ·have hL0:L2=[]:=List.length_eq_zero_iff.1 (by omega);refine aA ?_;refine zAi rfl rfl rfl ⟨?_,trivial⟩;rw [show A++(srt le (L1++R1)++(srt le (L2++R2)++C))=A++(srt le (L1++R1)++(L2++(R2++C))) by rw [hone sl2 sr2 (.inl hL0)];simp only [List.append_assoc]];rfl
     ·have hL0:L2=[]:=List.length_eq_zero_iff.1 (by omega)
      have er1:A++(L1++(L2++(R1++(R2++C))))=A++(L1++(R1++(L2++(R2++C)))):=by rw [hL0];rfl
      rw [er1];refine aA ?_
      refine bcase_p (fun c3=>?_) (fun c3=>?_)<;>conv=>whnf
      ·refine aA ?_
       refine bcase_p (fun c4=>?_) (fun c4=>?_)<;>conv=>whnf
       ·refine aA ?_;refine zAu (IH A L1 R1 (L2++(R2++C)) (A++(L1++(R1++(L2++(R2++C))))) A.length (A.length+s) (A.length+h) rfl (by omega) (by omega) rfl (by omega) (by intro e;subst e;simp only [List.length_nil] at hL1;omega) (by intro e;subst e;simp only [List.length_nil] at hR1;omega) sl1 sr1 (by simp only [List.length_append];omega)) [(1000000,1000000)] rfl ⟨rfl,trivial⟩ rfl (aW ?_)
        refine bcase_p (fun c5=>?_) (fun c5=>?_)<;>conv=>whnf
        ·refine aA ?_
         refine bcase_p (fun c6=>?_) (fun c6=>?_)<;>conv=>whnf
         ·refine aA ?_;refine zAu (IH (A++srt le (L1++R1)) L2 R2 C (A++(srt le (L1++R1)++(L2++(R2++C)))) (A.length+h) (A.length+(L1.length+L2.length)+(h-s)) (A.length+(L1.length+L2.length)+(R1.length+R2.length)) (by rw [List.length_append,zAm,List.length_append];omega) (by rw [List.length_append,zAm,List.length_append];omega) (by rw [List.length_append,zAm,List.length_append];omega) (by simp only [List.append_assoc]) (by omega) (by intro e;subst e;simp only [List.length_nil] at c5;omega) (by intro e;subst e;simp only [List.length_nil] at c6;omega) sl2 sr2 (by simp only [List.length_append,zAm];omega)) [(1000000,1000000)] rfl ⟨rfl,trivial⟩ rfl (aW ?_);refine zAi rfl rfl rfl ⟨?_,trivial⟩;rw [show A++(srt le (L1++R1)++(srt le (L2++R2)++C))=(A++srt le (L1++R1))++(srt le (L2++R2)++C) by simp only [List.append_assoc]];rfl
         ·have hR0:R2=[]:=List.length_eq_zero_iff.1 (by omega);refine aA ?_;refine zAi rfl rfl rfl ⟨?_,trivial⟩;rw [show A++(srt le (L1++R1)++(srt le (L2++R2)++C))=A++(srt le (L1++R1)++(L2++(R2++C))) by rw [hone sl2 sr2 (.inr hR0)];simp only [List.append_assoc]];rfl
        ·have hL0:L2=[]:=List.length_eq_zero_iff.1 (by omega);refine aA ?_;refine zAi rfl rfl rfl ⟨?_,trivial⟩;rw [show A++(srt le (L1++R1)++(srt le (L2++R2)++C))=A++(srt le (L1++R1)++(L2++(R2++C))) by rw [hone sl2 sr2 (.inl hL0)];simp only [List.append_assoc]];rfl
       ·have hR0:R1=[]:=List.length_eq_zero_iff.1 (by omega)
        have er2:A++(L1++(R1++(L2++(R2++C))))=A++(srt le (L1++R1)++(L2++(R2++C))):=by rw [hone sl1 sr1 (.inr hR0)];simp only [List.append_assoc]
        rw [er2];refine aA ?_
        refine bcase_p (fun c5=>?_) (fun c5=>?_)<;>conv=>whnf
        ·refine aA ?_
         refine bcase_p (fun c6=>?_) (fun c6=>?_)<;>conv=>whnf
         ·refine aA ?_;refine zAu (IH (A++srt le (L1++R1)) L2 R2 C (A++(srt le (L1++R1)++(L2++(R2++C)))) (A.length+h) (A.length+(L1.length+L2.length)+(h-s)) (A.length+(L1.length+L2.length)+(R1.length+R2.length)) (by rw [List.length_append,zAm,List.length_append];omega) (by rw [List.length_append,zAm,List.length_append];omega) (by rw [List.length_append,zAm,List.length_append];omega) (by simp only [List.append_assoc]) (by omega) (by intro e;subst e;simp only [List.length_nil] at c5;omega) (by intro e;subst e;simp only [List.length_nil] at c6;omega) sl2 sr2 (by simp only [List.length_append,zAm];omega)) [(1000000,1000000)] rfl ⟨rfl,trivial⟩ rfl (aW ?_);refine zAi rfl rfl rfl ⟨?_,trivial⟩;rw [show A++(srt le (L1++R1)++(srt le (L2++R2)++C))=(A++srt le (L1++R1))++(srt le (L2++R2)++C) by simp only [List.append_assoc]];rfl
         ·have hR0:R2=[]:=List.length_eq_zero_iff.1 (by omega);refine aA ?_;refine zAi rfl rfl rfl ⟨?_,trivial⟩;rw [show A++(srt le (L1++R1)++(srt le (L2++R2)++C))=A++(srt le (L1++R1)++(L2++(R2++C))) by rw [hone sl2 sr2 (.inr hR0)];simp only [List.append_assoc]];rfl
        ·have hL0:L2=[]:=List.length_eq_zero_iff.1 (by omega);refine aA ?_;refine zAi rfl rfl rfl ⟨?_,trivial⟩;rw [show A++(srt le (L1++R1)++(srt le (L2++R2)++C))=A++(srt le (L1++R1)++(L2++(R2++C))) by rw [hone sl2 sr2 (.inl hL0)];simp only [List.append_assoc]];rfl
      ·have hL0:L1=[]:=List.length_eq_zero_iff.1 (by omega)
       have er2:A++(L1++(R1++(L2++(R2++C))))=A++(srt le (L1++R1)++(L2++(R2++C))):=by rw [hone sl1 sr1 (.inl hL0)];simp only [List.append_assoc]
       rw [er2];refine aA ?_
       refine bcase_p (fun c5=>?_) (fun c5=>?_)<;>conv=>whnf
       ·refine aA ?_
        refine bcase_p (fun c6=>?_) (fun c6=>?_)<;>conv=>whnf
        ·refine aA ?_;refine zAu (IH (A++srt le (L1++R1)) L2 R2 C (A++(srt le (L1++R1)++(L2++(R2++C)))) (A.length+h) (A.length+(L1.length+L2.length)+(h-s)) (A.length+(L1.length+L2.length)+(R1.length+R2.length)) (by rw [List.length_append,zAm,List.length_append];omega) (by rw [List.length_append,zAm,List.length_append];omega) (by rw [List.length_append,zAm,List.length_append];omega) (by simp only [List.append_assoc]) (by omega) (by intro e;subst e;simp only [List.length_nil] at c5;omega) (by intro e;subst e;simp only [List.length_nil] at c6;omega) sl2 sr2 (by simp only [List.length_append,zAm];omega)) [(1000000,1000000)] rfl ⟨rfl,trivial⟩ rfl (aW ?_);refine zAi rfl rfl rfl ⟨?_,trivial⟩;rw [show A++(srt le (L1++R1)++(srt le (L2++R2)++C))=(A++srt le (L1++R1))++(srt le (L2++R2)++C) by simp only [List.append_assoc]];rfl
        ·have hR0:R2=[]:=List.length_eq_zero_iff.1 (by omega);refine aA ?_;refine zAi rfl rfl rfl ⟨?_,trivial⟩;rw [show A++(srt le (L1++R1)++(srt le (L2++R2)++C))=A++(srt le (L1++R1)++(L2++(R2++C))) by rw [hone sl2 sr2 (.inr hR0)];simp only [List.append_assoc]];rfl
       ·have hL0:L2=[]:=List.length_eq_zero_iff.1 (by omega);refine aA ?_;refine zAi rfl rfl rfl ⟨?_,trivial⟩;rw [show A++(srt le (L1++R1)++(srt le (L2++R2)++C))=A++(srt le (L1++R1)++(L2++(R2++C))) by rw [hone sl2 sr2 (.inl hL0)];simp only [List.append_assoc]];rfl
   ·have hlo:zQn L.length R.length h=0:=if_neg (by omega);have hhi:zQm L.length h=L.length:=if_neg (by omega);have hcs:L.length>h/\zQn L.length R.length h=h-R.length/\zQm L.length h=h\/L.length<=h/\zQn L.length R.length h=0/\zQm L.length h=L.length:=.inr ⟨by omega,hlo,hhi⟩;refine aA ?_;rw [ep]
    have gl (u:Nat) (hu:u<L.length):(A++(L++(R++C)))[A.length+u]?=some L[u]:=by
     rw [List.getElem?_append_right (by omega),Nat.add_sub_cancel_left,List.getElem?_append_left hu,List.getElem?_eq_getElem hu]
    have gr (v:Nat) (hv:v<R.length):(A++(L++(R++C)))[A.length+L.length+v]?=some R[v]:=by
     rw [List.getElem?_append_right (by omega),List.getElem?_append_right (by omega),show A.length+L.length+v-A.length-L.length=v by omega,List.getElem?_append_left hv,List.getElem?_eq_getElem hv]
    have hml:((A++(L++(R++C))).map encE).length=A.length+L.length+R.length+C.length:=by simp only [List.length_map,List.length_append];omega
    generalize hlo':zQn L.length R.length h=lo at hcs⊢;generalize hhi':zQm L.length h=hi at hcs⊢;refine zAq (ι:=Nat×Nat) (fun s=>[(0,.own 1000000),(1,.d (.int .i64 A.length)),(2,.d (.int .i64 ((A.length+L.length:Nat):Int))),(3,.d (.int .i64 ((A.length+L.length+R.length:Nat):Int))),(4,.d (.fn cf [])),(18,.d (.int .i64 ((A.length+h:Nat):Int))),(19,.d (.int .i64 ((A.length+h+(A.length+L.length):Nat):Int))),(20,.d (.int .i64 ((A.length+s.1:Nat):Int))),(21,.d (.int .i64 ((A.length+s.2:Nat):Int))),(22,.d (.int .i64 ((A.length+h+(A.length+L.length)-1:Nat):Int)))]) (fun s=>[(1000000,.row ((A++(L++(R++C))).map encE) 11 false)])
     (fun s=>lo<=s.1/\s.1<=s.2/\s.2<=hi/\ (∀ u,lo<=u->u<s.1->∀ (hu:u<L.length) (hv:h-1-u<R.length),le L[u] R[h-1-u]=true) /\ (∀ u,s.2<=u->u<hi->∀ (hu:u<L.length) (hv:h-1-u<R.length),le L[u] R[h-1-u]=false)) (fun s=>s.2-s.1) (lo,hi) ⟨Nat.le_refl _,by simp only [];omega,Nat.le_refl _,fun u h1 h2=>by simp only [] at h2;omega,fun u h1 h2=>by simp only [] at h1;omega⟩
     (le0 (zAb ⟨rfl,rfl,rfl,rfl,rfl,rfl,rfl,(by rw [<-hlo',hlo];rfl),(by rw [<-hhi',hhi];rfl),rfl,trivial⟩ ⟨rfl,trivial⟩ ⟨rfl,rfl,rfl,rfl⟩)) ?_
    rintro ⟨s,r⟩ ⟨q1,q2,q3,hP,hQ⟩;simp only at q1 q2 q3 hP hQ⊢
    conv=>whnf
    refine bcase_p (fun hlt=>?_) (fun hlt=>?_)<;>conv=>whnf
    ·have es2:((A.length+s:Nat):Int)+((A.length+r:Nat):Int)=(((A.length+s)+(A.length+r):Nat):Int):=by omega
     have eh2:((A.length+s)+(A.length+r))/2=A.length+(s+r)/2:=by omega
     have hb1:s<= (s+r)/2:=by omega
     have hb2:(s+r)/2<r:=by omega
     refine aA ?_;rw [es2];refine zCg (wu64 (by omega) (by omega)) (aW ?_);rw [half,eh2];generalize hrr:(s+r)/2=u at hb1 hb2⊢
     have hu:u<L.length:=by omega
     have hv:h-1-u<R.length:=by omega
     have ei:((A.length+h+(A.length+L.length)-1:Nat):Int)-((A.length+u:Nat):Int)=((A.length+L.length+(h-1-u):Nat):Int):=by omega
     refine aA ?_;rw [ei];refine zAd (by omega) (w0 ?_);refine zAc (zBm (gr _ hv)) (aW ?_);refine zAd (by omega) (w0 ?_);refine zAc (zBm (gl u hu)) (aW ?_);obtain ⟨c,hcall,hlt2⟩:=hc.call R[h-1-u] L[u];refine zAa hcall (aW ?_)
     refine bcase_n (fun h2=>?_) (fun h2=>?_)<;>conv=>whnf
     ·have h3:le L[u] R[h-1-u]=true:=by
       cases e:le L[u] R[h-1-u] with
       |true=>rfl
       |false=>exact absurd (hlt2.2 e) h2
      refine aA ?_
      have e1:((A.length+u:Nat):Int)+1=((A.length+(u+1):Nat):Int):=by omega
      rw [e1];exact ⟨(u+1,r),⟨by simp only [];omega,by simp only [];omega,q3,fun w k1 k2 hw hv2=>hc.tp.trans _ _ _ (zCa hc.tp sL hw hu (by simp only [] at k2;omega)) (hc.tp.trans _ _ _ h3 (zCa hc.tp sR hv hv2 (by simp only [] at k2;omega))),hQ⟩,by simp only [];omega,(le0 (zAb ⟨rfl,rfl,rfl,rfl,rfl,rfl,rfl,rfl,rfl,rfl,trivial⟩ ⟨rfl,trivial⟩ ⟨rfl,rfl,rfl,rfl⟩))⟩
     ·have h3:=hlt2.1 h2;refine aA ?_
      exact ⟨(s,u),⟨q1,by simp only [];omega,by simp only [];omega,hP,fun w k1 k2 hw hv2=>by
       cases e:le L[w] R[h-1-w] with
       |false=>rfl
       |true=>(rw [hc.tp.trans _ _ _ (zCa hc.tp sL hu hw (by simp only [] at k1;omega)) (hc.tp.trans _ _ _ e (zCa hc.tp sR hv2 hv (by simp only [] at k1;omega)))] at h3;cases h3)⟩,by simp only [];omega,(le0 (zAb ⟨rfl,rfl,rfl,rfl,rfl,rfl,rfl,rfl,rfl,rfl,trivial⟩ ⟨rfl,trivial⟩ ⟨rfl,rfl,rfl,rfl⟩))⟩
    ·have hsr:s=r:=by omega
     subst hsr;have hsp:=z7k hc.tp sL sR (h:=h) (s:=s) hh (by omega) (by omega) (by rw [hlo'];exact hP) (by rw [hhi'];exact hQ)
     clear hP hQ gl gr hml
     have hsh:s<=h:=by omega
     obtain ⟨L1,L2,rfl,hL1⟩:=zEo (X:=L) (n:=s) (by omega);obtain ⟨R1,R2,rfl,hR1⟩:=zEo (X:=R) (n:=h-s) (by omega);rw [<-hR1,<-hL1,List.take_left,List.drop_left,List.take_left,List.drop_left] at hsp;obtain ⟨sp1,sp2⟩:=hsp;obtain ⟨sl1,sl2,_⟩:=zCi.1 sL;obtain ⟨sr1,sr2,_⟩:=zCi.1 sR
     have hfin:A++(srt le ((L1++L2)++(R1++R2))++C)=A++(srt le (L1++R1)++(srt le (L2++R2)++C)):=by rw [<-zSx hc.tp sL sR sp1 sp2];simp only [List.append_assoc]
     have hone:∀ {a b:List Ev},zBy le a->zBy le b->(a=[] \/b=[])->srt le (a++b)=a++b:=fun {a b} ha hb hab=>by
      rcases hab with e|e
      ·subst e;exact yEy hc.tp hb
      ·subst e;rw [List.append_nil];exact yEy hc.tp ha
     rw [hfin]
     clear hfin sp1 sp2 hcs
     simp only [List.length_append] at hm hn hl2 hr2 hh q1 q3⊢
     have e24:((A.length+h+(A.length+(L1.length+L2.length)):Nat):Int)-((A.length+s:Nat):Int)=((A.length+(L1.length+L2.length)+(h-s):Nat):Int):=by omega
     have er0:A++((L1++L2)++((R1++R2)++C))=A++(L1++(L2++(R1++(R2++C)))):=by simp only [List.append_assoc]
     rw [er0];refine aA ?_;rw [e24]
     refine bcase_p (fun c1=>?_) (fun c1=>?_)<;>conv=>whnf
     ·refine aA ?_
      refine bcase_p (fun c2=>?_) (fun c2=>?_)<;>conv=>whnf
      ·refine aA ?_;refine zAu (yNo cf (A++L1) L2 R1 (R2++C) _ (A.length+s) (A.length+(L1.length+L2.length)) (A.length+(L1.length+L2.length)+(h-s)) (by rw [List.length_append];omega) (by rw [List.length_append];omega) (by rw [List.length_append];omega) (show A++(L1++(L2++(R1++(R2++C))))=_ by simp only [List.append_assoc]) (by intro e;subst e;simp only [List.length_nil] at c1;omega) (by intro e;subst e;simp only [List.length_nil] at hR1;omega) (by simp only [List.length_append];omega)) [(1000000,1000000)] rfl ⟨rfl,trivial⟩ rfl (w0 ?_)
       have er1:(A++L1)++(R1++(L2++(R2++C)))=A++(L1++(R1++(L2++(R2++C)))):=by simp only [List.append_assoc]
       rw [er1];refine aA ?_
       refine bcase_p (fun c3=>?_) (fun c3=>?_)<;>conv=>whnf
       ·refine aA ?_
        refine bcase_p (fun c4=>?_) (fun c4=>?_)<;>conv=>whnf
        ·refine aA ?_;refine zAu (IH A L1 R1 (L2++(R2++C)) (A++(L1++(R1++(L2++(R2++C))))) A.length (A.length+s) (A.length+h) rfl (by omega) (by omega) rfl (by omega) (by intro e;subst e;simp only [List.length_nil] at hL1;omega) (by intro e;subst e;simp only [List.length_nil] at hR1;omega) sl1 sr1 (by simp only [List.length_append];omega)) [(1000000,1000000)] rfl ⟨rfl,trivial⟩ rfl (aW ?_)
         refine bcase_p (fun c5=>?_) (fun c5=>?_)<;>conv=>whnf
         ·refine aA ?_
          refine bcase_p (fun c6=>?_) (fun c6=>?_)<;>conv=>whnf
          ·refine aA ?_;refine zAu (IH (A++srt le (L1++R1)) L2 R2 C (A++(srt le (L1++R1)++(L2++(R2++C)))) (A.length+h) (A.length+(L1.length+L2.length)+(h-s)) (A.length+(L1.length+L2.length)+(R1.length+R2.length)) (by rw [List.length_append,zAm,List.length_append];omega) (by rw [List.length_append,zAm,List.length_append];omega) (by rw [List.length_append,zAm,List.length_append];omega) (by simp only [List.append_assoc]) (by omega) (by intro e;subst e;simp only [List.length_nil] at c5;omega) (by intro e;subst e;simp only [List.length_nil] at c6;omega) sl2 sr2 (by simp only [List.length_append,zAm];omega)) [(1000000,1000000)] rfl ⟨rfl,trivial⟩ rfl (aW ?_);refine zAi rfl rfl rfl ⟨?_,trivial⟩;rw [show A++(srt le (L1++R1)++(srt le (L2++R2)++C))=(A++srt le (L1++R1))++(srt le (L2++R2)++C) by simp only [List.append_assoc]];rfl
          ·have hR0:R2=[]:=List.length_eq_zero_iff.1 (by omega);refine aA ?_;refine zAi rfl rfl rfl ⟨?_,trivial⟩;rw [show A++(srt le (L1++R1)++(srt le (L2++R2)++C))=A++(srt le (L1++R1)++(L2++(R2++C))) by rw [hone sl2 sr2 (.inr hR0)];simp only [List.append_assoc]];rfl
         ·have hL0:L2=[]:=List.length_eq_zero_iff.1 (by omega);refine aA ?_;refine zAi rfl rfl rfl ⟨?_,trivial⟩;rw [show A++(srt le (L1++R1)++(srt le (L2++R2)++C))=A++(srt le (L1++R1)++(L2++(R2++C))) by rw [hone sl2 sr2 (.inl hL0)];simp only [List.append_assoc]];rfl
        ·have hR0:R1=[]:=List.length_eq_zero_iff.1 (by omega)
         have er2:A++(L1++(R1++(L2++(R2++C))))=A++(srt le (L1++R1)++(L2++(R2++C))):=by rw [hone sl1 sr1 (.inr hR0)];simp only [List.append_assoc]
         rw [er2];refine aA ?_
         refine bcase_p (fun c5=>?_) (fun c5=>?_)<;>conv=>whnf
         ·refine aA ?_
          refine bcase_p (fun c6=>?_) (fun c6=>?_)<;>conv=>whnf
          ·refine aA ?_;refine zAu (IH (A++srt le (L1++R1)) L2 R2 C (A++(srt le (L1++R1)++(L2++(R2++C)))) (A.length+h) (A.length+(L1.length+L2.length)+(h-s)) (A.length+(L1.length+L2.length)+(R1.length+R2.length)) (by rw [List.length_append,zAm,List.length_append];omega) (by rw [List.length_append,zAm,List.length_append];omega) (by rw [List.length_append,zAm,List.length_append];omega) (by simp only [List.append_assoc]) (by omega) (by intro e;subst e;simp only [List.length_nil] at c5;omega) (by intro e;subst e;simp only [List.length_nil] at c6;omega) sl2 sr2 (by simp only [List.length_append,zAm];omega)) [(1000000,1000000)] rfl ⟨rfl,trivial⟩ rfl (aW ?_);refine zAi rfl rfl rfl ⟨?_,trivial⟩;rw [show A++(srt le (L1++R1)++(srt le (L2++R2)++C))=(A++srt le (L1++R1))++(srt le (L2++R2)++C) by simp only [List.append_assoc]];rfl
          ·have hR0:R2=[]:=List.length_eq_zero_iff.1 (by omega);refine aA ?_;refine zAi rfl rfl rfl ⟨?_,trivial⟩;rw [show A++(srt le (L1++R1)++(srt le (L2++R2)++C))=A++(srt le (L1++R1)++(L2++(R2++C))) by rw [hone sl2 sr2 (.inr hR0)];simp only [List.append_assoc]];rfl
         ·have hL0:L2=[]:=List.length_eq_zero_iff.1 (by omega);refine aA ?_;refine zAi rfl rfl rfl ⟨?_,trivial⟩;rw [show A++(srt le (L1++R1)++(srt le (L2++R2)++C))=A++(srt le (L1++R1)++(L2++(R2++C))) by rw [hone sl2 sr2 (.inl hL0)];simp only [List.append_assoc]];rfl
       ·have hL0:L1=[]:=List.length_eq_zero_iff.1 (by omega)
        have er2:A++(L1++(R1++(L2++(R2++C))))=A++(srt le (L1++R1)++(L2++(R2++C))):=by rw [hone sl1 sr1 (.inl hL0)];simp only [List.append_assoc]
        rw [er2];refine aA ?_
        refine bcase_p (fun c5=>?_) (fun c5=>?_)<;>conv=>whnf
        ·refine aA ?_
         refine bcase_p (fun c6=>?_) (fun c6=>?_)<;>conv=>whnf
         ·refine aA ?_;refine zAu (IH (A++srt le (L1++R1)) L2 R2 C (A++(srt le (L1++R1)++(L2++(R2++C)))) (A.length+h) (A.length+(L1.length+L2.length)+(h-s)) (A.length+(L1.length+L2.length)+(R1.length+R2.length)) (by rw [List.length_append,zAm,List.length_append];omega) (by rw [List.length_append,zAm,List.length_append];omega) (by rw [List.length_append,zAm,List.length_append];omega) (by simp only [List.append_assoc]) (by omega) (by intro e;subst e;simp only [List.length_nil] at c5;omega) (by intro e;subst e;simp only [List.length_nil] at c6;omega) sl2 sr2 (by simp only [List.length_append,zAm];omega)) [(1000000,1000000)] rfl ⟨rfl,trivial⟩ rfl (aW ?_);refine zAi rfl rfl rfl ⟨?_,trivial⟩;rw [show A++(srt le (L1++R1)++(srt le (L2++R2)++C))=(A++srt le (L1++R1))++(srt le (L2++R2)++C) by simp only [List.append_assoc]];rfl
         ·have hR0:R2=[]:=List.length_eq_zero_iff.1 (by omega);refine aA ?_;refine zAi rfl rfl rfl ⟨?_,trivial⟩;rw [show A++(srt le (L1++R1)++(srt le (L2++R2)++C))=A++(srt le (L1++R1)++(L2++(R2++C))) by rw [hone sl2 sr2 (.inr hR0)];simp only [List.append_assoc]];rfl
        ·have hL0:L2=[]:=List.length_eq_zero_iff.1 (by omega);refine aA ?_;refine zAi rfl rfl rfl ⟨?_,trivial⟩;rw [show A++(srt le (L1++R1)++(srt le (L2++R2)++C))=A++(srt le (L1++R1)++(L2++(R2++C))) by rw [hone sl2 sr2 (.inl hL0)];simp only [List.append_assoc]];rfl
      ·have hR0:R1=[]:=List.length_eq_zero_iff.1 (by omega)
       have er1:A++(L1++(L2++(R1++(R2++C))))=A++(L1++(R1++(L2++(R2++C)))):=by rw [hR0];rfl
       rw [er1];refine aA ?_
       refine bcase_p (fun c3=>?_) (fun c3=>?_)<;>conv=>whnf
       ·refine aA ?_
        refine bcase_p (fun c4=>?_) (fun c4=>?_)<;>conv=>whnf
        ·refine aA ?_;refine zAu (IH A L1 R1 (L2++(R2++C)) (A++(L1++(R1++(L2++(R2++C))))) A.length (A.length+s) (A.length+h) rfl (by omega) (by omega) rfl (by omega) (by intro e;subst e;simp only [List.length_nil] at hL1;omega) (by intro e;subst e;simp only [List.length_nil] at hR1;omega) sl1 sr1 (by simp only [List.length_append];omega)) [(1000000,1000000)] rfl ⟨rfl,trivial⟩ rfl (aW ?_)
         refine bcase_p (fun c5=>?_) (fun c5=>?_)<;>conv=>whnf
         ·refine aA ?_
          refine bcase_p (fun c6=>?_) (fun c6=>?_)<;>conv=>whnf
          ·refine aA ?_;refine zAu (IH (A++srt le (L1++R1)) L2 R2 C (A++(srt le (L1++R1)++(L2++(R2++C)))) (A.length+h) (A.length+(L1.length+L2.length)+(h-s)) (A.length+(L1.length+L2.length)+(R1.length+R2.length)) (by rw [List.length_append,zAm,List.length_append];omega) (by rw [List.length_append,zAm,List.length_append];omega) (by rw [List.length_append,zAm,List.length_append];omega) (by simp only [List.append_assoc]) (by omega) (by intro e;subst e;simp only [List.length_nil] at c5;omega) (by intro e;subst e;simp only [List.length_nil] at c6;omega) sl2 sr2 (by simp only [List.length_append,zAm];omega)) [(1000000,1000000)] rfl ⟨rfl,trivial⟩ rfl (aW ?_);refine zAi rfl rfl rfl ⟨?_,trivial⟩;rw [show A++(srt le (L1++R1)++(srt le (L2++R2)++C))=(A++srt le (L1++R1))++(srt le (L2++R2)++C) by simp only [List.append_assoc]];rfl
          ·have hR0:R2=[]:=List.length_eq_zero_iff.1 (by omega);refine aA ?_;refine zAi rfl rfl rfl ⟨?_,trivial⟩;rw [show A++(srt le (L1++R1)++(srt le (L2++R2)++C))=A++(srt le (L1++R1)++(L2++(R2++C))) by rw [hone sl2 sr2 (.inr hR0)];simp only [List.append_assoc]];rfl
         ·have hL0:L2=[]:=List.length_eq_zero_iff.1 (by omega);refine aA ?_;refine zAi rfl rfl rfl ⟨?_,trivial⟩;rw [show A++(srt le (L1++R1)++(srt le (L2++R2)++C))=A++(srt le (L1++R1)++(L2++(R2++C))) by rw [hone sl2 sr2 (.inl hL0)];simp only [List.append_assoc]];rfl
        ·have hR0:R1=[]:=List.length_eq_zero_iff.1 (by omega)
         have er2:A++(L1++(R1++(L2++(R2++C))))=A++(srt le (L1++R1)++(L2++(R2++C))):=by rw [hone sl1 sr1 (.inr hR0)];simp only [List.append_assoc]
         rw [er2];refine aA ?_
         refine bcase_p (fun c5=>?_) (fun c5=>?_)<;>conv=>whnf
         ·refine aA ?_
          refine bcase_p (fun c6=>?_) (fun c6=>?_)<;>conv=>whnf
          ·refine aA ?_;refine zAu (IH (A++srt le (L1++R1)) L2 R2 C (A++(srt le (L1++R1)++(L2++(R2++C)))) (A.length+h) (A.length+(L1.length+L2.length)+(h-s)) (A.length+(L1.length+L2.length)+(R1.length+R2.length)) (by rw [List.length_append,zAm,List.length_append];omega) (by rw [List.length_append,zAm,List.length_append];omega) (by rw [List.length_append,zAm,List.length_append];omega) (by simp only [List.append_assoc]) (by omega) (by intro e;subst e;simp only [List.length_nil] at c5;omega) (by intro e;subst e;simp only [List.length_nil] at c6;omega) sl2 sr2 (by simp only [List.length_append,zAm];omega)) [(1000000,1000000)] rfl ⟨rfl,trivial⟩ rfl (aW ?_);refine zAi rfl rfl rfl ⟨?_,trivial⟩;rw [show A++(srt le (L1++R1)++(srt le (L2++R2)++C))=(A++srt le (L1++R1))++(srt le (L2++R2)++C) by simp only [List.append_assoc]];rfl
          ·have hR0:R2=[]:=List.length_eq_zero_iff.1 (by omega);refine aA ?_;refine zAi rfl rfl rfl ⟨?_,trivial⟩;rw [show A++(srt le (L1++R1)++(srt le (L2++R2)++C))=A++(srt le (L1++R1)++(L2++(R2++C))) by rw [hone sl2 sr2 (.inr hR0)];simp only [List.append_assoc]];rfl
         ·have hL0:L2=[]:=List.length_eq_zero_iff.1 (by omega);refine aA ?_;refine zAi rfl rfl rfl ⟨?_,trivial⟩;rw [show A++(srt le (L1++R1)++(srt le (L2++R2)++C))=A++(srt le (L1++R1)++(L2++(R2++C))) by rw [hone sl2 sr2 (.inl hL0)];simp only [List.append_assoc]];rfl
       ·have hL0:L1=[]:=List.length_eq_zero_iff.1 (by omega)
        have er2:A++(L1++(R1++(L2++(R2++C))))=A++(srt le (L1++R1)++(L2++(R2++C))):=by rw [hone sl1 sr1 (.inl hL0)];simp only [List.append_assoc]
        rw [er2];refine aA ?_
        refine bcase_p (fun c5=>?_) (fun c5=>?_)<;>conv=>whnf
        ·refine aA ?_
         refine bcase_p (fun c6=>?_) (fun c6=>?_)<;>conv=>whnf
         ·refine aA ?_;refine zAu (IH (A++srt le (L1++R1)) L2 R2 C (A++(srt le (L1++R1)++(L2++(R2++C)))) (A.length+h) (A.length+(L1.length+L2.length)+(h-s)) (A.length+(L1.length+L2.length)+(R1.length+R2.length)) (by rw [List.length_append,zAm,List.length_append];omega) (by rw [List.length_append,zAm,List.length_append];omega) (by rw [List.length_append,zAm,List.length_append];omega) (by simp only [List.append_assoc]) (by omega) (by intro e;subst e;simp only [List.length_nil] at c5;omega) (by intro e;subst e;simp only [List.length_nil] at c6;omega) sl2 sr2 (by simp only [List.length_append,zAm];omega)) [(1000000,1000000)] rfl ⟨rfl,trivial⟩ rfl (aW ?_);refine zAi rfl rfl rfl ⟨?_,trivial⟩;rw [show A++(srt le (L1++R1)++(srt le (L2++R2)++C))=(A++srt le (L1++R1))++(srt le (L2++R2)++C) by simp only [List.append_assoc]];rfl
         ·have hR0:R2=[]:=List.length_eq_zero_iff.1 (by omega);refine aA ?_;refine zAi rfl rfl rfl ⟨?_,trivial⟩;rw [show A++(srt le (L1++R1)++(srt le (L2++R2)++C))=A++(srt le (L1++R1)++(L2++(R2++C))) by rw [hone sl2 sr2 (.inr hR0)];simp only [List.append_assoc]];rfl
        ·have hL0:L2=[]:=List.length_eq_zero_iff.1 (by omega);refine aA ?_;refine zAi rfl rfl rfl ⟨?_,trivial⟩;rw [show A++(srt le (L1++R1)++(srt le (L2++R2)++C))=A++(srt le (L1++R1)++(L2++(R2++C))) by rw [hone sl2 sr2 (.inl hL0)];simp only [List.append_assoc]];rfl
     ·have hL0:L2=[]:=List.length_eq_zero_iff.1 (by omega)
      have er1:A++(L1++(L2++(R1++(R2++C))))=A++(L1++(R1++(L2++(R2++C)))):=by rw [hL0];rfl
      rw [er1];refine aA ?_
      refine bcase_p (fun c3=>?_) (fun c3=>?_)<;>conv=>whnf
      ·refine aA ?_
       refine bcase_p (fun c4=>?_) (fun c4=>?_)<;>conv=>whnf
       ·refine aA ?_;refine zAu (IH A L1 R1 (L2++(R2++C)) (A++(L1++(R1++(L2++(R2++C))))) A.length (A.length+s) (A.length+h) rfl (by omega) (by omega) rfl (by omega) (by intro e;subst e;simp only [List.length_nil] at hL1;omega) (by intro e;subst e;simp only [List.length_nil] at hR1;omega) sl1 sr1 (by simp only [List.length_append];omega)) [(1000000,1000000)] rfl ⟨rfl,trivial⟩ rfl (aW ?_)
        refine bcase_p (fun c5=>?_) (fun c5=>?_)<;>conv=>whnf
        ·refine aA ?_
         refine bcase_p (fun c6=>?_) (fun c6=>?_)<;>conv=>whnf
         ·refine aA ?_;refine zAu (IH (A++srt le (L1++R1)) L2 R2 C (A++(srt le (L1++R1)++(L2++(R2++C)))) (A.length+h) (A.length+(L1.length+L2.length)+(h-s)) (A.length+(L1.length+L2.length)+(R1.length+R2.length)) (by rw [List.length_append,zAm,List.length_append];omega) (by rw [List.length_append,zAm,List.length_append];omega) (by rw [List.length_append,zAm,List.length_append];omega) (by simp only [List.append_assoc]) (by omega) (by intro e;subst e;simp only [List.length_nil] at c5;omega) (by intro e;subst e;simp only [List.length_nil] at c6;omega) sl2 sr2 (by simp only [List.length_append,zAm];omega)) [(1000000,1000000)] rfl ⟨rfl,trivial⟩ rfl (aW ?_);refine zAi rfl rfl rfl ⟨?_,trivial⟩;rw [show A++(srt le (L1++R1)++(srt le (L2++R2)++C))=(A++srt le (L1++R1))++(srt le (L2++R2)++C) by simp only [List.append_assoc]];rfl
         ·have hR0:R2=[]:=List.length_eq_zero_iff.1 (by omega);refine aA ?_;refine zAi rfl rfl rfl ⟨?_,trivial⟩;rw [show A++(srt le (L1++R1)++(srt le (L2++R2)++C))=A++(srt le (L1++R1)++(L2++(R2++C))) by rw [hone sl2 sr2 (.inr hR0)];simp only [List.append_assoc]];rfl
        ·have hL0:L2=[]:=List.length_eq_zero_iff.1 (by omega);refine aA ?_;refine zAi rfl rfl rfl ⟨?_,trivial⟩;rw [show A++(srt le (L1++R1)++(srt le (L2++R2)++C))=A++(srt le (L1++R1)++(L2++(R2++C))) by rw [hone sl2 sr2 (.inl hL0)];simp only [List.append_assoc]];rfl
       ·have hR0:R1=[]:=List.length_eq_zero_iff.1 (by omega)
        have er2:A++(L1++(R1++(L2++(R2++C))))=A++(srt le (L1++R1)++(L2++(R2++C))):=by rw [hone sl1 sr1 (.inr hR0)];simp only [List.append_assoc]
        rw [er2];refine aA ?_
        refine bcase_p (fun c5=>?_) (fun c5=>?_)<;>conv=>whnf
        ·refine aA ?_
         refine bcase_p (fun c6=>?_) (fun c6=>?_)<;>conv=>whnf
         ·refine aA ?_;refine zAu (IH (A++srt le (L1++R1)) L2 R2 C (A++(srt le (L1++R1)++(L2++(R2++C)))) (A.length+h) (A.length+(L1.length+L2.length)+(h-s)) (A.length+(L1.length+L2.length)+(R1.length+R2.length)) (by rw [List.length_append,zAm,List.length_append];omega) (by rw [List.length_append,zAm,List.length_append];omega) (by rw [List.length_append,zAm,List.length_append];omega) (by simp only [List.append_assoc]) (by omega) (by intro e;subst e;simp only [List.length_nil] at c5;omega) (by intro e;subst e;simp only [List.length_nil] at c6;omega) sl2 sr2 (by simp only [List.length_append,zAm];omega)) [(1000000,1000000)] rfl ⟨rfl,trivial⟩ rfl (aW ?_);refine zAi rfl rfl rfl ⟨?_,trivial⟩;rw [show A++(srt le (L1++R1)++(srt le (L2++R2)++C))=(A++srt le (L1++R1))++(srt le (L2++R2)++C) by simp only [List.append_assoc]];rfl
         ·have hR0:R2=[]:=List.length_eq_zero_iff.1 (by omega);refine aA ?_;refine zAi rfl rfl rfl ⟨?_,trivial⟩;rw [show A++(srt le (L1++R1)++(srt le (L2++R2)++C))=A++(srt le (L1++R1)++(L2++(R2++C))) by rw [hone sl2 sr2 (.inr hR0)];simp only [List.append_assoc]];rfl
        ·have hL0:L2=[]:=List.length_eq_zero_iff.1 (by omega);refine aA ?_;refine zAi rfl rfl rfl ⟨?_,trivial⟩;rw [show A++(srt le (L1++R1)++(srt le (L2++R2)++C))=A++(srt le (L1++R1)++(L2++(R2++C))) by rw [hone sl2 sr2 (.inl hL0)];simp only [List.append_assoc]];rfl
      ·have hL0:L1=[]:=List.length_eq_zero_iff.1 (by omega)
       have er2:A++(L1++(R1++(L2++(R2++C))))=A++(srt le (L1++R1)++(L2++(R2++C))):=by rw [hone sl1 sr1 (.inl hL0)];simp only [List.append_assoc]
       rw [er2];refine aA ?_
       refine bcase_p (fun c5=>?_) (fun c5=>?_)<;>conv=>whnf
       ·refine aA ?_
        refine bcase_p (fun c6=>?_) (fun c6=>?_)<;>conv=>whnf
        ·refine aA ?_;refine zAu (IH (A++srt le (L1++R1)) L2 R2 C (A++(srt le (L1++R1)++(L2++(R2++C)))) (A.length+h) (A.length+(L1.length+L2.length)+(h-s)) (A.length+(L1.length+L2.length)+(R1.length+R2.length)) (by rw [List.length_append,zAm,List.length_append];omega) (by rw [List.length_append,zAm,List.length_append];omega) (by rw [List.length_append,zAm,List.length_append];omega) (by simp only [List.append_assoc]) (by omega) (by intro e;subst e;simp only [List.length_nil] at c5;omega) (by intro e;subst e;simp only [List.length_nil] at c6;omega) sl2 sr2 (by simp only [List.length_append,zAm];omega)) [(1000000,1000000)] rfl ⟨rfl,trivial⟩ rfl (aW ?_);refine zAi rfl rfl rfl ⟨?_,trivial⟩;rw [show A++(srt le (L1++R1)++(srt le (L2++R2)++C))=(A++srt le (L1++R1))++(srt le (L2++R2)++C) by simp only [List.append_assoc]];rfl
        ·have hR0:R2=[]:=List.length_eq_zero_iff.1 (by omega);refine aA ?_;refine zAi rfl rfl rfl ⟨?_,trivial⟩;rw [show A++(srt le (L1++R1)++(srt le (L2++R2)++C))=A++(srt le (L1++R1)++(L2++(R2++C))) by rw [hone sl2 sr2 (.inr hR0)];simp only [List.append_assoc]];rfl
       ·have hL0:L2=[]:=List.length_eq_zero_iff.1 (by omega);refine aA ?_;refine zAi rfl rfl rfl ⟨?_,trivial⟩;rw [show A++(srt le (L1++R1)++(srt le (L2++R2)++C))=A++(srt le (L1++R1)++(L2++(R2++C))) by rw [hone sl2 sr2 (.inl hL0)];simp only [List.append_assoc]];rfl
section
variable {E:Type} {le:E->E->Bool}
def csL (le:E->E->Bool) (B:Nat) (l:List E):List E:=cs le B l.length l
theorem zHh {B:Nat} {l:List E} (h:l.length<=B):csL le B l=srt le l:=zOx h
theorem zOw {B:Nat} {l:List E} (hB:0<B) (h:B<=l.length):csL le B l=srt le (l.take B)++csL le B (l.drop B):=by
 by_cases e:l.length<=B
 ·rw [zHh e,List.take_of_length_le e,List.drop_eq_nil_of_le e,zHh (Nat.zero_le _)];simp [srt]
 ·unfold csL;obtain ⟨n,hn⟩:∃ n,l.length=n+1:=⟨l.length-1,by omega⟩;rw [hn,cs,if_neg e]
  congr 1
  exact yTl hB (by rw [List.length_drop];omega) (Nat.le_refl _)
theorem yVx {B:Nat} {l:List E}:(csL le B l).length=l.length:=yTm _ _
end
theorem yEz {E:Type} {le:E->E->Bool} {l:List E} (h:0<l.length):srt le l≠[]:=fun e=>by
 have:=zAm (le:=le) l;rw [e,List.length_nil] at this;omega
theorem yDd (cf:FuncId) (le:Ev->Ev->Bool) (hc:Cmp cf le) (A X C Y:List Ev) (a b:Nat) (ha:a=A.length) (hb:b=A.length+X.length) (hY:Y=A++(X++C)) (hm:A.length+X.length+C.length<=1000000):
  zAx Tryz.prog 249 [.own 1000000,.d (.int .i64 (a:Int)),.d (.int .i64 (b:Int)),.d (.fn cf [])] [(1000000,.row (Y.map encE) 11 false)] [(1000000,.row ((A++(srt le X++C)).map encE) 11 false)] (.tup []):=by
 subst ha hb hY;exact yGw cf le hc A X C hm
theorem z7j (cf:FuncId) (le:Ev->Ev->Bool) (hc:Cmp cf le) (A L R C X:List Ev) (a m b:Nat) (ha:a=A.length) (hmm:m=A.length+L.length) (hb:b=A.length+L.length+R.length) (hX:X=A++(L++(R++C))) (hL:L≠[]) (hR:R≠[]) (sL:zBy le L) (sR:zBy le R) (hm:A.length+L.length+R.length+C.length<=1000000):
  zAx Tryz.prog 250 [.own 1000000,.d (.int .i64 (a:Int)),.d (.int .i64 (m:Int)),.d (.int .i64 (b:Int)),.d (.fn cf [])] [(1000000,.row (X.map encE) 11 false)] [(1000000,.row ((A++(srt le (L++R)++C)).map encE) 11 false)] (.tup []):=by
 subst ha hmm hb hX;exact zXo cf le hc _ A L R C (Nat.le_refl _) hL hR sL sR hm
theorem yOi (cf:FuncId) (le:Ev->Ev->Bool) (hc:Cmp cf le) (l:List Ev) (hm:l.length<=1000000):
  zAx Tryz.prog 188 [.own 1000000,.d (.int .i64 l.length),.d (.fn cf [])] [(1000000,.row (l.map encE) 11 false)] [(1000000,.row ((srt le l).map encE) 11 false)] (.tup []):=by
 refine zAr Tryz.func188 3 rfl (by kernel_rfl) (by rfl) (w0 ?_);refine zAq (ι:=List Ev×List Ev) (fun s=>[(0,.own 1000000),(1,.d (.int .i64 l.length)),(2,.d (.fn cf [])),(6,.d (.int .i64 20)),(7,.d (.int .i64 s.1.length)),(8,.d (.int .i64 ((s.1.length+20:Nat):Int)))]) (fun s=>[(1000000,.row ((s.1++s.2).map encE) 11 false)])
  (fun s=>s.1.length+s.2.length=l.length/\s.1++csL le 20 s.2=csL le 20 l) (fun s=>s.2.length) ([],l) ⟨by simp,rfl⟩ (le0 (zAb ⟨rfl,rfl,rfl,rfl,rfl,rfl,trivial⟩ ⟨rfl,trivial⟩ ⟨rfl,rfl,rfl,rfl⟩)) ?_
 rintro ⟨P,r⟩ ⟨hlen,heq⟩;simp only at hlen heq⊢
 conv=>whnf
 refine bcase_p (fun h=>?_) (fun h=>?_)<;>conv=>whnf
 ·obtain ⟨X,r',rfl,hX⟩:=zEo (X:=r) (n:=20) (by omega);rw [List.length_append] at hlen
  have hst:csL le 20 (X++r')=srt le X++csL le 20 r':=by
   rw [zOw (by decide) (by rw [List.length_append];omega),<-hX,List.take_left,List.drop_left]
  have ea:((P.length+20:Nat):Int)+20=(((P++srt le X).length+20:Nat):Int):=by rw [List.length_append,zAm];omega
  refine aA ?_;refine zAu (yDd cf le hc P X r' (P++(X++r')) P.length (P.length+20) rfl (by omega) rfl (by omega)) [(1000000,1000000)] rfl ⟨rfl,trivial⟩ rfl (w0 ?_)
  have er:P++(srt le X++r')=(P++srt le X)++r':=by simp only [List.append_assoc]
  rw [er];refine aA ?_;rw [ea];exact ⟨(P++srt le X,r'),⟨by simp only [List.length_append,zAm];omega,by simp only [];rw [<-heq,hst];simp only [List.append_assoc]⟩,by simp only [List.length_append];omega,le0 (zAb ⟨rfl,rfl,rfl,rfl,by show AV.d (.int .i64 ((P.length+20:Nat):Int))=AV.d (.int .i64 (P++srt le X).length);rw [List.length_append,zAm,hX],rfl,trivial⟩ ⟨rfl,trivial⟩ ⟨rfl,rfl,rfl,rfl⟩)⟩
 refine aA ?_;refine zAu (yDd cf le hc P r [] (P++r) P.length l.length rfl (by omega) (by rw [List.append_nil]) (by simp;omega)) [(1000000,1000000)] rfl ⟨rfl,trivial⟩ rfl (w0 ?_)
 have er:P++(srt le r++[])=csL le 20 l:=by rw [<-heq,zHh (by omega),List.append_nil]
 rw [er]
 clear er heq hlen h
 refine aA ?_;refine zAq (ι:=Nat) (fun B=>[(0,.own 1000000),(1,.d (.int .i64 l.length)),(2,.d (.fn cf [])),(6,.d (.int .i64 (B:Int)))]) (fun B=>[(1000000,.row ((csL le B l).map encE) 11 false)])
  (fun B=>20<=B/\B<=4000000) (fun B=>l.length-B) 20 ⟨Nat.le_refl _,by decide⟩ (le0 (zAb ⟨rfl,rfl,rfl,rfl,trivial⟩ ⟨rfl,trivial⟩ ⟨rfl,rfl,rfl,rfl⟩)) ?_
 rintro B ⟨hB0,hB1⟩
 conv=>whnf
 refine bcase_p (fun hBn=>?_) (fun hBn=>?_)<;>conv=>whnf
 ·have e2:(2:Int)*(B:Int)=((([]:List Ev).length+2*B:Nat):Int):=by simp
  refine aA ?_;rw [e2];refine zAq (ι:=List Ev×List Ev) (fun s=>[(0,.own 1000000),(1,.d (.int .i64 l.length)),(2,.d (.fn cf [])),(6,.d (.int .i64 (B:Int))),(7,.d (.int .i64 s.1.length)),(8,.d (.int .i64 ((s.1.length+2*B:Nat):Int)))]) (fun s=>[(1000000,.row ((s.1++csL le B s.2).map encE) 11 false)])
   (fun s=>s.1.length+s.2.length=l.length/\s.1++csL le (2*B) s.2=csL le (2*B) l) (fun s=>s.2.length) ([],l) ⟨by simp,rfl⟩ (le0 (zAb ⟨rfl,rfl,rfl,rfl,rfl,rfl,trivial⟩ ⟨rfl,trivial⟩ ⟨rfl,rfl,rfl,rfl⟩)) ?_
  rintro ⟨P,r⟩ ⟨hlen,heq⟩;simp only at hlen heq⊢
  conv=>whnf
  refine bcase_p (fun h=>?_) (fun h=>?_)<;>conv=>whnf
  ·obtain ⟨X,r1,rfl,hX⟩:=zEo (X:=r) (n:=B) (by omega);rw [List.length_append] at hlen;obtain ⟨Y,r',rfl,hY⟩:=zEo (X:=r1) (n:=B) (by omega);rw [List.length_append] at hlen
   have hst:csL le B (X++(Y++r'))=srt le X++(srt le Y++csL le B r'):=by
    rw [zOw (by omega) (by rw [List.length_append];omega),show (X++(Y++r')).take B=X by rw [<-hX,List.take_left],show (X++(Y++r')).drop B=Y++r' by rw [<-hX,List.drop_left],zOw (by omega) (by rw [List.length_append];omega),show (Y++r').take B=Y by rw [<-hY,List.take_left],show (Y++r').drop B=r' by rw [<-hY,List.drop_left]]
   have hst2:csL le (2*B) (X++(Y++r'))=srt le (X++Y)++csL le (2*B) r':=by
    have hXY:(X++Y).length=2*B:=by rw [List.length_append];omega
    rw [<-List.append_assoc,zOw (by omega) (by rw [List.length_append];omega),<-hXY,List.take_left,List.drop_left]
   have hsl:(srt le (X++Y)).length=2*B:=by rw [zAm,List.length_append];omega
   have e3:(P.length:Int)+(B:Int)=((P.length+B:Nat):Int):=by omega
   have e4:((P.length+2*B:Nat):Int)+2*(B:Int)=(((P++srt le (X++Y)).length+2*B:Nat):Int):=by rw [List.length_append,hsl];omega
   have hXne:srt le X≠[]:=yEz (by omega);have hYne:srt le Y≠[]:=yEz (by omega);refine aA ?_;rw [e3];refine zAu (z7j cf le hc P (srt le X) (srt le Y) (csL le B r') (P++csL le B (X++(Y++r'))) P.length (P.length+B) (P.length+2*B) rfl (by rw [zAm];omega) (by rw [zAm,zAm];omega) (by rw [hst]) hXne hYne (zBx hc.tp _) (zBx hc.tp _) (by rw [zAm,zAm,yVx];omega)) [(1000000,1000000)] rfl ⟨rfl,trivial⟩ rfl (w0 ?_)
   have er:P++(srt le (srt le X++srt le Y)++csL le B r')=(P++srt le (X++Y))++csL le B r':=by rw [yOf hc.tp];simp only [List.append_assoc]
   rw [er];refine aA ?_;rw [e4];exact ⟨(P++srt le (X++Y),r'),⟨by simp only [List.length_append,hsl];omega,by simp only [];rw [<-heq,hst2];simp only [List.append_assoc]⟩,by simp only [List.length_append];omega,le0 (zAb ⟨rfl,rfl,rfl,rfl,by show AV.d (.int .i64 ((P.length+2*B:Nat):Int))=AV.d (.int .i64 (P++srt le (X++Y)).length);rw [List.length_append,hsl],rfl,trivial⟩ ⟨rfl,trivial⟩ ⟨rfl,rfl,rfl,rfl⟩)⟩
  have hrB:r.length<2*B:=by omega
  have e3:(P.length:Int)+(B:Int)=((P.length+B:Nat):Int):=by omega
  have e5:(B:Int)*2=((2*B:Nat):Int):=by omega
  have hend:P++srt le r=csL le (2*B) l:=by rw [<-heq,zHh (by omega)]
  refine aA ?_;rw [e3]
  refine bcase_p (fun h2=>?_) (fun h2=>?_)<;>conv=>whnf
  ·obtain ⟨X,Y,rfl,hX⟩:=zEo (X:=r) (n:=B) (by omega);rw [List.length_append] at hlen hrB
   have hst:csL le B (X++Y)=srt le X++srt le Y:=by
    rw [zOw (by omega) (by rw [List.length_append];omega),show (X++Y).take B=X by rw [<-hX,List.take_left],show (X++Y).drop B=Y by rw [<-hX,List.drop_left],zHh (l:=Y) (by omega)]
   have hXne:srt le X≠[]:=yEz (by omega);have hYne:srt le Y≠[]:=yEz (by omega);refine aA ?_;refine zAu (z7j cf le hc P (srt le X) (srt le Y) [] (P++csL le B (X++Y)) P.length (P.length+B) l.length rfl (by rw [zAm];omega) (by rw [zAm,zAm];omega) (by rw [hst,List.append_nil]) hXne hYne (zBx hc.tp _) (zBx hc.tp _) (by rw [zAm,zAm];simp;omega)) [(1000000,1000000)] rfl ⟨rfl,trivial⟩ rfl (w0 ?_)
   have er:P++(srt le (srt le X++srt le Y)++[])=csL le (2*B) l:=by rw [yOf hc.tp,List.append_nil,hend]
   rw [er];refine aA ?_;rw [e5];exact ⟨2*B,⟨by omega,by omega⟩,by omega,(le0 (zAb ⟨rfl,rfl,rfl,rfl,trivial⟩ ⟨rfl,trivial⟩ ⟨rfl,rfl,rfl,rfl⟩))⟩
  ·have er:P++csL le B r=csL le (2*B) l:=by rw [zHh (by omega),hend]
   rw [er];refine aA ?_;rw [e5];exact ⟨2*B,⟨by omega,by omega⟩,by omega,(le0 (zAb ⟨rfl,rfl,rfl,rfl,trivial⟩ ⟨rfl,trivial⟩ ⟨rfl,rfl,rfl,rfl⟩))⟩
 ·rw [zHh (show l.length<=B by omega)];refine aA ?_;exact zAi rfl rfl rfl ⟨rfl,trivial⟩
theorem zQi (cf:FuncId) (le:Ev->Ev->Bool) (hc:Cmp cf le) (l:List Ev) (hm:l.length<=1000000):
  zAx Tryz.prog 130 [.own 1000000,.d (.fn cf [])] [(1000000,.row (l.map encE) 11 false)] [(1000000,.row ((srt le l).map encE) 11 false)] (.tup []):=by
 refine zAr Tryz.func130 2 rfl (by kernel_rfl) (by rfl) (w0 ?_)
 have hml:(l.map encE).length=l.length:=List.length_map ..
 refine aA ?_;rw [hml];refine zAu (yOi cf le hc l hm) [(1000000,1000000)] rfl ⟨rfl,trivial⟩ rfl (aW ?_);exact zAi rfl rfl rfl ⟨rfl,trivial⟩
def cmpI (a b:Int):Int:=if a<b then-1 else if b<a then 1 else 0
theorem isNaN_ok (a:Int):zAj Tryz.prog 189 [.int .i64 a] (.bool false):=by
 refine zAe Tryz.func189 1 rfl (by kernel_rfl) (aW ?_);exact ret_of rfl (by simp)
theorem zRa (a b:Int):zAj Tryz.prog 133 [.int .i64 a,.int .i64 b] (.int .i64 (cmpI a b)):=by
 refine zAe Tryz.func133 2 rfl (by kernel_rfl) (w0 ?_);refine zAa (isNaN_ok a) (aW ?_);refine zAa (isNaN_ok b) (aW ?_)
 refine bcase_p (fun h1=>?_) (fun h1=>?_)<;>conv=>whnf
 ·exact ret_of rfl (by simp [cmpI,h1])
 refine aA ?_
 refine bcase_p (fun h2=>?_) (fun h2=>?_)<;>conv=>whnf
 ·exact ret_of rfl (by simp [cmpI,h1,h2])
 refine aA ?_;exact ret_of rfl (by simp [cmpI,h1,h2])
theorem or_ok (x y:Int):zAj Tryz.prog 132 [.lst [[.int .i64 x],[.int .i64 y]]] (.int .i64 (if x=0 then y else x)):=by
 refine zAe Tryz.func132 1 rfl (by kernel_rfl) (w0 ?_);refine zAq (ι:=Nat) (fun k=>[(3,.d (.int .i64 0)),(6,.d (.lst [[.int .i64 x],[.int .i64 y]])),(7,.d (.int .i64 2)),(8,.d (.int .i64 k))]) (fun _=>[])
  (fun k=>k<=2/\ (1<=k->x=0) /\ (2<=k->y=0)) (fun k=>2-k) 0 ⟨by omega,by omega,by omega⟩ (le0 (zAb ⟨rfl,rfl,rfl,rfl,trivial⟩ trivial ⟨rfl,rfl,rfl,rfl⟩)) ?_
 rintro k ⟨hk,h1,h2⟩
 conv=>whnf
 refine bcase_p (fun h5=>?_) (fun h5=>?_)<;>conv=>whnf
 ·obtain rfl|rfl:k=0\/k=1:=by omega
  ·refine zAd (show _<2 by decide) (w0 ?_);refine zAc (x:=[.int .i64 x]) rfl (aW ?_)
   refine bcase_n (fun g=>?_) (fun g=>?_)<;>conv=>whnf
   ·exact ret_of rfl (by simp [g])
   ·refine aA ?_;exact ⟨1,⟨by omega,fun _=>g,by omega⟩,by omega,(le0 (zAb ⟨rfl,rfl,rfl,rfl,trivial⟩ trivial ⟨rfl,rfl,rfl,rfl⟩))⟩
  ·refine zAd (show _<2 by decide) (w0 ?_);refine zAc (x:=[.int .i64 y]) rfl (aW ?_)
   refine bcase_n (fun g=>?_) (fun g=>?_)<;>conv=>whnf
   ·exact ret_of rfl (by simp [h1 (by omega)])
   ·refine aA ?_;exact ⟨2,⟨by omega,fun _=>h1 (by omega),fun _=>g⟩,by omega,(le0 (zAb ⟨rfl,rfl,rfl,rfl,trivial⟩ trivial ⟨rfl,rfl,rfl,rfl⟩))⟩
 ·refine aA ?_;exact ret_of rfl (by simp [h1 (by omega),h2 (by omega)])
theorem yJh (x y:Ev):zAj Tryz.prog 134 [.agg (encE x),.agg (encE y)] (.int .i64 (cmpI x.done y.done)):=by
 refine zAe Tryz.func134 2 rfl (by kernel_rfl) (aW ?_);refine zAa (zRa x.done y.done) (aW ?_);exact ret_of rfl rfl
theorem yPp (x y:Ev):zAj Tryz.prog 131 [.agg (encE x),.agg (encE y)] (.int .i64 (if cmpI x.who y.who=0 then cmpI x.began y.began else cmpI x.who y.who)):=by
 refine zAe Tryz.func131 2 rfl (by kernel_rfl) (aW ?_);refine zAa (zRa x.who y.who) (aW ?_);refine zAa (zRa x.began y.began) (aW ?_);refine zAa (or_ok (cmpI x.who y.who) (cmpI x.began y.began)) (aW ?_);exact ret_of rfl rfl
def leD (x y:Ev):Bool:=decide (x.done<=y.done)
def leW (x y:Ev):Bool:=decide (x.who<y.who\/ (x.who=y.who/\x.began<=y.began))
theorem cmpD:Cmp 134 leD:=by
 refine ⟨⟨fun x y=>?_,fun x y z=>?_⟩,fun x y=>⟨_,yJh x y,?_⟩⟩
 ·simp only [leD,decide_eq_true_eq];omega
 ·simp only [leD,decide_eq_true_eq];omega
 ·simp only [leD,decide_eq_false_iff_not]
  by_cases a1:x.done<y.done
  ·simp [cmpI,a1]<;>omega
  ·by_cases a2:y.done<x.done
   ·simp [cmpI,a1,a2]<;>omega
   ·simp [cmpI,a1,a2]<;>omega
theorem cmpW:Cmp 131 leW:=by
 refine ⟨⟨fun x y=>?_,fun x y z=>?_⟩,fun x y=>⟨_,yPp x y,?_⟩⟩
 ·simp only [leW,decide_eq_true_eq];omega
 ·simp only [leW,decide_eq_true_eq];omega
 ·simp only [leW,decide_eq_false_iff_not,cmpI]
  by_cases a1:x.who<y.who
  ·simp [a1]<;>omega
  ·by_cases a2:y.who<x.who
   ·simp [a1,a2]<;>omega
   ·by_cases b1:x.began<y.began
    ·simp [a1,a2,b1]<;>omega
    ·by_cases b2:y.began<x.began
     ·simp [a1,a2,b1,b2]<;>omega
     ·simp [a1,a2,b1,b2]<;>omega
end Go.Lk.Hy
