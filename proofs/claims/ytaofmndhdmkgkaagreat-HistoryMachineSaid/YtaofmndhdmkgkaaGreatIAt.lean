/-
  What is proved here: what functions of the program compute, and what follows; no condition beyond each theorem's own.
-/
import Derived.Test.YtaofmndhdmkgkaaGreatIAn
import Derived.Test.YtaofmndhdmkgkaaGreatIAp
import Derived.Test.YtaofmndhdmkgkaaGreatIAs
set_option linter.unusedSimpArgs false
set_option linter.unusedVariables false
set_option linter.unnecessarySimpa false
set_option linter.unusedSectionVars false
namespace Go.Lk.Hy
open Go Go.Proofs Go.RowKit Go.Lk
theorem okRows_sub {sz:Nat} {l:List (List D)} (h:okRows sz l=true) (n m:Nat):okRows sz ((l.drop n).take m)=true:=by
 simp only [okRows,List.all_eq_true] at h⊢;intro x hx;exact h x (List.mem_of_mem_drop (List.mem_of_mem_take hx))
theorem okRows_drop {sz:Nat} {l:List (List D)} (h:okRows sz l=true) (n:Nat):okRows sz (l.drop n)=true:=by
 simp only [okRows,List.all_eq_true] at h⊢;intro x hx;exact h x (List.mem_of_mem_drop hx)
theorem ins_grow {α:Type} {A Z V B X Y:List α} {i m n:Nat} (hA:A.length=i) (hV:V.length=m) (hB:B.length=n-i) (hi:i<=n) (k:Nat) (hk:k=n+m):
  (((A++Z).take i++(V++X)).take (i+m)++(B++Y)).take k=A++(V++B):=by
 have h1:(A++Z).take i=A:=List.take_left' hA
 have h2:(A++(V++X)).take (i+m)=A++V:=by rw [<-List.append_assoc];exact List.take_left' (by simp [hA,hV])
 rw [h1,h2]
 have h3:(A++V++(B++Y))=(A++(V++B))++Y:=by simp
 rw [h3];exact List.take_left' (by simp [hA,hV,hB,hk];omega)
theorem ins_in {α:Type} {R V B Y:List α} {i m n:Nat} (hR:n+m<=R.length) (hV:V.length=m) (hB:B.length=n-i) (hi:i<=n) (k:Nat) (hk:k=n+m):
  ((R.take (i+m)++(B++Y)).take i++(V++(R.take (i+m)++(B++Y)).drop (i+m))).take k=R.take i++(V++B):=by
 have h1:(R.take (i+m)).length=i+m:=by rw [List.length_take];omega
 have h2:(R.take i).length=i:=by rw [List.length_take];omega
 have h3:(R.take (i+m)++(B++Y)).take i=R.take i:=by rw [List.take_append_of_le_length (by omega),List.take_take,Nat.min_eq_left (by omega)]
 have h4:(R.take (i+m)++(B++Y)).drop (i+m)=B++Y:=List.drop_left' h1;rw [h3,h4]
 have h5:R.take i++(V++(B++Y))=(R.take i++(V++B))++Y:=by simp
 rw [h5];exact List.take_left' (by simp [h2,hV,hB,hk];omega)
theorem yIt {l vs:List (List D)} {i:Nat} (hi:i<=l.length) (hl:l.length<=1000000) (hv0:0<vs.length) (hv:vs.length<=1000) (hok:okRows 3 l=true) (hp:okRows 3 vs=true):
  zWo Tryz.prog 135 l 3 [.d (.int .i64 i),.own 1000000] [(1000000,.row vs 3 false)] [(1000000,.row vs 3 false)] (l.take i++(vs++l.drop i)):=by
 refine zJs Tryz.func135 3 rfl (by kernel_rfl) (by rfl) ?_;refine ⟨fun cap hcap=>?_,fun h0=>?_⟩
 ·obtain ⟨R,hR⟩:∃ R,R=l++List.replicate (cap-l.length) (List.replicate 3 D.unk):=⟨_,rfl⟩
  have hRl:R.length=cap:=by rw [hR];simp;omega
  have hRt:R.take l.length=l:=by rw [hR];simp
  have hRi:R.take i=l.take i:=by rw [hR,List.take_append_of_le_length hi]
  rw [<-hR]
  conv=>whnf
  refine zCv (by omega) hcap (aW ?_)
  refine bcase_p (fun hm0=>?_) (fun hm0=>?_)<;>conv=>whnf
  ·omega
  refine aA ?_
  refine bcase_p (fun hin=>?_) (fun hin=>?_)<;>conv=>whnf
  ·have hin':i=l.length:=by omega
   subst hin';refine aA ?_;refine zAg hp (w0 ?_);refine ⟨fun hf=>?_,fun hf=>?_⟩
   ·conv=>whnf
    refine zAg (by omega) (w0 ?_);refine zCs rfl rfl rfl ?_ ?_ rfl ⟨rfl,trivial⟩
    ·simp;omega
    ·rw [Nat.zero_add,hRt,<-List.append_assoc];rw [List.take_append_of_le_length (by simp)];rw [List.take_of_length_le (by simp)];simp
   ·conv=>whnf
    refine zAg (by omega) (w0 ?_);refine zJo (Nat.le_trans (Nat.mul_le_mul_right _ (by show l.length+vs.length<=1001000;omega)) (by decide)) (by omega) (w0 ?_);refine zCs rfl rfl rfl ?_ ?_ rfl ⟨rfl,trivial⟩
    ·simp [hRl];omega
    ·rw [List.drop_zero,hRt];rw [List.take_of_length_le (by simp)];simp
  ·have hilt:i<l.length:=by omega
   refine aA ?_
   refine bcase_p (fun hcp=>?_) (fun hcp=>?_)<;>conv=>whnf
   ·refine zHi (by simp;omega) (aW ?_)
    have eN:((l.length:Nat):Int)+((vs.length:Nat):Int)-(i:Int)=((l.length+vs.length-i:Nat):Int):=by omega
    rw [eN];simp only [Int.toNat_natCast,Nat.sub_zero,Nat.zero_add];refine zJo (Nat.le_trans (Nat.mul_le_mul_right _ (by show i+(l.length+vs.length-i) <=1001000;omega)) (by decide)) (by omega) (w0 ?_);refine zCv (by omega) (by simp) (w0 ?_);have em:Nat.min vs.length (i+(l.length+vs.length-i)-i)=vs.length:=Nat.min_eq_left (by omega);rw [em,List.take_length];refine zAg ⟨by simp;omega,hp⟩ (aW ?_);refine zCv (by omega) (by simp) (w0 ?_);refine zCv (by omega) hcap (w0 ?_);refine zAg (by omega) (w0 ?_)
    have es:List.take (l.length-i) (List.drop (0+i) R)=l.drop i:=by rw [Nat.zero_add,<-List.drop_take,hRt]
    rw [es];have em2:Nat.min (l.drop i).length (i+(l.length+vs.length-i)-(i+vs.length))=(l.drop i).length:=Nat.min_eq_left (by rw [List.length_drop];omega);rw [em2,List.take_length];refine zAg ⟨by simp;omega,okRows_drop hok i⟩ (aW ?_);refine zCs rfl rfl rfl ?_ ?_ rfl ⟨rfl,trivial⟩
    ·simp;omega
    ·have e0:(R.take i).length=i:=by rw [List.length_take];omega
     have e1:(l.take i).length=i:=by rw [List.length_take];omega
     have e2:(l.drop i).length=l.length-i:=List.length_drop ..
     simp only [List.drop_zero,Nat.zero_add,hRi];exact ins_grow e1 rfl e2 hi _ (by omega)
   ·refine aA ?_;refine zHi (by show l.length+vs.length<=cap;omega) (aW ?_);refine zCv (by omega) (by show l.length+vs.length-0<=cap-0;omega) (w0 ?_);refine z2p (zMn (t:=22) (tR:=4) zWy Tryz.func190 (by kernel_rfl) (by kernel_rfl) (by kernel_rfl) (by kernel_rfl) rfl rfl rfl (by decide) (by intro e;rw [e] at hv0;exact absurd hv0 (by decide)) (by omega) (by decide)) (aW ?_);refine zCv (by omega) (by show l.length+vs.length-0<=cap-0;omega) (w0 ?_);refine zCv (by omega) (by show l.length+vs.length-0<=cap-0;omega) (w0 ?_);refine zAg (by omega) (w0 ?_)
    have es:(List.take (l.length+vs.length-0-i) (List.drop (0+0+i) R)).length=l.length+vs.length-i:=by rw [List.length_take,List.length_drop];omega
    have em:Nat.min (List.take (l.length+vs.length-0-i) (List.drop (0+0+i) R)).length (l.length+vs.length-0-(i+vs.length))=l.length-i:=by rw [es];exact (Nat.min_eq_right (by omega)).trans (by omega)
    rw [em]
    have es2:List.take (l.length-i) (List.take (l.length+vs.length-0-i) (List.drop (0+0+i) R))=l.drop i:=by
     rw [List.take_take,Nat.min_eq_left (by omega),show 0+0+i=i by omega,<-List.drop_take,hRt]
    rw [es2];refine zAg ⟨by omega,okRows_drop hok i⟩ (aW ?_);refine zCv (by omega) (by show l.length+vs.length-0<=cap-0;omega) (w0 ?_);have em3:Nat.min vs.length (l.length+vs.length-0-i)=vs.length:=Nat.min_eq_left (by omega);rw [em3,List.take_length];refine zAg ⟨by simp;omega,hp⟩ (aW ?_);refine zCs rfl rfl rfl ?_ ?_ rfl ⟨rfl,trivial⟩
    ·simp;omega
    ·have e0:(0:Nat)+0+i=i:=by omega
     have e1:(0:Nat)+0+(i+vs.length)=i+vs.length:=by omega
     have e2:(l.drop i).length=l.length-i:=List.length_drop ..
     rw [e0,e1,<-hRi];exact ins_in (n:=l.length) (by omega) rfl e2 hi _ (by omega)
 ·conv=>whnf
  refine zD (by rw [h0] at hi;exact hi) (w0 ?_)
  have hi0:i=0:=by rw [h0] at hi;simpa using hi
  subst hi0;refine aA ?_
  refine bcase_p (fun hm0=>?_) (fun hm0=>?_)<;>conv=>whnf
  ·omega
  refine aA ?_;refine zAg hp (w0 ?_);refine zJo (Nat.le_trans (Nat.mul_le_mul_right _ (by show vs.length<=1001000;omega)) (by decide)) (by omega) (w0 ?_);subst h0;refine yDl rfl rfl ?_ rfl ⟨rfl,trivial⟩;show some (Blk.row vs 3 false)=some (Blk.row ([].take 0++(vs++[].drop 0)) 3 false);simp
theorem yHi {l:List (List D)} {i j:Nat} (hi:i<j) (hj:j<=l.length) (hl:l.length<=1000000) (hok:okRows 3 l=true):
  zWo Tryz.prog 136 l 3 [.d (.int .i64 i),.d (.int .i64 j)] [] [] (l.take i++l.drop j):=by
 refine zJs Tryz.func136 3 rfl (by kernel_rfl) (by rfl) ?_;refine ⟨fun cap hcap=>?_,fun h0=>by rw [h0] at hj;simp at hj;omega⟩;obtain ⟨R,hR⟩:∃ R,R=l++List.replicate (cap-l.length) (List.replicate 3 D.unk):=⟨_,rfl⟩
 have hRl:R.length=cap:=by rw [hR];simp;omega
 have hRt:R.take l.length=l:=by rw [hR];simp
 have hRi:R.take i=l.take i:=by rw [hR,List.take_append_of_le_length (by omega)]
 rw [<-hR]
 conv=>whnf
 refine zAg ⟨(by intro e;cases e),by omega,by show (l.length:Int) <=cap;omega⟩ (w0 ?_);refine z5y (by omega) (by simpa using hj) (aW ?_)
 refine bcase_p (fun hij=>?_) (fun hij=>?_)<;>conv=>whnf
 ·omega
 refine aA ?_;refine zHi (by show i<=cap;omega) (w0 ?_);refine zCv (by omega) (by show l.length<=cap;omega) (w0 ?_)
 have es:List.take (l.length-j) (List.drop (0+j) R)=l.drop j:=by rw [Nat.zero_add,<-List.drop_take,hRt]
 have e2:(l.drop j).length=l.length-j:=List.length_drop ..
 rw [es];refine zAg ⟨by omega,okRows_drop hok j⟩ (w0 ?_);refine ⟨fun hf=>?_,fun hf=>absurd (show i-0+(l.drop j).length<=cap-0 by omega) hf⟩
 conv=>whnf
 refine zAg (by omega) (aW ?_);refine z5y (by omega) (by show l.length<=cap-0;omega) (w0 ?_);refine zAg ⟨by simp;omega,rfl⟩ (aW ?_);refine zCs rfl rfl rfl ?_ ?_ rfl trivial
 ·simp;omega
 ·have e1:(l.take i).length=i:=by rw [List.length_take];omega
  have e3:(0:Nat)+0+(i-0)=i:=by omega
  have h1:∀ Y:List (List D),(List.take (0+(i-0)) R++(l.drop j++Y)).take (0+(i-0+(l.drop j).length))=l.take i++l.drop j:=by
   intro Y;rw [show 0+(i-0)=i by omega,hRi,<-List.append_assoc];exact List.take_left' (by rw [List.length_append,e1];omega)
  rw [h1];exact List.take_left' (by rw [List.length_append,e1];omega)
end Go.Lk.Hy
namespace Go.Lk.Hy
open Go Go.Proofs Go.RowKit Go.Lk Go.Lk.St
structure Ev where
 who:Int
 kind:Int
 id:Int
 body:ByteArray
 e:Int
 pid:Int
 ver:Int
 text:ByteArray
 began:Int
 done:Int
 ended:Int
def encE (x:Ev):List D:=[.int .i64 x.who,.int .i64 x.kind,.int .i64 x.id,.str x.body,.int .i64 x.e,.int .i64 x.pid,.int .i64 x.ver,.str x.text,.int .i64 x.began,.int .i64 x.done,.int .i64 x.ended]
theorem yHo:∀ (l:List Ev),okRows 11 (l.map encE)=true
 | []=>rfl
 |_::r=>yHo r
structure Cmp (cf:FuncId) (le:Ev->Ev->Bool):Prop where
 tp:TP le
 call:∀ x y,∃ c:Int,zAi Tryz.prog cf [.agg (encE x),.agg (encE y)] (.int .i64 c) /\ (c<0↔le y x=false)
theorem zJq {α:Type} {P Q:List α} {x y:α} {i:Nat} (h:i=P.length):(P++x::Q).set i y=P++y::Q:=by subst h;simp
theorem zEw {α:Type} {P Q:List α} {x:α} {i:Nat} (h:i=P.length):(P++x::Q)[i]?=some x:=by subst h;simp
theorem zFt (l:List Ev) (i:Nat) (x:Ev):(l.map encE).set i (encE x)=(l.set i x).map encE:=by rw [List.map_set]
theorem zBl {l:List Ev} {i:Nat} {x:Ev} (h:l[i]?=some x):(l.map encE)[i]?=some (encE x):=by rw [List.getElem?_map,h];rfl
def swR (A X B Y C:List Ev) (k:Nat):List Ev:=A++((Y.take k++X.drop k)++(B++((X.take k++Y.drop k)++C)))
theorem z9k {A X B Y C:List Ev} {k:Nat} (hX:k<X.length) (hY:k<Y.length):swR A X B Y C k=(A++Y.take k)++X[k]::(X.drop (k+1)++(B++((X.take k++Y.drop k)++C))):=by
 rw [swR,zBf hX];simp only [List.append_assoc,List.cons_append]
theorem yVt {A X B Y C:List Ev} {k:Nat} (hX:k<X.length) (hY:k<Y.length):swR A X B Y C k=(A++((Y.take k++X.drop k)++(B++X.take k)))++Y[k]::(Y.drop (k+1)++C):=by
 rw [swR,zBf hY];simp only [List.append_assoc,List.cons_append]
theorem yVs {A X B Y C:List Ev} {k i j:Nat} (hX:k<X.length) (hY:k<Y.length) (hl:X.length=Y.length) (hi:i=A.length+k) (hj:j=A.length+X.length+B.length+k):
  (swR A X B Y C k)[i]?=some X[k] /\ (swR A X B Y C k)[j]?=some Y[k] /\ ((swR A X B Y C k).set i Y[k])[j]?=some Y[k] /\ ((swR A X B Y C k).set i Y[k]).set j X[k]=swR A X B Y C (k+1) /\ (swR A X B Y C k).length=A.length+X.length+B.length+Y.length+C.length:=by
 have tX:(X.take k).length=k:=by simp;omega
 have tY:(Y.take k).length=k:=by simp;omega
 refine ⟨by rw [z9k hX hY];exact zEw (by simp [tY,hi]),by rw [yVt hX hY];exact zEw (by simp [tX,tY,hj];omega),?_,?_,by simp [swR];omega⟩
 ·rw [z9k hX hY,zJq (by simp [tY,hi]),zBf hY]
  have:A++Y.take k++Y[k]::(X.drop (k+1)++(B++(X.take k++Y[k]::Y.drop (k+1)++C)))=(A++(Y.take k++(Y[k]::(X.drop (k+1)++(B++X.take k)))))++Y[k]::(Y.drop (k+1)++C):=by simp only [List.append_assoc,List.cons_append]
  rw [this];exact zEw (by simp [tX,tY,hj];omega)
 ·rw [z9k hX hY,zJq (by simp [tY,hi]),zBf hY]
  have:A++Y.take k++Y[k]::(X.drop (k+1)++(B++(X.take k++Y[k]::Y.drop (k+1)++C)))=(A++(Y.take k++(Y[k]::(X.drop (k+1)++(B++X.take k)))))++Y[k]::(Y.drop (k+1)++C):=by simp only [List.append_assoc,List.cons_append]
  rw [this,zJq (by simp [tX,tY,hj];omega),swR,zAs hX,zAs hY];simp only [List.append_assoc,List.cons_append,List.nil_append]
theorem zLk (cf:FuncId) (A X B Y C:List Ev) (hl:X.length=Y.length) (hm:A.length+X.length+B.length+Y.length+C.length<=1000000):
  zBa Tryz.prog 301 [.own 1000000,.d (.int .i64 A.length),.d (.int .i64 ((A.length+X.length+B.length:Nat):Int)),.d (.int .i64 X.length),.d (.fn cf [])] [(1000000,.row ((A++(X++(B++(Y++C)))).map encE) 11 false)] [(1000000,.row ((A++(Y++(B++(X++C)))).map encE) 11 false)] (.tup []):=by
 refine zAr Tryz.func301 5 rfl (by kernel_rfl) (by rfl) (w0 ?_);refine zAq (ι:=Nat) (fun k=>[(0,.own 1000000),(1,.d (.int .i64 A.length)),(2,.d (.int .i64 ((A.length+X.length+B.length:Nat):Int))),(3,.d (.int .i64 X.length)),(10,.d (.int .i64 k))]) (fun k=>[(1000000,.row ((swR A X B Y C k).map encE) 11 false)])
  (fun k=>k<=X.length) (fun k=>X.length-k) 0 (Nat.zero_le _) (le0 (zAb ⟨rfl,rfl,rfl,rfl,rfl,trivial⟩ ⟨rfl,trivial⟩ ⟨rfl,rfl,rfl,rfl⟩)) ?_
 intro k hk
 conv=>whnf
 refine bcase_p (fun h=>?_) (fun h=>?_)<;>conv=>whnf
 ·have hX:k<X.length:=by omega
  have hY:k<Y.length:=by omega
  obtain ⟨g1,g2,g3,g4,g5⟩:=yVs (A:=A) (B:=B) (C:=C) hX hY hl rfl rfl
  have hml:((swR A X B Y C k).map encE).length=A.length+X.length+B.length+Y.length+C.length:=by rw [List.length_map,g5]
  have e1:(A.length:Int)+(k:Int)=((A.length+k:Nat):Int):=by omega
  have e2:((A.length+X.length+B.length:Nat):Int)+(k:Int)=((A.length+X.length+B.length+k:Nat):Int):=by omega
  refine aA ?_;rw [e1,e2];refine zAd (by omega) (w0 ?_);refine zAc (zBl g2) (aW ?_);refine zAd (by omega) (w0 ?_);refine zAc (zBl g1) (aW ?_);refine zAd (by omega) (w0 ?_);refine zAc (zBl g1) (w0 ?_);have s1:((swR A X B Y C k).map encE).set (A.length+k) (zAx (encE X[k]) 0 (encE Y[k]))=((swR A X B Y C k).set (A.length+k) Y[k]).map encE:=zFt _ _ _;refine aA ?_;refine zAd (by show _<(List.set _ _ _).length;rw [List.length_set];omega) (w0 ?_);refine zAc (x:=encE Y[k]) (by show (List.set _ _ (zAx (encE X[k]) 0 (encE Y[k])))[_]?=_;rw [s1];exact zBl g3) (aW ?_)
  have s2:(((swR A X B Y C k).map encE).set (A.length+k) (zAx (encE X[k]) 0 (encE Y[k]))).set (A.length+X.length+B.length+k) (zAx (encE Y[k]) 0 (encE X[k]))=(swR A X B Y C (k+1)).map encE:=by rw [s1,<-g4];exact zFt _ _ _
  exact ⟨k+1,by omega,by omega,le0 (zAb ⟨rfl,rfl,rfl,rfl,rfl,trivial⟩ ⟨by rw [<-s2];rfl,trivial⟩ ⟨by show some (Blk.row ((swR A X B Y C (k+1)).map encE) 11 false)=_;rw [<-s2];rfl,rfl,rfl,rfl⟩)⟩
 ·have hkl:k=X.length:=by omega
  subst hkl
  have e:swR A X B Y C X.length=A++(Y++(B++(X++C))):=by simp [swR,List.take_of_length_le,hl]
  rw [e];exact zAh rfl rfl rfl ⟨rfl,trivial⟩
theorem zEj {α:Type} {X:List α} {n:Nat} (h:n<=X.length):∃ X1 X2,X=X1++X2/\X1.length=n:=⟨X.take n,X.drop n,(List.take_append_drop n X).symm,by simp;omega⟩
theorem yKr (cf:FuncId) (A L R C:List Ev) (hL:L≠[]) (hR:R≠[]) (hm:A.length+L.length+R.length+C.length<=1000000):
  zBa Tryz.prog 281 [.own 1000000,.d (.int .i64 A.length),.d (.int .i64 ((A.length+L.length:Nat):Int)),.d (.int .i64 ((A.length+L.length+R.length:Nat):Int)),.d (.fn cf [])] [(1000000,.row ((A++(L++(R++C))).map encE) 11 false)] [(1000000,.row ((A++(R++(L++C))).map encE) 11 false)] (.tup []):=by
 refine zAr Tryz.func281 5 rfl (by kernel_rfl) (by rfl) (w0 ?_);have l0:0<L.length:=List.length_pos_iff.2 hL;have r0:0<R.length:=List.length_pos_iff.2 hR
 have e1:((A.length+L.length:Nat):Int)-(A.length:Int)=((L.length:Nat):Int):=by omega
 have e2:((A.length+L.length+R.length:Nat):Int)-((A.length+L.length:Nat):Int)=((R.length:Nat):Int):=by omega
 refine aA ?_;rw [e1,e2];refine zAq (ι:=List Ev×List Ev×List Ev×List Ev) (fun s=>[(0,.own 1000000),(2,.d (.int .i64 ((A.length+L.length:Nat):Int))),(4,.d (.fn cf [])),(10,.d (.int .i64 s.2.1.length)),(11,.d (.int .i64 s.2.2.1.length))]) (fun s=>[(1000000,.row ((s.1++(s.2.1++(s.2.2.1++s.2.2.2))).map encE) 11 false)])
  (fun s=>0<s.2.1.length/\0<s.2.2.1.length/\s.1.length+s.2.1.length=A.length+L.length/\s.1.length+s.2.1.length+s.2.2.1.length+s.2.2.2.length=A.length+L.length+R.length+C.length/\s.1++(s.2.2.1++(s.2.1++s.2.2.2))=A++(R++(L++C))) (fun s=>s.2.1.length+s.2.2.1.length) (A,L,R,C) ⟨l0,r0,rfl,rfl,rfl⟩ (le0 (zAb ⟨rfl,rfl,rfl,rfl,rfl,trivial⟩ ⟨rfl,trivial⟩ ⟨rfl,rfl,rfl,rfl⟩)) ?_
 rintro ⟨A',X,Y,C'⟩ ⟨x0,y0,hpos,htot,hfin⟩;simp only at x0 y0 hpos htot hfin⊢
 conv=>whnf
 have ei:((A.length+L.length:Nat):Int)-(X.length:Int)=((A'.length:Nat):Int):=by omega
 refine bcase_n (fun hne=>?_) (fun hne=>?_)<;>conv=>whnf
 ·refine aA ?_
  refine bcase_p (fun hgt=>?_) (fun hgt=>?_)<;>conv=>whnf
  ·obtain ⟨X1,X2,rfl,hx1⟩:=zEj (X:=X) (n:=Y.length) (by omega);rw [List.length_append] at ei hpos htot hgt hne x0
   have ea:(X1++X2)++(Y++C')=X1++(X2++(Y++C')):=by simp
   rw [ea,List.length_append];refine aA ?_;rw [ei]
   have em:((A.length+L.length:Nat):Int)=((A'.length+X1.length+X2.length:Nat):Int):=by omega
   rw [em,<-hx1];refine zAt (zLk cf A' X1 X2 Y C' hx1 (by omega)) [(1000000,1000000)] rfl ⟨rfl,trivial⟩ rfl (aW ?_)
   have es:((X1.length+X2.length:Nat):Int)-(X1.length:Int)=((X2.length:Nat):Int):=by omega
   rw [es]
   have er:A'++(Y++(X2++(X1++C')))=(A'++Y)++(X2++(X1++C')):=by simp
   exact ⟨(A'++Y,X2,X1,C'),⟨by simp only [];omega,by simp only [];omega,by simp;omega,by simp;omega,by simp [<-hfin]⟩,by simp only [];omega,le0 (zAb ⟨rfl,rfl,rfl,rfl,rfl,trivial⟩ ⟨by rw [<-er];rfl,trivial⟩ ⟨by show some (Blk.row (((A'++Y)++(X2++(X1++C'))).map encE) 11 false)=_;rw [<-er];rfl,rfl,rfl,rfl⟩)⟩
  ·obtain ⟨Y1,Y2,rfl,hy1⟩:=zEj (X:=Y) (n:=Y.length-X.length) (by omega);rw [List.length_append] at htot hgt hne y0 hy1
   have hy2:X.length=Y2.length:=by omega
   have ea:(Y1++Y2)++C'=Y1++(Y2++C'):=by simp
   rw [ea,List.length_append];refine aA ?_;rw [ei]
   have em:((A.length+L.length:Nat):Int)+((Y1.length+Y2.length:Nat):Int)-(X.length:Int)=((A'.length+X.length+Y1.length:Nat):Int):=by omega
   rw [em];refine zAt (zLk cf A' X Y1 Y2 C' hy2 (by omega)) [(1000000,1000000)] rfl ⟨rfl,trivial⟩ rfl (aW ?_)
   have es:((Y1.length+Y2.length:Nat):Int)-(X.length:Int)=((Y1.length:Nat):Int):=by omega
   rw [es];exact ⟨(A',Y2,Y1,X++C'),⟨by simp only [];omega,by simp only [];omega,by simp only [];omega,by simp only [List.length_append];omega,by simp only [];rw [<-hfin];simp⟩,by simp only [];omega,le0 (zAb ⟨rfl,rfl,rfl,by rw [<-hy2];rfl,rfl,trivial⟩ ⟨rfl,trivial⟩ ⟨rfl,rfl,rfl,rfl⟩)⟩
 ·have hxy:X.length=Y.length:=by omega
  refine aA ?_;rw [ei]
  have em:((A.length+L.length:Nat):Int)=((A'.length+X.length+([]:List Ev).length:Nat):Int):=by simp;omega
  rw [em];refine zAt (zLk cf A' X [] Y C' hxy (by simp;omega)) [(1000000,1000000)] rfl ⟨rfl,trivial⟩ rfl (aW ?_);refine zAh rfl rfl rfl ⟨?_,trivial⟩;rw [<-hfin];rfl
theorem z9f {le:Ev->Ev->Bool} (h:TP le) {T:List Ev} {u x:Ev} (hs:zBx le (T++[u])) (hu:le u x=true):∀ y∈T++[u],le y x=true:=fun y hy=>by
 rcases List.mem_append.1 hy with hy|hy
 ·exact h.trans _ _ _ ((zCf.1 hs).2.2 y hy u (by simp)) hu
 ·rw [List.mem_singleton.1 hy];exact hu
theorem yEg (cf:FuncId) (le:Ev->Ev->Bool) (hc:Cmp cf le) (A X C:List Ev) (hm:A.length+X.length+C.length<=1000000):
  zBa Tryz.prog 249 [.own 1000000,.d (.int .i64 A.length),.d (.int .i64 ((A.length+X.length:Nat):Int)),.d (.fn cf [])] [(1000000,.row ((A++(X++C)).map encE) 11 false)] [(1000000,.row ((A++(srt le X++C)).map encE) 11 false)] (.tup []):=by
 refine zAr Tryz.func249 4 rfl (by kernel_rfl) (by rfl) (aW ?_)
 have e0:A++(X++C)=A++(srt le (X.take 1)++(X.drop 1++C)):=by
  cases X with
  |nil=>rfl
  |cons x r=>rfl
 rw [e0];refine zAq (ι:=Nat) (fun k=>[(0,.own 1000000),(1,.d (.int .i64 A.length)),(2,.d (.int .i64 ((A.length+X.length:Nat):Int))),(3,.d (.fn cf [])),(8,.d (.int .i64 ((A.length:Int)+(k:Int))))]) (fun k=>[(1000000,.row ((A++(srt le (X.take k)++(X.drop k++C))).map encE) 11 false)])
  (fun k=>1<=k/\ (k<=X.length\/k=1)) (fun k=>X.length+1-k) 1 ⟨Nat.le_refl _,.inr rfl⟩ (le0 (zAb ⟨rfl,rfl,rfl,rfl,rfl,trivial⟩ ⟨rfl,trivial⟩ ⟨rfl,rfl,rfl,rfl⟩)) ?_
 rintro k ⟨hk1,hk⟩
 conv=>whnf
 refine bcase_p (fun h=>?_) (fun h=>?_)<;>conv=>whnf
 ·have hkX:k<X.length:=by omega
  refine aA ?_;have hd:X.drop k=X[k]::X.drop (k+1):=zBf hkX;generalize hx:X[k]=x at hd;rw [hd,List.cons_append]
  have hlen:(srt le (X.take k)).length=k:=by rw [zAm];simp;omega
  have hdl:(X.drop (k+1)).length+k+1=X.length:=by simp;omega
  refine zAq (ι:=List Ev×List Ev) (fun s=>[(0,.own 1000000),(1,.d (.int .i64 A.length)),(2,.d (.int .i64 ((A.length+X.length:Nat):Int))),(3,.d (.fn cf [])),(8,.d (.int .i64 ((A.length:Int)+(k:Int)))),(9,.d (.int .i64 ((A.length:Int)+(s.1.length:Int))))]) (fun s=>[(1000000,.row ((A++(s.1++(x::(s.2++(X.drop (k+1)++C))))).map encE) 11 false)])
   (fun s=>s.1++s.2=srt le (X.take k) /\ ∀ y∈s.2,le y x=false) (fun s=>s.1.length) (srt le (X.take k),[]) ⟨by simp,fun y h=>by cases h⟩ (le0 (zAb ⟨rfl,rfl,rfl,rfl,rfl,by show AV.d (.int .i64 ((A.length:Int)+(k:Int)))=AV.d (.int .i64 ((A.length:Int)+((srt le (X.take k)).length:Int)));rw [hlen],trivial⟩ ⟨rfl,trivial⟩ ⟨rfl,rfl,rfl,rfl⟩)) ?_
  rintro ⟨S1,S2⟩ ⟨h12,hS2⟩;simp only at h12 hS2⊢
  have hS12:S1.length+S2.length=k:=by rw [<-hlen,<-h12];simp
  have hml:((A++(S1++(x::(S2++(X.drop (k+1)++C))))).map encE).length=A.length+X.length+C.length:=by simp only [List.length_map,List.length_append,List.length_cons];omega
  conv=>whnf
  refine bcase_p (fun h1=>?_) (fun h1=>?_)<;>conv=>whnf
  ·obtain ⟨T,u,rfl⟩:∃ T u,S1=T++[u]:=by
    rcases List.eq_nil_or_concat S1 with e|⟨T,u,e⟩
    ·subst e;simp at h1
    ·exact ⟨T,u,by simpa using e⟩
   rw [List.length_append,List.length_singleton] at hS12
   have g1:(A++((T++[u])++(x::(S2++(X.drop (k+1)++C)))))[A.length+(T.length+1)]?=some x:=by
    have:A++((T++[u])++(x::(S2++(X.drop (k+1)++C))))=(A++(T++[u]))++x::(S2++(X.drop (k+1)++C)):=by simp only [List.append_assoc,List.cons_append]
    rw [this];exact zEw (by simp)
   have hsh:A++((T++[u])++(x::(S2++(X.drop (k+1)++C))))=(A++T)++u::(x::(S2++(X.drop (k+1)++C))):=by simp only [List.append_assoc,List.cons_append,List.nil_append]
   have g2:(A++((T++[u])++(x::(S2++(X.drop (k+1)++C)))))[A.length+T.length]?=some u:=by rw [hsh];exact zEw (by simp)
   have ej:(A.length:Int)+((T++[u]).length:Int)=((A.length+(T.length+1):Nat):Int):=by rw [List.length_append,List.length_singleton];omega
   have ej1:((A.length+(T.length+1):Nat):Int)-1=((A.length+T.length:Nat):Int):=by omega
   rw [ej];refine aA ?_;refine zAd (by omega) (w0 ?_);refine zAc (zBl g1) (aW ?_);rw [ej1];refine zAd (by omega) (w0 ?_);refine zAc (zBl g2) (aW ?_);obtain ⟨c,hcall,hlt⟩:=hc.call x u;refine zAa hcall (aW ?_)
   refine bcase_p (fun h2=>?_) (fun h2=>?_)<;>conv=>whnf
   ·have hlt2:=hlt.1 h2;refine aA ?_;rw [ej1];refine zAd (by omega) (w0 ?_);refine zAc (zBl g2) (aW ?_);refine zAd (by omega) (w0 ?_);refine zAc (zBl g1) (aW ?_);refine zAd (by omega) (w0 ?_);refine zAc (zBl g1) (w0 ?_)
    have hsh2:A++((T++[u])++(x::(S2++(X.drop (k+1)++C))))=(A++(T++[u]))++x::(S2++(X.drop (k+1)++C)):=by simp only [List.append_assoc,List.cons_append]
    have hs1:(A++((T++[u])++(x::(S2++(X.drop (k+1)++C))))).set (A.length+(T.length+1)) u=(A++T)++u::(u::(S2++(X.drop (k+1)++C))):=by rw [hsh2,zJq (by simp)];simp only [List.append_assoc,List.cons_append,List.nil_append]
    have hs2:((A++T)++u::(u::(S2++(X.drop (k+1)++C)))).set (A.length+T.length) x=A++(T++(x::((u::S2)++(X.drop (k+1)++C)))):=by rw [zJq (by simp)];simp only [List.append_assoc,List.cons_append]
    have s1:((A++((T++[u])++(x::(S2++(X.drop (k+1)++C))))).map encE).set (A.length+(T.length+1)) (zAx (encE x) 0 (encE u))=((A++T)++u::(u::(S2++(X.drop (k+1)++C)))).map encE:=by rw [<-hs1];exact zFt _ _ _
    refine aA ?_;refine zAd (by show _<(List.set _ _ _).length;rw [List.length_set];omega) (w0 ?_);refine zAc (x:=encE u) (by show (List.set _ _ (zAx (encE x) 0 (encE u)))[_]?=_;rw [s1];exact zBl (zEw (by simp))) (aW ?_)
    have s2:(((A++((T++[u])++(x::(S2++(X.drop (k+1)++C))))).map encE).set (A.length+(T.length+1)) (zAx (encE x) 0 (encE u))).set (A.length+T.length) (zAx (encE u) 0 (encE x))=(A++(T++(x::((u::S2)++(X.drop (k+1)++C))))).map encE:=by rw [s1,<-hs2];exact zFt _ _ _
    rw [ej1];exact ⟨(T,u::S2),⟨by rw [<-h12];simp,fun y hy=>by rcases List.mem_cons.1 hy with e|e;rw [e];exact hlt2;exact hS2 y e⟩,by simp,le0 (zAb ⟨rfl,rfl,rfl,rfl,rfl,rfl,trivial⟩ ⟨by rw [<-s2];rfl,trivial⟩ ⟨by show some (Blk.row ((A++(T++(x::((u::S2)++(X.drop (k+1)++C))))).map encE) 11 false)=_;rw [<-s2];rfl,rfl,rfl,rfl⟩)⟩
   ·have hle:le u x=true:=by
     cases e:le u x with
     |true=>rfl
     |false=>exact absurd (hlt.2 e) h2
    have hle2:∀ y∈T++[u],le y x=true:=z9f hc.tp (zCf.1 (by rw [h12];exact zBw hc.tp _:zBx le ((T++[u])++S2))).1 hle
    generalize T++[u]=S1 at*
    refine aA ?_
    have hsrt:srt le (X.take (k+1))=S1++x::S2:=by rw [zAs hkX,hx,yIp hc.tp (a:=S1) (b:=S2) (by rw [h12];exact zBw hc.tp _) hle2 hS2,h12];exact yLi hc.tp ((zFc hc.tp _).app (Same.refl _))
    have er:A++(S1++(x::(S2++(X.drop (k+1)++C))))=A++(srt le (X.take (k+1))++(X.drop (k+1)++C)):=by rw [hsrt];simp only [List.append_assoc,List.cons_append]
    exact ⟨k+1,⟨by omega,by omega⟩,by omega,le0 (zAb ⟨rfl,rfl,rfl,rfl,rfl,trivial⟩ ⟨by rw [<-er];rfl,trivial⟩ ⟨by show some (Blk.row ((A++(srt le (X.take (k+1))++(X.drop (k+1)++C))).map encE) 11 false)=_;rw [<-er];rfl,rfl,rfl,rfl⟩)⟩
  ·have hS0:S1=[]:=List.length_eq_zero_iff.1 (by omega);subst hS0
   have hq:∀ y∈([]:List Ev),le y x=true:=fun y h=>by cases h
   generalize ([]:List Ev)=S1 at*
   refine aA ?_
   have hsrt:srt le (X.take (k+1))=S1++x::S2:=by rw [zAs hkX,hx,yIp hc.tp (a:=S1) (b:=S2) (by rw [h12];exact zBw hc.tp _) hq hS2,h12];exact yLi hc.tp ((zFc hc.tp _).app (Same.refl _))
   have er:A++(S1++(x::(S2++(X.drop (k+1)++C))))=A++(srt le (X.take (k+1))++(X.drop (k+1)++C)):=by rw [hsrt];simp only [List.append_assoc,List.cons_append]
   exact ⟨k+1,⟨by omega,by omega⟩,by omega,le0 (zAb ⟨rfl,rfl,rfl,rfl,rfl,trivial⟩ ⟨by rw [<-er];rfl,trivial⟩ ⟨by show some (Blk.row ((A++(srt le (X.take (k+1))++(X.drop (k+1)++C))).map encE) 11 false)=_;rw [<-er];rfl,rfl,rfl,rfl⟩)⟩
 ·have e1:srt le (X.take k)++(X.drop k++C)=srt le X++C:=by
   rw [List.take_of_length_le (by omega),List.drop_eq_nil_of_le (by omega)];rfl
  rw [e1];refine aA ?_;exact zAh rfl rfl rfl ⟨rfl,trivial⟩
end Go.Lk.Hy
