/-
  What is proved here: what functions of the program compute, and what follows; no condition beyond each theorem's own.
-/
import Derived.Test.YtaofmndhdmkgkaaGreatGAi
import Derived.Test.YtaofmndhdmkgkaaGreatGAk
import Derived.Test.YtaofmndhdmkgkaaGreatGAo
import Derived.Test.YtaofmndhdmkgkaaGreatGAt
import Derived.Test.YtaofmndhdmkgkaaGreatGAu
set_option linter.unusedSimpArgs false
set_option linter.unusedVariables false
set_option linter.unnecessarySimpa false
set_option linter.unusedSectionVars false
namespace Go.Lk
open Go Go.Proofs Go.RowKit
theorem okRows_sub {sz:Nat} {l:List (List D)} (h:okRows sz l=true) (n m:Nat):okRows sz ((l.drop n).take m)=true:=by
 simp only [okRows,List.all_eq_true] at h⊢;intro x hx;exact h x (List.mem_of_mem_drop (List.mem_of_mem_take hx))
theorem okRows_drop {sz:Nat} {l:List (List D)} (h:okRows sz l=true) (n:Nat):okRows sz (l.drop n)=true:=by
 simp only [okRows,List.all_eq_true] at h⊢;intro x hx;exact h x (List.mem_of_mem_drop hx)
theorem okRows_take {sz:Nat} {l:List (List D)} (h:okRows sz l=true) (n:Nat):okRows sz (l.take n)=true:=by
 simp only [okRows,List.all_eq_true] at h⊢;intro x hx;exact h x (List.mem_of_mem_take hx)
theorem ins_grow {α:Type} {A Z V B X Y:List α} {i m n:Nat} (hA:A.length=i) (hV:V.length=m) (hB:B.length=n-i) (hi:i<=n) (k:Nat) (hk:k=n+m):
  (((A++Z).take i++(V++X)).take (i+m)++(B++Y)).take k=A++(V++B):=by
 have h1:(A++Z).take i=A:=List.take_left' hA
 have h2:(A++(V++X)).take (i+m)=A++V:=by rw [<-List.append_assoc];exact List.take_left' (by simp [hA,hV])
 rw [h1,h2]
 have h3:(A++V++(B++Y))=(A++(V++B))++Y:=by simp
 rw [h3];exact List.take_left' (by simp [hA,hV,hB,hk];omega)
theorem ins_in {α:Type} {R V B Y:List α} {i m n:Nat} (hR:n+m<=R.length) (hV:V.length=m) (hB:B.length=n-i) (hi:i<=n) (k:Nat) (hk:k=n+m):
  ((R.take (i+m)++(B++Y)).take i++(V++(R.take (i+m)++(B++Y)).drop (i+m))).take k=R.take i++(V++B):=by
 have h1:(R.take (i+m)).length=i+m:=by rw [List.length_take];omega
 have h2:(R.take i).length=i:=by rw [List.length_take];omega
 have h3:(R.take (i+m)++(B++Y)).take i=R.take i:=by rw [List.take_append_of_le_length (by omega),List.take_take,Nat.min_eq_left (by omega)]
 have h4:(R.take (i+m)++(B++Y)).drop (i+m)=B++Y:=List.drop_left' h1;rw [h3,h4]
 have h5:R.take i++(V++(B++Y))=(R.take i++(V++B))++Y:=by simp
 rw [h5];exact List.take_left' (by simp [h2,hV,hB,hk];omega)
theorem yGx {l vs:List (List D)} {i:Nat} (hi:i<=l.length) (hl:l.length<=1000000) (hv0:0<vs.length) (hv:vs.length<=1000) (hok:okRows 1 l=true) (hp:okRows 1 vs=true):
  zXw Tryz.prog 263 l 1 [.d (.int .i64 i),.own 1000000] [(1000000,.row vs 1 false)] [(1000000,.row vs 1 false)] (l.take i++(vs++l.drop i)):=by
 refine zKn Tryz.func263 3 rfl (by kernel_rfl) (by rfl) ?_;refine ⟨fun cap hcap=>?_,fun h0=>?_⟩
 ·obtain ⟨R,hR⟩:∃ R,R=l++List.replicate (cap-l.length) (List.replicate 1 D.unk):=⟨_,rfl⟩
  have hRl:R.length=cap:=by rw [hR];simp;omega
  have hRt:R.take l.length=l:=by rw [hR];simp
  have hRi:R.take i=l.take i:=by rw [hR,List.take_append_of_le_length hi]
  rw [<-hR]
  conv=>whnf
  refine zCz (by omega) hcap (aW ?_)
  refine bcase_p (fun hm0=>?_) (fun hm0=>?_)<;>conv=>whnf
  ·omega
  refine aA ?_
  refine bcase_p (fun hin=>?_) (fun hin=>?_)<;>conv=>whnf
  ·have hin':i=l.length:=by omega
   subst hin';refine aA ?_;refine zAh hp (w0 ?_);refine ⟨fun hf=>?_,fun hf=>?_⟩
   ·conv=>whnf
    refine zAh (by omega) (w0 ?_);refine zCw rfl rfl rfl ?_ ?_ rfl ⟨rfl,trivial⟩
    ·simp;omega
    ·rw [Nat.zero_add,hRt,<-List.append_assoc];rw [List.take_append_of_le_length (by simp)];rw [List.take_of_length_le (by simp)];simp
   ·conv=>whnf
    refine zAh (by omega) (w0 ?_);refine zKj (Nat.le_trans (Nat.mul_le_mul_right _ (by show l.length+vs.length<=1001000;omega)) (by decide)) (by omega) (w0 ?_);refine zCw rfl rfl rfl ?_ ?_ rfl ⟨rfl,trivial⟩
    ·simp [hRl];omega
    ·rw [List.drop_zero,hRt];rw [List.take_of_length_le (by simp)];simp
  ·have hilt:i<l.length:=by omega
   refine aA ?_
   refine bcase_p (fun hcp=>?_) (fun hcp=>?_)<;>conv=>whnf
   ·refine zHw (by simp;omega) (aW ?_)
    have eN:((l.length:Nat):Int)+((vs.length:Nat):Int)-(i:Int)=((l.length+vs.length-i:Nat):Int):=by omega
    rw [eN];simp only [Int.toNat_natCast,Nat.sub_zero,Nat.zero_add];refine zKj (Nat.le_trans (Nat.mul_le_mul_right _ (by show i+(l.length+vs.length-i) <=1001000;omega)) (by decide)) (by omega) (w0 ?_);refine zCz (by omega) (by simp) (w0 ?_);have em:Nat.min vs.length (i+(l.length+vs.length-i)-i)=vs.length:=Nat.min_eq_left (by omega);rw [em,List.take_length];refine zAh ⟨by simp;omega,hp⟩ (aW ?_);refine zCz (by omega) (by simp) (w0 ?_);refine zCz (by omega) hcap (w0 ?_);refine zAh (by omega) (w0 ?_)
    have es:List.take (l.length-i) (List.drop (0+i) R)=l.drop i:=by rw [Nat.zero_add,<-List.drop_take,hRt]
    rw [es];have em2:Nat.min (l.drop i).length (i+(l.length+vs.length-i)-(i+vs.length))=(l.drop i).length:=Nat.min_eq_left (by rw [List.length_drop];omega);rw [em2,List.take_length];refine zAh ⟨by simp;omega,okRows_drop hok i⟩ (aW ?_);refine zCw rfl rfl rfl ?_ ?_ rfl ⟨rfl,trivial⟩
    ·simp;omega
    ·have e0:(R.take i).length=i:=by rw [List.length_take];omega
     have e1:(l.take i).length=i:=by rw [List.length_take];omega
     have e2:(l.drop i).length=l.length-i:=List.length_drop ..
     simp only [List.drop_zero,Nat.zero_add,hRi];exact ins_grow e1 rfl e2 hi _ (by omega)
   ·refine aA ?_;refine zHw (by show l.length+vs.length<=cap;omega) (aW ?_);refine zCz (by omega) (by show l.length+vs.length-0<=cap-0;omega) (w0 ?_);refine z4f (zNp (t:=25) (tR:=4) zYf Tryz.func285 (by kernel_rfl) (by kernel_rfl) (by kernel_rfl) (by kernel_rfl) rfl rfl rfl (by decide) (by intro e;rw [e] at hv0;exact absurd hv0 (by decide)) (by omega) (by decide)) (aW ?_);refine zCz (by omega) (by show l.length+vs.length-0<=cap-0;omega) (w0 ?_);refine zCz (by omega) (by show l.length+vs.length-0<=cap-0;omega) (w0 ?_);refine zAh (by omega) (w0 ?_)
    have es:(List.take (l.length+vs.length-0-i) (List.drop (0+0+i) R)).length=l.length+vs.length-i:=by rw [List.length_take,List.length_drop];omega
    have em:Nat.min (List.take (l.length+vs.length-0-i) (List.drop (0+0+i) R)).length (l.length+vs.length-0-(i+vs.length))=l.length-i:=by rw [es];exact (Nat.min_eq_right (by omega)).trans (by omega)
    rw [em]
    have es2:List.take (l.length-i) (List.take (l.length+vs.length-0-i) (List.drop (0+0+i) R))=l.drop i:=by
     rw [List.take_take,Nat.min_eq_left (by omega),show 0+0+i=i by omega,<-List.drop_take,hRt]
    rw [es2];refine zAh ⟨by omega,okRows_drop hok i⟩ (aW ?_);refine zCz (by omega) (by show l.length+vs.length-0<=cap-0;omega) (w0 ?_);have em3:Nat.min vs.length (l.length+vs.length-0-i)=vs.length:=Nat.min_eq_left (by omega);rw [em3,List.take_length];refine zAh ⟨by simp;omega,hp⟩ (aW ?_);refine zCw rfl rfl rfl ?_ ?_ rfl ⟨rfl,trivial⟩
    ·simp;omega
    ·have e0:(0:Nat)+0+i=i:=by omega
     have e1:(0:Nat)+0+(i+vs.length)=i+vs.length:=by omega
     have e2:(l.drop i).length=l.length-i:=List.length_drop ..
     rw [e0,e1,<-hRi];exact ins_in (n:=l.length) (by omega) rfl e2 hi _ (by omega)
 ·conv=>whnf
  refine zDg (by rw [h0] at hi;exact hi) (w0 ?_)
  have hi0:i=0:=by rw [h0] at hi;simpa using hi
  subst hi0;refine aA ?_
  refine bcase_p (fun hm0=>?_) (fun hm0=>?_)<;>conv=>whnf
  ·omega
  refine aA ?_;refine zAh hp (w0 ?_);refine zKj (Nat.le_trans (Nat.mul_le_mul_right _ (by show vs.length<=1001000;omega)) (by decide)) (by omega) (w0 ?_);subst h0;refine yFx rfl rfl ?_ rfl ⟨rfl,trivial⟩;show some (Blk.row vs 1 false)=some (Blk.row ([].take 0++(vs++[].drop 0)) 1 false);simp
def posN (w:Nat) (l:List Nat):Nat:=(l.takeWhile fun x=>decide (x<w)).length
theorem pos_lt {w:Nat}:∀ {l:List Nat} {i:Nat},i<=l.length->(∀ j (hj:j<i) (hl:j<l.length),l[j]<w)->(∀ (hl:i<l.length),¬l[i]<w)->posN w l=i
 | [],i,hi,_,_=>by simp at hi;subst hi;rfl
 |x::r,0,_,_,h=>by
  have:=h (Nat.zero_lt_succ _)
  rw [posN,List.takeWhile_cons,decide_eq_false (by simpa using this)];rfl
 |x::r,i+1,hi,h1,h2=>by
  have hx:x<w:=h1 0 (Nat.succ_pos _) (Nat.zero_lt_succ _);rw [posN,List.takeWhile_cons,decide_eq_true hx];show (List.takeWhile _ r).length+1=_
  congr 1
  refine pos_lt (by simpa using hi) (fun j hj hl=>?_) fun hl=>?_
  ·have:=h1 (j+1) (by omega) (by simpa using hl);simpa using this
  ·have:=h2 (by simpa using hl);simpa using this
theorem yWq (w:Nat) (l:List Nat):insN w l=l.take (posN w l)++w::l.drop (posN w l):=by
 have e:l.takeWhile (fun x=>decide (x<w))++l.dropWhile (fun x=>decide (x<w))=l:=List.takeWhile_append_dropWhile
 have h1:l.take (posN w l)=l.takeWhile fun x=>decide (x<w):=by
  have:=List.take_left' (l₁:=l.takeWhile fun x=>decide (x<w)) (l₂:=l.dropWhile fun x=>decide (x<w)) rfl
  rw [e] at this;exact this
 have h2:l.drop (posN w l)=l.dropWhile fun x=>decide (x<w):=by
  have:=List.drop_left' (l₁:=l.takeWhile fun x=>decide (x<w)) (l₂:=l.dropWhile fun x=>decide (x<w)) rfl
  rw [e] at this;exact this
 rw [h1,h2];rfl
structure BinI (w:Nat) (l:List Nat) (s:Nat×Nat):Prop where
 le:s.1<=s.2
 n:s.2<=l.length
 lo:∀ j (hj:j<s.1) (hl:j<l.length),l[j]<w
 hi:∀ j (hj:s.2<=j) (hl:j<l.length),w<l[j]
theorem wu64 {n:Int} (h0:0<=n) (h1:n<=9223372036854775807):IntKind.u64.wrap n=n:=by
 rw [IntKind.wrap_u64];omega
theorem half {a b:Nat}:Int.fdiv (((a:Int)+(b:Int))) (2^(min (1:Int).toNat (IntKind.bits .u64)))=(((a+b)/2:Nat):Int):=by
 rw [show (2:Int)^(min (1:Int).toNat (IntKind.bits .u64))=2 from rfl,Int.fdiv_eq_ediv_of_nonneg _ (by decide)];omega
theorem isNaN_ok (x:Int):zAj Tryz.prog 284 [.int .i64 x] (.bool false):=by
 refine zAe Tryz.func284 1 rfl (by kernel_rfl) (aO ?_);exact ret_of rfl (by simp)
theorem yLp (x:Int):zAj Tryz.prog 189 [.int .i64 x] (.bool false):=by
 refine zAe Tryz.func189 1 rfl (by kernel_rfl) (aO ?_);exact ret_of rfl (by simp)
theorem yWy (x y:Int):zAj Tryz.prog 283 [.int .i64 x,.int .i64 y] (.bool (decide (x<y))):=by
 refine zAe Tryz.func283 2 rfl (by kernel_rfl) (aO ?_);refine zAa (yLp x) (aO ?_);exact ret_of rfl rfl
theorem yNx (w:Nat) (l:List Nat) (hu:l.Pairwise (·<·)) (hn:w∉l) (hl:l.length<=1000) (hw:w<1000):zAj Tryz.prog 262 [.lst (l.map encN),.int .i64 w] (.tup [.int .i64 (posN w l),.bool false]):=by
 have hm:(l.map encN).length=l.length:=List.length_map ..
 refine zAe Tryz.func262 2 rfl (by kernel_rfl) (aO ?_);refine zAq (ι:=Nat×Nat) (fun s=>[(0,.d (.lst (l.map encN))),(1,.d (.int .i64 w)),(6,.d (.int .i64 (l.map encN).length)),(7,.d (.int .i64 s.1)),(8,.d (.int .i64 s.2))]) (fun _=>[])
  (BinI w l) (fun s=>s.2-s.1) (0,l.length) ⟨Nat.zero_le _,Nat.le_refl _,fun j hj _=>absurd hj (Nat.not_lt_zero _),fun j hj hl=>absurd hj (by dsimp only;omega)⟩ (le0 (zAb ⟨rfl,rfl,rfl,rfl,by rw [<-hm];rfl,trivial⟩ trivial ⟨rfl,rfl,rfl,rfl⟩)) ?_
 rintro ⟨i,j⟩ ⟨h1,h2,h3,h4⟩;simp only [] at h1 h2 h3 h4⊢
 conv=>whnf
 refine bcase_p (fun h5=>?_) (fun h5=>?_)<;>conv=>whnf
 ·refine aO ?_;refine zCg (wu64 (by omega) (by omega)) (aO ?_);rw [half];refine aO ?_
  have hh1:(i+j)/2<l.length:=by omega
  refine zAd (by omega) (w0 ?_);refine zAc (x:=encN l[(i+j)/2]) (by simp [hh1]) (aO ?_);refine zAa (yWy _ _) (w0 ?_)
  have hne:l[(i+j)/2]≠w:=fun e=>hn (e▸List.getElem_mem hh1)
  refine bcase_p (fun h6=>?_) (fun h6=>?_)<;>conv=>whnf
  ·refine aO ?_;refine ⟨((i+j)/2+1,j),⟨by dsimp only;omega,h2,fun k hk hkl=>?_,h4⟩,by dsimp only;omega,(le0 (zAb ⟨rfl,rfl,rfl,rfl,rfl,trivial⟩ trivial ⟨rfl,rfl,rfl,rfl⟩))⟩;dsimp only at hk;have:=List.pairwise_iff_getElem.1 hu k ((i+j)/2) hkl hh1
   rcases Nat.lt_or_ge k ((i+j)/2) with g|g
   ·have:=this g;omega
   ·have:k=(i+j)/2:=by omega
    subst this;omega
  ·refine aO ?_;refine ⟨(i,(i+j)/2),⟨by dsimp only;omega,by dsimp only;omega,h3,fun k hk hkl=>?_⟩,by dsimp only;omega,(le0 (zAb ⟨rfl,rfl,rfl,rfl,rfl,trivial⟩ trivial ⟨rfl,rfl,rfl,rfl⟩))⟩;dsimp only at hk;have:=List.pairwise_iff_getElem.1 hu ((i+j)/2) k hh1 hkl
   rcases Nat.lt_or_ge ((i+j)/2) k with g|g
   ·have:=this g;omega
   ·have:k=(i+j)/2:=by omega
    subst this;omega
 ·have hij:i=j:=by omega
  subst hij
  have hp:=pos_lt (w:=w) h2 (fun k hk hkl=>h3 k hk hkl) fun hl=>by have:=h4 i (Nat.le_refl _) hl;omega
  rw [hp];refine aO ?_
  refine bcase_p (fun h6=>?_) (fun h6=>?_)<;>conv=>whnf
  ·have hil:i<l.length:=by omega
   have:=h4 i (Nat.le_refl _) hil;refine aO ?_;refine zAd (by omega) (w0 ?_);refine zAc (x:=encN l[i]) (by simp [hil]) (aO ?_);refine zAd (by omega) (w0 ?_);refine zAc (x:=encN l[i]) (by simp [hil]) (aO ?_);refine zAa (isNaN_ok _) (aO ?_);exact ret_of rfl rfl
  ·refine aO ?_;exact ret_of rfl rfl
def inL:List Nat->Bool->List (Nat×Bool)->List Nat
 |_,_,[]=>[]
 |hs,ex,(w,x)::q=>if hs=[] \/ (ex=false/\x=false) then w::inL (insN w hs) (ex||x) q else []
theorem yLi:∀ (q:List (Nat×Bool)) (hs:List Nat) (ex:Bool),(inL hs ex q).length<=q.length
 | [],_,_=>Nat.le_refl _
 |(w,x)::q,hs,ex=>by
  rw [inL];split
  ·have:=yLi q (insN w hs) (ex||x)
   simp;omega
  ·exact Nat.zero_le _
structure LEn (hs0:List Nat) (ex0:Bool) (q0:List (Nat×Bool)) (s:List Nat×Bool×List (Nat×Bool)×List Nat):Prop where
 up:s.1.Pairwise (·<·)
 nd:(s.1++s.2.2.1.map (·.1)).Nodup
 lt:∀ w∈s.1++s.2.2.1.map (·.1),w<4
 len:s.1.length+s.2.2.1.length=hs0.length+q0.length
 inn:s.2.2.2.length+s.2.2.1.length=q0.length
 eq:zJd s.1 s.2.1 s.2.2.1=zJd hs0 ex0 q0
 ine:s.2.2.2++inL s.1 s.2.1 s.2.2.1=inL hs0 ex0 q0
theorem yEb {hs:List Nat} {ex x:Bool} {w:Nat} {q:List (Nat×Bool)}:yAh ⟨hs,ex,(w,x)::q⟩=true↔(hs=[] \/ (ex=false/\x=false)):=by
 rw [yAh]
 cases hs<;>cases ex<;>cases x<;>simp
theorem zPq (l:LA) (hl:l.hs.length+l.q.length<=5) (hu:l.hs.Pairwise (·<·)) (hd:(l.hs++l.q.map (·.1)).Nodup) (h4:∀ w∈l.hs++l.q.map (·.1),w<4):
  zAj Tryz.prog 201 [zYa l] (.tup [zYa (zJd l.hs l.ex l.q),.lst ((inL l.hs l.ex l.q).map encN)]):=by
 obtain ⟨hs0,ex0,q0⟩:=l;simp only [] at hl hu hd h4⊢;refine zAe Tryz.func201 1 rfl (by kernel_rfl) (aO ?_);refine zAn (z4m (zUz hs0) (by rw [List.length_map];show hs0.length<=1000000;omega)) (aO ?_);refine zAq (ι:=List Nat×Bool×List (Nat×Bool)×List Nat) (fun s=>[(1,.ptr 1 0 0),(2,.ptr 2 0 0),(4,.own 45)]) (fun s=>[(1,.box [.own 10,.d (.bool s.2.1),.d (.lst (s.2.2.1.map zCc))] false),(2,.box [.nil,.d (.bool false),.nil] false),(10,.row (s.1.map encN) 1 false),(45,.row (s.2.2.2.map encN) 1 false)])
  (LEn hs0 ex0 q0) (fun s=>s.2.2.1.length) (hs0,ex0,q0,[]) ⟨hu,hd,h4,rfl,Nat.zero_add _,rfl,rfl⟩ (le1 (.row 4 45 1) ⟨rfl,rfl⟩ (zAb ⟨rfl,rfl,rfl,trivial⟩ ⟨rfl,rfl,rfl,rfl,trivial⟩ ⟨rfl,rfl,rfl,rfl⟩)) ?_
 rintro ⟨hs,ex,q,ins⟩ ⟨i1,i2,i3,i4,i5,i6,i7⟩;simp only [] at i1 i2 i3 i4 i5 i6 i7⊢;refine aO ?_;refine zAa (z2a ⟨hs,ex,q⟩) (w0 ?_)
 cases q with
 |nil=>
  rw [yAh];refine aO ?_;rw [zJd] at i6;rw [inL,List.append_nil] at i7;rw [<-i6,<-i7];exact ret_of rfl rfl
 |cons wx q=>
  obtain ⟨w,x⟩:=wx
  cases g:yAh ⟨hs,ex,(w,x)::q⟩ with
  |false=>
   have g2:¬(hs=[] \/ (ex=false/\x=false)):=fun h=>by rw [yEb.2 h] at g;cases g
   rw [zJd,if_neg g2] at i6;rw [inL,if_neg g2,List.append_nil] at i7;rw [<-i6,<-i7];refine aO ?_;exact ret_of rfl rfl
  |true=>
   have g2:=yEb.1 g;rw [zJd,if_pos g2] at i6;rw [inL,if_pos g2] at i7;have hw4:w<4:=i3 w (by simp)
   have hwn:w∉hs:=fun h=>by
    have:=(List.nodup_append.1 i2).2.2 w h w (by simp);exact this rfl
   have es:((((w,x)::q).map zCc).take (((w,x)::q).map zCc).length).drop 1=q.map zCc:=by rw [List.take_length];rfl
   simp only [List.length_cons] at i4 i5
   have hmc:(hs.map encN).length=hs.length:=List.length_map ..
   have hmi:(ins.map encN).length=ins.length:=List.length_map ..
   have hp:posN w hs<=hs.length:=(List.takeWhile_sublist _).length_le
   have ei:(insN w hs).map encN=(hs.map encN).take (posN w hs)++([encN w]++(hs.map encN).drop (posN w hs)):=by
    rw [yWq,List.map_append,List.map_cons,List.map_take,List.map_drop];rfl
   have up':=z1j i1 hwn;have hil:=zTw w hs
   have nd':(insN w hs++q.map (·.1)).Nodup:=by
    refine List.nodup_append.2 ⟨?_,((List.nodup_append.1 i2).2.1.sublist (List.sublist_cons_self _ _)),fun a ha b hb=>?_⟩
    ·exact List.nodup_iff_pairwise_ne.2 (up'.imp fun h=>Nat.ne_of_lt h)
    ·rcases mem_insN.1 ha with rfl|h
     ·have:=(List.nodup_append.1 i2).2.1;rw [List.map_cons,List.nodup_cons] at this
      exact fun e=>this.1 (e▸hb)
     ·exact (List.nodup_append.1 i2).2.2 a h b (List.mem_cons_of_mem _ hb)
   have lt':∀ y∈insN w hs++q.map (·.1),y<4:=fun y hy=>by
    rcases List.mem_append.1 hy with h|h
    ·rcases mem_insN.1 h with rfl|h
     ·exact hw4
     ·exact i3 y (List.mem_append_left _ h)
    ·exact i3 y (List.mem_append_right _ (List.mem_cons_of_mem _ h))
   refine aO ?_;refine zAd (i:=0) (by simp) (w0 ?_);refine zAc (x:=zCc (w,x)) rfl (aO ?_);refine zAh (fun e he=>zV he) (w0 ?_);refine zDg (l:=1) (by simp) (aO ?_);refine zAa (yNx w hs i1 hwn (by omega) (by omega)) (aO ?_);refine zFa (yGx (l:=hs.map encN) (vs:=[encN w]) (i:=posN w hs) (by omega) (by omega) (Nat.lt_succ_self 0) (by simp) (zUz hs) rfl) [(1000000,35)] rfl ⟨rfl,rfl,trivial⟩ rfl (aO ?_)
   refine zAf (fun gx=>?_) (fun gx=>?_)<;>conv=>whnf
   ·refine aO ?_;refine zAk 1000 100 (by show (ins.map encN).length+1<=1000;omega) (by decide) (by decide) (by decide) (w0 ?_);have gx:x=true:=gx;subst gx;rw [Bool.or_true] at i6 i7;refine ⟨(insN w hs,true,q,ins++[w]),⟨up',nd',lt',by dsimp only;omega,by dsimp only;rw [List.length_append,List.length_singleton];omega,i6,by rw [<-i7];simp⟩,by dsimp only;rw [List.length_cons];omega,le1 (.wkc 1 1 (.d (.bool true))) ⟨⟨_,rfl,yZr⟩,rfl⟩ (zAb ⟨rfl,rfl,rfl,trivial⟩ ⟨by rw [<-es];rfl,rfl,by rw [ei];rfl,by rw [List.map_append];rfl,trivial⟩ ⟨rfl,rfl,rfl,rfl⟩)⟩
   ·refine aO ?_;refine zAk 1000 100 (by show (ins.map encN).length+1<=1000;omega) (by decide) (by decide) (by decide) (w0 ?_);have gx:x=false:=gx;subst gx;rw [Bool.or_false] at i6 i7;refine ⟨(insN w hs,ex,q,ins++[w]),⟨up',nd',lt',by dsimp only;omega,by dsimp only;rw [List.length_append,List.length_singleton];omega,i6,by rw [<-i7];simp⟩,by dsimp only;rw [List.length_cons];omega,le0 (zAb ⟨rfl,rfl,rfl,trivial⟩ ⟨by rw [<-es];rfl,rfl,by rw [ei];rfl,by rw [List.map_append];rfl,trivial⟩ ⟨rfl,rfl,rfl,rfl⟩)⟩
theorem z9p (l:LA) (o:LOk l) (w:Nat) (x:Bool) (hw:w<4) (hn:w∉l.hs++l.q.map (·.1)) (hl:l.hs.length+l.q.length<=3):
  ∃ b:Bool,zAj Tryz.prog 141 [zYa l,.int .i64 w,.bool x] (.tup [zYa (askL l w x),.bool b,.int .i64 0]):=by
 have hc:=zEs (w:Int) l.hs (by omega);rw [yMn fun g=>hn (List.mem_append_left _ g)] at hc;have hwt:=z3s (w:Int) l.q (by omega);rw [yMo fun g=>hn (List.mem_append_right _ g)] at hwt
 have hmh:(l.hs.map encN).length=l.hs.length:=List.length_map ..
 have hmq:(l.q.map zCc).length=l.q.length:=List.length_map ..
 have he:zAj Tryz.prog 201 [.agg [.lst (l.hs.map encN),.bool l.ex,.lst (l.q.map zCc++[zCc (w,x)])]] (.tup [zYa (askL l w x),.lst ((inL l.hs l.ex (l.q++[(w,x)])).map encN)]):=by
  have:=zPq ⟨l.hs,l.ex,l.q++[(w,x)]⟩ (by show l.hs.length+(l.q++[(w,x)]).length<=5;simp;omega) o.up
   (by
    show (l.hs++(l.q++[(w,x)]).map (·.1)).Nodup;rw [List.map_append,<-List.append_assoc]
    exact List.nodup_append.2 ⟨o.nd,by simp,fun a ha b hb e=>hn (by simp at hb;rw [<-hb,<-e];exact ha)⟩)
   (by
    show ∀ y∈l.hs++(l.q++[(w,x)]).map (·.1),y<4;rw [List.map_append,<-List.append_assoc];intro y hy
    rcases List.mem_append.1 hy with h|h
    ·exact o.lt y h
    ·simp at h;omega)
  have e:(l.q++[(w,x)]).map zCc=l.q.map zCc++[zCc (w,x)]:=by rw [List.map_append];rfl
  rw [<-e];exact this
 have hin:=yLi (l.q++[(w,x)]) l.hs l.ex;rw [List.length_append,List.length_singleton] at hin;refine ⟨decide (0<=ixF (isT w) (inL l.hs l.ex (l.q++[(w,x)])) 0),?_⟩;refine zAe Tryz.func141 3 rfl (by kernel_rfl) (aO ?_);refine zAa (zPr l o) (aO ?_);refine zAa hc (aO ?_);refine zAa hwt (aO ?_);refine zAn (z8i (zTt l.q) (by omega)) (aO ?_);refine zAk 1000 100 (by show (l.q.map zCc).length+1<=1000;omega) (by decide) (by decide) (by decide) (aO ?_);refine zAa he (aO ?_);refine zAa (zEs (w:Int) (inL l.hs l.ex (l.q++[(w,x)])) (by omega)) (aO ?_);exact ret_of rfl rfl
theorem isH_ok (who:Int) (c:Nat):zAj Tryz.prog 209 [.int .i64 c,.dp [.int .i64 who] 0] (.bool (isT who c)):=by
 refine zAe Tryz.func209 2 rfl (by kernel_rfl) (aO ?_);exact ret_of rfl rfl
theorem yWt (who:Int) (c:Nat×Bool):zAj Tryz.prog 211 [.agg (zCc c),.dp [.int .i64 who] 0] (.bool (isC who c)):=by
 refine zAe Tryz.func211 2 rfl (by kernel_rfl) (aO ?_);exact ret_of rfl rfl
theorem zSw (l:LA) (o:LOk l) (w:Nat) (hh:w∈l.hs):
  ∃ ins:List Nat,zAj Tryz.prog 148 [zYa l,.int .i64 w] (.tup [zYa (zNt l w),.lst (ins.map encN),.int .i64 0]):=by
 have hlen:=o.len;have hc:=zEs (w:Int) l.hs (by omega)
 have e0:decide (0<=ixF (isT w) l.hs 0)=true:=by
  rw [decide_eq_true_eq,yDh,List.any_eq_true];exact ⟨w,hh,by simp [isT]⟩
 rw [e0] at hc;have f1:=delN 209 [.dp [.int .i64 w] 0] (isT w) (isH_ok w) l.hs (by omega);have f2:=delWt 211 [.dp [.int .i64 w] 0] (isC w) (yWt w) l.q (by omega);rw [fil_T] at f1;rw [fil_C] at f2;have l1:=List.length_filter_le (fun c:Nat=>c !=w) l.hs;have l2:=List.length_filter_le (fun c:Nat×Bool=>c.1 !=w) l.q
 have hmh:(l.hs.map encN).length=l.hs.length:=List.length_map ..
 have hmq:(l.q.map zCc).length=l.q.length:=List.length_map ..
 have sub:(l.hs.filter (fun x=>x !=w)++(l.q.filter fun x=>x.1 !=w).map (·.1)).Sublist (l.hs++l.q.map (·.1)):=List.Sublist.append (List.filter_sublist) ((List.filter_sublist).map _)
 have he:=fun ex=>zPq ⟨l.hs.filter fun x=>x !=w,ex,l.q.filter fun x=>x.1 !=w⟩ (by show (l.hs.filter _).length+(l.q.filter _).length<=5;omega) (o.up.sublist List.filter_sublist) (o.nd.sublist sub) (fun y hy=>o.lt y (sub.mem hy))
 by_cases g:(l.hs.filter fun x=>x !=w)=[]
 ·refine ⟨inL (l.hs.filter fun x=>x !=w) false (l.q.filter fun x=>x.1 !=w),?_⟩;have he:=he false
  have ed:zNt l w=zJd (l.hs.filter fun x=>x !=w) false (l.q.filter fun x=>x.1 !=w):=by rw [zNt,if_pos g]
  rw [ed];refine zAe Tryz.func148 2 rfl (by kernel_rfl) (aO ?_);refine zAa (zPr l o) (aO ?_);refine zAa hc (aO ?_);refine zAn (z4m (zUz l.hs) (by omega)) (aO ?_);refine zFa f1 [] rfl ⟨rfl,trivial⟩ rfl (aO ?_);refine zAn (z8i (zTt l.q) (by omega)) (aO ?_);refine zFa f2 [] rfl ⟨rfl,trivial⟩ rfl (aO ?_);refine zBw (by rw [g];rfl) (aO ?_);refine zAa he (aO ?_);exact ret_of rfl rfl
 ·refine ⟨inL (l.hs.filter fun x=>x !=w) l.ex (l.q.filter fun x=>x.1 !=w),?_⟩;have he:=he l.ex
  have ed:zNt l w=zJd (l.hs.filter fun x=>x !=w) l.ex (l.q.filter fun x=>x.1 !=w):=by rw [zNt,if_neg g]
  rw [ed];refine zAe Tryz.func148 2 rfl (by kernel_rfl) (aO ?_);refine zAa (zPr l o) (aO ?_);refine zAa hc (aO ?_);refine zAn (z4m (zUz l.hs) (by omega)) (aO ?_);refine zFa f1 [] rfl ⟨rfl,trivial⟩ rfl (aO ?_);refine zAn (z8i (zTt l.q) (by omega)) (aO ?_);refine zFa f2 [] rfl ⟨rfl,trivial⟩ rfl (aO ?_);refine zDa (by rw [decide_eq_false_iff_not,List.length_map];intro e;exact g (List.length_eq_zero_iff.1 (by omega))) (aO ?_);refine zAa he (aO ?_);exact ret_of rfl rfl
theorem yDw {tm:Nat->AV} {hp:Nat->Option Blk} {rs:List ResultVar} {l:List (List D)} {sz t b n:Nat} {c:Option Nat} {r:List (List D)} (h1:rs=[.tmp t]) (h2:tm t=.win b 0 n c) (h3:hp b=some (.row r sz false)) (h4:n<=r.length) (h5:r.take n=l):
  ∃ t,rs=[.tmp t] /\ ((∃ b r n cp,tm t=.win b 0 n cp/\hp b=some (.row r sz false) /\n<=r.length/\r.take n=l) \/ (tm t=.nil/\l=[])):=
 ⟨t,h1,.inl ⟨b,r,n,c,h2,h3,h4,h5⟩⟩
theorem growRq (n:Nat) (hn:n<=1000) (hp:Nat->Option Blk) (t:Nat):zOj Tryz.prog 269 [.nil,.d (.int .i64 n)] hp ⟨.own t,[(t,.row [] 4 false)],some t⟩:=by
 refine yDt Tryz.func269 2 rfl (by kernel_rfl) rfl ?_ hp t
 conv=>whnf
 refine aO ?_
 refine bcase_p (fun g=>?_) (fun g=>?_)<;>conv=>whnf
 ·refine aO ?_;refine zCv (h:=0) (by omega) (aO ?_);refine zAk 1000 100 (by omega) (by decide) (by decide) (by decide) (aO ?_);refine zHw (h:=0) (by omega) (aO ?_);exact yDw rfl rfl rfl (Nat.zero_le _) rfl
 ·refine aO ?_;exact ⟨4,rfl,.inr ⟨rfl,rfl⟩⟩
theorem growJb (n:Nat) (hn:n<=1000) (hp:Nat->Option Blk) (t:Nat):zOj Tryz.prog 223 [.nil,.d (.int .i64 n)] hp ⟨.own t,[(t,.row [] 5 false)],some t⟩:=by
 refine yDt Tryz.func223 2 rfl (by kernel_rfl) rfl ?_ hp t
 conv=>whnf
 refine aO ?_
 refine bcase_p (fun g=>?_) (fun g=>?_)<;>conv=>whnf
 ·refine aO ?_;refine zCv (h:=0) (by omega) (aO ?_);refine zAk 1000 100 (by omega) (by decide) (by decide) (by decide) (aO ?_);refine zHw (h:=0) (by omega) (aO ?_);exact yDw rfl rfl rfl (Nat.zero_le _) rfl
 ·refine aO ?_;exact ⟨4,rfl,.inr ⟨rfl,rfl⟩⟩
def enL (l:List (List D)):List D:=[.lst l]
def totL (ls:List (List (List D))):Nat:=ls.flatten.length
theorem zUf {ls:List (List (List D))} {k:Nat} (hk:k<ls.length):totL (ls.take (k+1))=totL (ls.take k)+ls[k].length:=by
 rw [totL,totL,zAs hk,List.flatten_append,List.length_append,List.flatten_cons,List.flatten_nil,List.append_nil]
theorem yFr {ls:List (List (List D))} {k:Nat}:totL (ls.take k) <=totL ls:=by
 rw [totL,totL]
 conv=>rhs;rw [<-List.take_append_drop k ls,List.flatten_append,List.length_append]
 omega
theorem yPt (ls:List (List (List D))) (hok:∀ l∈ls,okRows 4 l=true) (h2:ls.length<=1000) (hl:totL ls<=1000):zDt Tryz.prog 220 [.lst (ls.map enL)] ls.flatten 4:=by
 refine zBk Tryz.func220 1 rfl (by kernel_rfl) ?_
 have hm:(ls.map enL).length=ls.length:=List.length_map ..
 refine aO ?_;refine zAq (ι:=Nat) (fun k=>[(0,.d (.lst (ls.map enL))),(3,.d (.int .i64 (totL (ls.take k)))),(9,.d (.lst (ls.map enL))),(10,.d (.int .i64 (ls.map enL).length)),(11,.d (.int .i64 k))]) (fun _=>[])
  (fun k=>k<=ls.length) (fun k=>ls.length-k) 0 (Nat.zero_le _) (le0 (zAb ⟨rfl,rfl,rfl,rfl,rfl,trivial⟩ trivial ⟨rfl,rfl,rfl,rfl⟩)) ?_
 intro k hk
 conv=>whnf
 refine bcase_p (fun h5=>?_) (fun h5=>?_)<;>conv=>whnf
 ·have hk2:k<ls.length:=by omega
  have e:=zUf hk2;have e2:=yFr (ls:=ls) (k:=k+1);refine zAd (by omega) (w0 ?_);refine zAc (x:=enL ls[k]) (by simp [hk2]) (aO ?_);rw [show ((totL (ls.take k):Nat):Int)+((ls[k].length:Nat):Int)=((totL (ls.take (k+1)):Nat):Int) by omega];refine aO ?_;exact ⟨k+1,by omega,by omega,(le0 (zAb ⟨rfl,rfl,rfl,rfl,rfl,trivial⟩ trivial ⟨rfl,rfl,rfl,rfl⟩))⟩
 have hkl:k=ls.length:=by omega
 subst hkl;rw [List.take_length];refine aO ?_;refine zIw (growRq (totL ls) hl _ 24) (aO ?_);refine zAq (ι:=Nat) (fun k=>[(6,.own 24),(25,.d (.lst (ls.map enL))),(26,.d (.int .i64 (ls.map enL).length)),(27,.d (.int .i64 k))]) (fun k=>[(24,.row (ls.take k).flatten 4 false)])
  (fun k=>k<=ls.length) (fun k=>ls.length-k) 0 (Nat.zero_le _) (le0 (zAb ⟨rfl,rfl,rfl,rfl,trivial⟩ ⟨rfl,trivial⟩ ⟨rfl,rfl,rfl,rfl⟩)) ?_
 intro k hk
 conv=>whnf
 refine bcase_p (fun h6=>?_) (fun h6=>?_)<;>conv=>whnf
 ·have hk2:k<ls.length:=by omega
  have e:=zUf hk2;have e2:=yFr (ls:=ls) (k:=k+1)
  have e3:(ls.take (k+1)).flatten=(ls.take k).flatten++ls[k]:=by rw [zAs hk2,List.flatten_append];simp
  refine zAd (by omega) (w0 ?_);refine zAc (x:=enL ls[k]) (by simp [hk2]) (aO ?_);refine zAh (hok _ (List.getElem_mem hk2)) (w0 ?_);refine zAk 1000 100 (by show (ls.take k).flatten.length+ls[k].length<=1000;rw [<-List.length_append,<-e3];exact Nat.le_trans e2 hl) (by decide) (by decide) (by decide) (aO ?_);exact ⟨k+1,by omega,by omega,le0 (zAb ⟨rfl,rfl,rfl,rfl,trivial⟩ ⟨by rw [e3];rfl,trivial⟩ ⟨rfl,rfl,rfl,rfl⟩)⟩
 ·have hkl:k=ls.length:=by omega
  subst hkl;rw [List.take_length];refine aO ?_;exact ⟨2,rfl,.inl ⟨24,rfl,rfl⟩⟩
theorem yPs (ls:List (List (List D))) (hok:∀ l∈ls,okRows 5 l=true) (h2:ls.length<=1000) (hl:totL ls<=1000):zDt Tryz.prog 156 [.lst (ls.map enL)] ls.flatten 5:=by
 refine zBk Tryz.func156 1 rfl (by kernel_rfl) ?_
 have hm:(ls.map enL).length=ls.length:=List.length_map ..
 refine aO ?_;refine zAq (ι:=Nat) (fun k=>[(0,.d (.lst (ls.map enL))),(3,.d (.int .i64 (totL (ls.take k)))),(9,.d (.lst (ls.map enL))),(10,.d (.int .i64 (ls.map enL).length)),(11,.d (.int .i64 k))]) (fun _=>[])
  (fun k=>k<=ls.length) (fun k=>ls.length-k) 0 (Nat.zero_le _) (le0 (zAb ⟨rfl,rfl,rfl,rfl,rfl,trivial⟩ trivial ⟨rfl,rfl,rfl,rfl⟩)) ?_
 intro k hk
 conv=>whnf
 refine bcase_p (fun h5=>?_) (fun h5=>?_)<;>conv=>whnf
 ·have hk2:k<ls.length:=by omega
  have e:=zUf hk2;have e2:=yFr (ls:=ls) (k:=k+1);refine zAd (by omega) (w0 ?_);refine zAc (x:=enL ls[k]) (by simp [hk2]) (aO ?_);rw [show ((totL (ls.take k):Nat):Int)+((ls[k].length:Nat):Int)=((totL (ls.take (k+1)):Nat):Int) by omega];refine aO ?_;exact ⟨k+1,by omega,by omega,(le0 (zAb ⟨rfl,rfl,rfl,rfl,rfl,trivial⟩ trivial ⟨rfl,rfl,rfl,rfl⟩))⟩
 have hkl:k=ls.length:=by omega
 subst hkl;rw [List.take_length];refine aO ?_;refine zIw (growJb (totL ls) hl _ 24) (aO ?_);refine zAq (ι:=Nat) (fun k=>[(6,.own 24),(25,.d (.lst (ls.map enL))),(26,.d (.int .i64 (ls.map enL).length)),(27,.d (.int .i64 k))]) (fun k=>[(24,.row (ls.take k).flatten 5 false)])
  (fun k=>k<=ls.length) (fun k=>ls.length-k) 0 (Nat.zero_le _) (le0 (zAb ⟨rfl,rfl,rfl,rfl,trivial⟩ ⟨rfl,trivial⟩ ⟨rfl,rfl,rfl,rfl⟩)) ?_
 intro k hk
 conv=>whnf
 refine bcase_p (fun h6=>?_) (fun h6=>?_)<;>conv=>whnf
 ·have hk2:k<ls.length:=by omega
  have e:=zUf hk2;have e2:=yFr (ls:=ls) (k:=k+1)
  have e3:(ls.take (k+1)).flatten=(ls.take k).flatten++ls[k]:=by rw [zAs hk2,List.flatten_append];simp
  refine zAd (by omega) (w0 ?_);refine zAc (x:=enL ls[k]) (by simp [hk2]) (aO ?_);refine zAh (hok _ (List.getElem_mem hk2)) (w0 ?_);refine zAk 1000 100 (by show (ls.take k).flatten.length+ls[k].length<=1000;rw [<-List.length_append,<-e3];exact Nat.le_trans e2 hl) (by decide) (by decide) (by decide) (aO ?_);exact ⟨k+1,by omega,by omega,le0 (zAb ⟨rfl,rfl,rfl,rfl,trivial⟩ ⟨by rw [e3];rfl,trivial⟩ ⟨rfl,rfl,rfl,rfl⟩)⟩
 ·have hkl:k=ls.length:=by omega
  subst hkl;rw [List.take_length];refine aO ?_;exact ⟨2,rfl,.inl ⟨24,rfl,rfl⟩⟩
structure FlOk (nx:Nat) (fl:List Fly):Prop where
 len:fl.length<=4
 mx:nx<=2147483647
 up:(fl.map (·.tk)).Pairwise (·<·)
 lt:∀ f∈fl,f.tk<nx/\1<=f.pg/\f.pg<=16
def dvC (nx:Nat) (fl:List Fly) (d:DS):List D:=[.lst (d.sec.map encB),.lst (d.ca.map encW),.int .i64 nx,.lst (fl.map zDr)]
theorem zPc:∀ (l:List Fly),okRows 4 (l.map zDr)=true
 | []=>rfl
 |_::r=>zPc r
theorem zPb:∀ (l:List Fly),okRows 5 (l.map zBv)=true
 | []=>rfl
 |_::r=>zPb r
theorem zYr {l:List Fly} {e:List D} (h:e∈l.map zDr):e.length=4:=by
 obtain ⟨x,_,rfl⟩:=List.mem_map.1 h;rfl
theorem zHb {l:List Fly} {e:List D} (h:e∈l.map zBv):e.length=5:=by
 obtain ⟨x,_,rfl⟩:=List.mem_map.1 h;rfl
theorem zZv (p:Int) (h1:1<=p) (h2:p<=16):zAj Tryz.prog 187 [.int .i64 1,.int .i64 p,.str ByteArray.empty] (.bool true):=by
 refine zAe Tryz.func187 3 rfl (by kernel_rfl) (aO ?_);refine ret_of rfl ?_;simp;rfl
theorem zMo (nx:Nat) (fl:List Fly) (d:DS) (o:FlOk nx fl) (hU:Us d):zAj Tryz.prog 128 [.agg (dvC nx fl d)] (.bool true):=by
 have hlen:=o.len;have hnx:=o.mx;have hn:=hU.n
 have hm:(fl.map zDr).length=fl.length:=List.length_map ..
 have hms:(d.sec.map encB).length=d.sec.length:=List.length_map ..
 have hmt:(fl.map (·.tk)).length=fl.length:=List.length_map ..
 have hr:=zIy d;rw [zRf.2 hU.dr] at hr;refine zAe Tryz.func128 1 rfl (by kernel_rfl) (aO ?_);refine zAa hr (aO ?_);refine zAq (ι:=Nat) (fun k=>[(1,.ptr 1 0 0),(3,.d (.int .i64 (z5t (fl.map (·.tk)) k))),(32,.d (.lst (fl.map zDr))),(33,.d (.int .i64 (fl.map zDr).length)),(34,.d (.int .i64 k))]) (fun _=>[(1,.box ((dvC nx fl d).map AV.d) false)])
  (fun k=>k<=fl.length) (fun k=>fl.length-k) 0 (Nat.zero_le _) (le0 (zAb ⟨rfl,rfl,rfl,rfl,rfl,trivial⟩ ⟨rfl,trivial⟩ ⟨rfl,rfl,rfl,rfl⟩)) ?_
 intro k hk
 conv=>whnf
 refine bcase_p (fun h5=>?_) (fun h5=>?_)<;>conv=>whnf
 ·have hk2:k<fl.length:=by omega
  have hl1:=z1n o.up (k:=k) (by omega);have hls:=zRv (l:=fl.map (·.tk)) (k:=k) (by omega);rw [List.getElem_map] at hl1 hls;obtain ⟨g1,g2,g3⟩:=o.lt fl[k] (List.getElem_mem hk2);refine zAd (by omega) (w0 ?_);refine zAc (x:=zDr fl[k]) (by simp [hk2]) (aW ?_);refine aO ?_;refine zAa (zZv fl[k].pg g2 g3) (aO ?_);exact ⟨k+1,by omega,by omega,le0 (zAb ⟨rfl,by rw [hls];rfl,rfl,rfl,rfl,trivial⟩ ⟨rfl,trivial⟩ ⟨rfl,rfl,rfl,rfl⟩)⟩
 refine aO ?_;exact ret_of rfl rfl
theorem z7i (nx:Nat) (fl:List Fly) (d:DS) (o:FlOk nx fl) (hU:Us d) (p:Int) (w t:Nat) (h1:1<=p) (h2:p<=16) (hl:fl.length<4) (hn:nx<2147483647):
  zAj Tryz.prog 154 [.agg (dvC nx fl d),.int .i64 1,.int .i64 p,.str ByteArray.empty] (.tup [.agg (dvC (nx+1) (fl++[(⟨nx,w,p,t⟩:Fly)]) d),.int .i64 nx,.int .i64 0]):=by
 have hm:(fl.map zDr).length=fl.length:=List.length_map ..
 refine zAe Tryz.func154 4 rfl (by kernel_rfl) (aO ?_);refine zAa (zMo nx fl d o hU) (aO ?_);refine zAa (zZv p h1 h2) (aO ?_);refine zAn (yVu (zPc fl) (by omega)) (aO ?_);refine zAk 1000 100 (by show (fl.map zDr).length+1<=1000;omega) (by decide) (by decide) (by decide) (aO ?_);refine ret_of rfl ?_;show _=D.tup [D.agg [.lst (d.sec.map encB),.lst (d.ca.map encW),.int .i64 ((nx+1:Nat):Int),.lst ((fl++[(⟨nx,w,p,t⟩:Fly)]).map zDr)],.int .i64 nx,.int .i64 0]
 rw [List.map_append];rfl
theorem yCf (p:Int) (h1:1<=p) (h2:p<=16):zAj Tryz.prog 221 [.int .i64 p] (.int .i64 (2*p+1)):=by
 refine zAe Tryz.func221 1 rfl (by kernel_rfl) (aO ?_);exact ret_of rfl rfl
noncomputable def dreq (d:DS) (f:Fly) (fault:Bool):List D:=[.int .i64 f.tk,.int .i64 1,.int .i64 f.pg,.str (bif fault then ByteArray.empty else (zJb d (2*f.pg+1)).1++(zJb d (2*f.pg+1+1)).1)]
theorem yCj {d:DS} (hU:Us d) (n:Int):(zJb d n).1.size<=16:=by
 rw [zJb]
 split
 ·rename_i h
  rw [zQc hU.dr h.2.1 h.2.2];decide
 ·decide
theorem z0t (enc:Fly->List D) (fl:List Fly) (i:Nat):[(((fl.map enc).take i).drop 0),(((fl.map enc).take (fl.map enc).length).drop (i+1))].flatten=(fl.eraseIdx i).map enc:=by
 rw [List.eraseIdx_eq_take_drop_succ,List.take_length];simp [List.map_take,List.map_drop]
theorem yJy (enc:Fly->List D) (fl:List Fly) (i:Nat):totL [(((fl.map enc).take i).drop 0),(((fl.map enc).take (fl.map enc).length).drop (i+1))] <=fl.length:=by
 rw [totL,z0t,List.length_map];have:=List.length_eraseIdx_le fl i;omega
set_option maxHeartbeats 4000000 in
theorem zRe (nx:Nat) (fl:List Fly) (d:DS) (o:FlOk nx fl) (hU:Us d) (i:Nat) (hi:i<fl.length) (fault:Bool):
  zAj Tryz.prog 155 [.agg (dvC nx fl d),.int .i64 i,.bool fault] (.tup [.agg (dvC nx (fl.eraseIdx i) d),.agg (dreq d fl[i] fault),.int .i64 (if fault=true then 8 else 0)]):=by
 have hm:(fl.map zDr).length=fl.length:=List.length_map ..
 have hlen:=o.len
 have hg:(fl.map zDr)[i]?=some (zDr fl[i]):=by rw [List.getElem?_map,List.getElem?_eq_getElem hi];rfl
 obtain ⟨g1,g2,g3⟩:=o.lt fl[i] (List.getElem_mem hi)
 have hc:=yPt [(((fl.map zDr).take i).drop 0),(((fl.map zDr).take (fl.map zDr).length).drop (i+1))] (fun l hl=>by
  simp at hl
  rcases hl with rfl|rfl
  ·exact okRows_take (zPc fl) _
  ·exact okRows_drop (okRows_take (zPc fl) _) _) (by simp) (Nat.le_trans (yJy zDr fl i) (by omega))
 rw [z0t] at hc;have hd1:=zKc d (2*fl[i].pg+1);have hd2:=zKc d (2*fl[i].pg+1+1);refine zAe Tryz.func155 3 rfl (by kernel_rfl) (aO ?_);refine zAa (zMo nx fl d o hU) (aO ?_);refine zAd (by omega) (w0 ?_);refine zAc hg (aO ?_);refine zAh (fun e he=>zYr he) (w0 ?_);refine zCv (by omega) (aO ?_);refine zAh (fun e he=>zYr he) (w0 ?_);refine zDg (l:=i+1) (by omega) (aO ?_);refine zAn hc (w0 ?_)
 cases fault with
 |true=>
  refine aO ?_;exact ret_of rfl rfl
 |false=>
  refine aO ?_;refine zAa (yCf fl[i].pg g2 g3) (aO ?_);refine zAa hd1 (aO ?_);refine zAa (yCf fl[i].pg g2 g3) (aO ?_);refine zAa hd2 (aO ?_);have hb1:=yCj hU (2*fl[i].pg+1);have hb2:=yCj hU (2*fl[i].pg+1+1);refine zAh (by omega) (aO ?_);exact ret_of rfl rfl
abbrev OJ:=Option Int
def cosL:OJ->List (List D)
 |none=>[]
 |some _=>[[.int .i64 2]]
theorem encLane_eq (j:OJ):zAw j=[.int .i64 1,.int .i64 0,.lst (cosL j)]:=by cases j<;>rfl
theorem cosL_len (j:OJ):(cosL j).length<=1:=by cases j<;>simp [cosL]
theorem encLane_ok:∀ (l:List OJ),okRows 3 (l.map zAw)=true
 | []=>rfl
 |x::r=>by
  have:=encLane_ok r
  cases x<;>exact this
def lnC (js:List OJ) (at':Nat) (g:Bool):List D:=[.lst (js.map zAw),.int .i64 at',.bool g]
theorem yDk {js:List OJ} {k:Nat} (hk:k<js.length):(js.map zAw)[k]?=some [.int .i64 1,.int .i64 0,.lst (cosL js[k])]:=by
 rw [List.getElem?_map,List.getElem?_eq_getElem hk,<-encLane_eq];rfl
theorem zTp {j:OJ} {q:Nat} (h:q<(cosL j).length):(cosL j)[q]?=some [.int .i64 2]:=by
 cases j with
 |none=>simp [cosL] at h
 |some x=>simp [cosL] at h;subst h;rfl
set_option maxHeartbeats 4000000 in
theorem zPo (js:List OJ) (at':Nat) (g:Bool) (h1:1<=js.length) (h4:js.length<=4) (ha:at'<js.length):zAj Tryz.prog 216 [.agg (lnC js at' g)] (.bool true):=by
 have hm:(js.map zAw).length=js.length:=List.length_map ..
 refine zAe Tryz.func216 1 rfl (by kernel_rfl) (aO ?_);refine zAq (ι:=Nat) (fun k=>[(1,.ptr 1 0 0),(32,.d (.lst (js.map zAw))),(33,.d (.int .i64 (js.map zAw).length)),(34,.d (.int .i64 k))]) (fun _=>[(1,.box ((lnC js at' g).map AV.d) false)])
  (fun k=>k<=js.length) (fun k=>js.length-k) 0 (Nat.zero_le _) (le0 (zAb ⟨rfl,rfl,rfl,rfl,trivial⟩ ⟨rfl,trivial⟩ ⟨rfl,rfl,rfl,rfl⟩)) ?_
 intro k hk
 conv=>whnf
 refine bcase_p (fun h5=>?_) (fun h5=>?_)<;>conv=>whnf
 ·have hk2:k<js.length:=by omega
  have hcl:=cosL_len js[k];refine zAd (by omega) (w0 ?_);refine zAc (yDk hk2) (aO ?_)
  refine bcase_p (fun h7=>?_) (fun h7=>?_)<;>conv=>whnf
  ·refine aO ?_
   refine zAf (fun h8=>?_) (fun h8=>?_)<;>conv=>whnf
   ·refine aO ?_;refine zAq (ι:=Nat) (fun q=>[(1,.ptr 1 0 0),(32,.d (.lst (js.map zAw))),(33,.d (.int .i64 (js.map zAw).length)),(34,.d (.int .i64 k)),(71,.d (.lst (cosL js[k]))),(72,.d (.int .i64 (cosL js[k]).length)),(73,.d (.int .i64 q))]) (fun _=>[(1,.box ((lnC js at' g).map AV.d) false)])
     (fun q=>q<= (cosL js[k]).length) (fun q=>(cosL js[k]).length-q) 0 (Nat.zero_le _) (le0 (zAb ⟨rfl,rfl,rfl,rfl,rfl,rfl,rfl,trivial⟩ ⟨rfl,trivial⟩ ⟨rfl,rfl,rfl,rfl⟩)) ?_
    intro q hq
    conv=>whnf
    refine bcase_p (fun h6=>?_) (fun h6=>?_)<;>conv=>whnf
    ·have hq2:q<(cosL js[k]).length:=by omega
     refine zAd (by omega) (w0 ?_);refine zAc (x:=[.int .i64 2]) (zTp hq2) (aO ?_);exact ⟨q+1,by omega,by omega,(le0 (zAb ⟨rfl,rfl,rfl,rfl,rfl,rfl,rfl,trivial⟩ ⟨rfl,trivial⟩ ⟨rfl,rfl,rfl,rfl⟩))⟩
    ·refine aO ?_;exact ⟨k+1,by omega,by omega,(le0 (zAb ⟨rfl,rfl,rfl,rfl,trivial⟩ ⟨rfl,trivial⟩ ⟨rfl,rfl,rfl,rfl⟩))⟩
   ·refine aO ?_;refine zAq (ι:=Nat) (fun q=>[(1,.ptr 1 0 0),(32,.d (.lst (js.map zAw))),(33,.d (.int .i64 (js.map zAw).length)),(34,.d (.int .i64 k)),(71,.d (.lst (cosL js[k]))),(72,.d (.int .i64 (cosL js[k]).length)),(73,.d (.int .i64 q))]) (fun _=>[(1,.box ((lnC js at' g).map AV.d) false)])
     (fun q=>q<= (cosL js[k]).length) (fun q=>(cosL js[k]).length-q) 0 (Nat.zero_le _) (le0 (zAb ⟨rfl,rfl,rfl,rfl,rfl,rfl,rfl,trivial⟩ ⟨rfl,trivial⟩ ⟨rfl,rfl,rfl,rfl⟩)) ?_
    intro q hq
    conv=>whnf
    refine bcase_p (fun h6=>?_) (fun h6=>?_)<;>conv=>whnf
    ·have hq2:q<(cosL js[k]).length:=by omega
     refine zAd (by omega) (w0 ?_);refine zAc (x:=[.int .i64 2]) (zTp hq2) (aO ?_);exact ⟨q+1,by omega,by omega,(le0 (zAb ⟨rfl,rfl,rfl,rfl,rfl,rfl,rfl,trivial⟩ ⟨rfl,trivial⟩ ⟨rfl,rfl,rfl,rfl⟩))⟩
    ·refine aO ?_;exact ⟨k+1,by omega,by omega,(le0 (zAb ⟨rfl,rfl,rfl,rfl,trivial⟩ ⟨rfl,trivial⟩ ⟨rfl,rfl,rfl,rfl⟩))⟩
  ·refine aO ?_;refine zAq (ι:=Nat) (fun q=>[(1,.ptr 1 0 0),(32,.d (.lst (js.map zAw))),(33,.d (.int .i64 (js.map zAw).length)),(34,.d (.int .i64 k)),(71,.d (.lst (cosL js[k]))),(72,.d (.int .i64 (cosL js[k]).length)),(73,.d (.int .i64 q))]) (fun _=>[(1,.box ((lnC js at' g).map AV.d) false)])
    (fun q=>q<= (cosL js[k]).length) (fun q=>(cosL js[k]).length-q) 0 (Nat.zero_le _) (le0 (zAb ⟨rfl,rfl,rfl,rfl,rfl,rfl,rfl,trivial⟩ ⟨rfl,trivial⟩ ⟨rfl,rfl,rfl,rfl⟩)) ?_
   intro q hq
   conv=>whnf
   refine bcase_p (fun h6=>?_) (fun h6=>?_)<;>conv=>whnf
   ·have hq2:q<(cosL js[k]).length:=by omega
    refine zAd (by omega) (w0 ?_);refine zAc (x:=[.int .i64 2]) (zTp hq2) (aO ?_);exact ⟨q+1,by omega,by omega,(le0 (zAb ⟨rfl,rfl,rfl,rfl,rfl,rfl,rfl,trivial⟩ ⟨rfl,trivial⟩ ⟨rfl,rfl,rfl,rfl⟩))⟩
   ·refine aO ?_;exact ⟨k+1,by omega,by omega,(le0 (zAb ⟨rfl,rfl,rfl,rfl,trivial⟩ ⟨rfl,trivial⟩ ⟨rfl,rfl,rfl,rfl⟩))⟩
 ·refine aO ?_;exact ret_of rfl rfl
theorem yDo {js:List OJ} {k:Nat} (x:OJ):(js.map zAw).set k (zAw x)=(js.set k x).map zAw:=by rw [List.map_set]
set_option maxHeartbeats 4000000 in
theorem yQw (js:List OJ) (at':Nat) (g:Bool) (h1:1<=js.length) (h4:js.length<=4) (ha:at'<js.length) (k:Nat) (hk:k<js.length) (hn:js[k]=none) (p:Int):
  zAj Tryz.prog 205 [.agg (lnC js at' g),.int .i64 k,.int .i64 2] (.tup [.agg (lnC (js.set k (some p)) at' g),.int .i64 0]):=by
 have hm:(js.map zAw).length=js.length:=List.length_map ..
 have hg:(js.map zAw)[k]?=some (zAw none):=by rw [List.getElem?_map,List.getElem?_eq_getElem hk,hn];rfl
 refine zAe Tryz.func205 3 rfl (by kernel_rfl) (aO ?_);refine zAa (zPo js at' g h1 h4 ha) (aO ?_);refine zAd (by omega) (w0 ?_);refine zAc hg (aO ?_);refine zAn (yJs (encLane_ok js) (by omega)) (aO ?_);refine zAd (by omega) (w0 ?_);refine zAc hg (aO ?_);refine zAn (z4m (l:=[]) rfl (by simp)) (aO ?_);refine zAk 1000 100 (by show 0+1<=1000;omega) (by decide) (by decide) (by decide) (aO ?_);refine zAd (by omega) (aO ?_);refine zAc hg (aO ?_);have em:(js.map zAw).set k (zAy (zAw none) 2 [D.lst [[.int .i64 2]]])=(js.set k (some p)).map zAw:=yDo (some p);refine ret_of rfl ?_;show _=D.tup [D.agg [.lst ((js.set k (some p)).map zAw),.int .i64 at',.bool g],.int .i64 0]
 rw [<-em];rfl
def hasJ (j:OJ):Bool:=decide ((0:Int)<(cosL j).length)
theorem hasJ_ok (j:OJ):zAj Tryz.prog 268 [.agg (zAw j)] (.bool (hasJ j)):=by
 cases j with
 |none=>
  refine zAe Tryz.func268 1 rfl (by kernel_rfl) (aO ?_);exact ret_of rfl rfl
 |some p=>
  refine zAe Tryz.func268 1 rfl (by kernel_rfl) (aO ?_);exact ret_of rfl rfl
theorem yWu (g:FuncId) (cs:List D) (p:OJ->Bool) (hg:∀ c,zAj Tryz.prog g (.agg (zAw c)::cs) (.bool (p c))) (l:List OJ) (hl:l.length<=1000000):zAj Tryz.prog 288 [.lst (l.map zAw),.fn g cs] (.int .i64 (ixF p l 0)):=by
 refine zAe Tryz.func288 2 rfl (by kernel_rfl) (w0 ?_);refine zAq (ι:=Nat) (fun k=>[(0,.d (.lst (l.map zAw))),(1,.d (.fn g cs)),(7,.d (.int .i64 (l.map zAw).length)),(8,.d (.int .i64 k))]) (fun _=>[])
  (fun k=>k<=l.length/\ixF p (l.drop k) k=ixF p l 0) (fun k=>l.length-k) 0 ⟨Nat.zero_le _,rfl⟩ (le0 (zAb ⟨rfl,rfl,rfl,rfl,trivial⟩ trivial ⟨rfl,rfl,rfl,rfl⟩)) ?_
 rintro k ⟨hk,hR⟩
 conv=>whnf
 refine bcase_p (fun h=>?_) (fun h=>?_)<;>conv=>whnf
 ·have hk2:k<l.length:=by simpa using h
  refine zAd (by omega) (w0 ?_);refine zAc (x:=zAw l[k]) (by simp [hk2]) (aW ?_);rw [zBg hk2,ixF] at hR;refine zAa (hg l[k]) (w0 ?_)
  refine zAf (fun h2=>?_) (fun h2=>?_)<;>conv=>whnf
  ·rw [if_pos h2] at hR;exact ret_of rfl (by rw [<-hR];rfl)
  ·rw [if_neg (by rw [h2];decide)] at hR;refine aA ?_;exact ⟨k+1,⟨by omega,hR⟩,by omega,(le0 (zAb ⟨rfl,rfl,rfl,rfl,trivial⟩ trivial ⟨rfl,rfl,rfl,rfl⟩))⟩
 ·have:k=l.length:=by simp at h;omega
  subst this;simp [ixF] at hR;exact ret_of rfl (by rw [<-hR];rfl)
theorem z5z (js:List OJ) (at':Nat) (g:Bool) (hl:js.length<=1000):zAj Tryz.prog 217 [.agg (lnC js at' g)] (.bool (js.any hasJ)):=by
 have h265:zAj Tryz.prog 267 [.lst (js.map zAw),.fn 268 []] (.bool (js.any hasJ)):=by
  have e:decide (0<=ixF hasJ js 0)=js.any hasJ:=by rw [Bool.eq_iff_iff,decide_eq_true_eq];exact yDh hasJ js 0
  rw [<-e];refine zAe Tryz.func267 2 rfl (by kernel_rfl) (w0 ?_);refine zAa (yWu 268 [] hasJ hasJ_ok js (by omega)) (aW ?_);exact ret_of rfl rfl
 refine zAe Tryz.func217 1 rfl (by kernel_rfl) (aO ?_);refine zAa h265 (aW ?_);exact ret_of rfl rfl
theorem zIc {js:List OJ} (hn:0<js.length):∀ (m k:Nat),zCe js m (k%js.length)=zCe js m k
 |0,_=>rfl
 |m+1,k=>by
  rw [zCe,zCe,Nat.mod_mod,<-zIc hn m (k+1),<-zIc hn m (k%js.length+1)]
  congr 2
  rw [Nat.mod_add_mod]
structure NxI (js:List OJ) (K:Nat) (s:Nat×Bool×Nat):Prop where
 a:s.1<js.length
 go:zCe js s.2.2 (if s.2.1=true then s.1+1 else s.1)=some K
theorem NxI.next {js:List OJ} {K a m:Nat} {g:Bool} (h:NxI js K (a,g,m)) (hg:g=true\/js[a]'h.a=none):∃ m',NxI js K ((a+1)%js.length,false,m') /\2*m'<2*m+(if g=true then 1 else 0):=by
 have ha:=h.a;have go:=h.go;simp only [] at ha go
 have hp:0<js.length:=by omega
 cases g with
 |true=>
  refine ⟨m,⟨Nat.mod_lt _ hp,?_⟩,by simp⟩;simp only [Bool.false_eq_true,if_false];rw [zIc hp]
  simpa using go
 |false=>
  have hz:js[a]=none:=hg.resolve_left (by decide);simp only [Bool.false_eq_true,if_false] at go
  cases m with
  |zero=>cases go
  |succ m=>
   rw [zCe,Nat.mod_eq_of_lt ha,List.getElem?_eq_getElem ha,hz] at go;refine ⟨m,⟨Nat.mod_lt _ hp,?_⟩,by simp⟩;simp only [Bool.false_eq_true,if_false];rw [zIc hp]
   simpa using go
theorem NxI.here {js:List OJ} {K a m:Nat} (h:NxI js K (a,false,m)) {p:Int} (hs:js[a]'h.a=some p):a=K:=by
 have ha:=h.a;have go:=h.go;simp only [Bool.false_eq_true,if_false] at ha go
 cases m with
 |zero=>cases go
 |succ m=>
  rw [zCe,Nat.mod_eq_of_lt ha,List.getElem?_eq_getElem ha,hs] at go
  simpa using go
theorem zIl {R:List (List D)} {a:Nat} {x:List D} (h:a<R.length):(R.set a x)[a]?=some x:=by simp [h]
theorem yRw {R:List (List D)} {a:Nat} {e v:List D} (h:R[a]?=some e) (hv:v=e):R.set a v=R:=by
 subst hv;obtain ⟨ha,rfl⟩:=List.getElem?_eq_some_iff.1 h;exact List.set_getElem_self ha
set_option maxHeartbeats 4000000 in
theorem yQs (js:List OJ) (at':Nat) (g:Bool) (h1:1<=js.length) (h4:js.length<=4) (ha:at'<js.length) (K:Nat) (hK:zCe js js.length (if g=true then at'+1 else at')=some K):
  zAj Tryz.prog 153 [.agg (lnC js at' g)] (.tup [.agg (lnC (js.set K none) K true),.int .i64 K,.int .i64 2,.bool true]):=by
 have hm:(js.map zAw).length=js.length:=List.length_map ..
 have hne:js≠[]:=fun e=>by rw [e] at h1;exact absurd h1 (by decide)
 obtain ⟨hKl,p,hKp⟩:=zFf hne hK;have hw:=z5z js at' g (by omega);have hany:js.any hasJ=true:=List.any_eq_true.2 ⟨some p,List.mem_of_getElem? hKp,rfl⟩;rw [hany] at hw;refine zAe Tryz.func153 1 rfl (by kernel_rfl) (aO ?_);refine zAa (zPo js at' g h1 h4 ha) (aO ?_);refine zAa hw (aO ?_);refine zAn (yJs (encLane_ok js) (by omega)) (aO ?_);refine zAq (ι:=Nat×Bool×Nat) (fun s=>[(1,.ptr 1 0 0),(2,.ptr 2 0 0)]) (fun s=>[(1,.box [.own 19,.d (.int .i64 s.1),.d (.bool s.2.1)] false),(2,.box [.nil,.d (.int .i64 0),.d (.bool false)] false),(19,.row (js.map zAw) 3 false)])
  (NxI js K) (fun s=>2*s.2.2+(if s.2.1=true then 1 else 0)) (at',g,js.length) ⟨ha,hK⟩ (le0 (zAb ⟨rfl,rfl,trivial⟩ ⟨rfl,rfl,rfl,trivial⟩ ⟨rfl,rfl,rfl,rfl⟩)) ?_
 rintro ⟨a,g,m⟩ hI;have ia:=hI.a;simp only [] at ia⊢
 have hga:(js.map zAw)[a]?=some (zAw js[a]):=by rw [List.getElem?_map,List.getElem?_eq_getElem ia];rfl
 refine aO ?_;refine zAd (by omega) (aO ?_)
 cases hz:js[a] with
 |none=>
  rw [hz] at hga;have es:(js.map zAw).set a (zAy (zAw none) 1 [D.int .i64 0])=js.map zAw:=yRw hga rfl;obtain ⟨m',hJ,hlt⟩:=hI.next (.inr hz);refine zAc hga (aO ?_);refine zAc hga (aO ?_);refine zCs (by rw [List.length_set,hm];omega) (by omega) (w0 ?_)
  have ed:((a:Int)+1)%(((js.map zAw).set a (zAy (zAw none) 1 [D.int .i64 0])).length:Nat)=(((a+1)%js.length:Nat):Int):=by
   rw [List.length_set,hm];rfl
  refine aO ?_;exact ⟨((a+1)%js.length,false,m'),hJ,hlt,le1 (.wkc 1 2 (.d (.bool false))) ⟨⟨_,rfl,wk_ff⟩,rfl⟩ (zAb ⟨rfl,rfl,trivial⟩ ⟨by rw [<-ed];rfl,rfl,congrArg (fun R=>some (Blk.row R 3 false)) es,trivial⟩ ⟨rfl,rfl,rfl,rfl⟩)⟩
 |some p'=>
  rw [hz] at hga;refine zAc hga (aO ?_)
  cases g with
  |true=>
   obtain ⟨m',hJ,hlt⟩:=hI.next (.inl rfl);refine aO ?_
   repeat (first|refine zAc hga (aO ?_)|refine zAd (i:=0) (by simp) (w0 ?_)|refine zAc (x:=[D.int .i64 2]) rfl (aO ?_))
   refine zCs (by rw [hm];omega) (by omega) (w0 ?_)
   have ed:((a:Int)+1)%((js.map zAw).length:Nat)=(((a+1)%js.length:Nat):Int):=by
    rw [hm];rfl
   refine aO ?_;exact ⟨((a+1)%js.length,false,m'),hJ,hlt,le1 (.wkc 1 2 (.d (.bool false))) ⟨⟨_,rfl,wk_ff⟩,rfl⟩ (zAb ⟨rfl,rfl,trivial⟩ ⟨by rw [<-ed];rfl,rfl,rfl,trivial⟩ ⟨rfl,rfl,rfl,rfl⟩)⟩
  |false=>
   have hKa:=hI.here hz;subst hKa;refine aO ?_
   repeat (first|refine zAc hga (aO ?_)|refine zAd (i:=0) (by simp) (w0 ?_)|refine zAc (x:=[D.int .i64 2]) rfl (aO ?_)|refine zAc (zIl (by simp;omega)) (aO ?_))
   refine zAh (fun e he=>by simp at he;subst he;rfl) (w0 ?_);refine zDg (l:=1) (by simp) (aO ?_);refine zAn (z4m (l:=[]) rfl (by simp)) (aO ?_)
   repeat (first|refine zAd (i:=0) (by simp) (w0 ?_)|refine zAc (zIl (by simp;omega)) (aO ?_))
   have em:∀ x1 x2 x3:List D,((((js.map zAw).set a x1).set a x2).set a x3).set a (zAw none)=(js.set a none).map zAw:=fun x1 x2 x3=>by
    simp only [List.set_set];exact yDo none
   exact ret_of rfl (congrArg (fun R=>D.tup [D.agg [.lst R,.int .i64 a,.bool true],.int .i64 a,.int .i64 2,.bool true]) (em _ _ _))
theorem yQt (js:List OJ) (at':Nat) (g:Bool) (h1:1<=js.length) (h4:js.length<=4) (ha:at'<js.length) (hK:zCe js js.length (if g=true then at'+1 else at')=none):
  zAj Tryz.prog 153 [.agg (lnC js at' g)] (.tup [.agg (lnC js at' g),.int .i64 0,.int .i64 0,.bool false]):=by
 have hne:js≠[]:=fun e=>by rw [e] at h1;exact absurd h1 (by decide)
 have hw:=z5z js at' g (by omega)
 have hany:js.any hasJ=false:=by
  rw [List.any_eq_false];intro x hx;obtain ⟨i,hi,rfl⟩:=List.mem_iff_getElem.1 hx;have:=zSv hne hK i hi;rw [List.getElem?_eq_getElem hi,Option.some.injEq] at this
  rw [this];decide
 rw [hany] at hw;refine zAe Tryz.func153 1 rfl (by kernel_rfl) (aO ?_);refine zAa (zPo js at' g h1 h4 ha) (aO ?_);refine zAa hw (aO ?_);exact ret_of rfl rfl
def nwR (n k:Nat):List (List D):=List.replicate k (zAw none)++List.replicate (n-k) [.int .i64 0,.int .i64 0,.lst []]
theorem yXt {n k:Nat} (h:k<=n):(nwR n k).length=n:=by simp [nwR];omega
theorem yXs {n k:Nat} (h:k<n):(nwR n k)[k]?=some [.int .i64 0,.int .i64 0,.lst []]:=by
 rw [nwR,List.getElem?_append_right (by simp),List.length_replicate,Nat.sub_self,List.getElem?_replicate,if_pos (by omega)]
theorem yXu {n k:Nat} (h:k<n):(nwR n k).set k (zAw none)=nwR n (k+1):=by
 have e:n-k=(n-(k+1))+1:=by omega
 rw [nwR,nwR,e,List.replicate_succ,List.replicate_succ',List.append_assoc];exact yEv (by simp)
set_option maxHeartbeats 4000000 in
theorem yX (n:Nat) (h1:1<=n) (h4:n<=4):zAj Tryz.prog 129 [.lst (List.replicate n [D.int .i64 1])] (.tup [.agg (lnC (List.replicate n none) 0 false),.int .i64 0]):=by
 have hm:(List.replicate n [D.int .i64 1]).length=n:=List.length_replicate
 have hg:∀ k,k<n->(List.replicate n [D.int .i64 1])[k]?=some [D.int .i64 1]:=fun k hk=>by rw [List.getElem?_replicate,if_pos hk]
 refine zAe Tryz.func129 1 rfl (by kernel_rfl) (aO ?_);rw [hm,Int.toNat_natCast];refine zAk 1000 100 (by omega) (by decide) (by decide) (by decide) (aO ?_);refine zAq (ι:=Nat) (fun k=>[(2,.ptr 2 0 0),(4,.own 18),(19,.d (.lst (List.replicate n [D.int .i64 1]))),(20,.d (.int .i64 (List.replicate n [D.int .i64 1]).length)),(21,.d (.int .i64 k))]) (fun k=>[(2,.box [.nil,.d (.int .i64 0),.d (.bool false)] false),(18,.row (nwR n k) 3 false)])
  (fun k=>k<=n) (fun k=>n-k) 0 (Nat.zero_le _) (le0 (zAb ⟨rfl,rfl,rfl,rfl,rfl,trivial⟩ ⟨rfl,rfl,trivial⟩ ⟨rfl,rfl,rfl,rfl⟩)) ?_
 intro k hk
 conv=>whnf
 refine bcase_p (fun h5=>?_) (fun h5=>?_)<;>conv=>whnf
 ·have hk2:k<n:=by omega
  have hnl:=yXt hk;refine zAd (by omega) (w0 ?_);refine zAc (hg k hk2) (aO ?_);refine zAd (by omega) (w0 ?_);refine zAc (yXs hk2) (aO ?_);refine ⟨k+1,by omega,by omega,le0 (zAb ⟨rfl,rfl,rfl,rfl,rfl,trivial⟩ ⟨rfl,?_,trivial⟩ ⟨rfl,rfl,rfl,rfl⟩)⟩
  rw [<-yXu hk2];rfl
 ·have:k=n:=by omega
  subst this;refine aO ?_
  have e:nwR k k=(List.replicate k none).map zAw:=by simp [nwR]
  exact ret_of rfl (congrArg (fun R=>D.tup [D.agg [.lst R,.int .i64 0,.bool false],.int .i64 0]) e)
def zYb (s:SA) (d:DS):D:=.agg (s.cells d)
def jobL (w:Nat):OJ->List (List D)
 |none=>[]
 |some p=>[zSq w p 0]
theorem yQn (w:Nat) (j:OJ):z5r w j=[.lst (jobL w j)]:=by cases j<;>rfl
def jbR (js:List OJ):List (List D):=js.mapIdx z5r
theorem zVu (js:List OJ):(jbR js).length=js.length:=by simp [jbR]
theorem z1k {js:List OJ} {k:Nat} (hk:k<js.length):(jbR js)[k]?=some [.lst (jobL k js[k])]:=by
 rw [jbR,List.getElem?_mapIdx,List.getElem?_eq_getElem hk,<-yQn];rfl
theorem yQm (w:Nat) (j:OJ):(jobL w j).length=(cosL j).length:=by cases j<;>rfl
theorem jobL_get {w:Nat} {j:OJ} {q:Nat} (h:q<(jobL w j).length):∃ p,j=some p/\ (jobL w j)[q]?=some (zSq w p 0):=by
 cases j with
 |none=>simp [jobL] at h
 |some p=>simp [jobL] at h;subst h;exact ⟨p,rfl,rfl⟩
theorem SOk.flk {s:SA} (o:SOk s):FlOk s.next s.out:=⟨o.fl,o.nx,o.up,fun f hf=>⟨(o.lt f hf).1,(o.lt f hf).2.2.1⟩⟩
theorem zXk (w:Nat) (p:Int) (t:Nat) (h1:1<=p) (h2:p<=16):zAj Tryz.prog 204 [.agg (zSq w p t)] (.bool true):=by
 refine zAe Tryz.func204 1 rfl (by kernel_rfl) (aO ?_);refine ret_of rfl ?_;simp;rfl
theorem yJv:zAj Tryz.prog 206 [.int .i64 1] (.int .i64 2):=by
 refine zAe Tryz.func206 1 rfl (by kernel_rfl) (aO ?_);exact ret_of rfl rfl
set_option maxHeartbeats 4000000 in
theorem zMc (s:SA) (d:DS) (o:SOk s) (hU:Us d):zAj Tryz.prog 150 [zYb s d] (.bool true):=by
 have n1:=o.n1;have n4:=o.n4;have fl:=o.fl;have hl:=zVu s.jobs;have hl0:(s.jobs.mapIdx z5r).length=s.jobs.length:=hl
 have hm:(s.jobs.map zAw).length=s.jobs.length:=List.length_map ..
 have hmo:(s.out.map zBv).length=s.out.length:=List.length_map ..
 have hmr:(s.out.map zDr).length=s.out.length:=List.length_map ..
 refine zAe Tryz.func150 1 rfl (by kernel_rfl) (aO ?_);refine zAa (zPo s.jobs s.at' s.giv n1 n4 o.at1) (aO ?_);refine zAa (zMo s.next s.out d o.flk hU) (aO ?_);refine zAq (ι:=Nat) (fun k=>[(1,.ptr 1 0 0),(40,.d (.lst (jbR s.jobs))),(41,.d (.int .i64 (jbR s.jobs).length)),(42,.d (.int .i64 k))]) (fun _=>[(1,.box ((s.cells d).map AV.d) false)])
  (fun k=>k<=s.jobs.length) (fun k=>s.jobs.length-k) 0 (Nat.zero_le _) (le0 (zAb ⟨rfl,rfl,rfl,rfl,trivial⟩ ⟨rfl,trivial⟩ ⟨rfl,rfl,rfl,rfl⟩)) ?_
 intro k hk
 conv=>whnf
 refine bcase_p (fun h5=>?_) (fun h5=>?_)<;>conv=>whnf
 ·have hk2:k<s.jobs.length:=by omega
  have hcl:=yQm k s.jobs[k];refine zAd (by omega) (w0 ?_);refine zAc (z1k hk2) (aO ?_);refine zAd (by omega) (w0 ?_);refine zAc (yDk hk2) (aO ?_);refine zAq (ι:=Nat) (fun q=>[(1,.ptr 1 0 0),(3,.d (.int .i64 k)),(5,.d (.lst (cosL s.jobs[k]))),(40,.d (.lst (jbR s.jobs))),(41,.d (.int .i64 (jbR s.jobs).length)),(42,.d (.int .i64 k)),(59,.d (.lst (jobL k s.jobs[k]))),(60,.d (.int .i64 (jobL k s.jobs[k]).length)),(61,.d (.int .i64 q))]) (fun _=>[(1,.box ((s.cells d).map AV.d) false)])
   (fun q=>q<= (jobL k s.jobs[k]).length) (fun q=>(jobL k s.jobs[k]).length-q) 0 (Nat.zero_le _) (le0 (zAb ⟨rfl,rfl,rfl,rfl,rfl,rfl,rfl,rfl,rfl,trivial⟩ ⟨rfl,trivial⟩ ⟨rfl,rfl,rfl,rfl⟩)) ?_
  intro q hq
  conv=>whnf
  refine bcase_p (fun h6=>?_) (fun h6=>?_)<;>conv=>whnf
  ·have hq2:q<(jobL k s.jobs[k]).length:=by omega
   obtain ⟨p,ep,hg⟩:=jobL_get hq2;have hq3:=cosL_len s.jobs[k];have hpg:=o.pg p (by rw [<-ep];exact List.getElem_mem hk2);refine zAd (by omega) (w0 ?_);refine zAc hg (aO ?_);refine zAa (zXk k p 0 hpg.1 hpg.2) (aO ?_);refine zAa yJv (aO ?_);refine zAd (by omega) (w0 ?_);refine zAc (zTp (by omega)) (aO ?_);exact ⟨q+1,by omega,by omega,(le0 (zAb ⟨rfl,rfl,rfl,rfl,rfl,rfl,rfl,rfl,rfl,trivial⟩ ⟨rfl,trivial⟩ ⟨rfl,rfl,rfl,rfl⟩))⟩
  ·refine aO ?_;exact ⟨k+1,by omega,by omega,(le0 (zAb ⟨rfl,rfl,rfl,rfl,trivial⟩ ⟨rfl,trivial⟩ ⟨rfl,rfl,rfl,rfl⟩))⟩
 refine aO ?_;refine zAq (ι:=Nat) (fun k=>[(1,.ptr 1 0 0),(93,.d (.lst (s.out.map zBv))),(94,.d (.int .i64 (s.out.map zBv).length)),(95,.d (.int .i64 k))]) (fun _=>[(1,.box ((s.cells d).map AV.d) false)])
  (fun k=>k<=s.out.length) (fun k=>s.out.length-k) 0 (Nat.zero_le _) (le0 (zAb ⟨rfl,rfl,rfl,rfl,trivial⟩ ⟨rfl,trivial⟩ ⟨rfl,rfl,rfl,rfl⟩)) ?_
 intro k hk
 conv=>whnf
 refine bcase_p (fun h5=>?_) (fun h5=>?_)<;>conv=>whnf
 ·have hk2:k<s.out.length:=by omega
  obtain ⟨g1,g2,g3,g4,g5⟩:=o.lt s.out[k] (List.getElem_mem hk2);refine zAd (by omega) (w0 ?_);refine zAc (x:=zBv s.out[k]) (by simp [hk2]) (aW ?_);refine zAd (by omega) (w0 ?_);refine zAc (x:=zDr s.out[k]) (by simp [hk2]) (aO ?_);exact ⟨k+1,by omega,by omega,(le0 (zAb ⟨rfl,rfl,rfl,rfl,trivial⟩ ⟨rfl,trivial⟩ ⟨rfl,rfl,rfl,rfl⟩))⟩
 refine aO ?_;exact ret_of rfl rfl
theorem yTu (js:List OJ):okRows 1 (jbR js)=true:=by
 rw [okRows,List.all_eq_true];intro x hx;obtain ⟨i,hi,rfl⟩:=List.mem_iff_getElem.1 hx
 have h2:i<js.length:=by rw [zVu] at hi;exact hi
 have:=z1k h2;rw [List.getElem?_eq_getElem hi,Option.some.injEq] at this
 rw [this];rfl
theorem yLu {js:List OJ} {k:Nat} (hk:k<js.length) (x:OJ):(jbR js).set k (z5r k x)=jbR (js.set k x):=by
 refine List.ext_getElem? fun i=>?_
 rw [jbR,jbR,List.getElem?_set,List.getElem?_mapIdx,List.getElem?_mapIdx,List.getElem?_set];simp only [List.length_mapIdx]
 by_cases e:k=i
 ·subst e;rw [if_pos rfl,if_pos rfl,if_pos hk,if_pos hk];rfl
 ·rw [if_neg e,if_neg e]
theorem yQl (n:Nat):List.replicate n [D.lst []]=jbR (List.replicate n none):=by
 refine List.ext_getElem? fun i=>?_
 rw [jbR,List.getElem?_mapIdx,List.getElem?_replicate,List.getElem?_replicate]
 split<;>rfl
def newSA (n:Nat):SA:=⟨0,false,List.replicate n none,0,[]⟩
set_option maxHeartbeats 4000000 in
theorem yAv (n:Nat) (d:DS) (h1:1<=n) (h4:n<=4) (hU:Us d):zAj Tryz.prog 73 [.agg (dvC 0 [] d),.lst (List.replicate n [D.int .i64 1])] (.tup [zYb (newSA n) d,.int .i64 0]):=by
 have hm:(List.replicate n [D.int .i64 1]).length=n:=List.length_replicate;refine zAe Tryz.func73 2 rfl (by kernel_rfl) (aO ?_);refine zAa (zMo 0 [] d ⟨Nat.zero_le _,Nat.zero_le _,List.Pairwise.nil,fun f hf=>by cases hf⟩ hU) (aO ?_);refine zAa (yX n h1 h4) (aO ?_);rw [hm,Int.toNat_natCast];refine zAk 1000 100 (by omega) (by decide) (by decide) (by decide) (aO ?_);exact ret_of rfl (congrArg (fun R=>D.tup [D.agg [.lst ((List.replicate n none).map zAw),.int .i64 0,.bool false,.lst R,.lst (d.sec.map encB),.lst (d.ca.map encW),.int .i64 0,.lst [],.lst []],.int .i64 0]) (yQl n))
set_option maxHeartbeats 4000000 in
theorem yAu (s:SA) (d:DS) (o:SOk s) (hU:Us d) (w:Nat) (hw:w<s.jobs.length) (hn:s.jobs[w]=none) (p:Int) (h1:1<=p) (h2:p<=16):
  zAj Tryz.prog 144 [zYb s d,.agg (zSq w p 0)] (.tup [zYb (askS s w p) d,.int .i64 0]):=by
 have n1:=o.n1;have n4:=o.n4;have hl:=zVu s.jobs;have hl0:(s.jobs.mapIdx z5r).length=s.jobs.length:=hl
 have hg:(jbR s.jobs)[w]?=some [.lst []]:=by have:=z1k hw;rw [hn] at this;exact this
 have es:(jbR s.jobs).set w (zAy [D.lst []] 0 [D.lst [zSq w p 0]])=jbR (s.jobs.set w (some p)):=yLu hw (some p);refine zAe Tryz.func144 2 rfl (by kernel_rfl) (aO ?_);refine zAa (zMc s d o hU) (aO ?_);refine zAa (zXk w p 0 h1 h2) (aO ?_);refine zAd (by omega) (w0 ?_);refine zAc hg (aO ?_);refine zAa yJv (aO ?_);refine zAa (yQw s.jobs s.at' s.giv n1 n4 o.at1 w hw hn p) (aO ?_);refine zAn (yJr (yTu s.jobs) (by omega)) (aO ?_);refine zAd (by omega) (w0 ?_);refine zAc hg (aO ?_);refine zAn (z8g (l:=[]) rfl (by simp)) (aO ?_);refine zAk 1000 100 (by show 0+1<=1000;omega) (by decide) (by decide) (by decide) (aO ?_);refine zAd (by omega) (aO ?_);refine zAc hg (aO ?_);exact ret_of rfl (congrArg (fun R=>D.tup [D.agg [.lst ((s.jobs.set w (some p)).map zAw),.int .i64 s.at',.bool s.giv,.lst R,.lst (d.sec.map encB),.lst (d.ca.map encW),.int .i64 s.next,.lst (s.out.map zDr),.lst (s.out.map zBv)],.int .i64 0]) es)
structure PuI (s0:SA) (s:SA×Nat):Prop where
 su:SU s.1
 m:4<s.1.out.length+s.2
 eq:zIq s.2 s.1=zKw s0
def boxSA (s:SA) (d:DS) (J O:Nat):List AV:=[.d (.lst (s.jobs.map zAw)),.d (.int .i64 s.at'),.d (.bool s.giv),.own J,.d (.lst (d.sec.map encB)),.d (.lst (d.ca.map encW)),.d (.int .i64 s.next),.d (.lst (s.out.map zDr)),.own O]
theorem zZm {s:SA} {r:Option Nat} (h:yAa s=r):zCe s.jobs s.jobs.length (if s.giv=true then s.at'+1 else s.at')=r:=h
set_option maxRecDepth 20000 in
set_option maxHeartbeats 8000000 in
theorem yYa (s:SA) (d:DS) (o:SU s) (hU:Us d):zAj Tryz.prog 86 [zYb s d] (zYb (zKw s) d):=by
 have hl:=zVu s.jobs;have hl0:(s.jobs.mapIdx z5r).length=s.jobs.length:=hl
 have hmo:(s.out.map zBv).length=s.out.length:=List.length_map ..
 have n4:=o.n4;have fl:=o.fl;refine zAe Tryz.func86 1 rfl (by kernel_rfl) (aP ?_);refine zAa (zMc s d o.toSOk hU) (aP ?_);refine zAn (yJr (yTu s.jobs) (by omega)) (aP ?_);refine zAn (z8g (zPb s.out) (by omega)) (aP ?_);refine zAq (ι:=SA×Nat) (fun s=>[(1,.ptr 1 0 0),(2,.ptr 2 0 0)]) (fun s=>[(1,.box (boxSA s.1 d 14 18) false),(2,.box [.nil,.d (.int .i64 0),.d (.bool false),.nil,.nil,.nil,.d (.int .i64 0),.nil,.nil] false),(14,.row (jbR s.1.jobs) 1 false),(18,.row (s.1.out.map zBv) 5 false)])
  (PuI s) (fun s=>4-s.1.out.length) (s,5) ⟨o,by dsimp only;omega,rfl⟩ (le0 (zAb ⟨rfl,rfl,trivial⟩ ⟨rfl,rfl,rfl,rfl,trivial⟩ ⟨rfl,rfl,rfl,rfl⟩)) ?_
 rintro ⟨r,m⟩ ⟨hr,hm,he⟩;simp only [] at hr hm he⊢
 have hmr:(r.out.map zDr).length=r.out.length:=List.length_map ..
 have hmo2:(r.out.map zBv).length=r.out.length:=List.length_map ..
 have rfl4:=hr.fl;have rn4:=hr.n4;have hlr:=zVu r.jobs;obtain ⟨m,rfl⟩:∃ q,m=q+1:=⟨m-1,by omega⟩;rw [zIq] at he
 conv=>whnf
 refine aA ?_
 refine bcase_p (fun h5=>?_) (fun h5=>?_)<;>conv=>whnf
 ·refine aP ?_
  refine bcase_p (fun h6=>?_) (fun h6=>?_)<;>conv=>whnf
  ·have hlt:r.out.length<4/\r.next<2147483647:=⟨by omega,by omega⟩;rw [if_pos hlt] at he
   cases hq:yAa r with
   |none=>
    rw [hq] at he;refine aP ?_;refine zAa (yQt r.jobs r.at' r.giv hr.n1 rn4 hr.at1 (zZm hq)) (aP ?_);rw [<-he];exact ret_of rfl rfl
   |some k=>
    rw [hq] at he;obtain ⟨hk,p,hp⟩:=zFf hr.ne hq
    have hpk:r.jobs[k]=some p:=by rw [List.getElem?_eq_getElem hk,Option.some.injEq] at hp;exact hp
    have hpg:=hr.pg p (by rw [<-hpk];exact List.getElem_mem hk);have hg:=z1k hk;rw [hpk] at hg;have es:(jbR r.jobs).set k (zAy [D.lst (jobL k (some p))] 0 [D.lst []])=jbR (r.jobs.set k none):=yLu hk none;have hs:=yBd (g:=true) hr hk hp hlt.1 hlt.2
    have he2:(r.jobs[k]?.getD none).getD 0=p:=by rw [hp];rfl
    simp only [he2] at he;refine aP ?_;refine zAa (yQs r.jobs r.at' r.giv hr.n1 rn4 hr.at1 k (zZm hq)) (aP ?_);refine zAd (by omega) (w0 ?_);refine zAc hg (aP ?_);refine zAd (i:=0) (by simp [jobL]) (w0 ?_);refine zAc (x:=zSq k p 0) rfl (aP ?_);refine zAd (by omega) (aP ?_);refine zAc hg (aP ?_);refine zAh (fun e he=>by simp [jobL] at he;subst he;rfl) (w0 ?_);refine zDg (l:=1) (by simp [jobL]) (aP ?_);refine zAn (z8g (l:=[]) rfl (by simp)) (aP ?_);refine zAd (by omega) (aP ?_);refine zAc hg (aP ?_);refine zAa (z7i r.next r.out d hr.toSOk.flk hU p k 1 hpg.1 hpg.2 hlt.1 hlt.2) (aP ?_);refine zAk 1000 100 (by show (r.out.map zBv).length+1<=1000;omega) (by decide) (by decide) (by decide) (aP ?_);refine ⟨(⟨k,true,r.jobs.set k none,r.next+1,r.out++[⟨r.next,k,p,1⟩]⟩,m),⟨hs,by dsimp only;rw [List.length_append,List.length_singleton];omega,he⟩,by dsimp only;rw [List.length_append,List.length_singleton];omega,le0 (zAb ⟨rfl,rfl,trivial⟩ ⟨?_,?_,?_,?_,trivial⟩ ⟨rfl,rfl,rfl,rfl⟩)⟩
    ·kernel_rfl
    ·kernel_rfl
    ·exact congrArg (fun R=>some (Blk.row R 1 false)) es
    ·dsimp only
     rw [List.map_append];kernel_rfl
  ·have hlt:¬(r.out.length<4/\r.next<2147483647):=by omega
   rw [if_neg hlt] at he;refine aP ?_;rw [<-he];exact ret_of rfl rfl
 ·have hlt:¬(r.out.length<4/\r.next<2147483647):=by omega
  rw [if_neg hlt] at he;refine aP ?_;rw [<-he];exact ret_of rfl rfl
noncomputable def jobD (d:DS) (f:Fly) (fault:Bool):List D:=[.int .i64 f.who,.int .i64 1,.int .i64 f.pg,.str (bif fault then ByteArray.empty else (zJb d (2*f.pg+1)).1++(zJb d (2*f.pg+1+1)).1),.int .i64 f.tr]
def z4x (s:SA) (i:Nat):SA:={s with out:=s.out.eraseIdx i}
def yIn (s:SA) (i:Nat) (j:Fly):SA:={s with next:=s.next+1,out:=s.out.eraseIdx i++[⟨s.next,j.who,j.pg,j.tr+1⟩]}
theorem z8k (s:SA) (o:SOk s) (i:Nat):zDt Tryz.prog 156 [.lst ([(((s.out.map zBv).take i).drop 0),(((s.out.map zBv).take (s.out.map zBv).length).drop (i+1))].map enL)] ((s.out.eraseIdx i).map zBv) 5:=by
 have hlen:=o.fl
 have hc:=yPs [(((s.out.map zBv).take i).drop 0),(((s.out.map zBv).take (s.out.map zBv).length).drop (i+1))] (fun l hl=>by
  simp at hl
  rcases hl with rfl|rfl
  ·exact okRows_take (zPb s.out) _
  ·exact okRows_drop (okRows_take (zPb s.out) _) _) (by simp) (Nat.le_trans (yJy zBv s.out i) (by omega))
 rwa [z0t] at hc
theorem yWf {s:SA} (o:SOk s) (i:Nat):FlOk s.next (s.out.eraseIdx i):=by
 have hsub:=List.eraseIdx_sublist s.out i;exact ⟨Nat.le_trans hsub.length_le o.fl,o.nx,o.up.sublist (hsub.map _),fun f hf=>⟨(o.lt f (hsub.mem hf)).1,(o.lt f (hsub.mem hf)).2.2.1⟩⟩
set_option maxRecDepth 20000 in
set_option maxHeartbeats 8000000 in
theorem z4w (s:SA) (d:DS) (o:SOk s) (hU:Us d) (i:Nat) (hi:i<s.out.length) (h3:(s.out[i]).tr<3) (hn:s.next<2147483647):
  zAj Tryz.prog 87 [zYb s d,.int .i64 i,.bool true] (.tup [zYb (yIn s i s.out[i]) d,.agg [.int .i64 0,.int .i64 0,.int .i64 0,.str ByteArray.empty,.int .i64 0],.int .i64 0,.bool false]):=by
 have hsub:=(List.eraseIdx_sublist s.out i).length_le
 have hel:(s.out.eraseIdx i).length+1=s.out.length:=by rw [List.length_eraseIdx_of_lt hi];omega
 have hme:((s.out.eraseIdx i).map zBv).length=(s.out.eraseIdx i).length:=List.length_map ..
 have hmo:(s.out.map zBv).length=s.out.length:=List.length_map ..
 have hlen:=o.fl
 have hg:(s.out.map zBv)[i]?=some (zBv s.out[i]):=by rw [List.getElem?_map,List.getElem?_eq_getElem hi];rfl
 obtain ⟨g1,g2,g3,g4,g5⟩:=o.lt s.out[i] (List.getElem_mem hi);have hc:=z8k s o i;refine zAe Tryz.func87 3 rfl (by kernel_rfl) (aO ?_);refine zAa (zMc s d o hU) (aO ?_);refine zAd (by omega) (w0 ?_);refine zAc hg (aO ?_);refine zAa (zRe s.next s.out d o.flk hU i hi true) (aO ?_);refine zAh (fun e he=>zHb he) (w0 ?_);refine zCv (by omega) (aO ?_);refine zAh (fun e he=>zHb he) (w0 ?_);refine zDg (l:=i+1) (by omega) (aO ?_);refine zAn hc (w0 ?_)
 conv=>whnf
 refine aP ?_;refine zBw (by rfl) (aP ?_);refine zAa (z7i s.next (s.out.eraseIdx i) d (yWf o i) hU s.out[i].pg s.out[i].who (s.out[i].tr+1) g3.1 g3.2 (by omega) hn) (aP ?_);refine zAk 1000 100 (by show ((s.out.eraseIdx i).map zBv).length+1<=1000;omega) (by decide) (by decide) (by decide) (aP ?_);refine ret_of rfl ?_;show _=D.tup [D.agg [.lst (s.jobs.map zAw),.int .i64 s.at',.bool s.giv,.lst (s.jobs.mapIdx z5r),.lst (d.sec.map encB),.lst (d.ca.map encW),.int .i64 ((s.next+1:Nat):Int),.lst ((s.out.eraseIdx i++[(⟨s.next,s.out[i].who,s.out[i].pg,s.out[i].tr+1⟩:Fly)]).map zDr),.lst ((s.out.eraseIdx i++[(⟨s.next,s.out[i].who,s.out[i].pg,s.out[i].tr+1⟩:Fly)]).map zBv)],_,_,_]
 rw [List.map_append,List.map_append];rfl
set_option maxRecDepth 20000 in
set_option maxHeartbeats 8000000 in
theorem z8o (s:SA) (d:DS) (o:SOk s) (hU:Us d) (i:Nat) (hi:i<s.out.length) (fault:Bool) (h3:¬(fault=true/\ (s.out[i]).tr<3/\s.next<2147483647)):
  zAj Tryz.prog 87 [zYb s d,.int .i64 i,.bool fault] (.tup [zYb (z4x s i) d,.agg (jobD d s.out[i] fault),.int .i64 (if fault=true then 8 else 0),.bool true]):=by
 cases fault with
 |false=>
  have hmo:(s.out.map zBv).length=s.out.length:=List.length_map ..
  have hlen:=o.fl
  have hg:(s.out.map zBv)[i]?=some (zBv s.out[i]):=by rw [List.getElem?_map,List.getElem?_eq_getElem hi];rfl
  obtain ⟨g1,g2,g3,g4,g5⟩:=o.lt s.out[i] (List.getElem_mem hi);have hc:=z8k s o i;refine zAe Tryz.func87 3 rfl (by kernel_rfl) (aO ?_);refine zAa (zMc s d o hU) (aO ?_);refine zAd (by omega) (w0 ?_);refine zAc hg (aO ?_);refine zAa (zRe s.next s.out d o.flk hU i hi false) (aO ?_);refine zAh (fun e he=>zHb he) (w0 ?_);refine zCv (by omega) (aO ?_);refine zAh (fun e he=>zHb he) (w0 ?_);refine zDg (l:=i+1) (by omega) (aO ?_);refine zAn hc (w0 ?_)
  conv=>whnf
  refine aP ?_;refine zDa (by rfl) (aP ?_);exact ret_of rfl rfl
 |true=>
  have hmo:(s.out.map zBv).length=s.out.length:=List.length_map ..
  have hlen:=o.fl
  have hg:(s.out.map zBv)[i]?=some (zBv s.out[i]):=by rw [List.getElem?_map,List.getElem?_eq_getElem hi];rfl
  obtain ⟨g1,g2,g3,g4,g5⟩:=o.lt s.out[i] (List.getElem_mem hi);have hc:=z8k s o i;refine zAe Tryz.func87 3 rfl (by kernel_rfl) (aO ?_);refine zAa (zMc s d o hU) (aO ?_);refine zAd (by omega) (w0 ?_);refine zAc hg (aO ?_);refine zAa (zRe s.next s.out d o.flk hU i hi true) (aO ?_);refine zAh (fun e he=>zHb he) (w0 ?_);refine zCv (by omega) (aO ?_);refine zAh (fun e he=>zHb he) (w0 ?_);refine zDg (l:=i+1) (by omega) (aO ?_);refine zAn hc (w0 ?_)
  conv=>whnf
  refine aP ?_;refine zBw (by rfl) (aP ?_)
  refine bcase_p (fun h6=>?_) (fun h6=>?_)<;>conv=>whnf
  ·refine aP ?_
   refine bcase_p (fun h7=>?_) (fun h7=>?_)<;>conv=>whnf
   ·exact absurd ⟨rfl,by omega,by omega⟩ h3
   ·refine aP ?_;exact ret_of rfl rfl
  ·refine aP ?_;exact ret_of rfl rfl
def lg (l:List LA) (i:Nat):LA:=l[i]?.getD noLA
def lc (l:List LA) (i:Nat):List AV:=(lg l i).cells.map AV.d
def latC (l:List LA):List AV:=lc l 0++(lc l 1++(lc l 2++(lc l 3++(lc l 4++(lc l 5++(lc l 6++(lc l 7++(lc l 8++(lc l 9++(lc l 10++(lc l 11++(lc l 12++(lc l 13++(lc l 14++(lc l 15++lc l 16)))))))))))))))
def zJm (m:MS):List AV:=.own 1000001::(m.p.box++(m.h.cells.map AV.d++(latC m.lat++((m.s.cells m.p.d).map AV.d++[.d (.int .i64 m.clk),.own 1000004]))))
def mH (m:MS):List (Nat×Blk):=[(1000000,.box (zJm m) false),(1000001,.row (m.ws.map zDb) 11 false),(1000004,.row (m.ev.map zAt) 11 false)]
def nm3:List (Nat×Nat):=[(1000000,1000000),(1000001,1000001),(1000004,1000004)]
theorem zEm {m:MS} {k:Nat} {w:WA} (hk:m.ws[k]?=some w):(m.ws.map zDb)[k]?=some (zDb w):=by rw [List.getElem?_map,hk];rfl
theorem zTd {ws:List WA} {k:Nat} (w':WA):(ws.map zDb).set k (zDb w')=(ws.set k w').map zDb:=by rw [List.map_set]
theorem ws2 {ws:List WA} {k:Nat} (x:List D) (w':WA):((ws.map zDb).set k x).set k (zDb w')=(ws.set k w').map zDb:=by rw [List.set_set,zTd]
theorem ws3 {ws:List WA} {k:Nat} (x y:List D) (w':WA):(((ws.map zDb).set k x).set k y).set k (zDb w')=(ws.set k w').map zDb:=by rw [List.set_set,List.set_set,zTd]
theorem rowE {R R':List (List D)} (h:R=R'):some (Blk.row R 11 false)=some (Blk.row R' 11 false):=by rw [h]
theorem zQr {m:MS} {k:Nat} {w:WA} (hk:m.ws[k]?=some w):k<(m.ws.map zDb).length:=by rw [List.length_map];exact (List.getElem?_eq_some_iff.1 hk).1
theorem zCl (m:MS) (k:Int):zAx Tryz.prog 79 [.ptr 1000000 0 0,.d (.int .i64 k)] (mH m) (mH m) (.bool (decide (0<=k)&&decide (k<m.ws.length))):=by
 refine zAr Tryz.func79 2 rfl (by kernel_rfl) (by rfl) (w0 ?_)
 refine bcase_p (fun h=>?_) (fun h=>?_)<;>conv=>whnf
 ·refine aP ?_;exact zAi rfl (by rw [decide_eq_true h,Bool.true_and,List.length_map];rfl) rfl ⟨rfl,rfl,rfl,trivial⟩
 ·refine aP ?_;exact zAi rfl (by rw [decide_eq_false h];rfl) rfl ⟨rfl,rfl,rfl,trivial⟩
theorem zNz (m:MS) (k:Nat) (hl:m.h.cl.length<=1000):zAx Tryz.prog 138 [.ptr 1000000 0 0,.d (.int .i64 k)] (mH m) (mH m) (.bool (isCl m.h k)):=by
 have hm:(m.h.cl.map zBb).length=m.h.cl.length:=List.length_map ..
 refine zAr Tryz.func138 2 rfl (by kernel_rfl) (by rfl) (aP ?_);refine zAq (ι:=Nat) (fun i=>[(0,.ptr 1000000 0 0),(1,.d (.int .i64 k)),(11,.d (.lst (m.h.cl.map zBb))),(12,.d (.int .i64 (m.h.cl.map zBb).length)),(13,.d (.int .i64 i))]) (fun _=>mH m)
  (fun i=>i<=m.h.cl.length/\isCl m.h k=(m.h.cl.drop i).any fun c=>c.1==k) (fun i=>m.h.cl.length-i) 0 ⟨Nat.zero_le _,rfl⟩ (le0 (zAb ⟨rfl,rfl,rfl,rfl,rfl,trivial⟩ ⟨rfl,rfl,rfl,trivial⟩ ⟨rfl,rfl,rfl,rfl⟩)) ?_
 rintro i ⟨hi,he⟩
 conv=>whnf
 refine bcase_p (fun h5=>?_) (fun h5=>?_)<;>conv=>whnf
 ·have hi2:i<m.h.cl.length:=by omega
  rw [zBg hi2,List.any_cons] at he;refine zAd (by omega) (w0 ?_);refine zAc (x:=zBb m.h.cl[i]) (by simp [hi2]) (aW ?_)
  refine bcase_p (fun h6=>?_) (fun h6=>?_)<;>conv=>whnf
  ·have e6:(m.h.cl[i].1==k)=true:=by simpa using (show m.h.cl[i].1=k by omega)
   rw [e6,Bool.true_or] at he;rw [he];refine aP ?_;exact zAi rfl rfl rfl ⟨rfl,rfl,rfl,trivial⟩
  ·have e6:(m.h.cl[i].1==k)=false:=by simpa using (show ¬m.h.cl[i].1=k by omega)
   rw [e6,Bool.false_or] at he;refine aP ?_;exact ⟨i+1,⟨by omega,he⟩,by omega,(le0 (zAb ⟨rfl,rfl,rfl,rfl,rfl,trivial⟩ ⟨rfl,rfl,rfl,trivial⟩ ⟨rfl,rfl,rfl,rfl⟩))⟩
 ·have:i=m.h.cl.length:=by omega
  subst this;rw [List.drop_length] at he;rw [he];refine aP ?_;exact zAi rfl rfl rfl ⟨rfl,rfl,rfl,trivial⟩
theorem z4a (m:MS) (k:Nat) (w:WA) (now:Int) (hk:m.ws[k]?=some w) (hd:w.todo.length<=w.ended):
  zAx Tryz.prog 80 [.ptr 1000000 0 0,.d (.int .i64 k),.ptr 1000001 k 0,.d (.int .i64 now)] (mH m) (mH m) (.bool false):=by
 have hg:=zEm hk
 have hmt:(w.todo.map zGg).length=w.todo.length:=List.length_map ..
 refine zAr Tryz.func80 4 rfl (by kernel_rfl) (by rfl) (aP ?_);refine zAc hg (aP ?_);refine zAc hg (aP ?_);exact zAi rfl rfl rfl ⟨rfl,rfl,rfl,trivial⟩
theorem z8c (m:MS) (k:Nat) (w:WA) (now:Int) (hk:m.ws[k]?=some w) (hd:¬w.todo.length<=w.ended) (o:HOk m.h) (hk4:k<4) (hn:k∉m.h.all) (hl:m.h.cl.length+m.h.q.length<=3):
  zAx Tryz.prog 80 [.ptr 1000000 0 0,.d (.int .i64 k),.ptr 1000001 k 0,.d (.int .i64 now)] (mH m) (mH {zNh m k {w with began:=now,st:=1} with h:=zOp m.h k}) (.bool true):=by
 have hg:=zEm hk
 have hmt:(w.todo.map zGg).length=w.todo.length:=List.length_map ..
 refine zAr Tryz.func80 4 rfl (by kernel_rfl) (by rfl) (aP ?_);refine zAc hg (aP ?_);refine zAc hg (aP ?_);refine zAa (z0h m.h o k hk4 hn hl) (aP ?_);refine zAc hg (aP ?_);refine zAc (zIl (zQr hk)) (aP ?_);exact zAi rfl rfl rfl ⟨by kernel_rfl,rowE (ws2 _ {w with began:=now,st:=1}),rfl,trivial⟩
theorem zZt (o:MOp):zAj Tryz.prog 140 [.agg (zGg o)] (.bool (refB o)):=by
 have h:=Hy.opsDo_ok [] o (by simp);have hm:Hy.mapB []=true:=Hy.mapB_t.2 ⟨fun x hx=>(by cases hx),fun i hi=>absurd hi (by simp)⟩
 have e:decide ((Hy.doM [] o).2.1=1)=refB o:=by
  rw [Hy.doM,refB,hm]
  by_cases h1:o.1<1
  ·rw [if_pos (by simp [h1])];simp [h1]
  by_cases h2:4<o.1
  ·rw [if_pos (by simp [h2])];simp [h2]
  by_cases h3:o.2.1<1
  ·rw [if_pos (by simp [h3])];simp [h3]
  by_cases h4:16<o.2.1
  ·rw [if_pos (by simp [h4])];simp [h4]
  rw [if_neg (by simp [h1,h2,h3,h4]),decide_eq_false h1,decide_eq_false h2,decide_eq_false h3,decide_eq_false h4]
  by_cases h5:o.1=1
  ·rw [if_pos h5];rfl
  ·rw [if_neg h5];rfl
 rw [<-e];refine zAe Tryz.func140 1 rfl (by kernel_rfl) (aO ?_);refine zAa h (aO ?_);exact ret_of rfl rfl
theorem lg_set {l:List LA} {i:Nat} {x:LA} (h:i<l.length) (j:Nat):lg (l.set i x) j=if i=j then x else lg l j:=by
 unfold lg;rw [List.getElem?_set]
 split
 ·rename_i e;subst e;first|rfl|(rw [if_pos h];rfl)
 ·rfl
theorem mc_lat (m:MS):∀ i,i<17->((zJm m).drop (13+i*3)).take 3=lc m.lat i
 |0,_=>rfl|1,_=>rfl|2,_=>rfl|3,_=>rfl|4,_=>rfl|5,_=>rfl|6,_=>rfl|7,_=>rfl|8,_=>rfl
 |9,_=>rfl|10,_=>rfl|11,_=>rfl|12,_=>rfl|13,_=>rfl|14,_=>rfl|15,_=>rfl|16,_=>rfl
 |n+17,h=>absurd h (by omega)
theorem yUa (m:MS):(zJm m).length=75:=rfl
theorem zPp {m:MS} {i j s:Nat} {K:List AV->Prop} (hi:i<17) (hj:j=13+i*3) (hs:s=3) (k:K (lc m.lat i)):bif Nat.ble (j+s) (zJm m).length then forceL (((zJm m).drop j).take s) K else False:=by
 subst hj hs;rw [mc_lat m i hi,yUa,Nat.ble_eq_true_of_le (by omega)];exact k
theorem mc_set (m:MS) (x:LA) (hl:m.lat.length=17):∀ i,i<17->spliceF (zJm m) (13+i*3) (x.cells.map AV.d)=zJm {m with lat:=m.lat.set i x}:=by
 intro i hi
 have hs:=fun j=>lg_set (l:=m.lat) (i:=i) (x:=x) (by omega) j
 have h2:∀ j,lc (m.lat.set i x) j=if i=j then x.cells.map AV.d else lc m.lat j:=fun j=>by
  unfold lc;rw [hs j];split<;>rfl
 have e:zJm {m with lat:=m.lat.set i x}=.own 1000001::(m.p.box++(m.h.cells.map AV.d++(latC (m.lat.set i x)++((m.s.cells m.p.d).map AV.d++[.d (.int .i64 m.clk),.own 1000004])))):=rfl;rw [e,latC];simp only [h2]
 match i,hi with
 |0,_=>rfl|1,_=>rfl|2,_=>rfl|3,_=>rfl|4,_=>rfl|5,_=>rfl|6,_=>rfl|7,_=>rfl|8,_=>rfl
 |9,_=>rfl|10,_=>rfl|11,_=>rfl|12,_=>rfl|13,_=>rfl|14,_=>rfl|15,_=>rfl|16,_=>rfl
 |n+17,h=>exact absurd h (by omega)
theorem zW {m:MS} {i j s:Nat} {l:List AV} {x:LA} {K:List AV->Prop} (hi:i<17) (hl:m.lat.length=17) (hj:j=13+i*3) (hs:s=3) (hx:l=x.cells.map AV.d) (k:K (zJm {m with lat:=m.lat.set i x})):
  bif Nat.ble (j+s) (zJm m).length then zMg (zJm m) j (.agg l) K else False:=by
 subst hj hs hx;rw [yUa,Nat.ble_eq_true_of_le (by omega)];show K (spliceF (zJm m) (13+i*3) (x.cells.map AV.d))
 rw [mc_set m x hl i hi];exact k
def rowW (ws:List WA):List (Nat×Blk):=[(1000001,.row (ws.map zDb) 11 false)]
theorem zWm (ws:List WA) (k:Nat) (w:WA) (hk:ws[k]?=some w) (hb:w.ended<w.todo.length):zAx Tryz.prog 139 [.ptr 1000001 k 0] (rowW ws) (rowW ws) (.agg (zGg w.op)):=by
 have hg:(ws.map zDb)[k]?=some (zDb w):=by rw [List.getElem?_map,hk];rfl
 have hmt:(w.todo.map zGg).length=w.todo.length:=List.length_map ..
 have ho:(w.todo.map zGg)[w.ended]?=some (zGg w.op):=by rw [List.getElem?_map,WA.op,List.getElem?_eq_getElem hb];rfl
 refine zAr Tryz.func139 1 rfl (by kernel_rfl) (by rfl) (aP ?_);refine zAc hg (aP ?_);refine zAc hg (aP ?_);refine zAd (by omega) (w0 ?_);refine zAc ho (aP ?_);exact zAi rfl rfl rfl ⟨rfl,trivial⟩
theorem zMk (ws:List WA) (k:Nat) (w:WA) (hk:ws[k]?=some w) (r:MRes) (now:Int):zAx Tryz.prog 88 [.ptr 1000001 k 0,.agg ((yQa r).map AV.d),.d (.int .i64 now)] (rowW ws) (rowW (ws.set k (zJu w r now))) (.tup []):=by
 have hg:(ws.map zDb)[k]?=some (zDb w):=by rw [List.getElem?_map,hk];rfl
 have hlt:k<(ws.map zDb).length:=by rw [List.length_map];exact (List.getElem?_eq_some_iff.1 hk).1
 refine zAr Tryz.func88 3 rfl (by kernel_rfl) (by rfl) (aP ?_);refine zAc hg (aP ?_);refine zAc (zIl hlt) (aP ?_);refine zAc (zIl (by rw [List.length_set];exact hlt)) (aP ?_);exact zAi rfl rfl rfl ⟨rowE (ws3 _ _ (zJu w r now)),trivial⟩
def askM (m:MS) (k:Nat) (w:WA):MS:={zNh m k {w with asked:=true,st:=2} with lat:=zYe m.lat w.op.2.1 (askL (latM m w.op.2.1) k (decide (w.op.1≠2)))}
theorem zSe {o:MOp} (h:refB o=false):1<=o.1/\o.1<=4/\1<=o.2.1/\o.2.1<=16:=by
 simp only [refB,Bool.or_eq_false_iff,decide_eq_false_iff_not] at h;omega
set_option maxRecDepth 20000 in
set_option maxHeartbeats 8000000 in
theorem yIy (m:MS) (k:Nat) (w:WA) (now:Int) (hl:m.h.cl.length<=1000) (hc:isCl m.h k=false):
  zAx Tryz.prog 81 [.ptr 1000000 0 0,.d (.int .i64 k),.ptr 1000001 k 0,.d (.int .i64 now)] (mH m) (mH m) (.bool false):=by
 have hi:=zNz m k hl;rw [hc] at hi;refine zAr Tryz.func81 4 rfl (by kernel_rfl) (by rfl) (aP ?_);refine zAg hi nm3 rfl ⟨rfl,rfl,rfl,trivial⟩ rfl (aP ?_);exact zAi rfl rfl rfl ⟨rfl,rfl,rfl,trivial⟩
set_option maxRecDepth 20000 in
set_option maxHeartbeats 8000000 in
theorem yGf (m:MS) (k:Nat) (w:WA) (now:Int) (hk:m.ws[k]?=some w) (hb:w.ended<w.todo.length) (hl:m.h.cl.length<=1000) (hc:isCl m.h k=true) (hr:refB w.op=true):
  zAx Tryz.prog 81 [.ptr 1000000 0 0,.d (.int .i64 k),.ptr 1000001 k 0,.d (.int .i64 now)] (mH m) (mH (zNh m k (zJu w (1,zP) now))) (.bool true):=by
 have hi:=zNz m k hl;rw [hc] at hi;have hrf:=zZt w.op;rw [hr] at hrf;refine zAr Tryz.func81 4 rfl (by kernel_rfl) (by rfl) (aP ?_);refine zAg hi nm3 rfl ⟨rfl,rfl,rfl,trivial⟩ rfl (aP ?_);refine zAg (zWm m.ws k w hk hb) [(1000001,1000001)] rfl ⟨rfl,trivial⟩ rfl (aP ?_);refine zAa hrf (aP ?_);refine zAg (zMk m.ws k w hk (1,zP) now) [(1000001,1000001)] rfl ⟨rfl,trivial⟩ rfl (aP ?_);exact zAi rfl rfl rfl ⟨rfl,rfl,rfl,trivial⟩
set_option maxRecDepth 20000 in
set_option maxHeartbeats 8000000 in
theorem yIw (m:MS) (k:Nat) (w:WA) (now:Int) (hk:m.ws[k]?=some w) (hb:w.ended<w.todo.length) (hl:m.h.cl.length<=1000) (hc:isCl m.h k=true) (hr:refB w.op=false)
  (h17:m.lat.length=17) (hk4:k<4) (ol:LOk (latM m w.op.2.1)) (hn:k∉(latM m w.op.2.1).hs++(latM m w.op.2.1).q.map (·.1)) (hll:(latM m w.op.2.1).hs.length+(latM m w.op.2.1).q.length<=3):
  zAx Tryz.prog 81 [.ptr 1000000 0 0,.d (.int .i64 k),.ptr 1000001 k 0,.d (.int .i64 now)] (mH m) (mH (askM m k w)) (.bool true):=by
 have hi:=zNz m k hl;rw [hc] at hi;have hrf:=zZt w.op;rw [hr] at hrf;obtain ⟨r1,r2,r3,r4⟩:=zSe hr;obtain ⟨i,hi2⟩:∃ i:Nat,w.op.2.1=(i:Int):=⟨w.op.2.1.toNat,by omega⟩
 have hi17:i<17:=by omega
 have eL:latM m w.op.2.1=lg m.lat i:=by rw [latM,hi2];rfl
 rw [eL] at ol hn hll;obtain ⟨b,hask⟩:=z9p (lg m.lat i) ol k (decide (w.op.1≠2)) hk4 hn hll;have hg:=zEm hk;have eb:decide (w.op.1≠2)=!decide (w.op.1=2):=decide_not;rw [eb] at hask;refine zAr Tryz.func81 4 rfl (by kernel_rfl) (by rfl) (aP ?_);refine zAg hi nm3 rfl ⟨rfl,rfl,rfl,trivial⟩ rfl (aP ?_);refine zAg (zWm m.ws k w hk hb) [(1000001,1000001)] rfl ⟨rfl,trivial⟩ rfl (aP ?_);refine zAa hrf (aP ?_);rw [hi2];refine zAd (by omega) (aP ?_);refine zPp hi17 (by show 0+13+i*3=_;omega) rfl (aP ?_);refine zAa hask (aP ?_);refine zAd (by omega) (aP ?_);refine zW (m:=m) (x:=askL (lg m.lat i) k (!decide (w.op.1=2))) hi17 h17 (by show 0+13+i*3=_;omega) rfl rfl (aP ?_);refine zAc hg (aP ?_);refine zAc (zIl (zQr hk)) (aP ?_)
 have em:askM m k w={zNh m k {w with asked:=true,st:=2} with lat:=m.lat.set i (askL (lg m.lat i) k (!decide (w.op.1=2)))}:=by
  rw [askM,eb,eL,zYe,hi2];rfl
 rw [em];exact zAi rfl rfl rfl ⟨by kernel_rfl,rowE (ws2 _ {w with asked:=true,st:=2}),rfl,trivial⟩
theorem zXt {hp:Nat->Option Blk}:∀ {l:List (Nat×Blk)},covH hp l->zBa hp l=hp
 | [],_=>rfl
 |(b,B)::r,h=>by
  have e:upd hp b (some B)=hp:=by
   funext t
   by_cases q:t=b
   ·subst q;rw [upd_same];exact h.1.symm
   ·rw [zAl _ _ q]
  rw [zBa,e];exact zXt h.2
theorem zGw {P:Program} {f:FuncId} {args xs:List AV} {pre:List (Nat×Blk)} {d:D} {hp:Nat->Option Blk} {K:Eff->Prop} (H:zAx P f args pre pre d) (s:List (Nat×Nat))
  (hs:(z1l s pre&&yBj s)=true) (h4:nmGet s 1000004=none) (hc:covH hp (rnH s pre)) (hx:rnVs s args=xs) (k:K ⟨ofD d,[],none⟩):yGi P f xs hp K:=by
 have h:=H.2 s hp (z1t hs) (zSb hc);rw [h4,hx] at h;refine yBy (e:=⟨ofD d,[],none⟩) ⟨h.1,fun own M ι w vs ho ha hh hd=>(h.2 own M ι w vs ho ha hh hd).mono fun en w' hq=>?_⟩ k;obtain ⟨v,M',ι',e1,e2,e3,e4,e5,e6,e7,e8⟩:=hq;refine ⟨v,M',ι',e1,e2,e3,e4,e5,?_,e7,e8⟩;have:(⟨ofD d,rnH s pre,none⟩:Eff).hp hp=hp:=zXt hc;rw [this] at e6;exact e6
set_option maxRecDepth 20000 in
set_option maxHeartbeats 8000000 in
theorem z8y (m:MS) (k:Nat) (w:WA) (hk:m.ws[k]?=some w) (hb:w.ended<w.todo.length) (hi2:0<=w.op.2.1) (hi17:w.op.2.1.toNat<17) (ol:LOk (lg m.lat w.op.2.1.toNat)) (hho:zNl (lg m.lat w.op.2.1.toNat) k=false):
  zAx Tryz.prog 82 [.ptr 1000000 0 0,.d (.int .i64 k),.ptr 1000001 k 0] (mH m) (mH m) (.bool false):=by
 have hh0:=yDc (lg m.lat w.op.2.1.toNat) ol k;rw [hho] at hh0;refine zAr Tryz.func82 3 rfl (by kernel_rfl) (by rfl) (aP ?_);refine zGw (zWm m.ws k w hk hb) [(1000001,1000001)] rfl rfl ⟨rfl,trivial⟩ rfl (aP ?_);refine zBq hi2 (by omega) (aP ?_);refine zPp hi17 (by show 0+13+w.op.2.1.toNat*3=_;omega) rfl (aP ?_);refine zAa hh0 (aP ?_);exact zAi rfl rfl rfl ⟨rfl,rfl,rfl,trivial⟩
set_option maxRecDepth 20000 in
set_option maxHeartbeats 8000000 in
theorem z8x (m:MS) (k:Nat) (w:WA) (hk:m.ws[k]?=some w) (hb:w.ended<w.todo.length) (hi2:0<=w.op.2.1) (hi17:w.op.2.1.toNat<17) (ol:LOk (lg m.lat w.op.2.1.toNat)) (hho:zNl (lg m.lat w.op.2.1.toNat) k=true):
  zAx Tryz.prog 82 [.ptr 1000000 0 0,.d (.int .i64 k),.ptr 1000001 k 0] (mH m) (mH (zNh m k {w with st:=3})) (.bool true):=by
 have hg:=zEm hk;have hh0:=yDc (lg m.lat w.op.2.1.toNat) ol k;rw [hho] at hh0;refine zAr Tryz.func82 3 rfl (by kernel_rfl) (by rfl) (aP ?_);refine zGw (zWm m.ws k w hk hb) [(1000001,1000001)] rfl rfl ⟨rfl,trivial⟩ rfl (aP ?_);refine zBq hi2 (by omega) (aP ?_);refine zPp hi17 (by show 0+13+w.op.2.1.toNat*3=_;omega) rfl (aP ?_);refine zAa hh0 (aP ?_);refine zAc hg (aP ?_);exact zAi rfl rfl rfl ⟨rfl,rowE (zTd {w with st:=3}),rfl,trivial⟩
set_option maxRecDepth 20000 in
set_option maxHeartbeats 8000000 in
theorem yNe (m:MS) (k:Nat) (w:WA) (hk:m.ws[k]?=some w) (hb:w.ended<w.todo.length) (oh:HOk m.h) (hc:isCl m.h k=true) (hh:zFv m.h k=false) (hF:FM m.p.f) (hpr:pinR m.h k=(m.h,6)):
  zAx Tryz.prog 83 [.ptr 1000000 0 0,.d (.int .i64 k),.ptr 1000001 k 0] (mH m) (mH m) (.bool false):=by
 have hg:=zEm hk;have hp:=zNq m.h oh k hc hh;rw [hpr] at hp;have hf:=zHg m.p.f w.op.2.1 hF.tl hF.dl;refine zAr Tryz.func83 3 rfl (by kernel_rfl) (by rfl) (aP ?_);refine zAa hp (aP ?_);exact zAi rfl rfl rfl ⟨rfl,rfl,rfl,trivial⟩
def pin5M (m:MS) (k:Nat) (w:WA):MS:={zNh m k {w with pinned:=true,st:=5} with h:=pinH m.h k}
def pin4M (m:MS) (k:Nat) (w:WA):MS:={zNh m k {w with pinned:=true,st:=4} with h:=pinH m.h k,s:=askS m.s k w.op.2.1}
set_option maxRecDepth 20000 in
set_option maxHeartbeats 8000000 in
theorem yXx (m:MS) (k:Nat) (w:WA) (hk:m.ws[k]?=some w) (hb:w.ended<w.todo.length) (oh:HOk m.h) (hc:isCl m.h k=true) (hh:zFv m.h k=false) (hF:FM m.p.f) (hpr:pinR m.h k=(pinH m.h k,0)) (hno:¬(hasF m.p w.op.2.1=false/\ (w.op.1=2\/w.op.1=3))):
  zAx Tryz.prog 83 [.ptr 1000000 0 0,.d (.int .i64 k),.ptr 1000001 k 0] (mH m) (mH (pin5M m k w)) (.bool true):=by
 have hg:=zEm hk;have hp:=zNq m.h oh k hc hh;rw [hpr] at hp;have hf:=zHg m.p.f w.op.2.1 hF.tl hF.dl;refine zAr Tryz.func83 3 rfl (by kernel_rfl) (by rfl) (aP ?_);refine zAa hp (aP ?_);refine zGw (zWm m.ws k w hk hb) [(1000001,1000001)] rfl rfl ⟨rfl,trivial⟩ rfl (aP ?_);refine zAa hf (aP ?_)
 refine zAf (fun e=>?_) (fun e=>?_)<;>conv=>whnf
 ·refine aP ?_;refine zAc hg (aP ?_);refine zAc (zIl (zQr hk)) (aP ?_);exact zAi rfl rfl rfl ⟨by kernel_rfl,rowE (ws2 _ {w with pinned:=true,st:=5}),rfl,trivial⟩
 ·have h2:¬(w.op.1=2\/w.op.1=3):=fun g=>hno ⟨e,g⟩
  refine aP ?_;refine zAc hg (aP ?_);refine zAc (zIl (zQr hk)) (aP ?_);exact zAi rfl rfl rfl ⟨by kernel_rfl,rowE (ws2 _ {w with pinned:=true,st:=5}),rfl,trivial⟩
set_option maxRecDepth 20000 in
set_option maxHeartbeats 8000000 in
theorem yXw (m:MS) (k:Nat) (w:WA) (hk:m.ws[k]?=some w) (hb:w.ended<w.todo.length) (oh:HOk m.h) (hc:isCl m.h k=true) (hh:zFv m.h k=false) (hF:FM m.p.f) (hpr:pinR m.h k=(pinH m.h k,0)) (hno:hasF m.p w.op.2.1=false) (h23:w.op.1=2\/w.op.1=3)
  (os:SOk m.s) (hU:Us m.p.d) (hkj:k<m.s.jobs.length) (hjn:m.s.jobs[k]=none) (h1:1<=w.op.2.1) (h16:w.op.2.1<=16):
  zAx Tryz.prog 83 [.ptr 1000000 0 0,.d (.int .i64 k),.ptr 1000001 k 0] (mH m) (mH (pin4M m k w)) (.bool true):=by
 have ha:=yAu m.s m.p.d os hU k hkj hjn w.op.2.1 h1 h16;have hg:=zEm hk;have hp:=zNq m.h oh k hc hh;rw [hpr] at hp;have hf:=zHg m.p.f w.op.2.1 hF.tl hF.dl;refine zAr Tryz.func83 3 rfl (by kernel_rfl) (by rfl) (aP ?_);refine zAa hp (aP ?_);refine zGw (zWm m.ws k w hk hb) [(1000001,1000001)] rfl rfl ⟨rfl,trivial⟩ rfl (aP ?_);refine zAa hf (aP ?_)
 refine zAf (fun e=>?_) (fun e=>?_)<;>conv=>whnf
 ·rw [hasF,e] at hno;cases hno
 ·refine aP ?_
  refine bcase_p (fun g=>?_) (fun g=>?_)<;>conv=>whnf
  ·refine aP ?_;refine zAa ha (aP ?_);refine zAc hg (aP ?_);refine zAc (zIl (zQr hk)) (aP ?_);exact zAi rfl rfl rfl ⟨by kernel_rfl,rowE (ws2 _ {w with pinned:=true,st:=4}),rfl,trivial⟩
  ·refine aP ?_;refine zAa ha (aP ?_);refine zAc hg (aP ?_);refine zAc (zIl (zQr hk)) (aP ?_);exact zAi rfl rfl rfl ⟨by kernel_rfl,rowE (ws2 _ {w with pinned:=true,st:=4}),rfl,trivial⟩
theorem yVd (k:Int):zDt Tryz.prog 145 [.int .i64 k] ((zGe k).map enc1) 1:=by
 refine zBk Tryz.func145 1 rfl (by kernel_rfl) ?_;rw [zGe]
 conv=>whnf
 refine bcase_p (fun h1=>?_) (fun h1=>?_)<;>conv=>whnf
 ·rw [if_pos h1];refine aP ?_;exact ⟨2,rfl,.inl ⟨6,rfl,rfl⟩⟩
 rw [if_neg h1];refine aP ?_
 refine bcase_p (fun h2=>?_) (fun h2=>?_)<;>conv=>whnf
 ·rw [if_pos h2];refine aP ?_;exact ⟨2,rfl,.inl ⟨9,rfl,rfl⟩⟩
 rw [if_neg h2];refine aP ?_
 refine bcase_p (fun h3=>?_) (fun h3=>?_)<;>conv=>whnf
 ·rw [if_pos h3];refine aP ?_;exact ⟨2,rfl,.inl ⟨12,rfl,rfl⟩⟩
 rw [if_neg h3];refine aP ?_
 refine bcase_p (fun h4=>?_) (fun h4=>?_)<;>conv=>whnf
 ·rw [if_pos h4];refine aP ?_;exact ⟨2,rfl,.inl ⟨15,rfl,rfl⟩⟩
 rw [if_neg h4];refine aP ?_;exact ⟨2,rfl,.inr ⟨rfl,rfl⟩⟩
def yM (m:MS) (d:DS):List AV:=.own 1000001::(m.p.box++(m.h.cells.map AV.d++(latC m.lat++((m.s.cells d).map AV.d++[.d (.int .i64 m.clk),.own 1000004]))))
def mH' (m:MS) (d:DS):List (Nat×Blk):=[(1000000,.box (yM m d) false),(1000001,.row (m.ws.map zDb) 11 false),(1000004,.row (m.ev.map zAt) 11 false)]
def yBl (m:MS) (p:PS):MS:={m with p:=p}
theorem zZc (m:MS) (d:DS) (id:Int) (hF:FM m.p.f) (h0:id≠0):zAx Tryz.prog 146 [.ptr 1000000 0 0,.d (.int .i64 id)] (mH' m d) (mH' m d) (.bool (zFd m.p id)):=by
 have hfind:=zHg m.p.f id hF.tl hF.dl
 have hmf:(m.p.f.fr.map encF).length=m.p.f.fr.length:=List.length_map ..
 refine zAr Tryz.func146 2 rfl (by kernel_rfl) (by rfl) ?_;rw [zFd]
 conv=>whnf
 refine aP ?_
 rcases hF.find_cases h0 with ⟨_,hno⟩|⟨i,_,hA⟩
 ·rw [zCt hF hno h0] at hfind⊢;refine zAa hfind (aP ?_);exact zAi rfl rfl rfl ⟨rfl,rfl,rfl,trivial⟩
 ·rw [findF_at hA] at hfind⊢;have hi:=hA.hi;refine zAa hfind (aP ?_);refine zAd (by omega) (w0 ?_);refine zAc (x:=encF m.p.f.fr[i]) (by simp [hi]) (aW ?_);exact zAi rfl (by simp only [Bool.true_and,Int.toNat_natCast,zCj hi];rfl) rfl ⟨rfl,rfl,rfl,trivial⟩
structure WkI (o:MOp) (p0:PS) (t:Int) (ks:List Int) (s:Nat×PS×MRes):Prop where
 le:s.1<=ks.length
 gd:Gd t s.2.1
 eq:actG o (ks.drop s.1) s.2.1 s.2.2=actG o ks p0 (0,zP)
theorem yPi (k:Int):(zGe k).length<=2:=by
 rw [zGe];repeat' split
 all_goals decide
set_option maxRecDepth 20000 in
set_option maxHeartbeats 16000000 in
theorem yZt (m:MS) (k:Nat) (w:WA) (now t:Int) (hk:m.ws[k]?=some w) (hb:w.ended<w.todo.length) (g:Gd t m.p) (ht:t<=2147483647) (hr:refB w.op=false):
  zAx Tryz.prog 84 [.ptr 1000000 0 0,.ptr 1000001 k 0,.d (.int .i64 now)] (mH m) (mH {zNh m k (zJu w (workP m.p w.op).2 now) with p:=(workP m.p w.op).1}) (.tup []):=by
 obtain ⟨r1,r2,r3,r4⟩:=zSe hr;have hal:=yPi w.op.1
 have hma:((zGe w.op.1).map enc1).length=(zGe w.op.1).length:=List.length_map ..
 refine zAr Tryz.func84 3 rfl (by kernel_rfl) (by rfl) (aP ?_);refine zGw (zWm m.ws k w hk hb) [(1000001,1000001)] rfl rfl ⟨rfl,trivial⟩ rfl (aP ?_);refine zAn (yVd w.op.1) (aP ?_);refine zAq (ι:=Nat×PS×MRes) (fun s=>[(0,.ptr 1000000 0 0),(1,.ptr 1000001 k 0),(2,.d (.int .i64 now)),(6,.ptr 6 0 0),(7,.ptr 7 0 0),(22,.own 22),(23,.d (.int .i64 ((zGe w.op.1).map enc1).length)),(24,.d (.int .i64 s.1))])
  (fun s=>[(1000000,.box (yM (yBl m s.2.1) m.p.d) false),(1000001,.row (m.ws.map zDb) 11 false),(1000004,.row (m.ev.map zAt) 11 false),(6,.box ((zGg w.op).map AV.d) false),(7,.box ((yQa s.2.2).map AV.d) false),(22,.row ((zGe w.op.1).map enc1) 1 false)])
  (WkI w.op m.p t (zGe w.op.1)) (fun s=>(zGe w.op.1).length-s.1) (0,m.p,(0,zP)) ⟨Nat.zero_le _,g,rfl⟩ (le0 (zAb ⟨rfl,rfl,rfl,rfl,rfl,rfl,rfl,rfl,trivial⟩ ⟨rfl,rfl,rfl,rfl,rfl,rfl,trivial⟩ ⟨rfl,rfl,rfl,rfl⟩)) ?_
 rintro ⟨i,p,r⟩ ⟨hi,gp,he⟩;simp only [] at hi gp he⊢
 conv=>whnf
 refine bcase_p (fun h5=>?_) (fun h5=>?_)<;>conv=>whnf
 ·have hi2:i<(zGe w.op.1).length:=by omega
  rw [List.drop_eq_getElem_cons hi2,actG] at he;have hdo:=zQa p ((zGe w.op.1)[i],w.op.2.1,w.op.2.2) gp.fm (by rw [gp.now];exact ht);have gact:=(gp.act ((zGe w.op.1)[i],w.op.2.1,w.op.2.2)).1;obtain ⟨q,hq⟩:∃ q,zBc p ((zGe w.op.1)[i],w.op.2.1,w.op.2.2)=q:=⟨_,rfl⟩;rw [hq] at hdo he gact;refine zAd (by omega) (w0 ?_);refine zAc (x:=enc1 (zGe w.op.1)[i]) (by simp [hi2]) (aW ?_);refine aP ?_;refine zAa hdo (aP ?_)
  refine bcase_p (fun e0=>?_) (fun e0=>?_)<;>conv=>whnf
  ·rw [if_neg (fun z=>z e0)] at he;refine aP ?_;refine ⟨(i+1,q.1,(r.1,q.2.1)),⟨by dsimp only;omega,gact,he⟩,by dsimp only;omega,(le0 (zAb ⟨rfl,rfl,rfl,rfl,rfl,rfl,rfl,rfl,trivial⟩ ⟨rfl,rfl,rfl,rfl,rfl,rfl,trivial⟩ ⟨rfl,rfl,rfl,rfl⟩))⟩
  ·rw [if_pos e0] at he;have g1:Gd t q.1:=gact;have hdo5:=zQa q.1 (5,w.op.2.1,ByteArray.empty) g1.fm (by rw [g1.now];exact ht);obtain ⟨q5,hq5⟩:∃ q5,zBc q.1 (5,w.op.2.1,ByteArray.empty)=q5:=⟨_,rfl⟩;rw [hq5] at hdo5;have hhp:=zZc (yBl m q.1) m.p.d w.op.2.1 g1.fm (by omega);replace hhp:zAx Tryz.prog 146 [.ptr 1000000 0 0,.d (.int .i64 w.op.2.1)] (mH' (yBl m q.1) m.p.d) (mH' (yBl m q.1) m.p.d) (.bool (zFd q.1 w.op.2.1)):=hhp
   have hWk:workP m.p w.op=zXz w.op (q.1,(q.2.2.2,zP)):=by rw [workP,<-he]
   rw [zXz] at hWk;simp only [] at hWk;refine aP ?_;refine zAg hhp nm3 rfl ⟨rfl,rfl,rfl,trivial⟩ rfl (w0 ?_)
   cases hpin:zFd q.1 w.op.2.1 with
   |true=>
    rw [if_pos hpin,hq5] at hWk;refine aP ?_;refine zAa hdo5 (aP ?_)
    have hW:workP m.p w.op=(q5.1,(q.2.2.2,zP)):=by rw [hWk,if_neg (fun z=>e0 z.1)]
    refine aP ?_;refine zAg (zMk m.ws k w hk (q.2.2.2,zP) now) [(1000001,1000001)] rfl ⟨rfl,trivial⟩ rfl (aP ?_);rw [hW];exact zAi rfl rfl rfl ⟨by kernel_rfl,rfl,rfl,trivial⟩
   |false=>
    rw [if_neg (by rw [hpin];decide)] at hWk;have hW:=hWk;refine aP ?_;refine zAg (zMk m.ws k w hk (q.2.2.2,zP) now) [(1000001,1000001)] rfl ⟨rfl,trivial⟩ rfl (aP ?_);rw [hW];exact zAi rfl rfl rfl ⟨by kernel_rfl,rfl,rfl,trivial⟩
 ·have hil:i=(zGe w.op.1).length:=by omega
  subst hil;rw [List.drop_length,actG] at he;have g1:Gd t p:=gp;have hdo5:=zQa p (5,w.op.2.1,ByteArray.empty) g1.fm (by rw [g1.now];exact ht);obtain ⟨q5,hq5⟩:∃ q5,zBc p (5,w.op.2.1,ByteArray.empty)=q5:=⟨_,rfl⟩;rw [hq5] at hdo5;have hhp:=zZc (yBl m p) m.p.d w.op.2.1 g1.fm (by omega);replace hhp:zAx Tryz.prog 146 [.ptr 1000000 0 0,.d (.int .i64 w.op.2.1)] (mH' (yBl m p) m.p.d) (mH' (yBl m p) m.p.d) (.bool (zFd p w.op.2.1)):=hhp
  have hWk:workP m.p w.op=zXz w.op (p,r):=by rw [workP,<-he]
  rw [zXz] at hWk;simp only [] at hWk;refine aP ?_;refine zAg hhp nm3 rfl ⟨rfl,rfl,rfl,trivial⟩ rfl (w0 ?_)
  cases hpin:zFd p w.op.2.1 with
  |true=>
   rw [if_pos hpin,hq5] at hWk;refine aP ?_;refine zAa hdo5 (aP ?_)
   refine bcase_p (fun e1=>?_) (fun e1=>?_)<;>conv=>whnf
   ·refine aP ?_
    refine bcase_p (fun e2=>?_) (fun e2=>?_)<;>conv=>whnf
    ·have hW:workP m.p w.op=(q5.1,r):=by rw [hWk,if_neg (fun z=>z.2 e2)]
     refine aP ?_;refine zAg (zMk m.ws k w hk r now) [(1000001,1000001)] rfl ⟨rfl,trivial⟩ rfl (aP ?_);rw [hW];exact zAi rfl rfl rfl ⟨by kernel_rfl,rfl,rfl,trivial⟩
    ·have hW:workP m.p w.op=(q5.1,(q5.2.2.2,zP)):=by rw [hWk,if_pos ⟨e1,e2⟩]
     refine aP ?_;refine zAg (zMk m.ws k w hk (q5.2.2.2,zP) now) [(1000001,1000001)] rfl ⟨rfl,trivial⟩ rfl (aP ?_);rw [hW];exact zAi rfl rfl rfl ⟨by kernel_rfl,rfl,rfl,trivial⟩
   ·have hW:workP m.p w.op=(q5.1,r):=by rw [hWk,if_neg (fun z=>e1 z.1)]
    refine aP ?_;refine zAg (zMk m.ws k w hk r now) [(1000001,1000001)] rfl ⟨rfl,trivial⟩ rfl (aP ?_);rw [hW];exact zAi rfl rfl rfl ⟨by kernel_rfl,rfl,rfl,trivial⟩
  |false=>
   rw [if_neg (by rw [hpin];decide)] at hWk;have hW:=hWk;refine aP ?_;refine zAg (zMk m.ws k w hk r now) [(1000001,1000001)] rfl ⟨rfl,trivial⟩ rfl (aP ?_);rw [hW];exact zAi rfl rfl rfl ⟨by kernel_rfl,rfl,rfl,trivial⟩
theorem z5b:∀ (l:List EvA),okRows 11 (l.map zAt)=true
 | []=>rfl
 |_::r=>z5b r
def zPs (w:WA):WA:=⟨w.todo,w.ended+1,0,false,false,0,0,(0,zP)⟩
def zJk (m:MS) (k:Nat) (w:WA) (now:Int):MS:={m with
 ws:=m.ws.set k (zPs w)
 h:=endH (if w.pinned=true then zKt m.h k else m.h) k
 lat:=if w.asked=true then zYe m.lat w.op.2.1 (zNt (latM m w.op.2.1) k) else m.lat
 ev:=m.ev++[⟨k,w.op,w.res,w.began,w.done,now⟩]}
set_option maxRecDepth 20000 in
set_option maxHeartbeats 16000000 in
theorem z9s (m:MS) (k:Nat) (w:WA) (now:Int) (hk:m.ws[k]?=some w) (hb:w.ended<w.todo.length) (hm:w.todo.length<=1000) (he:m.ev.length<=100000) (oh:HOk m.h) (hk4:k<4) (hc:isCl m.h k=true) (hp:w.pinned=false) (ha:w.asked=false):
  zAx Tryz.prog 85 [.ptr 1000000 0 0,.d (.int .i64 k),.ptr 1000001 k 0,.d (.int .i64 now)] (mH m) (mH (zJk m k w now)) (.tup []):=by
 obtain ⟨ins,hend⟩:=zJx m.h oh k hk4 hc;have hg:=zEm hk
 have hme:(m.ev.map zAt).length=m.ev.length:=List.length_map ..
 refine zAr Tryz.func85 4 rfl (by kernel_rfl) (by rfl) (aP ?_);refine zGw (zWm m.ws k w hk hb) [(1000001,1000001)] rfl rfl ⟨rfl,trivial⟩ rfl (aP ?_);refine zAc hg (aP ?_);rw [hp];refine aP ?_;refine zAc hg (aP ?_);rw [ha];refine aP ?_;refine zAa hend (aP ?_);refine zAc hg (aP ?_);refine zAc hg (aP ?_);refine zAc hg (aP ?_);refine zAk 1000000 1000 (by show (m.ev.map zAt).length+1<=1000000;omega) (by decide) (by decide) (by decide) (aP ?_);refine zAc hg (aP ?_);refine zAc hg (aP ?_);refine zAc hg (aP ?_)
 have em:zJk m k w now={m with ws:=m.ws.set k (zPs w),h:=endH m.h k,lat:=m.lat,ev:=m.ev++[⟨k,w.op,w.res,w.began,w.done,now⟩]}:=by
  rw [zJk,hp,ha];rfl
 rw [em];exact zAi rfl rfl rfl ⟨by kernel_rfl,rowE (zTd (zPs w)),rowE (by rw [List.map_append];rfl),trivial⟩
set_option maxRecDepth 20000 in
set_option maxHeartbeats 16000000 in
theorem z9r (m:MS) (k:Nat) (w:WA) (now:Int) (hk:m.ws[k]?=some w) (hb:w.ended<w.todo.length) (hm:w.todo.length<=1000) (he:m.ev.length<=100000) (oh:HOk m.h) (hk4:k<4) (hc:isCl m.h k=true) (hp:w.pinned=false) (ha:w.asked=true) (h17:m.lat.length=17) (hi2:0<=w.op.2.1) (hi17:w.op.2.1.toNat<17) (ol:LOk (lg m.lat w.op.2.1.toNat)) (hhs:k∈(lg m.lat w.op.2.1.toNat).hs):
  zAx Tryz.prog 85 [.ptr 1000000 0 0,.d (.int .i64 k),.ptr 1000001 k 0,.d (.int .i64 now)] (mH m) (mH (zJk m k w now)) (.tup []):=by
 obtain ⟨ins,hend⟩:=zJx m.h oh k hk4 hc;obtain ⟨ins2,hdrop⟩:=zSw (lg m.lat w.op.2.1.toNat) ol k hhs;have hg:=zEm hk
 have hme:(m.ev.map zAt).length=m.ev.length:=List.length_map ..
 refine zAr Tryz.func85 4 rfl (by kernel_rfl) (by rfl) (aP ?_);refine zGw (zWm m.ws k w hk hb) [(1000001,1000001)] rfl rfl ⟨rfl,trivial⟩ rfl (aP ?_);refine zAc hg (aP ?_);rw [hp];refine aP ?_;refine zAc hg (aP ?_);rw [ha];refine aP ?_;refine zBq hi2 (by omega) (aP ?_);refine zPp (m:=m) hi17 (by show 0+13+w.op.2.1.toNat*3=_;omega) rfl (aP ?_);refine zAa hdrop (aP ?_);refine zBq hi2 (by omega) (aP ?_);refine zW (m:=m) (x:=zNt (lg m.lat w.op.2.1.toNat) k) hi17 h17 (by show 0+13+w.op.2.1.toNat*3=_;omega) rfl rfl (aP ?_);refine zAa hend (aP ?_);refine zAc hg (aP ?_);refine zAc hg (aP ?_);refine zAc hg (aP ?_);refine zAk 1000000 1000 (by show (m.ev.map zAt).length+1<=1000000;omega) (by decide) (by decide) (by decide) (aP ?_);refine zAc hg (aP ?_);refine zAc hg (aP ?_);refine zAc hg (aP ?_)
 have em:zJk m k w now={m with ws:=m.ws.set k (zPs w),h:=endH m.h k,lat:=m.lat.set w.op.2.1.toNat (zNt (lg m.lat w.op.2.1.toNat) k),ev:=m.ev++[⟨k,w.op,w.res,w.began,w.done,now⟩]}:=by
  rw [zJk,hp,ha];rfl
 rw [em];exact zAi rfl rfl rfl ⟨by kernel_rfl,rowE (zTd (zPs w)),rowE (by rw [List.map_append];rfl),trivial⟩
set_option maxRecDepth 20000 in
set_option maxHeartbeats 16000000 in
theorem z9u (m:MS) (k:Nat) (w:WA) (now:Int) (hk:m.ws[k]?=some w) (hb:w.ended<w.todo.length) (hm:w.todo.length<=1000) (he:m.ev.length<=100000) (oh:HOk m.h) (hk4:k<4) (hc:isCl m.h k=true) (hp:w.pinned=true) (ha:w.asked=false) (hh:zFv m.h k=true):
  zAx Tryz.prog 85 [.ptr 1000000 0 0,.d (.int .i64 k),.ptr 1000001 k 0,.d (.int .i64 now)] (mH m) (mH (zJk m k w now)) (.tup []):=by
 have hup:=zOl m.h oh k hc hh;obtain ⟨ins,hend⟩:=zJx (zKt m.h k) (zVq oh k) k hk4 ((zPk m.h k k false).trans hc);have hg:=zEm hk
 have hme:(m.ev.map zAt).length=m.ev.length:=List.length_map ..
 refine zAr Tryz.func85 4 rfl (by kernel_rfl) (by rfl) (aP ?_);refine zGw (zWm m.ws k w hk hb) [(1000001,1000001)] rfl rfl ⟨rfl,trivial⟩ rfl (aP ?_);refine zAc hg (aP ?_);rw [hp];refine aP ?_;refine zAa hup (aP ?_);refine zAc hg (aP ?_);rw [ha];refine aP ?_;refine zAa hend (aP ?_);refine zAc hg (aP ?_);refine zAc hg (aP ?_);refine zAc hg (aP ?_);refine zAk 1000000 1000 (by show (m.ev.map zAt).length+1<=1000000;omega) (by decide) (by decide) (by decide) (aP ?_);refine zAc hg (aP ?_);refine zAc hg (aP ?_);refine zAc hg (aP ?_)
 have em:zJk m k w now={m with ws:=m.ws.set k (zPs w),h:=endH (zKt m.h k) k,lat:=m.lat,ev:=m.ev++[⟨k,w.op,w.res,w.began,w.done,now⟩]}:=by
  rw [zJk,hp,ha];rfl
 rw [em];exact zAi rfl rfl rfl ⟨by kernel_rfl,rowE (zTd (zPs w)),rowE (by rw [List.map_append];rfl),trivial⟩
set_option maxRecDepth 20000 in
set_option maxHeartbeats 16000000 in
theorem z9t (m:MS) (k:Nat) (w:WA) (now:Int) (hk:m.ws[k]?=some w) (hb:w.ended<w.todo.length) (hm:w.todo.length<=1000) (he:m.ev.length<=100000) (oh:HOk m.h) (hk4:k<4) (hc:isCl m.h k=true) (hp:w.pinned=true) (ha:w.asked=true) (hh:zFv m.h k=true) (h17:m.lat.length=17) (hi2:0<=w.op.2.1) (hi17:w.op.2.1.toNat<17) (ol:LOk (lg m.lat w.op.2.1.toNat)) (hhs:k∈(lg m.lat w.op.2.1.toNat).hs):
  zAx Tryz.prog 85 [.ptr 1000000 0 0,.d (.int .i64 k),.ptr 1000001 k 0,.d (.int .i64 now)] (mH m) (mH (zJk m k w now)) (.tup []):=by
 have hup:=zOl m.h oh k hc hh;obtain ⟨ins,hend⟩:=zJx (zKt m.h k) (zVq oh k) k hk4 ((zPk m.h k k false).trans hc);obtain ⟨ins2,hdrop⟩:=zSw (lg m.lat w.op.2.1.toNat) ol k hhs;have hg:=zEm hk
 have hme:(m.ev.map zAt).length=m.ev.length:=List.length_map ..
 refine zAr Tryz.func85 4 rfl (by kernel_rfl) (by rfl) (aP ?_);refine zGw (zWm m.ws k w hk hb) [(1000001,1000001)] rfl rfl ⟨rfl,trivial⟩ rfl (aP ?_);refine zAc hg (aP ?_);rw [hp];refine aP ?_;refine zAa hup (aP ?_);refine zAc hg (aP ?_);rw [ha];refine aP ?_;refine zBq hi2 (by omega) (aP ?_);refine zPp (m:={m with h:=zKt m.h k}) hi17 (by show 0+13+w.op.2.1.toNat*3=_;omega) rfl (aP ?_);refine zAa hdrop (aP ?_);refine zBq hi2 (by omega) (aP ?_);refine zW (m:={m with h:=zKt m.h k}) (x:=zNt (lg m.lat w.op.2.1.toNat) k) hi17 h17 (by show 0+13+w.op.2.1.toNat*3=_;omega) rfl rfl (aP ?_);refine zAa hend (aP ?_);refine zAc hg (aP ?_);refine zAc hg (aP ?_);refine zAc hg (aP ?_);refine zAk 1000000 1000 (by show (m.ev.map zAt).length+1<=1000000;omega) (by decide) (by decide) (by decide) (aP ?_);refine zAc hg (aP ?_);refine zAc hg (aP ?_);refine zAc hg (aP ?_)
 have em:zJk m k w now={m with ws:=m.ws.set k (zPs w),h:=endH (zKt m.h k) k,lat:=m.lat.set w.op.2.1.toNat (zNt (lg m.lat w.op.2.1.toNat) k),ev:=m.ev++[⟨k,w.op,w.res,w.began,w.done,now⟩]}:=by
  rw [zJk,hp,ha];rfl
 rw [em];exact zAi rfl rfl rfl ⟨by kernel_rfl,rowE (zTd (zPs w)),rowE (by rw [List.map_append];rfl),trivial⟩
def zGn (m:MS):MS:={m with clk:=m.clk+1}
theorem z0a (m:MS) (k:Int) (hn:¬(0<=k/\k<m.ws.length)):zAx Tryz.prog 34 [.ptr 1000000 0 0,.d (.int .i64 k)] (mH m) (mH m) (.bool false):=by
 have hi:=zCl m k
 have e:(decide (0<=k)&&decide (k<m.ws.length))=false:=by
  rw [Bool.eq_false_iff];simpa using fun h=>by omega
 rw [e] at hi;refine zAr Tryz.func34 2 rfl (by kernel_rfl) (by rfl) (aP ?_);refine zAg hi nm3 rfl ⟨rfl,rfl,rfl,trivial⟩ rfl (aP ?_);exact zAi rfl rfl rfl ⟨rfl,rfl,rfl,trivial⟩
set_option maxRecDepth 20000 in
set_option maxHeartbeats 16000000 in
theorem yFd (m m':MS) (k:Nat) (w:WA) (b:Bool) (hk:m.ws[k]?=some w) (hs:w.st=0) (hc0:-1000000<=m.clk) (hc1:m.clk<=1000000)
  (H:zAx Tryz.prog 80 [.ptr 1000000 0 0,.d (.int .i64 k),.ptr 1000001 k 0,.d (.int .i64 m.clk)] (mH (zGn m)) (mH m') (.bool b)):
  zAx Tryz.prog 34 [.ptr 1000000 0 0,.d (.int .i64 k)] (mH m) (mH m') (.bool b):=by
 have hi:=zCl m k
 have e:(decide (0<= (k:Int))&&decide ((k:Int)<m.ws.length))=true:=by
  have:=(List.getElem?_eq_some_iff.1 hk).1
  simp;omega
 rw [e] at hi;have hg:=zEm hk;have hlt:=zQr hk;refine zAr Tryz.func34 2 rfl (by kernel_rfl) (by rfl) (aP ?_);refine zAg hi nm3 rfl ⟨rfl,rfl,rfl,trivial⟩ rfl (aP ?_);refine zAd (by omega) (aP ?_);refine zAc hg (aP ?_);refine zAg H nm3 rfl ⟨by kernel_rfl,rfl,rfl,trivial⟩ rfl (aP ?_);exact zAi rfl rfl rfl ⟨rfl,rfl,rfl,trivial⟩
set_option maxRecDepth 20000 in
set_option maxHeartbeats 16000000 in
theorem z3h (m m':MS) (k:Nat) (w:WA) (b:Bool) (hk:m.ws[k]?=some w) (hs:w.st=1) (hc0:-1000000<=m.clk) (hc1:m.clk<=1000000)
  (H:zAx Tryz.prog 81 [.ptr 1000000 0 0,.d (.int .i64 k),.ptr 1000001 k 0,.d (.int .i64 m.clk)] (mH (zGn m)) (mH m') (.bool b)):
  zAx Tryz.prog 34 [.ptr 1000000 0 0,.d (.int .i64 k)] (mH m) (mH m') (.bool b):=by
 have hi:=zCl m k
 have e:(decide (0<= (k:Int))&&decide ((k:Int)<m.ws.length))=true:=by
  have:=(List.getElem?_eq_some_iff.1 hk).1
  simp;omega
 rw [e] at hi;have hg:=zEm hk;have hlt:=zQr hk;refine zAr Tryz.func34 2 rfl (by kernel_rfl) (by rfl) (aP ?_);refine zAg hi nm3 rfl ⟨rfl,rfl,rfl,trivial⟩ rfl (aP ?_);refine zAd (by omega) (aP ?_);refine zAc hg (aP ?_);refine zAg H nm3 rfl ⟨by kernel_rfl,rfl,rfl,trivial⟩ rfl (aP ?_);exact zAi rfl rfl rfl ⟨rfl,rfl,rfl,trivial⟩
set_option maxRecDepth 20000 in
set_option maxHeartbeats 16000000 in
theorem yFe (m m':MS) (k:Nat) (w:WA) (b:Bool) (hk:m.ws[k]?=some w) (hs:w.st=2) (hc0:-1000000<=m.clk) (hc1:m.clk<=1000000)
  (H:zAx Tryz.prog 82 [.ptr 1000000 0 0,.d (.int .i64 k),.ptr 1000001 k 0] (mH (zGn m)) (mH m') (.bool b)):
  zAx Tryz.prog 34 [.ptr 1000000 0 0,.d (.int .i64 k)] (mH m) (mH m') (.bool b):=by
 have hi:=zCl m k
 have e:(decide (0<= (k:Int))&&decide ((k:Int)<m.ws.length))=true:=by
  have:=(List.getElem?_eq_some_iff.1 hk).1
  simp;omega
 rw [e] at hi;have hg:=zEm hk;have hlt:=zQr hk;refine zAr Tryz.func34 2 rfl (by kernel_rfl) (by rfl) (aP ?_);refine zAg hi nm3 rfl ⟨rfl,rfl,rfl,trivial⟩ rfl (aP ?_);refine zAd (by omega) (aP ?_);refine zAc hg (aP ?_);refine zAg H nm3 rfl ⟨by kernel_rfl,rfl,rfl,trivial⟩ rfl (aP ?_);exact zAi rfl rfl rfl ⟨rfl,rfl,rfl,trivial⟩
set_option maxRecDepth 20000 in
set_option maxHeartbeats 16000000 in
theorem z3i (m m':MS) (k:Nat) (w:WA) (b:Bool) (hk:m.ws[k]?=some w) (hs:w.st=3) (hc0:-1000000<=m.clk) (hc1:m.clk<=1000000)
  (H:zAx Tryz.prog 83 [.ptr 1000000 0 0,.d (.int .i64 k),.ptr 1000001 k 0] (mH (zGn m)) (mH m') (.bool b)):
  zAx Tryz.prog 34 [.ptr 1000000 0 0,.d (.int .i64 k)] (mH m) (mH m') (.bool b):=by
 have hi:=zCl m k
 have e:(decide (0<= (k:Int))&&decide ((k:Int)<m.ws.length))=true:=by
  have:=(List.getElem?_eq_some_iff.1 hk).1
  simp;omega
 rw [e] at hi;have hg:=zEm hk;have hlt:=zQr hk;refine zAr Tryz.func34 2 rfl (by kernel_rfl) (by rfl) (aP ?_);refine zAg hi nm3 rfl ⟨rfl,rfl,rfl,trivial⟩ rfl (aP ?_);refine zAd (by omega) (aP ?_);refine zAc hg (aP ?_);refine zAg H nm3 rfl ⟨by kernel_rfl,rfl,rfl,trivial⟩ rfl (aP ?_);exact zAi rfl rfl rfl ⟨rfl,rfl,rfl,trivial⟩
set_option maxRecDepth 20000 in
set_option maxHeartbeats 16000000 in
theorem yS (m m':MS) (k:Nat) (w:WA) (hk:m.ws[k]?=some w) (hs:w.st=5) (hc0:-1000000<=m.clk) (hc1:m.clk<=1000000)
  (H:zAx Tryz.prog 84 [.ptr 1000000 0 0,.ptr 1000001 k 0,.d (.int .i64 m.clk)] (mH (zGn m)) (mH m') (.tup [])):
  zAx Tryz.prog 34 [.ptr 1000000 0 0,.d (.int .i64 k)] (mH m) (mH m') (.bool true):=by
 have hi:=zCl m k
 have e:(decide (0<= (k:Int))&&decide ((k:Int)<m.ws.length))=true:=by
  have:=(List.getElem?_eq_some_iff.1 hk).1
  simp;omega
 rw [e] at hi;have hg:=zEm hk;have hlt:=zQr hk;refine zAr Tryz.func34 2 rfl (by kernel_rfl) (by rfl) (aP ?_);refine zAg hi nm3 rfl ⟨rfl,rfl,rfl,trivial⟩ rfl (aP ?_);refine zAd (by omega) (aP ?_);refine zAc hg (aP ?_);refine zAg H nm3 rfl ⟨by kernel_rfl,rfl,rfl,trivial⟩ rfl (aP ?_);exact zAi rfl rfl rfl ⟨rfl,rfl,rfl,trivial⟩
set_option maxRecDepth 20000 in
set_option maxHeartbeats 16000000 in
theorem ySa (m m':MS) (k:Nat) (w:WA) (hk:m.ws[k]?=some w) (hs:w.st=6) (hc0:-1000000<=m.clk) (hc1:m.clk<=1000000)
  (H:zAx Tryz.prog 85 [.ptr 1000000 0 0,.d (.int .i64 k),.ptr 1000001 k 0,.d (.int .i64 m.clk)] (mH (zGn m)) (mH m') (.tup [])):
  zAx Tryz.prog 34 [.ptr 1000000 0 0,.d (.int .i64 k)] (mH m) (mH m') (.bool true):=by
 have hi:=zCl m k
 have e:(decide (0<= (k:Int))&&decide ((k:Int)<m.ws.length))=true:=by
  have:=(List.getElem?_eq_some_iff.1 hk).1
  simp;omega
 rw [e] at hi;have hg:=zEm hk;have hlt:=zQr hk;refine zAr Tryz.func34 2 rfl (by kernel_rfl) (by rfl) (aP ?_);refine zAg hi nm3 rfl ⟨rfl,rfl,rfl,trivial⟩ rfl (aP ?_);refine zAd (by omega) (aP ?_);refine zAc hg (aP ?_);refine zAg H nm3 rfl ⟨by kernel_rfl,rfl,rfl,trivial⟩ rfl (aP ?_);exact zAi rfl rfl rfl ⟨rfl,rfl,rfl,trivial⟩
set_option maxRecDepth 20000 in
set_option maxHeartbeats 16000000 in
theorem yRz (m:MS) (k:Nat) (w:WA) (hk:m.ws[k]?=some w) (hs:w.st=4) (hc0:-1000000<=m.clk) (hc1:m.clk<=1000000):
  zAx Tryz.prog 34 [.ptr 1000000 0 0,.d (.int .i64 k)] (mH m) (mH (zGn m)) (.bool false):=by
 have hi:=zCl m k
 have e:(decide (0<= (k:Int))&&decide ((k:Int)<m.ws.length))=true:=by
  have:=(List.getElem?_eq_some_iff.1 hk).1
  simp;omega
 rw [e] at hi;have hg:=zEm hk;have hlt:=zQr hk;refine zAr Tryz.func34 2 rfl (by kernel_rfl) (by rfl) (aP ?_);refine zAg hi nm3 rfl ⟨rfl,rfl,rfl,trivial⟩ rfl (aP ?_);refine zAd (by omega) (aP ?_);refine zAc hg (aP ?_);exact zAi rfl rfl rfl ⟨by kernel_rfl,rfl,rfl,trivial⟩
end Go.Lk
