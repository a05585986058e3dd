/-
  What is proved here: what functions of the program compute, and what follows; no condition beyond each theorem's own.
-/
import Derived.Test.YtaofmndhdmkgkaaGreatIAn
import Derived.Test.YtaofmndhdmkgkaaGreatIBd
set_option linter.unusedSimpArgs false
set_option linter.unusedVariables false
set_option linter.unnecessarySimpa false
set_option linter.unusedSectionVars false
namespace Go.Lk
open Go Go.Proofs Go.RowKit
theorem okRows_sub {sz:Nat} {l:List (List D)} (h:okRows sz l=true) (n m:Nat):okRows sz ((l.drop n).take m)=true:=by
 simp only [okRows,List.all_eq_true] at h⊢;intro x hx;exact h x (List.mem_of_mem_drop (List.mem_of_mem_take hx))
theorem okRows_drop {sz:Nat} {l:List (List D)} (h:okRows sz l=true) (n:Nat):okRows sz (l.drop n)=true:=by
 simp only [okRows,List.all_eq_true] at h⊢;intro x hx;exact h x (List.mem_of_mem_drop hx)
theorem okRows_take {sz:Nat} {l:List (List D)} (h:okRows sz l=true) (n:Nat):okRows sz (l.take n)=true:=by
 simp only [okRows,List.all_eq_true] at h⊢;intro x hx;exact h x (List.mem_of_mem_take hx)
theorem ins_grow {α:Type} {A Z V B X Y:List α} {i m n:Nat} (hA:A.length=i) (hV:V.length=m) (hB:B.length=n-i) (hi:i<=n) (k:Nat) (hk:k=n+m):
  (((A++Z).take i++(V++X)).take (i+m)++(B++Y)).take k=A++(V++B):=by
 have h1:(A++Z).take i=A:=List.take_left' hA
 have h2:(A++(V++X)).take (i+m)=A++V:=by rw [<-List.append_assoc];exact List.take_left' (by simp [hA,hV])
 rw [h1,h2]
 have h3:(A++V++(B++Y))=(A++(V++B))++Y:=by simp
 rw [h3];exact List.take_left' (by simp [hA,hV,hB,hk];omega)
theorem ins_in {α:Type} {R V B Y:List α} {i m n:Nat} (hR:n+m<=R.length) (hV:V.length=m) (hB:B.length=n-i) (hi:i<=n) (k:Nat) (hk:k=n+m):
  ((R.take (i+m)++(B++Y)).take i++(V++(R.take (i+m)++(B++Y)).drop (i+m))).take k=R.take i++(V++B):=by
 have h1:(R.take (i+m)).length=i+m:=by rw [List.length_take];omega
 have h2:(R.take i).length=i:=by rw [List.length_take];omega
 have h3:(R.take (i+m)++(B++Y)).take i=R.take i:=by rw [List.take_append_of_le_length (by omega),List.take_take,Nat.min_eq_left (by omega)]
 have h4:(R.take (i+m)++(B++Y)).drop (i+m)=B++Y:=List.drop_left' h1;rw [h3,h4]
 have h5:R.take i++(V++(B++Y))=(R.take i++(V++B))++Y:=by simp
 rw [h5];exact List.take_left' (by simp [h2,hV,hB,hk];omega)
theorem yEh {l vs:List (List D)} {i:Nat} (hi:i<=l.length) (hl:l.length<=1000000) (hv0:0<vs.length) (hv:vs.length<=1000) (hok:okRows 1 l=true) (hp:okRows 1 vs=true):
  zWo Tryz.prog 263 l 1 [.d (.int .i64 i),.own 1000000] [(1000000,.row vs 1 false)] [(1000000,.row vs 1 false)] (l.take i++(vs++l.drop i)):=by
 refine zJs Tryz.func263 3 rfl (by kernel_rfl) (by rfl) ?_;refine ⟨fun cap hcap=>?_,fun h0=>?_⟩
 ·obtain ⟨R,hR⟩:∃ R,R=l++List.replicate (cap-l.length) (List.replicate 1 D.unk):=⟨_,rfl⟩
  have hRl:R.length=cap:=by rw [hR];simp;omega
  have hRt:R.take l.length=l:=by rw [hR];simp
  have hRi:R.take i=l.take i:=by rw [hR,List.take_append_of_le_length hi]
  rw [<-hR]
  conv=>whnf
  refine zCv (by omega) hcap (aW ?_)
  refine bcase_p (fun hm0=>?_) (fun hm0=>?_)<;>conv=>whnf
  ·omega
  refine aA ?_
  refine bcase_p (fun hin=>?_) (fun hin=>?_)<;>conv=>whnf
  ·have hin':i=l.length:=by omega
   subst hin';refine aA ?_;refine zAg hp (w0 ?_);refine ⟨fun hf=>?_,fun hf=>?_⟩
   ·conv=>whnf
    refine zAg (by omega) (w0 ?_);refine zCs rfl rfl rfl ?_ ?_ rfl ⟨rfl,trivial⟩
    ·simp;omega
    ·rw [Nat.zero_add,hRt,<-List.append_assoc];rw [List.take_append_of_le_length (by simp)];rw [List.take_of_length_le (by simp)];simp
   ·conv=>whnf
    refine zAg (by omega) (w0 ?_);refine zJo (Nat.le_trans (Nat.mul_le_mul_right _ (by show l.length+vs.length<=1001000;omega)) (by decide)) (by omega) (w0 ?_);refine zCs rfl rfl rfl ?_ ?_ rfl ⟨rfl,trivial⟩
    ·simp [hRl];omega
    ·rw [List.drop_zero,hRt];rw [List.take_of_length_le (by simp)];simp
  ·have hilt:i<l.length:=by omega
   refine aA ?_
   refine bcase_p (fun hcp=>?_) (fun hcp=>?_)<;>conv=>whnf
   ·refine zHi (by simp;omega) (aW ?_)
    have eN:((l.length:Nat):Int)+((vs.length:Nat):Int)-(i:Int)=((l.length+vs.length-i:Nat):Int):=by omega
    rw [eN];simp only [Int.toNat_natCast,Nat.sub_zero,Nat.zero_add];refine zJo (Nat.le_trans (Nat.mul_le_mul_right _ (by show i+(l.length+vs.length-i) <=1001000;omega)) (by decide)) (by omega) (w0 ?_);refine zCv (by omega) (by simp) (w0 ?_);have em:Nat.min vs.length (i+(l.length+vs.length-i)-i)=vs.length:=Nat.min_eq_left (by omega);rw [em,List.take_length];refine zAg ⟨by simp;omega,hp⟩ (aW ?_);refine zCv (by omega) (by simp) (w0 ?_);refine zCv (by omega) hcap (w0 ?_);refine zAg (by omega) (w0 ?_)
    have es:List.take (l.length-i) (List.drop (0+i) R)=l.drop i:=by rw [Nat.zero_add,<-List.drop_take,hRt]
    rw [es];have em2:Nat.min (l.drop i).length (i+(l.length+vs.length-i)-(i+vs.length))=(l.drop i).length:=Nat.min_eq_left (by rw [List.length_drop];omega);rw [em2,List.take_length];refine zAg ⟨by simp;omega,okRows_drop hok i⟩ (aW ?_);refine zCs rfl rfl rfl ?_ ?_ rfl ⟨rfl,trivial⟩
    ·simp;omega
    ·have e0:(R.take i).length=i:=by rw [List.length_take];omega
     have e1:(l.take i).length=i:=by rw [List.length_take];omega
     have e2:(l.drop i).length=l.length-i:=List.length_drop ..
     simp only [List.drop_zero,Nat.zero_add,hRi];exact ins_grow e1 rfl e2 hi _ (by omega)
   ·refine aA ?_;refine zHi (by show l.length+vs.length<=cap;omega) (aW ?_);refine zCv (by omega) (by show l.length+vs.length-0<=cap-0;omega) (w0 ?_);refine z2p (zMn (t:=25) (tR:=4) zWy Tryz.func285 (by kernel_rfl) (by kernel_rfl) (by kernel_rfl) (by kernel_rfl) rfl rfl rfl (by decide) (by intro e;rw [e] at hv0;exact absurd hv0 (by decide)) (by omega) (by decide)) (aW ?_);refine zCv (by omega) (by show l.length+vs.length-0<=cap-0;omega) (w0 ?_);refine zCv (by omega) (by show l.length+vs.length-0<=cap-0;omega) (w0 ?_);refine zAg (by omega) (w0 ?_)
    have es:(List.take (l.length+vs.length-0-i) (List.drop (0+0+i) R)).length=l.length+vs.length-i:=by rw [List.length_take,List.length_drop];omega
    have em:Nat.min (List.take (l.length+vs.length-0-i) (List.drop (0+0+i) R)).length (l.length+vs.length-0-(i+vs.length))=l.length-i:=by rw [es];exact (Nat.min_eq_right (by omega)).trans (by omega)
    rw [em]
    have es2:List.take (l.length-i) (List.take (l.length+vs.length-0-i) (List.drop (0+0+i) R))=l.drop i:=by
     rw [List.take_take,Nat.min_eq_left (by omega),show 0+0+i=i by omega,<-List.drop_take,hRt]
    rw [es2];refine zAg ⟨by omega,okRows_drop hok i⟩ (aW ?_);refine zCv (by omega) (by show l.length+vs.length-0<=cap-0;omega) (w0 ?_);have em3:Nat.min vs.length (l.length+vs.length-0-i)=vs.length:=Nat.min_eq_left (by omega);rw [em3,List.take_length];refine zAg ⟨by simp;omega,hp⟩ (aW ?_);refine zCs rfl rfl rfl ?_ ?_ rfl ⟨rfl,trivial⟩
    ·simp;omega
    ·have e0:(0:Nat)+0+i=i:=by omega
     have e1:(0:Nat)+0+(i+vs.length)=i+vs.length:=by omega
     have e2:(l.drop i).length=l.length-i:=List.length_drop ..
     rw [e0,e1,<-hRi];exact ins_in (n:=l.length) (by omega) rfl e2 hi _ (by omega)
 ·conv=>whnf
  refine zD (by rw [h0] at hi;exact hi) (w0 ?_)
  have hi0:i=0:=by rw [h0] at hi;simpa using hi
  subst hi0;refine aA ?_
  refine bcase_p (fun hm0=>?_) (fun hm0=>?_)<;>conv=>whnf
  ·omega
  refine aA ?_;refine zAg hp (w0 ?_);refine zJo (Nat.le_trans (Nat.mul_le_mul_right _ (by show vs.length<=1001000;omega)) (by decide)) (by omega) (w0 ?_);subst h0;refine yDl rfl rfl ?_ rfl ⟨rfl,trivial⟩;show some (Blk.row vs 1 false)=some (Blk.row ([].take 0++(vs++[].drop 0)) 1 false);simp
def posN (w:Nat) (l:List Nat):Nat:=(l.takeWhile fun x=>decide (x<w)).length
theorem pos_lt {w:Nat}:∀ {l:List Nat} {i:Nat},i<=l.length->(∀ j (hj:j<i) (hl:j<l.length),l[j]<w)->(∀ (hl:i<l.length),¬l[i]<w)->posN w l=i
 | [],i,hi,_,_=>by simp at hi;subst hi;rfl
 |x::r,0,_,_,h=>by
  have:=h (Nat.zero_lt_succ _)
  rw [posN,List.takeWhile_cons,decide_eq_false (by simpa using this)];rfl
 |x::r,i+1,hi,h1,h2=>by
  have hx:x<w:=h1 0 (Nat.succ_pos _) (Nat.zero_lt_succ _);rw [posN,List.takeWhile_cons,decide_eq_true hx];show (List.takeWhile _ r).length+1=_
  congr 1
  refine pos_lt (by simpa using hi) (fun j hj hl=>?_) fun hl=>?_
  ·have:=h1 (j+1) (by omega) (by simpa using hl);simpa using this
  ·have:=h2 (by simpa using hl);simpa using this
theorem yTm (w:Nat) (l:List Nat):insN w l=l.take (posN w l)++w::l.drop (posN w l):=by
 have e:l.takeWhile (fun x=>decide (x<w))++l.dropWhile (fun x=>decide (x<w))=l:=List.takeWhile_append_dropWhile
 have h1:l.take (posN w l)=l.takeWhile fun x=>decide (x<w):=by
  have:=List.take_left' (l₁:=l.takeWhile fun x=>decide (x<w)) (l₂:=l.dropWhile fun x=>decide (x<w)) rfl
  rw [e] at this;exact this
 have h2:l.drop (posN w l)=l.dropWhile fun x=>decide (x<w):=by
  have:=List.drop_left' (l₁:=l.takeWhile fun x=>decide (x<w)) (l₂:=l.dropWhile fun x=>decide (x<w)) rfl
  rw [e] at this;exact this
 rw [h1,h2];rfl
structure BinI (w:Nat) (l:List Nat) (s:Nat×Nat):Prop where
 le:s.1<=s.2
 n:s.2<=l.length
 lo:∀ j (hj:j<s.1) (hl:j<l.length),l[j]<w
 hi:∀ j (hj:s.2<=j) (hl:j<l.length),w<l[j]
theorem wu64 {n:Int} (h0:0<=n) (h1:n<=9223372036854775807):IntKind.u64.wrap n=n:=by
 rw [IntKind.wrap_u64];omega
theorem half {a b:Nat}:Int.fdiv (((a:Int)+(b:Int))) (2^(min (1:Int).toNat (IntKind.bits .u64)))=(((a+b)/2:Nat):Int):=by
 rw [show (2:Int)^(min (1:Int).toNat (IntKind.bits .u64))=2 from rfl,Int.fdiv_eq_ediv_of_nonneg _ (by decide)];omega
theorem isNaN_ok (x:Int):zAi Tryz.prog 284 [.int .i64 x] (.bool false):=by
 refine zAe Tryz.func284 1 rfl (by kernel_rfl) (aO ?_);exact ret_of rfl (by simp)
theorem yIu (x:Int):zAi Tryz.prog 189 [.int .i64 x] (.bool false):=by
 refine zAe Tryz.func189 1 rfl (by kernel_rfl) (aO ?_);exact ret_of rfl (by simp)
theorem yTu (x y:Int):zAi Tryz.prog 283 [.int .i64 x,.int .i64 y] (.bool (decide (x<y))):=by
 refine zAe Tryz.func283 2 rfl (by kernel_rfl) (aO ?_);refine zAa (yIu x) (aO ?_);exact ret_of rfl rfl
theorem yKy (w:Nat) (l:List Nat) (hu:l.Pairwise (·<·)) (hn:w∉l) (hl:l.length<=1000) (hw:w<1000):zAi Tryz.prog 262 [.lst (l.map encN),.int .i64 w] (.tup [.int .i64 (posN w l),.bool false]):=by
 have hm:(l.map encN).length=l.length:=List.length_map ..
 refine zAe Tryz.func262 2 rfl (by kernel_rfl) (aO ?_);refine zAq (ι:=Nat×Nat) (fun s=>[(0,.d (.lst (l.map encN))),(1,.d (.int .i64 w)),(6,.d (.int .i64 (l.map encN).length)),(7,.d (.int .i64 s.1)),(8,.d (.int .i64 s.2))]) (fun _=>[])
  (BinI w l) (fun s=>s.2-s.1) (0,l.length) ⟨Nat.zero_le _,Nat.le_refl _,fun j hj _=>absurd hj (Nat.not_lt_zero _),fun j hj hl=>absurd hj (by dsimp only;omega)⟩ (le0 (zAb ⟨rfl,rfl,rfl,rfl,by rw [<-hm];rfl,trivial⟩ trivial ⟨rfl,rfl,rfl,rfl⟩)) ?_
 rintro ⟨i,j⟩ ⟨h1,h2,h3,h4⟩;simp only [] at h1 h2 h3 h4⊢
 conv=>whnf
 refine bcase_p (fun h5=>?_) (fun h5=>?_)<;>conv=>whnf
 ·refine aO ?_;refine zCd (wu64 (by omega) (by omega)) (aO ?_);rw [half];refine aO ?_
  have hh1:(i+j)/2<l.length:=by omega
  refine zAd (by omega) (w0 ?_);refine zAc (x:=encN l[(i+j)/2]) (by simp [hh1]) (aO ?_);refine zAa (yTu _ _) (w0 ?_)
  have hne:l[(i+j)/2]≠w:=fun e=>hn (e▸List.getElem_mem hh1)
  refine bcase_p (fun h6=>?_) (fun h6=>?_)<;>conv=>whnf
  ·refine aO ?_;refine ⟨((i+j)/2+1,j),⟨by dsimp only;omega,h2,fun k hk hkl=>?_,h4⟩,by dsimp only;omega,(le0 (zAb ⟨rfl,rfl,rfl,rfl,rfl,trivial⟩ trivial ⟨rfl,rfl,rfl,rfl⟩))⟩;dsimp only at hk;have:=List.pairwise_iff_getElem.1 hu k ((i+j)/2) hkl hh1
   rcases Nat.lt_or_ge k ((i+j)/2) with g|g
   ·have:=this g;omega
   ·have:k=(i+j)/2:=by omega
    subst this;omega
  ·refine aO ?_;refine ⟨(i,(i+j)/2),⟨by dsimp only;omega,by dsimp only;omega,h3,fun k hk hkl=>?_⟩,by dsimp only;omega,(le0 (zAb ⟨rfl,rfl,rfl,rfl,rfl,trivial⟩ trivial ⟨rfl,rfl,rfl,rfl⟩))⟩;dsimp only at hk;have:=List.pairwise_iff_getElem.1 hu ((i+j)/2) k hh1 hkl
   rcases Nat.lt_or_ge ((i+j)/2) k with g|g
   ·have:=this g;omega
   ·have:k=(i+j)/2:=by omega
    subst this;omega
 ·have hij:i=j:=by omega
  subst hij
  have hp:=pos_lt (w:=w) h2 (fun k hk hkl=>h3 k hk hkl) fun hl=>by have:=h4 i (Nat.le_refl _) hl;omega
  rw [hp];refine aO ?_
  refine bcase_p (fun h6=>?_) (fun h6=>?_)<;>conv=>whnf
  ·have hil:i<l.length:=by omega
   have:=h4 i (Nat.le_refl _) hil;refine aO ?_;refine zAd (by omega) (w0 ?_);refine zAc (x:=encN l[i]) (by simp [hil]) (aO ?_);refine zAd (by omega) (w0 ?_);refine zAc (x:=encN l[i]) (by simp [hil]) (aO ?_);refine zAa (isNaN_ok _) (aO ?_);exact ret_of rfl rfl
  ·refine aO ?_;exact ret_of rfl rfl
def inL:List Nat->Bool->List (Nat×Bool)->List Nat
 |_,_,[]=>[]
 |hs,ex,(w,x)::q=>if hs=[] \/ (ex=false/\x=false) then w::inL (insN w hs) (ex||x) q else []
theorem yIn:∀ (q:List (Nat×Bool)) (hs:List Nat) (ex:Bool),(inL hs ex q).length<=q.length
 | [],_,_=>Nat.le_refl _
 |(w,x)::q,hs,ex=>by
  rw [inL];split
  ·have:=yIn q (insN w hs) (ex||x)
   simp;omega
  ·exact Nat.zero_le _
structure LEn (hs0:List Nat) (ex0:Bool) (q0:List (Nat×Bool)) (s:List Nat×Bool×List (Nat×Bool)×List Nat):Prop where
 up:s.1.Pairwise (·<·)
 nd:(s.1++s.2.2.1.map (·.1)).Nodup
 lt:∀ w∈s.1++s.2.2.1.map (·.1),w<4
 len:s.1.length+s.2.2.1.length=hs0.length+q0.length
 inn:s.2.2.2.length+s.2.2.1.length=q0.length
 eq:zIm s.1 s.2.1 s.2.2.1=zIm hs0 ex0 q0
 ine:s.2.2.2++inL s.1 s.2.1 s.2.2.1=inL hs0 ex0 q0
theorem yBx {hs:List Nat} {ex x:Bool} {w:Nat} {q:List (Nat×Bool)}:z8n ⟨hs,ex,(w,x)::q⟩=true↔(hs=[] \/ (ex=false/\x=false)):=by
 rw [z8n]
 cases hs<;>cases ex<;>cases x<;>simp
theorem zOo (l:LA) (hl:l.hs.length+l.q.length<=5) (hu:l.hs.Pairwise (·<·)) (hd:(l.hs++l.q.map (·.1)).Nodup) (h4:∀ w∈l.hs++l.q.map (·.1),w<4):
  zAi Tryz.prog 201 [zWt l] (.tup [zWt (zIm l.hs l.ex l.q),.lst ((inL l.hs l.ex l.q).map encN)]):=by
 obtain ⟨hs0,ex0,q0⟩:=l;simp only [] at hl hu hd h4⊢;refine zAe Tryz.func201 1 rfl (by kernel_rfl) (aO ?_);refine zAn (z2w (zTy hs0) (by rw [List.length_map];show hs0.length<=1000000;omega)) (aO ?_);refine zAq (ι:=List Nat×Bool×List (Nat×Bool)×List Nat) (fun s=>[(1,.ptr 1 0 0),(2,.ptr 2 0 0),(4,.own 45)]) (fun s=>[(1,.box [.own 10,.d (.bool s.2.1),.d (.lst (s.2.2.1.map zC))] false),(2,.box [.nil,.d (.bool false),.nil] false),(10,.row (s.1.map encN) 1 false),(45,.row (s.2.2.2.map encN) 1 false)])
  (LEn hs0 ex0 q0) (fun s=>s.2.2.1.length) (hs0,ex0,q0,[]) ⟨hu,hd,h4,rfl,Nat.zero_add _,rfl,rfl⟩ (le1 (.row 4 45 1) ⟨rfl,rfl⟩ (zAb ⟨rfl,rfl,rfl,trivial⟩ ⟨rfl,rfl,rfl,rfl,trivial⟩ ⟨rfl,rfl,rfl,rfl⟩)) ?_
 rintro ⟨hs,ex,q,ins⟩ ⟨i1,i2,i3,i4,i5,i6,i7⟩;simp only [] at i1 i2 i3 i4 i5 i6 i7⊢;refine aO ?_;refine zAa (z0p ⟨hs,ex,q⟩) (w0 ?_)
 cases q with
 |nil=>
  rw [z8n];refine aO ?_;rw [zIm] at i6;rw [inL,List.append_nil] at i7;rw [<-i6,<-i7];exact ret_of rfl rfl
 |cons wx q=>
  obtain ⟨w,x⟩:=wx
  cases g:z8n ⟨hs,ex,(w,x)::q⟩ with
  |false=>
   have g2:¬(hs=[] \/ (ex=false/\x=false)):=fun h=>by rw [yBx.2 h] at g;cases g
   rw [zIm,if_neg g2] at i6;rw [inL,if_neg g2,List.append_nil] at i7;rw [<-i6,<-i7];refine aO ?_;exact ret_of rfl rfl
  |true=>
   have g2:=yBx.1 g;rw [zIm,if_pos g2] at i6;rw [inL,if_pos g2] at i7;have hw4:w<4:=i3 w (by simp)
   have hwn:w∉hs:=fun h=>by
    have:=(List.nodup_append.1 i2).2.2 w h w (by simp);exact this rfl
   have es:((((w,x)::q).map zC).take (((w,x)::q).map zC).length).drop 1=q.map zC:=by rw [List.take_length];rfl
   simp only [List.length_cons] at i4 i5
   have hmc:(hs.map encN).length=hs.length:=List.length_map ..
   have hmi:(ins.map encN).length=ins.length:=List.length_map ..
   have hp:posN w hs<=hs.length:=(List.takeWhile_sublist _).length_le
   have ei:(insN w hs).map encN=(hs.map encN).take (posN w hs)++([encN w]++(hs.map encN).drop (posN w hs)):=by
    rw [yTm,List.map_append,List.map_cons,List.map_take,List.map_drop];rfl
   have up':=zZz i1 hwn;have hil:=zSw w hs
   have nd':(insN w hs++q.map (·.1)).Nodup:=by
    refine List.nodup_append.2 ⟨?_,((List.nodup_append.1 i2).2.1.sublist (List.sublist_cons_self _ _)),fun a ha b hb=>?_⟩
    ·exact List.nodup_iff_pairwise_ne.2 (up'.imp fun h=>Nat.ne_of_lt h)
    ·rcases mem_insN.1 ha with rfl|h
     ·have:=(List.nodup_append.1 i2).2.1;rw [List.map_cons,List.nodup_cons] at this
      exact fun e=>this.1 (e▸hb)
     ·exact (List.nodup_append.1 i2).2.2 a h b (List.mem_cons_of_mem _ hb)
   have lt':∀ y∈insN w hs++q.map (·.1),y<4:=fun y hy=>by
    rcases List.mem_append.1 hy with h|h
    ·rcases mem_insN.1 h with rfl|h
     ·exact hw4
     ·exact i3 y (List.mem_append_left _ h)
    ·exact i3 y (List.mem_append_right _ (List.mem_cons_of_mem _ h))
   refine aO ?_;refine zAd (i:=0) (by simp) (w0 ?_);refine zAc (x:=zC (w,x)) rfl (aO ?_);refine zAg (fun e he=>zTz he) (w0 ?_);refine zD (l:=1) (by simp) (aO ?_);refine zAa (yKy w hs i1 hwn (by omega) (by omega)) (aO ?_);refine zEv (yEh (l:=hs.map encN) (vs:=[encN w]) (i:=posN w hs) (by omega) (by omega) (Nat.lt_succ_self 0) (by simp) (zTy hs) rfl) [(1000000,35)] rfl ⟨rfl,rfl,trivial⟩ rfl (aO ?_)
   refine zAf (fun gx=>?_) (fun gx=>?_)<;>conv=>whnf
   ·refine aO ?_;refine zAj 1000 100 (by show (ins.map encN).length+1<=1000;omega) (by decide) (by decide) (by decide) (w0 ?_);have gx:x=true:=gx;subst gx;rw [Bool.or_true] at i6 i7;refine ⟨(insN w hs,true,q,ins++[w]),⟨up',nd',lt',by dsimp only;omega,by dsimp only;rw [List.length_append,List.length_singleton];omega,i6,by rw [<-i7];simp⟩,by dsimp only;rw [List.length_cons];omega,le1 (.wkc 1 1 (.d (.bool true))) ⟨⟨_,rfl,wk_tt⟩,rfl⟩ (zAb ⟨rfl,rfl,rfl,trivial⟩ ⟨by rw [<-es];rfl,rfl,by rw [ei];rfl,by rw [List.map_append];rfl,trivial⟩ ⟨rfl,rfl,rfl,rfl⟩)⟩
   ·refine aO ?_;refine zAj 1000 100 (by show (ins.map encN).length+1<=1000;omega) (by decide) (by decide) (by decide) (w0 ?_);have gx:x=false:=gx;subst gx;rw [Bool.or_false] at i6 i7;refine ⟨(insN w hs,ex,q,ins++[w]),⟨up',nd',lt',by dsimp only;omega,by dsimp only;rw [List.length_append,List.length_singleton];omega,i6,by rw [<-i7];simp⟩,by dsimp only;rw [List.length_cons];omega,le0 (zAb ⟨rfl,rfl,rfl,trivial⟩ ⟨by rw [<-es];rfl,rfl,by rw [ei];rfl,by rw [List.map_append];rfl,trivial⟩ ⟨rfl,rfl,rfl,rfl⟩)⟩
theorem z7y (l:LA) (o:LOk l) (w:Nat) (x:Bool) (hw:w<4) (hn:w∉l.hs++l.q.map (·.1)) (hl:l.hs.length+l.q.length<=3):
  ∃ b:Bool,zAi Tryz.prog 141 [zWt l,.int .i64 w,.bool x] (.tup [zWt (askL l w x),.bool b,.int .i64 0]):=by
 have hc:=zEn (w:Int) l.hs (by omega);rw [yJs fun g=>hn (List.mem_append_left _ g)] at hc;have hwt:=z2b (w:Int) l.q (by omega);rw [yJt fun g=>hn (List.mem_append_right _ g)] at hwt
 have hmh:(l.hs.map encN).length=l.hs.length:=List.length_map ..
 have hmq:(l.q.map zC).length=l.q.length:=List.length_map ..
 have he:zAi Tryz.prog 201 [.agg [.lst (l.hs.map encN),.bool l.ex,.lst (l.q.map zC++[zC (w,x)])]] (.tup [zWt (askL l w x),.lst ((inL l.hs l.ex (l.q++[(w,x)])).map encN)]):=by
  have:=zOo ⟨l.hs,l.ex,l.q++[(w,x)]⟩ (by show l.hs.length+(l.q++[(w,x)]).length<=5;simp;omega) o.up
   (by
    show (l.hs++(l.q++[(w,x)]).map (·.1)).Nodup;rw [List.map_append,<-List.append_assoc]
    exact List.nodup_append.2 ⟨o.nd,by simp,fun a ha b hb e=>hn (by simp at hb;rw [<-hb,<-e];exact ha)⟩)
   (by
    show ∀ y∈l.hs++(l.q++[(w,x)]).map (·.1),y<4;rw [List.map_append,<-List.append_assoc];intro y hy
    rcases List.mem_append.1 hy with h|h
    ·exact o.lt y h
    ·simp at h;omega)
  have e:(l.q++[(w,x)]).map zC=l.q.map zC++[zC (w,x)]:=by rw [List.map_append];rfl
  rw [<-e];exact this
 have hin:=yIn (l.q++[(w,x)]) l.hs l.ex;rw [List.length_append,List.length_singleton] at hin;refine ⟨decide (0<=ixF (isT w) (inL l.hs l.ex (l.q++[(w,x)])) 0),?_⟩;refine zAe Tryz.func141 3 rfl (by kernel_rfl) (aO ?_);refine zAa (zOp l o) (aO ?_);refine zAa hc (aO ?_);refine zAa hwt (aO ?_);refine zAn (z6s (zSt l.q) (by omega)) (aO ?_);refine zAj 1000 100 (by show (l.q.map zC).length+1<=1000;omega) (by decide) (by decide) (by decide) (aO ?_);refine zAa he (aO ?_);refine zAa (zEn (w:Int) (inL l.hs l.ex (l.q++[(w,x)])) (by omega)) (aO ?_);exact ret_of rfl rfl
theorem isH_ok (who:Int) (c:Nat):zAi Tryz.prog 209 [.int .i64 c,.dp [.int .i64 who] 0] (.bool (isT who c)):=by
 refine zAe Tryz.func209 2 rfl (by kernel_rfl) (aO ?_);exact ret_of rfl rfl
theorem yTp (who:Int) (c:Nat×Bool):zAi Tryz.prog 211 [.agg (zC c),.dp [.int .i64 who] 0] (.bool (isC who c)):=by
 refine zAe Tryz.func211 2 rfl (by kernel_rfl) (aO ?_);exact ret_of rfl rfl
theorem zRw (l:LA) (o:LOk l) (w:Nat) (hh:w∈l.hs):
  ∃ ins:List Nat,zAi Tryz.prog 148 [zWt l,.int .i64 w] (.tup [zWt (zMr l w),.lst (ins.map encN),.int .i64 0]):=by
 have hlen:=o.len;have hc:=zEn (w:Int) l.hs (by omega)
 have e0:decide (0<=ixF (isT w) l.hs 0)=true:=by
  rw [decide_eq_true_eq,yBf,List.any_eq_true];exact ⟨w,hh,by simp [isT]⟩
 rw [e0] at hc;have f1:=delN 209 [.dp [.int .i64 w] 0] (isT w) (isH_ok w) l.hs (by omega);have f2:=delWt 211 [.dp [.int .i64 w] 0] (isC w) (yTp w) l.q (by omega);rw [fil_T] at f1;rw [fil_C] at f2;have l1:=List.length_filter_le (fun c:Nat=>c !=w) l.hs;have l2:=List.length_filter_le (fun c:Nat×Bool=>c.1 !=w) l.q
 have hmh:(l.hs.map encN).length=l.hs.length:=List.length_map ..
 have hmq:(l.q.map zC).length=l.q.length:=List.length_map ..
 have sub:(l.hs.filter (fun x=>x !=w)++(l.q.filter fun x=>x.1 !=w).map (·.1)).Sublist (l.hs++l.q.map (·.1)):=List.Sublist.append (List.filter_sublist) ((List.filter_sublist).map _)
 have he:=fun ex=>zOo ⟨l.hs.filter fun x=>x !=w,ex,l.q.filter fun x=>x.1 !=w⟩ (by show (l.hs.filter _).length+(l.q.filter _).length<=5;omega) (o.up.sublist List.filter_sublist) (o.nd.sublist sub) (fun y hy=>o.lt y (sub.mem hy))
 by_cases g:(l.hs.filter fun x=>x !=w)=[]
 ·refine ⟨inL (l.hs.filter fun x=>x !=w) false (l.q.filter fun x=>x.1 !=w),?_⟩;have he:=he false
  have ed:zMr l w=zIm (l.hs.filter fun x=>x !=w) false (l.q.filter fun x=>x.1 !=w):=by rw [zMr,if_pos g]
  rw [ed];refine zAe Tryz.func148 2 rfl (by kernel_rfl) (aO ?_);refine zAa (zOp l o) (aO ?_);refine zAa hc (aO ?_);refine zAn (z2w (zTy l.hs) (by omega)) (aO ?_);refine zEv f1 [] rfl ⟨rfl,trivial⟩ rfl (aO ?_);refine zAn (z6s (zSt l.q) (by omega)) (aO ?_);refine zEv f2 [] rfl ⟨rfl,trivial⟩ rfl (aO ?_);refine zDr (by rw [g];rfl) (aO ?_);refine zAa he (aO ?_);exact ret_of rfl rfl
 ·refine ⟨inL (l.hs.filter fun x=>x !=w) l.ex (l.q.filter fun x=>x.1 !=w),?_⟩;have he:=he l.ex
  have ed:zMr l w=zIm (l.hs.filter fun x=>x !=w) l.ex (l.q.filter fun x=>x.1 !=w):=by rw [zMr,if_neg g]
  rw [ed];refine zAe Tryz.func148 2 rfl (by kernel_rfl) (aO ?_);refine zAa (zOp l o) (aO ?_);refine zAa hc (aO ?_);refine zAn (z2w (zTy l.hs) (by omega)) (aO ?_);refine zEv f1 [] rfl ⟨rfl,trivial⟩ rfl (aO ?_);refine zAn (z6s (zSt l.q) (by omega)) (aO ?_);refine zEv f2 [] rfl ⟨rfl,trivial⟩ rfl (aO ?_);refine zEu (by rw [decide_eq_false_iff_not,List.length_map];intro e;exact g (List.length_eq_zero_iff.1 (by omega))) (aO ?_);refine zAa he (aO ?_);exact ret_of rfl rfl
theorem yBr {tm:Nat->AV} {hp:Nat->Option Blk} {rs:List ResultVar} {l:List (List D)} {sz t b n:Nat} {c:Option Nat} {r:List (List D)} (h1:rs=[.tmp t]) (h2:tm t=.win b 0 n c) (h3:hp b=some (.row r sz false)) (h4:n<=r.length) (h5:r.take n=l):
  ∃ t,rs=[.tmp t] /\ ((∃ b r n cp,tm t=.win b 0 n cp/\hp b=some (.row r sz false) /\n<=r.length/\r.take n=l) \/ (tm t=.nil/\l=[])):=
 ⟨t,h1,.inl ⟨b,r,n,c,h2,h3,h4,h5⟩⟩
theorem growRq (n:Nat) (hn:n<=1000) (hp:Nat->Option Blk) (t:Nat):zSe Tryz.prog 269 [.nil,.d (.int .i64 n)] hp ⟨.own t,[(t,.row [] 4 false)],some t⟩:=by
 refine yBo Tryz.func269 2 rfl (by kernel_rfl) rfl ?_ hp t
 conv=>whnf
 refine aO ?_
 refine bcase_p (fun g=>?_) (fun g=>?_)<;>conv=>whnf
 ·refine aO ?_;refine zCr (h:=0) (by omega) (aO ?_);refine zAj 1000 100 (by omega) (by decide) (by decide) (by decide) (aO ?_);refine zHi (h:=0) (by omega) (aO ?_);exact yBr rfl rfl rfl (Nat.zero_le _) rfl
 ·refine aO ?_;exact ⟨4,rfl,.inr ⟨rfl,rfl⟩⟩
theorem growJb (n:Nat) (hn:n<=1000) (hp:Nat->Option Blk) (t:Nat):zSe Tryz.prog 223 [.nil,.d (.int .i64 n)] hp ⟨.own t,[(t,.row [] 5 false)],some t⟩:=by
 refine yBo Tryz.func223 2 rfl (by kernel_rfl) rfl ?_ hp t
 conv=>whnf
 refine aO ?_
 refine bcase_p (fun g=>?_) (fun g=>?_)<;>conv=>whnf
 ·refine aO ?_;refine zCr (h:=0) (by omega) (aO ?_);refine zAj 1000 100 (by omega) (by decide) (by decide) (by decide) (aO ?_);refine zHi (h:=0) (by omega) (aO ?_);exact yBr rfl rfl rfl (Nat.zero_le _) rfl
 ·refine aO ?_;exact ⟨4,rfl,.inr ⟨rfl,rfl⟩⟩
def enL (l:List (List D)):List D:=[.lst l]
def totL (ls:List (List (List D))):Nat:=ls.flatten.length
theorem zTf {ls:List (List (List D))} {k:Nat} (hk:k<ls.length):totL (ls.take (k+1))=totL (ls.take k)+ls[k].length:=by
 rw [totL,totL,zAs hk,List.flatten_append,List.length_append,List.flatten_cons,List.flatten_nil,List.append_nil]
theorem yDf {ls:List (List (List D))} {k:Nat}:totL (ls.take k) <=totL ls:=by
 rw [totL,totL]
 conv=>rhs;rw [<-List.take_append_drop k ls,List.flatten_append,List.length_append]
 omega
theorem yMt (ls:List (List (List D))) (hok:∀ l∈ls,okRows 4 l=true) (h2:ls.length<=1000) (hl:totL ls<=1000):zDp Tryz.prog 220 [.lst (ls.map enL)] ls.flatten 4:=by
 refine zBj Tryz.func220 1 rfl (by kernel_rfl) ?_
 have hm:(ls.map enL).length=ls.length:=List.length_map ..
 refine aO ?_;refine zAq (ι:=Nat) (fun k=>[(0,.d (.lst (ls.map enL))),(3,.d (.int .i64 (totL (ls.take k)))),(9,.d (.lst (ls.map enL))),(10,.d (.int .i64 (ls.map enL).length)),(11,.d (.int .i64 k))]) (fun _=>[])
  (fun k=>k<=ls.length) (fun k=>ls.length-k) 0 (Nat.zero_le _) (le0 (zAb ⟨rfl,rfl,rfl,rfl,rfl,trivial⟩ trivial ⟨rfl,rfl,rfl,rfl⟩)) ?_
 intro k hk
 conv=>whnf
 refine bcase_p (fun h5=>?_) (fun h5=>?_)<;>conv=>whnf
 ·have hk2:k<ls.length:=by omega
  have e:=zTf hk2;have e2:=yDf (ls:=ls) (k:=k+1);refine zAd (by omega) (w0 ?_);refine zAc (x:=enL ls[k]) (by simp [hk2]) (aO ?_);rw [show ((totL (ls.take k):Nat):Int)+((ls[k].length:Nat):Int)=((totL (ls.take (k+1)):Nat):Int) by omega];refine aO ?_;exact ⟨k+1,by omega,by omega,(le0 (zAb ⟨rfl,rfl,rfl,rfl,rfl,trivial⟩ trivial ⟨rfl,rfl,rfl,rfl⟩))⟩
 have hkl:k=ls.length:=by omega
 subst hkl;rw [List.take_length];refine aO ?_;refine zIf (growRq (totL ls) hl _ 24) (aO ?_);refine zAq (ι:=Nat) (fun k=>[(6,.own 24),(25,.d (.lst (ls.map enL))),(26,.d (.int .i64 (ls.map enL).length)),(27,.d (.int .i64 k))]) (fun k=>[(24,.row (ls.take k).flatten 4 false)])
  (fun k=>k<=ls.length) (fun k=>ls.length-k) 0 (Nat.zero_le _) (le0 (zAb ⟨rfl,rfl,rfl,rfl,trivial⟩ ⟨rfl,trivial⟩ ⟨rfl,rfl,rfl,rfl⟩)) ?_
 intro k hk
 conv=>whnf
 refine bcase_p (fun h6=>?_) (fun h6=>?_)<;>conv=>whnf
 ·have hk2:k<ls.length:=by omega
  have e:=zTf hk2;have e2:=yDf (ls:=ls) (k:=k+1)
  have e3:(ls.take (k+1)).flatten=(ls.take k).flatten++ls[k]:=by rw [zAs hk2,List.flatten_append];simp
  refine zAd (by omega) (w0 ?_);refine zAc (x:=enL ls[k]) (by simp [hk2]) (aO ?_);refine zAg (hok _ (List.getElem_mem hk2)) (w0 ?_);refine zAj 1000 100 (by show (ls.take k).flatten.length+ls[k].length<=1000;rw [<-List.length_append,<-e3];exact Nat.le_trans e2 hl) (by decide) (by decide) (by decide) (aO ?_);exact ⟨k+1,by omega,by omega,le0 (zAb ⟨rfl,rfl,rfl,rfl,trivial⟩ ⟨by rw [e3];rfl,trivial⟩ ⟨rfl,rfl,rfl,rfl⟩)⟩
 ·have hkl:k=ls.length:=by omega
  subst hkl;rw [List.take_length];refine aO ?_;exact ⟨2,rfl,.inl ⟨24,rfl,rfl⟩⟩
theorem yMs (ls:List (List (List D))) (hok:∀ l∈ls,okRows 5 l=true) (h2:ls.length<=1000) (hl:totL ls<=1000):zDp Tryz.prog 156 [.lst (ls.map enL)] ls.flatten 5:=by
 refine zBj Tryz.func156 1 rfl (by kernel_rfl) ?_
 have hm:(ls.map enL).length=ls.length:=List.length_map ..
 refine aO ?_;refine zAq (ι:=Nat) (fun k=>[(0,.d (.lst (ls.map enL))),(3,.d (.int .i64 (totL (ls.take k)))),(9,.d (.lst (ls.map enL))),(10,.d (.int .i64 (ls.map enL).length)),(11,.d (.int .i64 k))]) (fun _=>[])
  (fun k=>k<=ls.length) (fun k=>ls.length-k) 0 (Nat.zero_le _) (le0 (zAb ⟨rfl,rfl,rfl,rfl,rfl,trivial⟩ trivial ⟨rfl,rfl,rfl,rfl⟩)) ?_
 intro k hk
 conv=>whnf
 refine bcase_p (fun h5=>?_) (fun h5=>?_)<;>conv=>whnf
 ·have hk2:k<ls.length:=by omega
  have e:=zTf hk2;have e2:=yDf (ls:=ls) (k:=k+1);refine zAd (by omega) (w0 ?_);refine zAc (x:=enL ls[k]) (by simp [hk2]) (aO ?_);rw [show ((totL (ls.take k):Nat):Int)+((ls[k].length:Nat):Int)=((totL (ls.take (k+1)):Nat):Int) by omega];refine aO ?_;exact ⟨k+1,by omega,by omega,(le0 (zAb ⟨rfl,rfl,rfl,rfl,rfl,trivial⟩ trivial ⟨rfl,rfl,rfl,rfl⟩))⟩
 have hkl:k=ls.length:=by omega
 subst hkl;rw [List.take_length];refine aO ?_;refine zIf (growJb (totL ls) hl _ 24) (aO ?_);refine zAq (ι:=Nat) (fun k=>[(6,.own 24),(25,.d (.lst (ls.map enL))),(26,.d (.int .i64 (ls.map enL).length)),(27,.d (.int .i64 k))]) (fun k=>[(24,.row (ls.take k).flatten 5 false)])
  (fun k=>k<=ls.length) (fun k=>ls.length-k) 0 (Nat.zero_le _) (le0 (zAb ⟨rfl,rfl,rfl,rfl,trivial⟩ ⟨rfl,trivial⟩ ⟨rfl,rfl,rfl,rfl⟩)) ?_
 intro k hk
 conv=>whnf
 refine bcase_p (fun h6=>?_) (fun h6=>?_)<;>conv=>whnf
 ·have hk2:k<ls.length:=by omega
  have e:=zTf hk2;have e2:=yDf (ls:=ls) (k:=k+1)
  have e3:(ls.take (k+1)).flatten=(ls.take k).flatten++ls[k]:=by rw [zAs hk2,List.flatten_append];simp
  refine zAd (by omega) (w0 ?_);refine zAc (x:=enL ls[k]) (by simp [hk2]) (aO ?_);refine zAg (hok _ (List.getElem_mem hk2)) (w0 ?_);refine zAj 1000 100 (by show (ls.take k).flatten.length+ls[k].length<=1000;rw [<-List.length_append,<-e3];exact Nat.le_trans e2 hl) (by decide) (by decide) (by decide) (aO ?_);exact ⟨k+1,by omega,by omega,le0 (zAb ⟨rfl,rfl,rfl,rfl,trivial⟩ ⟨by rw [e3];rfl,trivial⟩ ⟨rfl,rfl,rfl,rfl⟩)⟩
 ·have hkl:k=ls.length:=by omega
  subst hkl;rw [List.take_length];refine aO ?_;exact ⟨2,rfl,.inl ⟨24,rfl,rfl⟩⟩
structure FlOk (nx:Nat) (fl:List Fly):Prop where
 len:fl.length<=4
 mx:nx<=2147483647
 up:(fl.map (·.tk)).Pairwise (·<·)
 lt:∀ f∈fl,f.tk<nx/\1<=f.pg/\f.pg<=16
def dvC (nx:Nat) (fl:List Fly) (d:DS):List D:=[.lst (d.sec.map encB),.lst (d.ca.map encW),.int .i64 nx,.lst (fl.map zDm)]
theorem zNz:∀ (l:List Fly),okRows 4 (l.map zDm)=true
 | []=>rfl
 |_::r=>zNz r
theorem zNy:∀ (l:List Fly),okRows 5 (l.map zBv)=true
 | []=>rfl
 |_::r=>zNy r
theorem zXj {l:List Fly} {e:List D} (h:e∈l.map zDm):e.length=4:=by
 obtain ⟨x,_,rfl⟩:=List.mem_map.1 h;rfl
theorem zGp {l:List Fly} {e:List D} (h:e∈l.map zBv):e.length=5:=by
 obtain ⟨x,_,rfl⟩:=List.mem_map.1 h;rfl
theorem zYn (p:Int) (h1:1<=p) (h2:p<=16):zAi Tryz.prog 187 [.int .i64 1,.int .i64 p,.str ByteArray.empty] (.bool true):=by
 refine zAe Tryz.func187 3 rfl (by kernel_rfl) (aO ?_);refine ret_of rfl ?_;simp;rfl
theorem zLo (nx:Nat) (fl:List Fly) (d:DS) (o:FlOk nx fl) (hU:Us d):zAi Tryz.prog 128 [.agg (dvC nx fl d)] (.bool true):=by
 have hlen:=o.len;have hnx:=o.mx;have hn:=hU.n
 have hm:(fl.map zDm).length=fl.length:=List.length_map ..
 have hms:(d.sec.map encB).length=d.sec.length:=List.length_map ..
 have hmt:(fl.map (·.tk)).length=fl.length:=List.length_map ..
 have hr:=zIg d;rw [zQd.2 hU.dr] at hr;refine zAe Tryz.func128 1 rfl (by kernel_rfl) (aO ?_);refine zAa hr (aO ?_);refine zAq (ι:=Nat) (fun k=>[(1,.ptr 1 0 0),(3,.d (.int .i64 (z4c (fl.map (·.tk)) k))),(32,.d (.lst (fl.map zDm))),(33,.d (.int .i64 (fl.map zDm).length)),(34,.d (.int .i64 k))]) (fun _=>[(1,.box ((dvC nx fl d).map AV.d) false)])
  (fun k=>k<=fl.length) (fun k=>fl.length-k) 0 (Nat.zero_le _) (le0 (zAb ⟨rfl,rfl,rfl,rfl,rfl,trivial⟩ ⟨rfl,trivial⟩ ⟨rfl,rfl,rfl,rfl⟩)) ?_
 intro k hk
 conv=>whnf
 refine bcase_p (fun h5=>?_) (fun h5=>?_)<;>conv=>whnf
 ·have hk2:k<fl.length:=by omega
  have hl1:=z0d o.up (k:=k) (by omega);have hls:=zQu (l:=fl.map (·.tk)) (k:=k) (by omega);rw [List.getElem_map] at hl1 hls;obtain ⟨g1,g2,g3⟩:=o.lt fl[k] (List.getElem_mem hk2);refine zAd (by omega) (w0 ?_);refine zAc (x:=zDm fl[k]) (by simp [hk2]) (aW ?_);refine aO ?_;refine zAa (zYn fl[k].pg g2 g3) (aO ?_);exact ⟨k+1,by omega,by omega,le0 (zAb ⟨rfl,by rw [hls];rfl,rfl,rfl,rfl,trivial⟩ ⟨rfl,trivial⟩ ⟨rfl,rfl,rfl,rfl⟩)⟩
 refine aO ?_;exact ret_of rfl rfl
theorem z5u (nx:Nat) (fl:List Fly) (d:DS) (o:FlOk nx fl) (hU:Us d) (p:Int) (w t:Nat) (h1:1<=p) (h2:p<=16) (hl:fl.length<4) (hn:nx<2147483647):
  zAi Tryz.prog 154 [.agg (dvC nx fl d),.int .i64 1,.int .i64 p,.str ByteArray.empty] (.tup [.agg (dvC (nx+1) (fl++[(⟨nx,w,p,t⟩:Fly)]) d),.int .i64 nx,.int .i64 0]):=by
 have hm:(fl.map zDm).length=fl.length:=List.length_map ..
 refine zAe Tryz.func154 4 rfl (by kernel_rfl) (aO ?_);refine zAa (zLo nx fl d o hU) (aO ?_);refine zAa (zYn p h1 h2) (aO ?_);refine zAn (ySo (zNz fl) (by omega)) (aO ?_);refine zAj 1000 100 (by show (fl.map zDm).length+1<=1000;omega) (by decide) (by decide) (by decide) (aO ?_);refine ret_of rfl ?_;show _=D.tup [D.agg [.lst (d.sec.map encB),.lst (d.ca.map encW),.int .i64 ((nx+1:Nat):Int),.lst ((fl++[(⟨nx,w,p,t⟩:Fly)]).map zDm)],.int .i64 nx,.int .i64 0]
 rw [List.map_append];rfl
theorem yAi (p:Int) (h1:1<=p) (h2:p<=16):zAi Tryz.prog 221 [.int .i64 p] (.int .i64 (2*p+1)):=by
 refine zAe Tryz.func221 1 rfl (by kernel_rfl) (aO ?_);exact ret_of rfl rfl
noncomputable def dreq (d:DS) (f:Fly) (fault:Bool):List D:=[.int .i64 f.tk,.int .i64 1,.int .i64 f.pg,.str (bif fault then ByteArray.empty else (zIk d (2*f.pg+1)).1++(zIk d (2*f.pg+1+1)).1)]
theorem yAm {d:DS} (hU:Us d) (n:Int):(zIk d n).1.size<=16:=by
 rw [zIk]
 split
 ·rename_i h
  rw [zPc hU.dr h.2.1 h.2.2];decide
 ·decide
theorem zZk (enc:Fly->List D) (fl:List Fly) (i:Nat):[(((fl.map enc).take i).drop 0),(((fl.map enc).take (fl.map enc).length).drop (i+1))].flatten=(fl.eraseIdx i).map enc:=by
 rw [List.eraseIdx_eq_take_drop_succ,List.take_length];simp [List.map_take,List.map_drop]
theorem yHg (enc:Fly->List D) (fl:List Fly) (i:Nat):totL [(((fl.map enc).take i).drop 0),(((fl.map enc).take (fl.map enc).length).drop (i+1))] <=fl.length:=by
 rw [totL,zZk,List.length_map];have:=List.length_eraseIdx_le fl i;omega
set_option maxHeartbeats 4000000 in
theorem zQc (nx:Nat) (fl:List Fly) (d:DS) (o:FlOk nx fl) (hU:Us d) (i:Nat) (hi:i<fl.length) (fault:Bool):
  zAi Tryz.prog 155 [.agg (dvC nx fl d),.int .i64 i,.bool fault] (.tup [.agg (dvC nx (fl.eraseIdx i) d),.agg (dreq d fl[i] fault),.int .i64 (if fault=true then 8 else 0)]):=by
 have hm:(fl.map zDm).length=fl.length:=List.length_map ..
 have hlen:=o.len
 have hg:(fl.map zDm)[i]?=some (zDm fl[i]):=by rw [List.getElem?_map,List.getElem?_eq_getElem hi];rfl
 obtain ⟨g1,g2,g3⟩:=o.lt fl[i] (List.getElem_mem hi)
 have hc:=yMt [(((fl.map zDm).take i).drop 0),(((fl.map zDm).take (fl.map zDm).length).drop (i+1))] (fun l hl=>by
  simp at hl
  rcases hl with rfl|rfl
  ·exact okRows_take (zNz fl) _
  ·exact okRows_drop (okRows_take (zNz fl) _) _) (by simp) (Nat.le_trans (yHg zDm fl i) (by omega))
 rw [zZk] at hc;have hd1:=zJg d (2*fl[i].pg+1);have hd2:=zJg d (2*fl[i].pg+1+1);refine zAe Tryz.func155 3 rfl (by kernel_rfl) (aO ?_);refine zAa (zLo nx fl d o hU) (aO ?_);refine zAd (by omega) (w0 ?_);refine zAc hg (aO ?_);refine zAg (fun e he=>zXj he) (w0 ?_);refine zCr (by omega) (aO ?_);refine zAg (fun e he=>zXj he) (w0 ?_);refine zD (l:=i+1) (by omega) (aO ?_);refine zAn hc (w0 ?_)
 cases fault with
 |true=>
  refine aO ?_;exact ret_of rfl rfl
 |false=>
  refine aO ?_;refine zAa (yAi fl[i].pg g2 g3) (aO ?_);refine zAa hd1 (aO ?_);refine zAa (yAi fl[i].pg g2 g3) (aO ?_);refine zAa hd2 (aO ?_);have hb1:=yAm hU (2*fl[i].pg+1);have hb2:=yAm hU (2*fl[i].pg+1+1);refine zAg (by omega) (aO ?_);exact ret_of rfl rfl
abbrev OJ:=Option Int
def cosL:OJ->List (List D)
 |none=>[]
 |some _=>[[.int .i64 2]]
theorem encLane_eq (j:OJ):zAv j=[.int .i64 1,.int .i64 0,.lst (cosL j)]:=by cases j<;>rfl
theorem cosL_len (j:OJ):(cosL j).length<=1:=by cases j<;>simp [cosL]
theorem encLane_ok:∀ (l:List OJ),okRows 3 (l.map zAv)=true
 | []=>rfl
 |x::r=>by
  have:=encLane_ok r
  cases x<;>exact this
def lnC (js:List OJ) (at':Nat) (g:Bool):List D:=[.lst (js.map zAv),.int .i64 at',.bool g]
theorem yBi {js:List OJ} {k:Nat} (hk:k<js.length):(js.map zAv)[k]?=some [.int .i64 1,.int .i64 0,.lst (cosL js[k])]:=by
 rw [List.getElem?_map,List.getElem?_eq_getElem hk,<-encLane_eq];rfl
theorem zSq {j:OJ} {q:Nat} (h:q<(cosL j).length):(cosL j)[q]?=some [.int .i64 2]:=by
 cases j with
 |none=>simp [cosL] at h
 |some x=>simp [cosL] at h;subst h;rfl
set_option maxHeartbeats 4000000 in
theorem zOm (js:List OJ) (at':Nat) (g:Bool) (h1:1<=js.length) (h4:js.length<=4) (ha:at'<js.length):zAi Tryz.prog 216 [.agg (lnC js at' g)] (.bool true):=by
 have hm:(js.map zAv).length=js.length:=List.length_map ..
 refine zAe Tryz.func216 1 rfl (by kernel_rfl) (aO ?_);refine zAq (ι:=Nat) (fun k=>[(1,.ptr 1 0 0),(32,.d (.lst (js.map zAv))),(33,.d (.int .i64 (js.map zAv).length)),(34,.d (.int .i64 k))]) (fun _=>[(1,.box ((lnC js at' g).map AV.d) false)])
  (fun k=>k<=js.length) (fun k=>js.length-k) 0 (Nat.zero_le _) (le0 (zAb ⟨rfl,rfl,rfl,rfl,trivial⟩ ⟨rfl,trivial⟩ ⟨rfl,rfl,rfl,rfl⟩)) ?_
 intro k hk
 conv=>whnf
 refine bcase_p (fun h5=>?_) (fun h5=>?_)<;>conv=>whnf
 ·have hk2:k<js.length:=by omega
  have hcl:=cosL_len js[k];refine zAd (by omega) (w0 ?_);refine zAc (yBi hk2) (aO ?_)
  refine bcase_p (fun h7=>?_) (fun h7=>?_)<;>conv=>whnf
  ·refine aO ?_
   refine zAf (fun h8=>?_) (fun h8=>?_)<;>conv=>whnf
   ·refine aO ?_;refine zAq (ι:=Nat) (fun q=>[(1,.ptr 1 0 0),(32,.d (.lst (js.map zAv))),(33,.d (.int .i64 (js.map zAv).length)),(34,.d (.int .i64 k)),(71,.d (.lst (cosL js[k]))),(72,.d (.int .i64 (cosL js[k]).length)),(73,.d (.int .i64 q))]) (fun _=>[(1,.box ((lnC js at' g).map AV.d) false)])
     (fun q=>q<= (cosL js[k]).length) (fun q=>(cosL js[k]).length-q) 0 (Nat.zero_le _) (le0 (zAb ⟨rfl,rfl,rfl,rfl,rfl,rfl,rfl,trivial⟩ ⟨rfl,trivial⟩ ⟨rfl,rfl,rfl,rfl⟩)) ?_
    intro q hq
    conv=>whnf
    refine bcase_p (fun h6=>?_) (fun h6=>?_)<;>conv=>whnf
    ·have hq2:q<(cosL js[k]).length:=by omega
     refine zAd (by omega) (w0 ?_);refine zAc (x:=[.int .i64 2]) (zSq hq2) (aO ?_);exact ⟨q+1,by omega,by omega,(le0 (zAb ⟨rfl,rfl,rfl,rfl,rfl,rfl,rfl,trivial⟩ ⟨rfl,trivial⟩ ⟨rfl,rfl,rfl,rfl⟩))⟩
    ·refine aO ?_;exact ⟨k+1,by omega,by omega,(le0 (zAb ⟨rfl,rfl,rfl,rfl,trivial⟩ ⟨rfl,trivial⟩ ⟨rfl,rfl,rfl,rfl⟩))⟩
   ·refine aO ?_;refine zAq (ι:=Nat) (fun q=>[(1,.ptr 1 0 0),(32,.d (.lst (js.map zAv))),(33,.d (.int .i64 (js.map zAv).length)),(34,.d (.int .i64 k)),(71,.d (.lst (cosL js[k]))),(72,.d (.int .i64 (cosL js[k]).length)),(73,.d (.int .i64 q))]) (fun _=>[(1,.box ((lnC js at' g).map AV.d) false)])
     (fun q=>q<= (cosL js[k]).length) (fun q=>(cosL js[k]).length-q) 0 (Nat.zero_le _) (le0 (zAb ⟨rfl,rfl,rfl,rfl,rfl,rfl,rfl,trivial⟩ ⟨rfl,trivial⟩ ⟨rfl,rfl,rfl,rfl⟩)) ?_
    intro q hq
    conv=>whnf
    refine bcase_p (fun h6=>?_) (fun h6=>?_)<;>conv=>whnf
    ·have hq2:q<(cosL js[k]).length:=by omega
     refine zAd (by omega) (w0 ?_);refine zAc (x:=[.int .i64 2]) (zSq hq2) (aO ?_);exact ⟨q+1,by omega,by omega,(le0 (zAb ⟨rfl,rfl,rfl,rfl,rfl,rfl,rfl,trivial⟩ ⟨rfl,trivial⟩ ⟨rfl,rfl,rfl,rfl⟩))⟩
    ·refine aO ?_;exact ⟨k+1,by omega,by omega,(le0 (zAb ⟨rfl,rfl,rfl,rfl,trivial⟩ ⟨rfl,trivial⟩ ⟨rfl,rfl,rfl,rfl⟩))⟩
  ·refine aO ?_;refine zAq (ι:=Nat) (fun q=>[(1,.ptr 1 0 0),(32,.d (.lst (js.map zAv))),(33,.d (.int .i64 (js.map zAv).length)),(34,.d (.int .i64 k)),(71,.d (.lst (cosL js[k]))),(72,.d (.int .i64 (cosL js[k]).length)),(73,.d (.int .i64 q))]) (fun _=>[(1,.box ((lnC js at' g).map AV.d) false)])
    (fun q=>q<= (cosL js[k]).length) (fun q=>(cosL js[k]).length-q) 0 (Nat.zero_le _) (le0 (zAb ⟨rfl,rfl,rfl,rfl,rfl,rfl,rfl,trivial⟩ ⟨rfl,trivial⟩ ⟨rfl,rfl,rfl,rfl⟩)) ?_
   intro q hq
   conv=>whnf
   refine bcase_p (fun h6=>?_) (fun h6=>?_)<;>conv=>whnf
   ·have hq2:q<(cosL js[k]).length:=by omega
    refine zAd (by omega) (w0 ?_);refine zAc (x:=[.int .i64 2]) (zSq hq2) (aO ?_);exact ⟨q+1,by omega,by omega,(le0 (zAb ⟨rfl,rfl,rfl,rfl,rfl,rfl,rfl,trivial⟩ ⟨rfl,trivial⟩ ⟨rfl,rfl,rfl,rfl⟩))⟩
   ·refine aO ?_;exact ⟨k+1,by omega,by omega,(le0 (zAb ⟨rfl,rfl,rfl,rfl,trivial⟩ ⟨rfl,trivial⟩ ⟨rfl,rfl,rfl,rfl⟩))⟩
 ·refine aO ?_;exact ret_of rfl rfl
theorem yBj {js:List OJ} {k:Nat} (x:OJ):(js.map zAv).set k (zAv x)=(js.set k x).map zAv:=by rw [List.map_set]
set_option maxHeartbeats 4000000 in
theorem yNz (js:List OJ) (at':Nat) (g:Bool) (h1:1<=js.length) (h4:js.length<=4) (ha:at'<js.length) (k:Nat) (hk:k<js.length) (hn:js[k]=none) (p:Int):
  zAi Tryz.prog 205 [.agg (lnC js at' g),.int .i64 k,.int .i64 2] (.tup [.agg (lnC (js.set k (some p)) at' g),.int .i64 0]):=by
 have hm:(js.map zAv).length=js.length:=List.length_map ..
 have hg:(js.map zAv)[k]?=some (zAv none):=by rw [List.getElem?_map,List.getElem?_eq_getElem hk,hn];rfl
 refine zAe Tryz.func205 3 rfl (by kernel_rfl) (aO ?_);refine zAa (zOm js at' g h1 h4 ha) (aO ?_);refine zAd (by omega) (w0 ?_);refine zAc hg (aO ?_);refine zAn (yHa (encLane_ok js) (by omega)) (aO ?_);refine zAd (by omega) (w0 ?_);refine zAc hg (aO ?_);refine zAn (z2w (l:=[]) rfl (by simp)) (aO ?_);refine zAj 1000 100 (by show 0+1<=1000;omega) (by decide) (by decide) (by decide) (aO ?_);refine zAd (by omega) (aO ?_);refine zAc hg (aO ?_);have em:(js.map zAv).set k (zAx (zAv none) 2 [D.lst [[.int .i64 2]]])=(js.set k (some p)).map zAv:=yBj (some p);refine ret_of rfl ?_;show _=D.tup [D.agg [.lst ((js.set k (some p)).map zAv),.int .i64 at',.bool g],.int .i64 0]
 rw [<-em];rfl
def hasJ (j:OJ):Bool:=decide ((0:Int)<(cosL j).length)
theorem hasJ_ok (j:OJ):zAi Tryz.prog 268 [.agg (zAv j)] (.bool (hasJ j)):=by
 cases j with
 |none=>
  refine zAe Tryz.func268 1 rfl (by kernel_rfl) (aO ?_);exact ret_of rfl rfl
 |some p=>
  refine zAe Tryz.func268 1 rfl (by kernel_rfl) (aO ?_);exact ret_of rfl rfl
theorem yTq (g:FuncId) (cs:List D) (p:OJ->Bool) (hg:∀ c,zAi Tryz.prog g (.agg (zAv c)::cs) (.bool (p c))) (l:List OJ) (hl:l.length<=1000000):zAi Tryz.prog 288 [.lst (l.map zAv),.fn g cs] (.int .i64 (ixF p l 0)):=by
 refine zAe Tryz.func288 2 rfl (by kernel_rfl) (w0 ?_);refine zAq (ι:=Nat) (fun k=>[(0,.d (.lst (l.map zAv))),(1,.d (.fn g cs)),(7,.d (.int .i64 (l.map zAv).length)),(8,.d (.int .i64 k))]) (fun _=>[])
  (fun k=>k<=l.length/\ixF p (l.drop k) k=ixF p l 0) (fun k=>l.length-k) 0 ⟨Nat.zero_le _,rfl⟩ (le0 (zAb ⟨rfl,rfl,rfl,rfl,trivial⟩ trivial ⟨rfl,rfl,rfl,rfl⟩)) ?_
 rintro k ⟨hk,hR⟩
 conv=>whnf
 refine bcase_p (fun h=>?_) (fun h=>?_)<;>conv=>whnf
 ·have hk2:k<l.length:=by simpa using h
  refine zAd (by omega) (w0 ?_);refine zAc (x:=zAv l[k]) (by simp [hk2]) (aW ?_);rw [zBf hk2,ixF] at hR;refine zAa (hg l[k]) (w0 ?_)
  refine zAf (fun h2=>?_) (fun h2=>?_)<;>conv=>whnf
  ·rw [if_pos h2] at hR;exact ret_of rfl (by rw [<-hR];rfl)
  ·rw [if_neg (by rw [h2];decide)] at hR;refine aA ?_;exact ⟨k+1,⟨by omega,hR⟩,by omega,(le0 (zAb ⟨rfl,rfl,rfl,rfl,trivial⟩ trivial ⟨rfl,rfl,rfl,rfl⟩))⟩
 ·have:k=l.length:=by simp at h;omega
  subst this;simp [ixF] at hR;exact ret_of rfl (by rw [<-hR];rfl)
theorem z4i (js:List OJ) (at':Nat) (g:Bool) (hl:js.length<=1000):zAi Tryz.prog 217 [.agg (lnC js at' g)] (.bool (js.any hasJ)):=by
 have h265:zAi Tryz.prog 267 [.lst (js.map zAv),.fn 268 []] (.bool (js.any hasJ)):=by
  have e:decide (0<=ixF hasJ js 0)=js.any hasJ:=by rw [Bool.eq_iff_iff,decide_eq_true_eq];exact yBf hasJ js 0
  rw [<-e];refine zAe Tryz.func267 2 rfl (by kernel_rfl) (w0 ?_);refine zAa (yTq 268 [] hasJ hasJ_ok js (by omega)) (aW ?_);exact ret_of rfl rfl
 refine zAe Tryz.func217 1 rfl (by kernel_rfl) (aO ?_);refine zAa h265 (aW ?_);exact ret_of rfl rfl
theorem zHp {js:List OJ} (hn:0<js.length):∀ (m k:Nat),zCb js m (k%js.length)=zCb js m k
 |0,_=>rfl
 |m+1,k=>by
  rw [zCb,zCb,Nat.mod_mod,<-zHp hn m (k+1),<-zHp hn m (k%js.length+1)]
  congr 2
  rw [Nat.mod_add_mod]
structure NxI (js:List OJ) (K:Nat) (s:Nat×Bool×Nat):Prop where
 a:s.1<js.length
 go:zCb js s.2.2 (if s.2.1=true then s.1+1 else s.1)=some K
theorem NxI.next {js:List OJ} {K a m:Nat} {g:Bool} (h:NxI js K (a,g,m)) (hg:g=true\/js[a]'h.a=none):∃ m',NxI js K ((a+1)%js.length,false,m') /\2*m'<2*m+(if g=true then 1 else 0):=by
 have ha:=h.a;have go:=h.go;simp only [] at ha go
 have hp:0<js.length:=by omega
 cases g with
 |true=>
  refine ⟨m,⟨Nat.mod_lt _ hp,?_⟩,by simp⟩;simp only [Bool.false_eq_true,if_false];rw [zHp hp]
  simpa using go
 |false=>
  have hz:js[a]=none:=hg.resolve_left (by decide);simp only [Bool.false_eq_true,if_false] at go
  cases m with
  |zero=>cases go
  |succ m=>
   rw [zCb,Nat.mod_eq_of_lt ha,List.getElem?_eq_getElem ha,hz] at go;refine ⟨m,⟨Nat.mod_lt _ hp,?_⟩,by simp⟩;simp only [Bool.false_eq_true,if_false];rw [zHp hp]
   simpa using go
theorem NxI.here {js:List OJ} {K a m:Nat} (h:NxI js K (a,false,m)) {p:Int} (hs:js[a]'h.a=some p):a=K:=by
 have ha:=h.a;have go:=h.go;simp only [Bool.false_eq_true,if_false] at ha go
 cases m with
 |zero=>cases go
 |succ m=>
  rw [zCb,Nat.mod_eq_of_lt ha,List.getElem?_eq_getElem ha,hs] at go
  simpa using go
theorem zHw {R:List (List D)} {a:Nat} {x:List D} (h:a<R.length):(R.set a x)[a]?=some x:=by simp [h]
theorem yOz {R:List (List D)} {a:Nat} {e v:List D} (h:R[a]?=some e) (hv:v=e):R.set a v=R:=by
 subst hv;obtain ⟨ha,rfl⟩:=List.getElem?_eq_some_iff.1 h;exact List.set_getElem_self ha
set_option maxHeartbeats 4000000 in
theorem yNv (js:List OJ) (at':Nat) (g:Bool) (h1:1<=js.length) (h4:js.length<=4) (ha:at'<js.length) (K:Nat) (hK:zCb js js.length (if g=true then at'+1 else at')=some K):
  zAi Tryz.prog 153 [.agg (lnC js at' g)] (.tup [.agg (lnC (js.set K none) K true),.int .i64 K,.int .i64 2,.bool true]):=by
 have hm:(js.map zAv).length=js.length:=List.length_map ..
 have hne:js≠[]:=fun e=>by rw [e] at h1;exact absurd h1 (by decide)
 obtain ⟨hKl,p,hKp⟩:=zEz hne hK;have hw:=z4i js at' g (by omega);have hany:js.any hasJ=true:=List.any_eq_true.2 ⟨some p,List.mem_of_getElem? hKp,rfl⟩;rw [hany] at hw;refine zAe Tryz.func153 1 rfl (by kernel_rfl) (aO ?_);refine zAa (zOm js at' g h1 h4 ha) (aO ?_);refine zAa hw (aO ?_);refine zAn (yHa (encLane_ok js) (by omega)) (aO ?_);refine zAq (ι:=Nat×Bool×Nat) (fun s=>[(1,.ptr 1 0 0),(2,.ptr 2 0 0)]) (fun s=>[(1,.box [.own 19,.d (.int .i64 s.1),.d (.bool s.2.1)] false),(2,.box [.nil,.d (.int .i64 0),.d (.bool false)] false),(19,.row (js.map zAv) 3 false)])
  (NxI js K) (fun s=>2*s.2.2+(if s.2.1=true then 1 else 0)) (at',g,js.length) ⟨ha,hK⟩ (le0 (zAb ⟨rfl,rfl,trivial⟩ ⟨rfl,rfl,rfl,trivial⟩ ⟨rfl,rfl,rfl,rfl⟩)) ?_
 rintro ⟨a,g,m⟩ hI;have ia:=hI.a;simp only [] at ia⊢
 have hga:(js.map zAv)[a]?=some (zAv js[a]):=by rw [List.getElem?_map,List.getElem?_eq_getElem ia];rfl
 refine aO ?_;refine zAd (by omega) (aO ?_)
 cases hz:js[a] with
 |none=>
  rw [hz] at hga;have es:(js.map zAv).set a (zAx (zAv none) 1 [D.int .i64 0])=js.map zAv:=yOz hga rfl;obtain ⟨m',hJ,hlt⟩:=hI.next (.inr hz);refine zAc hga (aO ?_);refine zAc hga (aO ?_);refine zDe (by rw [List.length_set,hm];omega) (by omega) (w0 ?_)
  have ed:((a:Int)+1)%(((js.map zAv).set a (zAx (zAv none) 1 [D.int .i64 0])).length:Nat)=(((a+1)%js.length:Nat):Int):=by
   rw [List.length_set,hm];rfl
  refine aO ?_;exact ⟨((a+1)%js.length,false,m'),hJ,hlt,le1 (.wkc 1 2 (.d (.bool false))) ⟨⟨_,rfl,wk_ff⟩,rfl⟩ (zAb ⟨rfl,rfl,trivial⟩ ⟨by rw [<-ed];rfl,rfl,congrArg (fun R=>some (Blk.row R 3 false)) es,trivial⟩ ⟨rfl,rfl,rfl,rfl⟩)⟩
 |some p'=>
  rw [hz] at hga;refine zAc hga (aO ?_)
  cases g with
  |true=>
   obtain ⟨m',hJ,hlt⟩:=hI.next (.inl rfl);refine aO ?_
   repeat (first|refine zAc hga (aO ?_)|refine zAd (i:=0) (by simp) (w0 ?_)|refine zAc (x:=[D.int .i64 2]) rfl (aO ?_))
   refine zDe (by rw [hm];omega) (by omega) (w0 ?_)
   have ed:((a:Int)+1)%((js.map zAv).length:Nat)=(((a+1)%js.length:Nat):Int):=by
    rw [hm];rfl
   refine aO ?_;exact ⟨((a+1)%js.length,false,m'),hJ,hlt,le1 (.wkc 1 2 (.d (.bool false))) ⟨⟨_,rfl,wk_ff⟩,rfl⟩ (zAb ⟨rfl,rfl,trivial⟩ ⟨by rw [<-ed];rfl,rfl,rfl,trivial⟩ ⟨rfl,rfl,rfl,rfl⟩)⟩
  |false=>
   have hKa:=hI.here hz;subst hKa;refine aO ?_
   repeat (first|refine zAc hga (aO ?_)|refine zAd (i:=0) (by simp) (w0 ?_)|refine zAc (x:=[D.int .i64 2]) rfl (aO ?_)|refine zAc (zHw (by simp;omega)) (aO ?_))
   refine zAg (fun e he=>by simp at he;subst he;rfl) (w0 ?_);refine zD (l:=1) (by simp) (aO ?_);refine zAn (z2w (l:=[]) rfl (by simp)) (aO ?_)
   repeat (first|refine zAd (i:=0) (by simp) (w0 ?_)|refine zAc (zHw (by simp;omega)) (aO ?_))
   have em:∀ x1 x2 x3:List D,((((js.map zAv).set a x1).set a x2).set a x3).set a (zAv none)=(js.set a none).map zAv:=fun x1 x2 x3=>by
    simp only [List.set_set];exact yBj none
   exact ret_of rfl (congrArg (fun R=>D.tup [D.agg [.lst R,.int .i64 a,.bool true],.int .i64 a,.int .i64 2,.bool true]) (em _ _ _))
theorem yNw (js:List OJ) (at':Nat) (g:Bool) (h1:1<=js.length) (h4:js.length<=4) (ha:at'<js.length) (hK:zCb js js.length (if g=true then at'+1 else at')=none):
  zAi Tryz.prog 153 [.agg (lnC js at' g)] (.tup [.agg (lnC js at' g),.int .i64 0,.int .i64 0,.bool false]):=by
 have hne:js≠[]:=fun e=>by rw [e] at h1;exact absurd h1 (by decide)
 have hw:=z4i js at' g (by omega)
 have hany:js.any hasJ=false:=by
  rw [List.any_eq_false];intro x hx;obtain ⟨i,hi,rfl⟩:=List.mem_iff_getElem.1 hx;have:=zRv hne hK i hi;rw [List.getElem?_eq_getElem hi,Option.some.injEq] at this
  rw [this];decide
 rw [hany] at hw;refine zAe Tryz.func153 1 rfl (by kernel_rfl) (aO ?_);refine zAa (zOm js at' g h1 h4 ha) (aO ?_);refine zAa hw (aO ?_);exact ret_of rfl rfl
def nwR (n k:Nat):List (List D):=List.replicate k (zAv none)++List.replicate (n-k) [.int .i64 0,.int .i64 0,.lst []]
theorem yUp {n k:Nat} (h:k<=n):(nwR n k).length=n:=by simp [nwR];omega
theorem yUo {n k:Nat} (h:k<n):(nwR n k)[k]?=some [.int .i64 0,.int .i64 0,.lst []]:=by
 rw [nwR,List.getElem?_append_right (by simp),List.length_replicate,Nat.sub_self,List.getElem?_replicate,if_pos (by omega)]
theorem yUq {n k:Nat} (h:k<n):(nwR n k).set k (zAv none)=nwR n (k+1):=by
 have e:n-k=(n-(k+1))+1:=by omega
 rw [nwR,nwR,e,List.replicate_succ,List.replicate_succ',List.append_assoc];exact yCm (by simp)
set_option maxHeartbeats 4000000 in
theorem yTv (n:Nat) (h1:1<=n) (h4:n<=4):zAi Tryz.prog 129 [.lst (List.replicate n [D.int .i64 1])] (.tup [.agg (lnC (List.replicate n none) 0 false),.int .i64 0]):=by
 have hm:(List.replicate n [D.int .i64 1]).length=n:=List.length_replicate
 have hg:∀ k,k<n->(List.replicate n [D.int .i64 1])[k]?=some [D.int .i64 1]:=fun k hk=>by rw [List.getElem?_replicate,if_pos hk]
 refine zAe Tryz.func129 1 rfl (by kernel_rfl) (aO ?_);rw [hm,Int.toNat_natCast];refine zAj 1000 100 (by omega) (by decide) (by decide) (by decide) (aO ?_);refine zAq (ι:=Nat) (fun k=>[(2,.ptr 2 0 0),(4,.own 18),(19,.d (.lst (List.replicate n [D.int .i64 1]))),(20,.d (.int .i64 (List.replicate n [D.int .i64 1]).length)),(21,.d (.int .i64 k))]) (fun k=>[(2,.box [.nil,.d (.int .i64 0),.d (.bool false)] false),(18,.row (nwR n k) 3 false)])
  (fun k=>k<=n) (fun k=>n-k) 0 (Nat.zero_le _) (le0 (zAb ⟨rfl,rfl,rfl,rfl,rfl,trivial⟩ ⟨rfl,rfl,trivial⟩ ⟨rfl,rfl,rfl,rfl⟩)) ?_
 intro k hk
 conv=>whnf
 refine bcase_p (fun h5=>?_) (fun h5=>?_)<;>conv=>whnf
 ·have hk2:k<n:=by omega
  have hnl:=yUp hk;refine zAd (by omega) (w0 ?_);refine zAc (hg k hk2) (aO ?_);refine zAd (by omega) (w0 ?_);refine zAc (yUo hk2) (aO ?_);refine ⟨k+1,by omega,by omega,le0 (zAb ⟨rfl,rfl,rfl,rfl,rfl,trivial⟩ ⟨rfl,?_,trivial⟩ ⟨rfl,rfl,rfl,rfl⟩)⟩
  rw [<-yUq hk2];rfl
 ·have:k=n:=by omega
  subst this;refine aO ?_
  have e:nwR k k=(List.replicate k none).map zAv:=by simp [nwR]
  exact ret_of rfl (congrArg (fun R=>D.tup [D.agg [.lst R,.int .i64 0,.bool false],.int .i64 0]) e)
def zWu (s:SA) (d:DS):D:=.agg (s.cells d)
def jobL (w:Nat):OJ->List (List D)
 |none=>[]
 |some p=>[zRq w p 0]
theorem yNq (w:Nat) (j:OJ):z3z w j=[.lst (jobL w j)]:=by cases j<;>rfl
def jbR (js:List OJ):List (List D):=js.mapIdx z3z
theorem zUt (js:List OJ):(jbR js).length=js.length:=by simp [jbR]
theorem z0a {js:List OJ} {k:Nat} (hk:k<js.length):(jbR js)[k]?=some [.lst (jobL k js[k])]:=by
 rw [jbR,List.getElem?_mapIdx,List.getElem?_eq_getElem hk,<-yNq];rfl
theorem yNp (w:Nat) (j:OJ):(jobL w j).length=(cosL j).length:=by cases j<;>rfl
theorem jobL_get {w:Nat} {j:OJ} {q:Nat} (h:q<(jobL w j).length):∃ p,j=some p/\ (jobL w j)[q]?=some (zRq w p 0):=by
 cases j with
 |none=>simp [jobL] at h
 |some p=>simp [jobL] at h;subst h;exact ⟨p,rfl,rfl⟩
theorem SOk.flk {s:SA} (o:SOk s):FlOk s.next s.out:=⟨o.fl,o.nx,o.up,fun f hf=>⟨(o.lt f hf).1,(o.lt f hf).2.2.1⟩⟩
theorem zWc (w:Nat) (p:Int) (t:Nat) (h1:1<=p) (h2:p<=16):zAi Tryz.prog 204 [.agg (zRq w p t)] (.bool true):=by
 refine zAe Tryz.func204 1 rfl (by kernel_rfl) (aO ?_);refine ret_of rfl ?_;simp;rfl
theorem yHd:zAi Tryz.prog 206 [.int .i64 1] (.int .i64 2):=by
 refine zAe Tryz.func206 1 rfl (by kernel_rfl) (aO ?_);exact ret_of rfl rfl
set_option maxHeartbeats 4000000 in
theorem zLf (s:SA) (d:DS) (o:SOk s) (hU:Us d):zAi Tryz.prog 150 [zWu s d] (.bool true):=by
 have n1:=o.n1;have n4:=o.n4;have fl:=o.fl;have hl:=zUt s.jobs;have hl0:(s.jobs.mapIdx z3z).length=s.jobs.length:=hl
 have hm:(s.jobs.map zAv).length=s.jobs.length:=List.length_map ..
 have hmo:(s.out.map zBv).length=s.out.length:=List.length_map ..
 have hmr:(s.out.map zDm).length=s.out.length:=List.length_map ..
 refine zAe Tryz.func150 1 rfl (by kernel_rfl) (aO ?_);refine zAa (zOm s.jobs s.at' s.giv n1 n4 o.at1) (aO ?_);refine zAa (zLo s.next s.out d o.flk hU) (aO ?_);refine zAq (ι:=Nat) (fun k=>[(1,.ptr 1 0 0),(40,.d (.lst (jbR s.jobs))),(41,.d (.int .i64 (jbR s.jobs).length)),(42,.d (.int .i64 k))]) (fun _=>[(1,.box ((s.cells d).map AV.d) false)])
  (fun k=>k<=s.jobs.length) (fun k=>s.jobs.length-k) 0 (Nat.zero_le _) (le0 (zAb ⟨rfl,rfl,rfl,rfl,trivial⟩ ⟨rfl,trivial⟩ ⟨rfl,rfl,rfl,rfl⟩)) ?_
 intro k hk
 conv=>whnf
 refine bcase_p (fun h5=>?_) (fun h5=>?_)<;>conv=>whnf
 ·have hk2:k<s.jobs.length:=by omega
  have hcl:=yNp k s.jobs[k];refine zAd (by omega) (w0 ?_);refine zAc (z0a hk2) (aO ?_);refine zAd (by omega) (w0 ?_);refine zAc (yBi hk2) (aO ?_);refine zAq (ι:=Nat) (fun q=>[(1,.ptr 1 0 0),(3,.d (.int .i64 k)),(5,.d (.lst (cosL s.jobs[k]))),(40,.d (.lst (jbR s.jobs))),(41,.d (.int .i64 (jbR s.jobs).length)),(42,.d (.int .i64 k)),(59,.d (.lst (jobL k s.jobs[k]))),(60,.d (.int .i64 (jobL k s.jobs[k]).length)),(61,.d (.int .i64 q))]) (fun _=>[(1,.box ((s.cells d).map AV.d) false)])
   (fun q=>q<= (jobL k s.jobs[k]).length) (fun q=>(jobL k s.jobs[k]).length-q) 0 (Nat.zero_le _) (le0 (zAb ⟨rfl,rfl,rfl,rfl,rfl,rfl,rfl,rfl,rfl,trivial⟩ ⟨rfl,trivial⟩ ⟨rfl,rfl,rfl,rfl⟩)) ?_
  intro q hq
  conv=>whnf
  refine bcase_p (fun h6=>?_) (fun h6=>?_)<;>conv=>whnf
  ·have hq2:q<(jobL k s.jobs[k]).length:=by omega
   obtain ⟨p,ep,hg⟩:=jobL_get hq2;have hq3:=cosL_len s.jobs[k];have hpg:=o.pg p (by rw [<-ep];exact List.getElem_mem hk2);refine zAd (by omega) (w0 ?_);refine zAc hg (aO ?_);refine zAa (zWc k p 0 hpg.1 hpg.2) (aO ?_);refine zAa yHd (aO ?_);refine zAd (by omega) (w0 ?_);refine zAc (zSq (by omega)) (aO ?_);exact ⟨q+1,by omega,by omega,(le0 (zAb ⟨rfl,rfl,rfl,rfl,rfl,rfl,rfl,rfl,rfl,trivial⟩ ⟨rfl,trivial⟩ ⟨rfl,rfl,rfl,rfl⟩))⟩
  ·refine aO ?_;exact ⟨k+1,by omega,by omega,(le0 (zAb ⟨rfl,rfl,rfl,rfl,trivial⟩ ⟨rfl,trivial⟩ ⟨rfl,rfl,rfl,rfl⟩))⟩
 refine aO ?_;refine zAq (ι:=Nat) (fun k=>[(1,.ptr 1 0 0),(93,.d (.lst (s.out.map zBv))),(94,.d (.int .i64 (s.out.map zBv).length)),(95,.d (.int .i64 k))]) (fun _=>[(1,.box ((s.cells d).map AV.d) false)])
  (fun k=>k<=s.out.length) (fun k=>s.out.length-k) 0 (Nat.zero_le _) (le0 (zAb ⟨rfl,rfl,rfl,rfl,trivial⟩ ⟨rfl,trivial⟩ ⟨rfl,rfl,rfl,rfl⟩)) ?_
 intro k hk
 conv=>whnf
 refine bcase_p (fun h5=>?_) (fun h5=>?_)<;>conv=>whnf
 ·have hk2:k<s.out.length:=by omega
  obtain ⟨g1,g2,g3,g4,g5⟩:=o.lt s.out[k] (List.getElem_mem hk2);refine zAd (by omega) (w0 ?_);refine zAc (x:=zBv s.out[k]) (by simp [hk2]) (aW ?_);refine zAd (by omega) (w0 ?_);refine zAc (x:=zDm s.out[k]) (by simp [hk2]) (aO ?_);exact ⟨k+1,by omega,by omega,(le0 (zAb ⟨rfl,rfl,rfl,rfl,trivial⟩ ⟨rfl,trivial⟩ ⟨rfl,rfl,rfl,rfl⟩))⟩
 refine aO ?_;exact ret_of rfl rfl
theorem yQw (js:List OJ):okRows 1 (jbR js)=true:=by
 rw [okRows,List.all_eq_true];intro x hx;obtain ⟨i,hi,rfl⟩:=List.mem_iff_getElem.1 hx
 have h2:i<js.length:=by rw [zUt] at hi;exact hi
 have:=z0a h2;rw [List.getElem?_eq_getElem hi,Option.some.injEq] at this
 rw [this];rfl
theorem yIz {js:List OJ} {k:Nat} (hk:k<js.length) (x:OJ):(jbR js).set k (z3z k x)=jbR (js.set k x):=by
 refine List.ext_getElem? fun i=>?_
 rw [jbR,jbR,List.getElem?_set,List.getElem?_mapIdx,List.getElem?_mapIdx,List.getElem?_set];simp only [List.length_mapIdx]
 by_cases e:k=i
 ·subst e;rw [if_pos rfl,if_pos rfl,if_pos hk,if_pos hk];rfl
 ·rw [if_neg e,if_neg e]
theorem yNo (n:Nat):List.replicate n [D.lst []]=jbR (List.replicate n none):=by
 refine List.ext_getElem? fun i=>?_
 rw [jbR,List.getElem?_mapIdx,List.getElem?_replicate,List.getElem?_replicate]
 split<;>rfl
def newSA (n:Nat):SA:=⟨0,false,List.replicate n none,0,[]⟩
set_option maxHeartbeats 4000000 in
theorem z9b (n:Nat) (d:DS) (h1:1<=n) (h4:n<=4) (hU:Us d):zAi Tryz.prog 73 [.agg (dvC 0 [] d),.lst (List.replicate n [D.int .i64 1])] (.tup [zWu (newSA n) d,.int .i64 0]):=by
 have hm:(List.replicate n [D.int .i64 1]).length=n:=List.length_replicate;refine zAe Tryz.func73 2 rfl (by kernel_rfl) (aO ?_);refine zAa (zLo 0 [] d ⟨Nat.zero_le _,Nat.zero_le _,List.Pairwise.nil,fun f hf=>by cases hf⟩ hU) (aO ?_);refine zAa (yTv n h1 h4) (aO ?_);rw [hm,Int.toNat_natCast];refine zAj 1000 100 (by omega) (by decide) (by decide) (by decide) (aO ?_);exact ret_of rfl (congrArg (fun R=>D.tup [D.agg [.lst ((List.replicate n none).map zAv),.int .i64 0,.bool false,.lst R,.lst (d.sec.map encB),.lst (d.ca.map encW),.int .i64 0,.lst [],.lst []],.int .i64 0]) (yNo n))
set_option maxHeartbeats 4000000 in
theorem z9a (s:SA) (d:DS) (o:SOk s) (hU:Us d) (w:Nat) (hw:w<s.jobs.length) (hn:s.jobs[w]=none) (p:Int) (h1:1<=p) (h2:p<=16):
  zAi Tryz.prog 144 [zWu s d,.agg (zRq w p 0)] (.tup [zWu (askS s w p) d,.int .i64 0]):=by
 have n1:=o.n1;have n4:=o.n4;have hl:=zUt s.jobs;have hl0:(s.jobs.mapIdx z3z).length=s.jobs.length:=hl
 have hg:(jbR s.jobs)[w]?=some [.lst []]:=by have:=z0a hw;rw [hn] at this;exact this
 have es:(jbR s.jobs).set w (zAx [D.lst []] 0 [D.lst [zRq w p 0]])=jbR (s.jobs.set w (some p)):=yIz hw (some p);refine zAe Tryz.func144 2 rfl (by kernel_rfl) (aO ?_);refine zAa (zLf s d o hU) (aO ?_);refine zAa (zWc w p 0 h1 h2) (aO ?_);refine zAd (by omega) (w0 ?_);refine zAc hg (aO ?_);refine zAa yHd (aO ?_);refine zAa (yNz s.jobs s.at' s.giv n1 n4 o.at1 w hw hn p) (aO ?_);refine zAn (yH (yQw s.jobs) (by omega)) (aO ?_);refine zAd (by omega) (w0 ?_);refine zAc hg (aO ?_);refine zAn (z6q (l:=[]) rfl (by simp)) (aO ?_);refine zAj 1000 100 (by show 0+1<=1000;omega) (by decide) (by decide) (by decide) (aO ?_);refine zAd (by omega) (aO ?_);refine zAc hg (aO ?_);exact ret_of rfl (congrArg (fun R=>D.tup [D.agg [.lst ((s.jobs.set w (some p)).map zAv),.int .i64 s.at',.bool s.giv,.lst R,.lst (d.sec.map encB),.lst (d.ca.map encW),.int .i64 s.next,.lst (s.out.map zDm),.lst (s.out.map zBv)],.int .i64 0]) es)
end Go.Lk
