/-
  What is proved here: what functions of the program compute, and what follows; no condition beyond each theorem's own.
-/
import Derived.Test.YtaofmndhdmkgkaaGreatHAn
import Derived.Test.YtaofmndhdmkgkaaGreatHBb
set_option linter.unusedSimpArgs false
set_option linter.unusedVariables false
set_option linter.unnecessarySimpa false
set_option linter.unusedSectionVars false
namespace Go.Lk
open Go Go.Proofs Go.RowKit
theorem okRows_sub {sz:Nat} {l:List (List D)} (h:okRows sz l=true) (n m:Nat):okRows sz ((l.drop n).take m)=true:=by
 simp only [okRows,List.all_eq_true] at h⊢;intro x hx;exact h x (List.mem_of_mem_drop (List.mem_of_mem_take hx))
theorem okRows_drop {sz:Nat} {l:List (List D)} (h:okRows sz l=true) (n:Nat):okRows sz (l.drop n)=true:=by
 simp only [okRows,List.all_eq_true] at h⊢;intro x hx;exact h x (List.mem_of_mem_drop hx)
theorem okRows_take {sz:Nat} {l:List (List D)} (h:okRows sz l=true) (n:Nat):okRows sz (l.take n)=true:=by
 simp only [okRows,List.all_eq_true] at h⊢;intro x hx;exact h x (List.mem_of_mem_take hx)
theorem ins_grow {α:Type} {A Z V B X Y:List α} {i m n:Nat} (hA:A.length=i) (hV:V.length=m) (hB:B.length=n-i) (hi:i<=n) (k:Nat) (hk:k=n+m):
  (((A++Z).take i++(V++X)).take (i+m)++(B++Y)).take k=A++(V++B):=by
 have h1:(A++Z).take i=A:=List.take_left' hA
 have h2:(A++(V++X)).take (i+m)=A++V:=by rw [<-List.append_assoc];exact List.take_left' (by simp [hA,hV])
 rw [h1,h2]
 have h3:(A++V++(B++Y))=(A++(V++B))++Y:=by simp
 rw [h3];exact List.take_left' (by simp [hA,hV,hB,hk];omega)
theorem ins_in {α:Type} {R V B Y:List α} {i m n:Nat} (hR:n+m<=R.length) (hV:V.length=m) (hB:B.length=n-i) (hi:i<=n) (k:Nat) (hk:k=n+m):
  ((R.take (i+m)++(B++Y)).take i++(V++(R.take (i+m)++(B++Y)).drop (i+m))).take k=R.take i++(V++B):=by
 have h1:(R.take (i+m)).length=i+m:=by rw [List.length_take];omega
 have h2:(R.take i).length=i:=by rw [List.length_take];omega
 have h3:(R.take (i+m)++(B++Y)).take i=R.take i:=by rw [List.take_append_of_le_length (by omega),List.take_take,Nat.min_eq_left (by omega)]
 have h4:(R.take (i+m)++(B++Y)).drop (i+m)=B++Y:=List.drop_left' h1;rw [h3,h4]
 have h5:R.take i++(V++(B++Y))=(R.take i++(V++B))++Y:=by simp
 rw [h5];exact List.take_left' (by simp [h2,hV,hB,hk];omega)
theorem insertN_ok {l vs:List (List D)} {i:Nat} (hi:i<=l.length) (hl:l.length<=1000000) (hv0:0<vs.length) (hv:vs.length<=1000) (hok:okRows 1 l=true) (hp:okRows 1 vs=true):
  WCall Tryz.prog 263 l 1 [.d (.int .i64 i),.own 1000000] [(1000000,.row vs 1 false)] [(1000000,.row vs 1 false)] (l.take i++(vs++l.drop i)):=by
 refine wcall_of Tryz.func263 3 rfl (by kernel_rfl) (by rfl) ?_;refine ⟨fun cap hcap=>?_,fun h0=>?_⟩
 ·obtain ⟨R,hR⟩:∃ R,R=l++List.replicate (cap-l.length) (List.replicate 1 D.unk):=⟨_,rfl⟩
  have hRl:R.length=cap:=by rw [hR];simp;omega
  have hRt:R.take l.length=l:=by rw [hR];simp
  have hRi:R.take i=l.take i:=by rw [hR,List.take_append_of_le_length hi]
  rw [<-hR]
  conv=>whnf
  refine winK_lo (by omega) hcap (aW ?_)
  refine bcase_p (fun hm0=>?_) (fun hm0=>?_)<;>conv=>whnf
  ·omega
  refine aA ?_
  refine bcase_p (fun hin=>?_) (fun hin=>?_)<;>conv=>whnf
  ·have hin':i=l.length:=by omega
   subst hin';refine aA ?_;refine condK_of hp (w0 ?_);refine ⟨fun hf=>?_,fun hf=>?_⟩
   ·conv=>whnf
    refine condK_of (by omega) (w0 ?_);refine wret_win rfl rfl rfl ?_ ?_ rfl ⟨rfl,trivial⟩
    ·simp;omega
    ·rw [Nat.zero_add,hRt,<-List.append_assoc];rw [List.take_append_of_le_length (by simp)];rw [List.take_of_length_le (by simp)];simp
   ·conv=>whnf
    refine condK_of (by omega) (w0 ?_);refine roomK_of (Nat.le_trans (Nat.mul_le_mul_right _ (by show l.length+vs.length<=1001000;omega)) (by decide)) (by omega) (w0 ?_);refine wret_win rfl rfl rfl ?_ ?_ rfl ⟨rfl,trivial⟩
    ·simp [hRl];omega
    ·rw [List.drop_zero,hRt];rw [List.take_of_length_le (by simp)];simp
  ·have hilt:i<l.length:=by omega
   refine aA ?_
   refine bcase_p (fun hcp=>?_) (fun hcp=>?_)<;>conv=>whnf
   ·refine winK_hi (by simp;omega) (aW ?_)
    have eN:((l.length:Nat):Int)+((vs.length:Nat):Int)-(i:Int)=((l.length+vs.length-i:Nat):Int):=by omega
    rw [eN];simp only [Int.toNat_natCast,Nat.sub_zero,Nat.zero_add];refine roomK_of (Nat.le_trans (Nat.mul_le_mul_right _ (by show i+(l.length+vs.length-i) <=1001000;omega)) (by decide)) (by omega) (w0 ?_);refine winK_lo (by omega) (by simp) (w0 ?_);have em:Nat.min vs.length (i+(l.length+vs.length-i)-i)=vs.length:=Nat.min_eq_left (by omega);rw [em,List.take_length];refine condK_of ⟨by simp;omega,hp⟩ (aW ?_);refine winK_lo (by omega) (by simp) (w0 ?_);refine winK_lo (by omega) hcap (w0 ?_);refine condK_of (by omega) (w0 ?_)
    have es:List.take (l.length-i) (List.drop (0+i) R)=l.drop i:=by rw [Nat.zero_add,<-List.drop_take,hRt]
    rw [es];have em2:Nat.min (l.drop i).length (i+(l.length+vs.length-i)-(i+vs.length))=(l.drop i).length:=Nat.min_eq_left (by rw [List.length_drop];omega);rw [em2,List.take_length];refine condK_of ⟨by simp;omega,okRows_drop hok i⟩ (aW ?_);refine wret_win rfl rfl rfl ?_ ?_ rfl ⟨rfl,trivial⟩
    ·simp;omega
    ·have e0:(R.take i).length=i:=by rw [List.length_take];omega
     have e1:(l.take i).length=i:=by rw [List.length_take];omega
     have e2:(l.drop i).length=l.length-i:=List.length_drop ..
     simp only [List.drop_zero,Nat.zero_add,hRi];exact ins_grow e1 rfl e2 hi _ (by omega)
   ·refine aA ?_;refine winK_hi (by show l.length+vs.length<=cap;omega) (aW ?_);refine winK_lo (by omega) (by show l.length+vs.length-0<=cap-0;omega) (w0 ?_);refine callH_ext (xcall_overlaps (t:=25) (tR:=4) tabOk Tryz.func285 (by kernel_rfl) (by kernel_rfl) (by kernel_rfl) (by kernel_rfl) rfl rfl rfl (by decide) (by intro e;rw [e] at hv0;exact absurd hv0 (by decide)) (by omega) (by decide)) (aW ?_);refine winK_lo (by omega) (by show l.length+vs.length-0<=cap-0;omega) (w0 ?_);refine winK_lo (by omega) (by show l.length+vs.length-0<=cap-0;omega) (w0 ?_);refine condK_of (by omega) (w0 ?_)
    have es:(List.take (l.length+vs.length-0-i) (List.drop (0+0+i) R)).length=l.length+vs.length-i:=by rw [List.length_take,List.length_drop];omega
    have em:Nat.min (List.take (l.length+vs.length-0-i) (List.drop (0+0+i) R)).length (l.length+vs.length-0-(i+vs.length))=l.length-i:=by rw [es];exact (Nat.min_eq_right (by omega)).trans (by omega)
    rw [em]
    have es2:List.take (l.length-i) (List.take (l.length+vs.length-0-i) (List.drop (0+0+i) R))=l.drop i:=by
     rw [List.take_take,Nat.min_eq_left (by omega),show 0+0+i=i by omega,<-List.drop_take,hRt]
    rw [es2];refine condK_of ⟨by omega,okRows_drop hok i⟩ (aW ?_);refine winK_lo (by omega) (by show l.length+vs.length-0<=cap-0;omega) (w0 ?_);have em3:Nat.min vs.length (l.length+vs.length-0-i)=vs.length:=Nat.min_eq_left (by omega);rw [em3,List.take_length];refine condK_of ⟨by simp;omega,hp⟩ (aW ?_);refine wret_win rfl rfl rfl ?_ ?_ rfl ⟨rfl,trivial⟩
    ·simp;omega
    ·have e0:(0:Nat)+0+i=i:=by omega
     have e1:(0:Nat)+0+(i+vs.length)=i+vs.length:=by omega
     have e2:(l.drop i).length=l.length-i:=List.length_drop ..
     rw [e0,e1,<-hRi];exact ins_in (n:=l.length) (by omega) rfl e2 hi _ (by omega)
 ·conv=>whnf
  refine sliceK_lo (by rw [h0] at hi;exact hi) (w0 ?_)
  have hi0:i=0:=by rw [h0] at hi;simpa using hi
  subst hi0;refine aA ?_
  refine bcase_p (fun hm0=>?_) (fun hm0=>?_)<;>conv=>whnf
  ·omega
  refine aA ?_;refine condK_of hp (w0 ?_);refine roomK_of (Nat.le_trans (Nat.mul_le_mul_right _ (by show vs.length<=1001000;omega)) (by decide)) (by omega) (w0 ?_);subst h0;refine wret_own rfl rfl ?_ rfl ⟨rfl,trivial⟩;show some (Blk.row vs 1 false)=some (Blk.row ([].take 0++(vs++[].drop 0)) 1 false);simp
def posN (w:Nat) (l:List Nat):Nat:=(l.takeWhile fun x=>decide (x<w)).length
theorem pos_lt {w:Nat}:∀ {l:List Nat} {i:Nat},i<=l.length->(∀ j (hj:j<i) (hl:j<l.length),l[j]<w)->(∀ (hl:i<l.length),¬l[i]<w)->posN w l=i
 | [],i,hi,_,_=>by simp at hi;subst hi;rfl
 |x::r,0,_,_,h=>by
  have:=h (Nat.zero_lt_succ _)
  rw [posN,List.takeWhile_cons,decide_eq_false (by simpa using this)];rfl
 |x::r,i+1,hi,h1,h2=>by
  have hx:x<w:=h1 0 (Nat.succ_pos _) (Nat.zero_lt_succ _);rw [posN,List.takeWhile_cons,decide_eq_true hx];show (List.takeWhile _ r).length+1=_
  congr 1
  refine pos_lt (by simpa using hi) (fun j hj hl=>?_) fun hl=>?_
  ·have:=h1 (j+1) (by omega) (by simpa using hl);simpa using this
  ·have:=h2 (by simpa using hl);simpa using this
theorem insN_eq (w:Nat) (l:List Nat):insN w l=l.take (posN w l)++w::l.drop (posN w l):=by
 have e:l.takeWhile (fun x=>decide (x<w))++l.dropWhile (fun x=>decide (x<w))=l:=List.takeWhile_append_dropWhile
 have h1:l.take (posN w l)=l.takeWhile fun x=>decide (x<w):=by
  have:=List.take_left' (l₁:=l.takeWhile fun x=>decide (x<w)) (l₂:=l.dropWhile fun x=>decide (x<w)) rfl
  rw [e] at this;exact this
 have h2:l.drop (posN w l)=l.dropWhile fun x=>decide (x<w):=by
  have:=List.drop_left' (l₁:=l.takeWhile fun x=>decide (x<w)) (l₂:=l.dropWhile fun x=>decide (x<w)) rfl
  rw [e] at this;exact this
 rw [h1,h2];rfl
structure BinI (w:Nat) (l:List Nat) (s:Nat×Nat):Prop where
 le:s.1<=s.2
 n:s.2<=l.length
 lo:∀ j (hj:j<s.1) (hl:j<l.length),l[j]<w
 hi:∀ j (hj:s.2<=j) (hl:j<l.length),w<l[j]
theorem wu64 {n:Int} (h0:0<=n) (h1:n<=9223372036854775807):IntKind.u64.wrap n=n:=by
 rw [IntKind.wrap_u64];omega
theorem half {a b:Nat}:Int.fdiv (((a:Int)+(b:Int))) (2^(min (1:Int).toNat (IntKind.bits .u64)))=(((a+b)/2:Nat):Int):=by
 rw [show (2:Int)^(min (1:Int).toNat (IntKind.bits .u64))=2 from rfl,Int.fdiv_eq_ediv_of_nonneg _ (by decide)];omega
theorem isNaN_ok (x:Int):ACall Tryz.prog 284 [.int .i64 x] (.bool false):=by
 refine acall_of Tryz.func284 1 rfl (by kernel_rfl) (aO ?_);exact ret_of rfl (by simp)
theorem isNaN2_ok (x:Int):ACall Tryz.prog 189 [.int .i64 x] (.bool false):=by
 refine acall_of Tryz.func189 1 rfl (by kernel_rfl) (aO ?_);exact ret_of rfl (by simp)
theorem less_ok (x y:Int):ACall Tryz.prog 283 [.int .i64 x,.int .i64 y] (.bool (decide (x<y))):=by
 refine acall_of Tryz.func283 2 rfl (by kernel_rfl) (aO ?_);refine callX_pure (isNaN2_ok x) (aO ?_);exact ret_of rfl rfl
theorem search_ok (w:Nat) (l:List Nat) (hu:l.Pairwise (·<·)) (hn:w∉l) (hl:l.length<=1000) (hw:w<1000):ACall Tryz.prog 262 [.lst (l.map encN),.int .i64 w] (.tup [.int .i64 (posN w l),.bool false]):=by
 have hm:(l.map encN).length=l.length:=List.length_map ..
 refine acall_of Tryz.func262 2 rfl (by kernel_rfl) (aO ?_);refine aloop (ι:=Nat×Nat) (fun s=>[(0,.d (.lst (l.map encN))),(1,.d (.int .i64 w)),(6,.d (.int .i64 (l.map encN).length)),(7,.d (.int .i64 s.1)),(8,.d (.int .i64 s.2))]) (fun _=>[])
  (BinI w l) (fun s=>s.2-s.1) (0,l.length) ⟨Nat.zero_le _,Nat.le_refl _,fun j hj _=>absurd hj (Nat.not_lt_zero _),fun j hj hl=>absurd hj (by dsimp only;omega)⟩ (le0 (le_of_cov ⟨rfl,rfl,rfl,rfl,by rw [<-hm];rfl,trivial⟩ trivial ⟨rfl,rfl,rfl,rfl⟩)) ?_
 rintro ⟨i,j⟩ ⟨h1,h2,h3,h4⟩;simp only [] at h1 h2 h3 h4⊢
 conv=>whnf
 refine bcase_p (fun h5=>?_) (fun h5=>?_)<;>conv=>whnf
 ·refine aO ?_;refine wrapK_in (wu64 (by omega) (by omega)) (aO ?_);rw [half];refine aO ?_
  have hh1:(i+j)/2<l.length:=by omega
  refine idxK_nat (by omega) (w0 ?_);refine getRow_of (x:=encN l[(i+j)/2]) (by simp [hh1]) (aO ?_);refine callX_pure (less_ok _ _) (w0 ?_)
  have hne:l[(i+j)/2]≠w:=fun e=>hn (e▸List.getElem_mem hh1)
  refine bcase_p (fun h6=>?_) (fun h6=>?_)<;>conv=>whnf
  ·refine aO ?_;refine ⟨((i+j)/2+1,j),⟨by dsimp only;omega,h2,fun k hk hkl=>?_,h4⟩,by dsimp only;omega,(le0 (le_of_cov ⟨rfl,rfl,rfl,rfl,rfl,trivial⟩ trivial ⟨rfl,rfl,rfl,rfl⟩))⟩;dsimp only at hk;have:=List.pairwise_iff_getElem.1 hu k ((i+j)/2) hkl hh1
   rcases Nat.lt_or_ge k ((i+j)/2) with g|g
   ·have:=this g;omega
   ·have:k=(i+j)/2:=by omega
    subst this;omega
  ·refine aO ?_;refine ⟨(i,(i+j)/2),⟨by dsimp only;omega,by dsimp only;omega,h3,fun k hk hkl=>?_⟩,by dsimp only;omega,(le0 (le_of_cov ⟨rfl,rfl,rfl,rfl,rfl,trivial⟩ trivial ⟨rfl,rfl,rfl,rfl⟩))⟩;dsimp only at hk;have:=List.pairwise_iff_getElem.1 hu ((i+j)/2) k hh1 hkl
   rcases Nat.lt_or_ge ((i+j)/2) k with g|g
   ·have:=this g;omega
   ·have:k=(i+j)/2:=by omega
    subst this;omega
 ·have hij:i=j:=by omega
  subst hij
  have hp:=pos_lt (w:=w) h2 (fun k hk hkl=>h3 k hk hkl) fun hl=>by have:=h4 i (Nat.le_refl _) hl;omega
  rw [hp];refine aO ?_
  refine bcase_p (fun h6=>?_) (fun h6=>?_)<;>conv=>whnf
  ·have hil:i<l.length:=by omega
   have:=h4 i (Nat.le_refl _) hil;refine aO ?_;refine idxK_nat (by omega) (w0 ?_);refine getRow_of (x:=encN l[i]) (by simp [hil]) (aO ?_);refine idxK_nat (by omega) (w0 ?_);refine getRow_of (x:=encN l[i]) (by simp [hil]) (aO ?_);refine callX_pure (isNaN_ok _) (aO ?_);exact ret_of rfl rfl
  ·refine aO ?_;exact ret_of rfl rfl
def inL:List Nat->Bool->List (Nat×Bool)->List Nat
 |_,_,[]=>[]
 |hs,ex,(w,x)::q=>if hs=[] \/ (ex=false/\x=false) then w::inL (insN w hs) (ex||x) q else []
theorem inL_len:∀ (q:List (Nat×Bool)) (hs:List Nat) (ex:Bool),(inL hs ex q).length<=q.length
 | [],_,_=>Nat.le_refl _
 |(w,x)::q,hs,ex=>by
  rw [inL];split
  ·have:=inL_len q (insN w hs) (ex||x)
   simp;omega
  ·exact Nat.zero_le _
structure LEn (hs0:List Nat) (ex0:Bool) (q0:List (Nat×Bool)) (s:List Nat×Bool×List (Nat×Bool)×List Nat):Prop where
 up:s.1.Pairwise (·<·)
 nd:(s.1++s.2.2.1.map (·.1)).Nodup
 lt:∀ w∈s.1++s.2.2.1.map (·.1),w<4
 len:s.1.length+s.2.2.1.length=hs0.length+q0.length
 inn:s.2.2.2.length+s.2.2.1.length=q0.length
 eq:enterL s.1 s.2.1 s.2.2.1=enterL hs0 ex0 q0
 ine:s.2.2.2++inL s.1 s.2.1 s.2.2.1=inL hs0 ex0 q0
theorem open_iff {hs:List Nat} {ex x:Bool} {w:Nat} {q:List (Nat×Bool)}:openL ⟨hs,ex,(w,x)::q⟩=true↔(hs=[] \/ (ex=false/\x=false)):=by
 rw [openL]
 cases hs<;>cases ex<;>cases x<;>simp
theorem latchEnter_ok (l:LA) (hl:l.hs.length+l.q.length<=5) (hu:l.hs.Pairwise (·<·)) (hd:(l.hs++l.q.map (·.1)).Nodup) (h4:∀ w∈l.hs++l.q.map (·.1),w<4):
  ACall Tryz.prog 201 [encLA l] (.tup [encLA (enterL l.hs l.ex l.q),.lst ((inL l.hs l.ex l.q).map encN)]):=by
 obtain ⟨hs0,ex0,q0⟩:=l;simp only [] at hl hu hd h4⊢;refine acall_of Tryz.func201 1 rfl (by kernel_rfl) (aO ?_);refine callX_own (cloneN (encN_ok hs0) (by rw [List.length_map];show hs0.length<=1000000;omega)) (aO ?_);refine aloop (ι:=List Nat×Bool×List (Nat×Bool)×List Nat) (fun s=>[(1,.ptr 1 0 0),(2,.ptr 2 0 0),(4,.own 45)]) (fun s=>[(1,.box [.own 10,.d (.bool s.2.1),.d (.lst (s.2.2.1.map encWt))] false),(2,.box [.nil,.d (.bool false),.nil] false),(10,.row (s.1.map encN) 1 false),(45,.row (s.2.2.2.map encN) 1 false)])
  (LEn hs0 ex0 q0) (fun s=>s.2.2.1.length) (hs0,ex0,q0,[]) ⟨hu,hd,h4,rfl,Nat.zero_add _,rfl,rfl⟩ (le1 (.row 4 45 1) ⟨rfl,rfl⟩ (le_of_cov ⟨rfl,rfl,rfl,trivial⟩ ⟨rfl,rfl,rfl,rfl,trivial⟩ ⟨rfl,rfl,rfl,rfl⟩)) ?_
 rintro ⟨hs,ex,q,ins⟩ ⟨i1,i2,i3,i4,i5,i6,i7⟩;simp only [] at i1 i2 i3 i4 i5 i6 i7⊢;refine aO ?_;refine callX_pure (openL_ok ⟨hs,ex,q⟩) (w0 ?_)
 cases q with
 |nil=>
  rw [openL];refine aO ?_;rw [enterL] at i6;rw [inL,List.append_nil] at i7;rw [<-i6,<-i7];exact ret_of rfl rfl
 |cons wx q=>
  obtain ⟨w,x⟩:=wx
  cases g:openL ⟨hs,ex,(w,x)::q⟩ with
  |false=>
   have g2:¬(hs=[] \/ (ex=false/\x=false)):=fun h=>by rw [open_iff.2 h] at g;cases g
   rw [enterL,if_neg g2] at i6;rw [inL,if_neg g2,List.append_nil] at i7;rw [<-i6,<-i7];refine aO ?_;exact ret_of rfl rfl
  |true=>
   have g2:=open_iff.1 g;rw [enterL,if_pos g2] at i6;rw [inL,if_pos g2] at i7;have hw4:w<4:=i3 w (by simp)
   have hwn:w∉hs:=fun h=>by
    have:=(List.nodup_append.1 i2).2.2 w h w (by simp);exact this rfl
   have es:((((w,x)::q).map encWt).take (((w,x)::q).map encWt).length).drop 1=q.map encWt:=by rw [List.take_length];rfl
   simp only [List.length_cons] at i4 i5
   have hmc:(hs.map encN).length=hs.length:=List.length_map ..
   have hmi:(ins.map encN).length=ins.length:=List.length_map ..
   have hp:posN w hs<=hs.length:=(List.takeWhile_sublist _).length_le
   have ei:(insN w hs).map encN=(hs.map encN).take (posN w hs)++([encN w]++(hs.map encN).drop (posN w hs)):=by
    rw [insN_eq,List.map_append,List.map_cons,List.map_take,List.map_drop];rfl
   have up':=insN_up i1 hwn;have hil:=insN_len w hs
   have nd':(insN w hs++q.map (·.1)).Nodup:=by
    refine List.nodup_append.2 ⟨?_,((List.nodup_append.1 i2).2.1.sublist (List.sublist_cons_self _ _)),fun a ha b hb=>?_⟩
    ·exact List.nodup_iff_pairwise_ne.2 (up'.imp fun h=>Nat.ne_of_lt h)
    ·rcases mem_insN.1 ha with rfl|h
     ·have:=(List.nodup_append.1 i2).2.1;rw [List.map_cons,List.nodup_cons] at this
      exact fun e=>this.1 (e▸hb)
     ·exact (List.nodup_append.1 i2).2.2 a h b (List.mem_cons_of_mem _ hb)
   have lt':∀ y∈insN w hs++q.map (·.1),y<4:=fun y hy=>by
    rcases List.mem_append.1 hy with h|h
    ·rcases mem_insN.1 h with rfl|h
     ·exact hw4
     ·exact i3 y (List.mem_append_left _ h)
    ·exact i3 y (List.mem_append_right _ (List.mem_cons_of_mem _ h))
   refine aO ?_;refine idxK_nat (i:=0) (by simp) (w0 ?_);refine getRow_of (x:=encWt (w,x)) rfl (aO ?_);refine condK_of (fun e he=>encWt_len he) (w0 ?_);refine sliceK_lo (l:=1) (by simp) (aO ?_);refine callX_pure (search_ok w hs i1 hwn (by omega) (by omega)) (aO ?_);refine callX_win (insertN_ok (l:=hs.map encN) (vs:=[encN w]) (i:=posN w hs) (by omega) (by omega) (Nat.lt_succ_self 0) (by simp) (encN_ok hs) rfl) [(1000000,35)] rfl ⟨rfl,rfl,trivial⟩ rfl (aO ?_)
   refine bcase_intro (fun gx=>?_) (fun gx=>?_)<;>conv=>whnf
   ·refine aO ?_;refine roomK_le 1000 100 (by show (ins.map encN).length+1<=1000;omega) (by decide) (by decide) (by decide) (w0 ?_);have gx:x=true:=gx;subst gx;rw [Bool.or_true] at i6 i7;refine ⟨(insN w hs,true,q,ins++[w]),⟨up',nd',lt',by dsimp only;omega,by dsimp only;rw [List.length_append,List.length_singleton];omega,i6,by rw [<-i7];simp⟩,by dsimp only;rw [List.length_cons];omega,le1 (.wkc 1 1 (.d (.bool true))) ⟨⟨_,rfl,wk_tt⟩,rfl⟩ (le_of_cov ⟨rfl,rfl,rfl,trivial⟩ ⟨by rw [<-es];rfl,rfl,by rw [ei];rfl,by rw [List.map_append];rfl,trivial⟩ ⟨rfl,rfl,rfl,rfl⟩)⟩
   ·refine aO ?_;refine roomK_le 1000 100 (by show (ins.map encN).length+1<=1000;omega) (by decide) (by decide) (by decide) (w0 ?_);have gx:x=false:=gx;subst gx;rw [Bool.or_false] at i6 i7;refine ⟨(insN w hs,ex,q,ins++[w]),⟨up',nd',lt',by dsimp only;omega,by dsimp only;rw [List.length_append,List.length_singleton];omega,i6,by rw [<-i7];simp⟩,by dsimp only;rw [List.length_cons];omega,le0 (le_of_cov ⟨rfl,rfl,rfl,trivial⟩ ⟨by rw [<-es];rfl,rfl,by rw [ei];rfl,by rw [List.map_append];rfl,trivial⟩ ⟨rfl,rfl,rfl,rfl⟩)⟩
theorem latchAsk_ok (l:LA) (o:LOk l) (w:Nat) (x:Bool) (hw:w<4) (hn:w∉l.hs++l.q.map (·.1)) (hl:l.hs.length+l.q.length<=3):
  ∃ b:Bool,ACall Tryz.prog 141 [encLA l,.int .i64 w,.bool x] (.tup [encLA (askL l w x),.bool b,.int .i64 0]):=by
 have hc:=contains_ok (w:Int) l.hs (by omega);rw [nohold fun g=>hn (List.mem_append_left _ g)] at hc;have hwt:=waits_ok (w:Int) l.q (by omega);rw [nowait fun g=>hn (List.mem_append_right _ g)] at hwt
 have hmh:(l.hs.map encN).length=l.hs.length:=List.length_map ..
 have hmq:(l.q.map encWt).length=l.q.length:=List.length_map ..
 have he:ACall Tryz.prog 201 [.agg [.lst (l.hs.map encN),.bool l.ex,.lst (l.q.map encWt++[encWt (w,x)])]] (.tup [encLA (askL l w x),.lst ((inL l.hs l.ex (l.q++[(w,x)])).map encN)]):=by
  have:=latchEnter_ok ⟨l.hs,l.ex,l.q++[(w,x)]⟩ (by show l.hs.length+(l.q++[(w,x)]).length<=5;simp;omega) o.up
   (by
    show (l.hs++(l.q++[(w,x)]).map (·.1)).Nodup;rw [List.map_append,<-List.append_assoc]
    exact List.nodup_append.2 ⟨o.nd,by simp,fun a ha b hb e=>hn (by simp at hb;rw [<-hb,<-e];exact ha)⟩)
   (by
    show ∀ y∈l.hs++(l.q++[(w,x)]).map (·.1),y<4;rw [List.map_append,<-List.append_assoc];intro y hy
    rcases List.mem_append.1 hy with h|h
    ·exact o.lt y h
    ·simp at h;omega)
  have e:(l.q++[(w,x)]).map encWt=l.q.map encWt++[encWt (w,x)]:=by rw [List.map_append];rfl
  rw [<-e];exact this
 have hin:=inL_len (l.q++[(w,x)]) l.hs l.ex;rw [List.length_append,List.length_singleton] at hin;refine ⟨decide (0<=ixF (isT w) (inL l.hs l.ex (l.q++[(w,x)])) 0),?_⟩;refine acall_of Tryz.func141 3 rfl (by kernel_rfl) (aO ?_);refine callX_pure (latchR_ok l o) (aO ?_);refine callX_pure hc (aO ?_);refine callX_pure hwt (aO ?_);refine callX_own (cloneWt (encWt_ok l.q) (by omega)) (aO ?_);refine roomK_le 1000 100 (by show (l.q.map encWt).length+1<=1000;omega) (by decide) (by decide) (by decide) (aO ?_);refine callX_pure he (aO ?_);refine callX_pure (contains_ok (w:Int) (inL l.hs l.ex (l.q++[(w,x)])) (by omega)) (aO ?_);exact ret_of rfl rfl
theorem isH_ok (who:Int) (c:Nat):ACall Tryz.prog 209 [.int .i64 c,.dp [.int .i64 who] 0] (.bool (isT who c)):=by
 refine acall_of Tryz.func209 2 rfl (by kernel_rfl) (aO ?_);exact ret_of rfl rfl
theorem isW2_ok (who:Int) (c:Nat×Bool):ACall Tryz.prog 211 [.agg (encWt c),.dp [.int .i64 who] 0] (.bool (isC who c)):=by
 refine acall_of Tryz.func211 2 rfl (by kernel_rfl) (aO ?_);exact ret_of rfl rfl
theorem latchDrop_ok (l:LA) (o:LOk l) (w:Nat) (hh:w∈l.hs):
  ∃ ins:List Nat,ACall Tryz.prog 148 [encLA l,.int .i64 w] (.tup [encLA (dropL l w),.lst (ins.map encN),.int .i64 0]):=by
 have hlen:=o.len;have hc:=contains_ok (w:Int) l.hs (by omega)
 have e0:decide (0<=ixF (isT w) l.hs 0)=true:=by
  rw [decide_eq_true_eq,ixF_ge,List.any_eq_true];exact ⟨w,hh,by simp [isT]⟩
 rw [e0] at hc;have f1:=delN 209 [.dp [.int .i64 w] 0] (isT w) (isH_ok w) l.hs (by omega);have f2:=delWt 211 [.dp [.int .i64 w] 0] (isC w) (isW2_ok w) l.q (by omega);rw [fil_T] at f1;rw [fil_C] at f2;have l1:=List.length_filter_le (fun c:Nat=>c !=w) l.hs;have l2:=List.length_filter_le (fun c:Nat×Bool=>c.1 !=w) l.q
 have hmh:(l.hs.map encN).length=l.hs.length:=List.length_map ..
 have hmq:(l.q.map encWt).length=l.q.length:=List.length_map ..
 have sub:(l.hs.filter (fun x=>x !=w)++(l.q.filter fun x=>x.1 !=w).map (·.1)).Sublist (l.hs++l.q.map (·.1)):=List.Sublist.append (List.filter_sublist) ((List.filter_sublist).map _)
 have he:=fun ex=>latchEnter_ok ⟨l.hs.filter fun x=>x !=w,ex,l.q.filter fun x=>x.1 !=w⟩ (by show (l.hs.filter _).length+(l.q.filter _).length<=5;omega) (o.up.sublist List.filter_sublist) (o.nd.sublist sub) (fun y hy=>o.lt y (sub.mem hy))
 by_cases g:(l.hs.filter fun x=>x !=w)=[]
 ·refine ⟨inL (l.hs.filter fun x=>x !=w) false (l.q.filter fun x=>x.1 !=w),?_⟩;have he:=he false
  have ed:dropL l w=enterL (l.hs.filter fun x=>x !=w) false (l.q.filter fun x=>x.1 !=w):=by rw [dropL,if_pos g]
  rw [ed];refine acall_of Tryz.func148 2 rfl (by kernel_rfl) (aO ?_);refine callX_pure (latchR_ok l o) (aO ?_);refine callX_pure hc (aO ?_);refine callX_own (cloneN (encN_ok l.hs) (by omega)) (aO ?_);refine callX_win f1 [] rfl ⟨rfl,trivial⟩ rfl (aO ?_);refine callX_own (cloneWt (encWt_ok l.q) (by omega)) (aO ?_);refine callX_win f2 [] rfl ⟨rfl,trivial⟩ rfl (aO ?_);refine bcase_t (by rw [g];rfl) (aO ?_);refine callX_pure he (aO ?_);exact ret_of rfl rfl
 ·refine ⟨inL (l.hs.filter fun x=>x !=w) l.ex (l.q.filter fun x=>x.1 !=w),?_⟩;have he:=he l.ex
  have ed:dropL l w=enterL (l.hs.filter fun x=>x !=w) l.ex (l.q.filter fun x=>x.1 !=w):=by rw [dropL,if_neg g]
  rw [ed];refine acall_of Tryz.func148 2 rfl (by kernel_rfl) (aO ?_);refine callX_pure (latchR_ok l o) (aO ?_);refine callX_pure hc (aO ?_);refine callX_own (cloneN (encN_ok l.hs) (by omega)) (aO ?_);refine callX_win f1 [] rfl ⟨rfl,trivial⟩ rfl (aO ?_);refine callX_own (cloneWt (encWt_ok l.q) (by omega)) (aO ?_);refine callX_win f2 [] rfl ⟨rfl,trivial⟩ rfl (aO ?_);refine bcase_f (by rw [decide_eq_false_iff_not,List.length_map];intro e;exact g (List.length_eq_zero_iff.1 (by omega))) (aO ?_);refine callX_pure he (aO ?_);exact ret_of rfl rfl
theorem nret_win {tm:Nat->AV} {hp:Nat->Option Blk} {rs:List ResultVar} {l:List (List D)} {sz t b n:Nat} {c:Option Nat} {r:List (List D)} (h1:rs=[.tmp t]) (h2:tm t=.win b 0 n c) (h3:hp b=some (.row r sz false)) (h4:n<=r.length) (h5:r.take n=l):
  ∃ t,rs=[.tmp t] /\ ((∃ b r n cp,tm t=.win b 0 n cp/\hp b=some (.row r sz false) /\n<=r.length/\r.take n=l) \/ (tm t=.nil/\l=[])):=
 ⟨t,h1,.inl ⟨b,r,n,c,h2,h3,h4,h5⟩⟩
theorem growRq (n:Nat) (hn:n<=1000) (hp:Nat->Option Blk) (t:Nat):ECall Tryz.prog 269 [.nil,.d (.int .i64 n)] hp ⟨.own t,[(t,.row [] 4 false)],some t⟩:=by
 refine ncall_of Tryz.func269 2 rfl (by kernel_rfl) rfl ?_ hp t
 conv=>whnf
 refine aO ?_
 refine bcase_p (fun g=>?_) (fun g=>?_)<;>conv=>whnf
 ·refine aO ?_;refine sliceK_hi (h:=0) (by omega) (aO ?_);refine roomK_le 1000 100 (by omega) (by decide) (by decide) (by decide) (aO ?_);refine winK_hi (h:=0) (by omega) (aO ?_);exact nret_win rfl rfl rfl (Nat.zero_le _) rfl
 ·refine aO ?_;exact ⟨4,rfl,.inr ⟨rfl,rfl⟩⟩
theorem growJb (n:Nat) (hn:n<=1000) (hp:Nat->Option Blk) (t:Nat):ECall Tryz.prog 223 [.nil,.d (.int .i64 n)] hp ⟨.own t,[(t,.row [] 5 false)],some t⟩:=by
 refine ncall_of Tryz.func223 2 rfl (by kernel_rfl) rfl ?_ hp t
 conv=>whnf
 refine aO ?_
 refine bcase_p (fun g=>?_) (fun g=>?_)<;>conv=>whnf
 ·refine aO ?_;refine sliceK_hi (h:=0) (by omega) (aO ?_);refine roomK_le 1000 100 (by omega) (by decide) (by decide) (by decide) (aO ?_);refine winK_hi (h:=0) (by omega) (aO ?_);exact nret_win rfl rfl rfl (Nat.zero_le _) rfl
 ·refine aO ?_;exact ⟨4,rfl,.inr ⟨rfl,rfl⟩⟩
def enL (l:List (List D)):List D:=[.lst l]
def totL (ls:List (List (List D))):Nat:=ls.flatten.length
theorem tot_succ {ls:List (List (List D))} {k:Nat} (hk:k<ls.length):totL (ls.take (k+1))=totL (ls.take k)+ls[k].length:=by
 rw [totL,totL,take_snoc hk,List.flatten_append,List.length_append,List.flatten_cons,List.flatten_nil,List.append_nil]
theorem tot_le {ls:List (List (List D))} {k:Nat}:totL (ls.take k) <=totL ls:=by
 rw [totL,totL]
 conv=>rhs;rw [<-List.take_append_drop k ls,List.flatten_append,List.length_append]
 omega
theorem concatRq (ls:List (List (List D))) (hok:∀ l∈ls,okRows 4 l=true) (h2:ls.length<=1000) (hl:totL ls<=1000):OCall Tryz.prog 220 [.lst (ls.map enL)] ls.flatten 4:=by
 refine ocall_of Tryz.func220 1 rfl (by kernel_rfl) ?_
 have hm:(ls.map enL).length=ls.length:=List.length_map ..
 refine aO ?_;refine aloop (ι:=Nat) (fun k=>[(0,.d (.lst (ls.map enL))),(3,.d (.int .i64 (totL (ls.take k)))),(9,.d (.lst (ls.map enL))),(10,.d (.int .i64 (ls.map enL).length)),(11,.d (.int .i64 k))]) (fun _=>[])
  (fun k=>k<=ls.length) (fun k=>ls.length-k) 0 (Nat.zero_le _) (le0 (le_of_cov ⟨rfl,rfl,rfl,rfl,rfl,trivial⟩ trivial ⟨rfl,rfl,rfl,rfl⟩)) ?_
 intro k hk
 conv=>whnf
 refine bcase_p (fun h5=>?_) (fun h5=>?_)<;>conv=>whnf
 ·have hk2:k<ls.length:=by omega
  have e:=tot_succ hk2;have e2:=tot_le (ls:=ls) (k:=k+1);refine idxK_nat (by omega) (w0 ?_);refine getRow_of (x:=enL ls[k]) (by simp [hk2]) (aO ?_);rw [show ((totL (ls.take k):Nat):Int)+((ls[k].length:Nat):Int)=((totL (ls.take (k+1)):Nat):Int) by omega];refine aO ?_;exact ⟨k+1,by omega,by omega,(le0 (le_of_cov ⟨rfl,rfl,rfl,rfl,rfl,trivial⟩ trivial ⟨rfl,rfl,rfl,rfl⟩))⟩
 have hkl:k=ls.length:=by omega
 subst hkl;rw [List.take_length];refine aO ?_;refine callX_heap (growRq (totL ls) hl _ 24) (aO ?_);refine aloop (ι:=Nat) (fun k=>[(6,.own 24),(25,.d (.lst (ls.map enL))),(26,.d (.int .i64 (ls.map enL).length)),(27,.d (.int .i64 k))]) (fun k=>[(24,.row (ls.take k).flatten 4 false)])
  (fun k=>k<=ls.length) (fun k=>ls.length-k) 0 (Nat.zero_le _) (le0 (le_of_cov ⟨rfl,rfl,rfl,rfl,trivial⟩ ⟨rfl,trivial⟩ ⟨rfl,rfl,rfl,rfl⟩)) ?_
 intro k hk
 conv=>whnf
 refine bcase_p (fun h6=>?_) (fun h6=>?_)<;>conv=>whnf
 ·have hk2:k<ls.length:=by omega
  have e:=tot_succ hk2;have e2:=tot_le (ls:=ls) (k:=k+1)
  have e3:(ls.take (k+1)).flatten=(ls.take k).flatten++ls[k]:=by rw [take_snoc hk2,List.flatten_append];simp
  refine idxK_nat (by omega) (w0 ?_);refine getRow_of (x:=enL ls[k]) (by simp [hk2]) (aO ?_);refine condK_of (hok _ (List.getElem_mem hk2)) (w0 ?_);refine roomK_le 1000 100 (by show (ls.take k).flatten.length+ls[k].length<=1000;rw [<-List.length_append,<-e3];exact Nat.le_trans e2 hl) (by decide) (by decide) (by decide) (aO ?_);exact ⟨k+1,by omega,by omega,le0 (le_of_cov ⟨rfl,rfl,rfl,rfl,trivial⟩ ⟨by rw [e3];rfl,trivial⟩ ⟨rfl,rfl,rfl,rfl⟩)⟩
 ·have hkl:k=ls.length:=by omega
  subst hkl;rw [List.take_length];refine aO ?_;exact ⟨2,rfl,.inl ⟨24,rfl,rfl⟩⟩
theorem concatJb (ls:List (List (List D))) (hok:∀ l∈ls,okRows 5 l=true) (h2:ls.length<=1000) (hl:totL ls<=1000):OCall Tryz.prog 156 [.lst (ls.map enL)] ls.flatten 5:=by
 refine ocall_of Tryz.func156 1 rfl (by kernel_rfl) ?_
 have hm:(ls.map enL).length=ls.length:=List.length_map ..
 refine aO ?_;refine aloop (ι:=Nat) (fun k=>[(0,.d (.lst (ls.map enL))),(3,.d (.int .i64 (totL (ls.take k)))),(9,.d (.lst (ls.map enL))),(10,.d (.int .i64 (ls.map enL).length)),(11,.d (.int .i64 k))]) (fun _=>[])
  (fun k=>k<=ls.length) (fun k=>ls.length-k) 0 (Nat.zero_le _) (le0 (le_of_cov ⟨rfl,rfl,rfl,rfl,rfl,trivial⟩ trivial ⟨rfl,rfl,rfl,rfl⟩)) ?_
 intro k hk
 conv=>whnf
 refine bcase_p (fun h5=>?_) (fun h5=>?_)<;>conv=>whnf
 ·have hk2:k<ls.length:=by omega
  have e:=tot_succ hk2;have e2:=tot_le (ls:=ls) (k:=k+1);refine idxK_nat (by omega) (w0 ?_);refine getRow_of (x:=enL ls[k]) (by simp [hk2]) (aO ?_);rw [show ((totL (ls.take k):Nat):Int)+((ls[k].length:Nat):Int)=((totL (ls.take (k+1)):Nat):Int) by omega];refine aO ?_;exact ⟨k+1,by omega,by omega,(le0 (le_of_cov ⟨rfl,rfl,rfl,rfl,rfl,trivial⟩ trivial ⟨rfl,rfl,rfl,rfl⟩))⟩
 have hkl:k=ls.length:=by omega
 subst hkl;rw [List.take_length];refine aO ?_;refine callX_heap (growJb (totL ls) hl _ 24) (aO ?_);refine aloop (ι:=Nat) (fun k=>[(6,.own 24),(25,.d (.lst (ls.map enL))),(26,.d (.int .i64 (ls.map enL).length)),(27,.d (.int .i64 k))]) (fun k=>[(24,.row (ls.take k).flatten 5 false)])
  (fun k=>k<=ls.length) (fun k=>ls.length-k) 0 (Nat.zero_le _) (le0 (le_of_cov ⟨rfl,rfl,rfl,rfl,trivial⟩ ⟨rfl,trivial⟩ ⟨rfl,rfl,rfl,rfl⟩)) ?_
 intro k hk
 conv=>whnf
 refine bcase_p (fun h6=>?_) (fun h6=>?_)<;>conv=>whnf
 ·have hk2:k<ls.length:=by omega
  have e:=tot_succ hk2;have e2:=tot_le (ls:=ls) (k:=k+1)
  have e3:(ls.take (k+1)).flatten=(ls.take k).flatten++ls[k]:=by rw [take_snoc hk2,List.flatten_append];simp
  refine idxK_nat (by omega) (w0 ?_);refine getRow_of (x:=enL ls[k]) (by simp [hk2]) (aO ?_);refine condK_of (hok _ (List.getElem_mem hk2)) (w0 ?_);refine roomK_le 1000 100 (by show (ls.take k).flatten.length+ls[k].length<=1000;rw [<-List.length_append,<-e3];exact Nat.le_trans e2 hl) (by decide) (by decide) (by decide) (aO ?_);exact ⟨k+1,by omega,by omega,le0 (le_of_cov ⟨rfl,rfl,rfl,rfl,trivial⟩ ⟨by rw [e3];rfl,trivial⟩ ⟨rfl,rfl,rfl,rfl⟩)⟩
 ·have hkl:k=ls.length:=by omega
  subst hkl;rw [List.take_length];refine aO ?_;exact ⟨2,rfl,.inl ⟨24,rfl,rfl⟩⟩
structure FlOk (nx:Nat) (fl:List Fly):Prop where
 len:fl.length<=4
 mx:nx<=2147483647
 up:(fl.map (·.tk)).Pairwise (·<·)
 lt:∀ f∈fl,f.tk<nx/\1<=f.pg/\f.pg<=16
def dvC (nx:Nat) (fl:List Fly) (d:DS):List D:=[.lst (d.sec.map encB),.lst (d.ca.map encW),.int .i64 nx,.lst (fl.map encReq)]
theorem encReq_ok:∀ (l:List Fly),okRows 4 (l.map encReq)=true
 | []=>rfl
 |_::r=>encReq_ok r
theorem encOut_ok:∀ (l:List Fly),okRows 5 (l.map encOut)=true
 | []=>rfl
 |_::r=>encOut_ok r
theorem encReq_len {l:List Fly} {e:List D} (h:e∈l.map encReq):e.length=4:=by
 obtain ⟨x,_,rfl⟩:=List.mem_map.1 h;rfl
theorem encOut_len {l:List Fly} {e:List D} (h:e∈l.map encOut):e.length=5:=by
 obtain ⟨x,_,rfl⟩:=List.mem_map.1 h;rfl
theorem request_ok (p:Int) (h1:1<=p) (h2:p<=16):ACall Tryz.prog 187 [.int .i64 1,.int .i64 p,.str ByteArray.empty] (.bool true):=by
 refine acall_of Tryz.func187 3 rfl (by kernel_rfl) (aO ?_);refine ret_of rfl ?_;simp;rfl
theorem dvRight_ok (nx:Nat) (fl:List Fly) (d:DS) (o:FlOk nx fl) (hU:Us d):ACall Tryz.prog 128 [.agg (dvC nx fl d)] (.bool true):=by
 have hlen:=o.len;have hnx:=o.mx;have hn:=hU.n
 have hm:(fl.map encReq).length=fl.length:=List.length_map ..
 have hms:(d.sec.map encB).length=d.sec.length:=List.length_map ..
 have hmt:(fl.map (·.tk)).length=fl.length:=List.length_map ..
 have hr:=dRight_ok d;rw [drB_t.2 hU.dr] at hr;refine acall_of Tryz.func128 1 rfl (by kernel_rfl) (aO ?_);refine callX_pure hr (aO ?_);refine aloop (ι:=Nat) (fun k=>[(1,.ptr 1 0 0),(3,.d (.int .i64 (lastN (fl.map (·.tk)) k))),(32,.d (.lst (fl.map encReq))),(33,.d (.int .i64 (fl.map encReq).length)),(34,.d (.int .i64 k))]) (fun _=>[(1,.box ((dvC nx fl d).map AV.d) false)])
  (fun k=>k<=fl.length) (fun k=>fl.length-k) 0 (Nat.zero_le _) (le0 (le_of_cov ⟨rfl,rfl,rfl,rfl,rfl,trivial⟩ ⟨rfl,trivial⟩ ⟨rfl,rfl,rfl,rfl⟩)) ?_
 intro k hk
 conv=>whnf
 refine bcase_p (fun h5=>?_) (fun h5=>?_)<;>conv=>whnf
 ·have hk2:k<fl.length:=by omega
  have hl1:=lastN_lt o.up (k:=k) (by omega);have hls:=lastN_succ (l:=fl.map (·.tk)) (k:=k) (by omega);rw [List.getElem_map] at hl1 hls;obtain ⟨g1,g2,g3⟩:=o.lt fl[k] (List.getElem_mem hk2);refine idxK_nat (by omega) (w0 ?_);refine getRow_of (x:=encReq fl[k]) (by simp [hk2]) (aW ?_);refine aO ?_;refine callX_pure (request_ok fl[k].pg g2 g3) (aO ?_);exact ⟨k+1,by omega,by omega,le0 (le_of_cov ⟨rfl,by rw [hls];rfl,rfl,rfl,rfl,trivial⟩ ⟨rfl,trivial⟩ ⟨rfl,rfl,rfl,rfl⟩)⟩
 refine aO ?_;exact ret_of rfl rfl
theorem submit_ok (nx:Nat) (fl:List Fly) (d:DS) (o:FlOk nx fl) (hU:Us d) (p:Int) (w t:Nat) (h1:1<=p) (h2:p<=16) (hl:fl.length<4) (hn:nx<2147483647):
  ACall Tryz.prog 154 [.agg (dvC nx fl d),.int .i64 1,.int .i64 p,.str ByteArray.empty] (.tup [.agg (dvC (nx+1) (fl++[(⟨nx,w,p,t⟩:Fly)]) d),.int .i64 nx,.int .i64 0]):=by
 have hm:(fl.map encReq).length=fl.length:=List.length_map ..
 refine acall_of Tryz.func154 4 rfl (by kernel_rfl) (aO ?_);refine callX_pure (dvRight_ok nx fl d o hU) (aO ?_);refine callX_pure (request_ok p h1 h2) (aO ?_);refine callX_own (cloneRq (encReq_ok fl) (by omega)) (aO ?_);refine roomK_le 1000 100 (by show (fl.map encReq).length+1<=1000;omega) (by decide) (by decide) (by decide) (aO ?_);refine ret_of rfl ?_;show _=D.tup [D.agg [.lst (d.sec.map encB),.lst (d.ca.map encW),.int .i64 ((nx+1:Nat):Int),.lst ((fl++[(⟨nx,w,p,t⟩:Fly)]).map encReq)],.int .i64 nx,.int .i64 0]
 rw [List.map_append];rfl
theorem dhome_ok (p:Int) (h1:1<=p) (h2:p<=16):ACall Tryz.prog 221 [.int .i64 p] (.int .i64 (2*p+1)):=by
 refine acall_of Tryz.func221 1 rfl (by kernel_rfl) (aO ?_);exact ret_of rfl rfl
noncomputable def dreq (d:DS) (f:Fly) (fault:Bool):List D:=[.int .i64 f.tk,.int .i64 1,.int .i64 f.pg,.str (bif fault then ByteArray.empty else (dreadM d (2*f.pg+1)).1++(dreadM d (2*f.pg+1+1)).1)]
theorem dread_sz {d:DS} (hU:Us d) (n:Int):(dreadM d n).1.size<=16:=by
 rw [dreadM]
 split
 ·rename_i h
  rw [rdS_size hU.dr h.2.1 h.2.2];decide
 ·decide
theorem cut_two (enc:Fly->List D) (fl:List Fly) (i:Nat):[(((fl.map enc).take i).drop 0),(((fl.map enc).take (fl.map enc).length).drop (i+1))].flatten=(fl.eraseIdx i).map enc:=by
 rw [List.eraseIdx_eq_take_drop_succ,List.take_length];simp [List.map_take,List.map_drop]
theorem cut_tot (enc:Fly->List D) (fl:List Fly) (i:Nat):totL [(((fl.map enc).take i).drop 0),(((fl.map enc).take (fl.map enc).length).drop (i+1))] <=fl.length:=by
 rw [totL,cut_two,List.length_map];have:=List.length_eraseIdx_le fl i;omega
set_option maxHeartbeats 4000000 in
theorem dfinish_ok (nx:Nat) (fl:List Fly) (d:DS) (o:FlOk nx fl) (hU:Us d) (i:Nat) (hi:i<fl.length) (fault:Bool):
  ACall Tryz.prog 155 [.agg (dvC nx fl d),.int .i64 i,.bool fault] (.tup [.agg (dvC nx (fl.eraseIdx i) d),.agg (dreq d fl[i] fault),.int .i64 (if fault=true then 8 else 0)]):=by
 have hm:(fl.map encReq).length=fl.length:=List.length_map ..
 have hlen:=o.len
 have hg:(fl.map encReq)[i]?=some (encReq fl[i]):=by rw [List.getElem?_map,List.getElem?_eq_getElem hi];rfl
 obtain ⟨g1,g2,g3⟩:=o.lt fl[i] (List.getElem_mem hi)
 have hc:=concatRq [(((fl.map encReq).take i).drop 0),(((fl.map encReq).take (fl.map encReq).length).drop (i+1))] (fun l hl=>by
  simp at hl
  rcases hl with rfl|rfl
  ·exact okRows_take (encReq_ok fl) _
  ·exact okRows_drop (okRows_take (encReq_ok fl) _) _) (by simp) (Nat.le_trans (cut_tot encReq fl i) (by omega))
 rw [cut_two] at hc;have hd1:=dread_ok d (2*fl[i].pg+1);have hd2:=dread_ok d (2*fl[i].pg+1+1);refine acall_of Tryz.func155 3 rfl (by kernel_rfl) (aO ?_);refine callX_pure (dvRight_ok nx fl d o hU) (aO ?_);refine idxK_nat (by omega) (w0 ?_);refine getRow_of hg (aO ?_);refine condK_of (fun e he=>encReq_len he) (w0 ?_);refine sliceK_hi (by omega) (aO ?_);refine condK_of (fun e he=>encReq_len he) (w0 ?_);refine sliceK_lo (l:=i+1) (by omega) (aO ?_);refine callX_own hc (w0 ?_)
 cases fault with
 |true=>
  refine aO ?_;exact ret_of rfl rfl
 |false=>
  refine aO ?_;refine callX_pure (dhome_ok fl[i].pg g2 g3) (aO ?_);refine callX_pure hd1 (aO ?_);refine callX_pure (dhome_ok fl[i].pg g2 g3) (aO ?_);refine callX_pure hd2 (aO ?_);have hb1:=dread_sz hU (2*fl[i].pg+1);have hb2:=dread_sz hU (2*fl[i].pg+1+1);refine condK_of (by omega) (aO ?_);exact ret_of rfl rfl
abbrev OJ:=Option Int
def cosL:OJ->List (List D)
 |none=>[]
 |some _=>[[.int .i64 2]]
theorem encLane_eq (j:OJ):encLane j=[.int .i64 1,.int .i64 0,.lst (cosL j)]:=by cases j<;>rfl
theorem cosL_len (j:OJ):(cosL j).length<=1:=by cases j<;>simp [cosL]
theorem encLane_ok:∀ (l:List OJ),okRows 3 (l.map encLane)=true
 | []=>rfl
 |x::r=>by
  have:=encLane_ok r
  cases x<;>exact this
def lnC (js:List OJ) (at':Nat) (g:Bool):List D:=[.lst (js.map encLane),.int .i64 at',.bool g]
theorem lane_get {js:List OJ} {k:Nat} (hk:k<js.length):(js.map encLane)[k]?=some [.int .i64 1,.int .i64 0,.lst (cosL js[k])]:=by
 rw [List.getElem?_map,List.getElem?_eq_getElem hk,<-encLane_eq];rfl
theorem cosL_get {j:OJ} {q:Nat} (h:q<(cosL j).length):(cosL j)[q]?=some [.int .i64 2]:=by
 cases j with
 |none=>simp [cosL] at h
 |some x=>simp [cosL] at h;subst h;rfl
set_option maxHeartbeats 4000000 in
theorem lanesR_ok (js:List OJ) (at':Nat) (g:Bool) (h1:1<=js.length) (h4:js.length<=4) (ha:at'<js.length):ACall Tryz.prog 216 [.agg (lnC js at' g)] (.bool true):=by
 have hm:(js.map encLane).length=js.length:=List.length_map ..
 refine acall_of Tryz.func216 1 rfl (by kernel_rfl) (aO ?_);refine aloop (ι:=Nat) (fun k=>[(1,.ptr 1 0 0),(32,.d (.lst (js.map encLane))),(33,.d (.int .i64 (js.map encLane).length)),(34,.d (.int .i64 k))]) (fun _=>[(1,.box ((lnC js at' g).map AV.d) false)])
  (fun k=>k<=js.length) (fun k=>js.length-k) 0 (Nat.zero_le _) (le0 (le_of_cov ⟨rfl,rfl,rfl,rfl,trivial⟩ ⟨rfl,trivial⟩ ⟨rfl,rfl,rfl,rfl⟩)) ?_
 intro k hk
 conv=>whnf
 refine bcase_p (fun h5=>?_) (fun h5=>?_)<;>conv=>whnf
 ·have hk2:k<js.length:=by omega
  have hcl:=cosL_len js[k];refine idxK_nat (by omega) (w0 ?_);refine getRow_of (lane_get hk2) (aO ?_)
  refine bcase_p (fun h7=>?_) (fun h7=>?_)<;>conv=>whnf
  ·refine aO ?_
   refine bcase_intro (fun h8=>?_) (fun h8=>?_)<;>conv=>whnf
   ·refine aO ?_;refine aloop (ι:=Nat) (fun q=>[(1,.ptr 1 0 0),(32,.d (.lst (js.map encLane))),(33,.d (.int .i64 (js.map encLane).length)),(34,.d (.int .i64 k)),(71,.d (.lst (cosL js[k]))),(72,.d (.int .i64 (cosL js[k]).length)),(73,.d (.int .i64 q))]) (fun _=>[(1,.box ((lnC js at' g).map AV.d) false)])
     (fun q=>q<= (cosL js[k]).length) (fun q=>(cosL js[k]).length-q) 0 (Nat.zero_le _) (le0 (le_of_cov ⟨rfl,rfl,rfl,rfl,rfl,rfl,rfl,trivial⟩ ⟨rfl,trivial⟩ ⟨rfl,rfl,rfl,rfl⟩)) ?_
    intro q hq
    conv=>whnf
    refine bcase_p (fun h6=>?_) (fun h6=>?_)<;>conv=>whnf
    ·have hq2:q<(cosL js[k]).length:=by omega
     refine idxK_nat (by omega) (w0 ?_);refine getRow_of (x:=[.int .i64 2]) (cosL_get hq2) (aO ?_);exact ⟨q+1,by omega,by omega,(le0 (le_of_cov ⟨rfl,rfl,rfl,rfl,rfl,rfl,rfl,trivial⟩ ⟨rfl,trivial⟩ ⟨rfl,rfl,rfl,rfl⟩))⟩
    ·refine aO ?_;exact ⟨k+1,by omega,by omega,(le0 (le_of_cov ⟨rfl,rfl,rfl,rfl,trivial⟩ ⟨rfl,trivial⟩ ⟨rfl,rfl,rfl,rfl⟩))⟩
   ·refine aO ?_;refine aloop (ι:=Nat) (fun q=>[(1,.ptr 1 0 0),(32,.d (.lst (js.map encLane))),(33,.d (.int .i64 (js.map encLane).length)),(34,.d (.int .i64 k)),(71,.d (.lst (cosL js[k]))),(72,.d (.int .i64 (cosL js[k]).length)),(73,.d (.int .i64 q))]) (fun _=>[(1,.box ((lnC js at' g).map AV.d) false)])
     (fun q=>q<= (cosL js[k]).length) (fun q=>(cosL js[k]).length-q) 0 (Nat.zero_le _) (le0 (le_of_cov ⟨rfl,rfl,rfl,rfl,rfl,rfl,rfl,trivial⟩ ⟨rfl,trivial⟩ ⟨rfl,rfl,rfl,rfl⟩)) ?_
    intro q hq
    conv=>whnf
    refine bcase_p (fun h6=>?_) (fun h6=>?_)<;>conv=>whnf
    ·have hq2:q<(cosL js[k]).length:=by omega
     refine idxK_nat (by omega) (w0 ?_);refine getRow_of (x:=[.int .i64 2]) (cosL_get hq2) (aO ?_);exact ⟨q+1,by omega,by omega,(le0 (le_of_cov ⟨rfl,rfl,rfl,rfl,rfl,rfl,rfl,trivial⟩ ⟨rfl,trivial⟩ ⟨rfl,rfl,rfl,rfl⟩))⟩
    ·refine aO ?_;exact ⟨k+1,by omega,by omega,(le0 (le_of_cov ⟨rfl,rfl,rfl,rfl,trivial⟩ ⟨rfl,trivial⟩ ⟨rfl,rfl,rfl,rfl⟩))⟩
  ·refine aO ?_;refine aloop (ι:=Nat) (fun q=>[(1,.ptr 1 0 0),(32,.d (.lst (js.map encLane))),(33,.d (.int .i64 (js.map encLane).length)),(34,.d (.int .i64 k)),(71,.d (.lst (cosL js[k]))),(72,.d (.int .i64 (cosL js[k]).length)),(73,.d (.int .i64 q))]) (fun _=>[(1,.box ((lnC js at' g).map AV.d) false)])
    (fun q=>q<= (cosL js[k]).length) (fun q=>(cosL js[k]).length-q) 0 (Nat.zero_le _) (le0 (le_of_cov ⟨rfl,rfl,rfl,rfl,rfl,rfl,rfl,trivial⟩ ⟨rfl,trivial⟩ ⟨rfl,rfl,rfl,rfl⟩)) ?_
   intro q hq
   conv=>whnf
   refine bcase_p (fun h6=>?_) (fun h6=>?_)<;>conv=>whnf
   ·have hq2:q<(cosL js[k]).length:=by omega
    refine idxK_nat (by omega) (w0 ?_);refine getRow_of (x:=[.int .i64 2]) (cosL_get hq2) (aO ?_);exact ⟨q+1,by omega,by omega,(le0 (le_of_cov ⟨rfl,rfl,rfl,rfl,rfl,rfl,rfl,trivial⟩ ⟨rfl,trivial⟩ ⟨rfl,rfl,rfl,rfl⟩))⟩
   ·refine aO ?_;exact ⟨k+1,by omega,by omega,(le0 (le_of_cov ⟨rfl,rfl,rfl,rfl,trivial⟩ ⟨rfl,trivial⟩ ⟨rfl,rfl,rfl,rfl⟩))⟩
 ·refine aO ?_;exact ret_of rfl rfl
theorem lset_map {js:List OJ} {k:Nat} (x:OJ):(js.map encLane).set k (encLane x)=(js.set k x).map encLane:=by rw [List.map_set]
set_option maxHeartbeats 4000000 in
theorem lpush_ok (js:List OJ) (at':Nat) (g:Bool) (h1:1<=js.length) (h4:js.length<=4) (ha:at'<js.length) (k:Nat) (hk:k<js.length) (hn:js[k]=none) (p:Int):
  ACall Tryz.prog 205 [.agg (lnC js at' g),.int .i64 k,.int .i64 2] (.tup [.agg (lnC (js.set k (some p)) at' g),.int .i64 0]):=by
 have hm:(js.map encLane).length=js.length:=List.length_map ..
 have hg:(js.map encLane)[k]?=some (encLane none):=by rw [List.getElem?_map,List.getElem?_eq_getElem hk,hn];rfl
 refine acall_of Tryz.func205 3 rfl (by kernel_rfl) (aO ?_);refine callX_pure (lanesR_ok js at' g h1 h4 ha) (aO ?_);refine idxK_nat (by omega) (w0 ?_);refine getRow_of hg (aO ?_);refine callX_own (cloneLn (encLane_ok js) (by omega)) (aO ?_);refine idxK_nat (by omega) (w0 ?_);refine getRow_of hg (aO ?_);refine callX_own (cloneN (l:=[]) rfl (by simp)) (aO ?_);refine roomK_le 1000 100 (by show 0+1<=1000;omega) (by decide) (by decide) (by decide) (aO ?_);refine idxK_nat (by omega) (aO ?_);refine getRow_of hg (aO ?_);have em:(js.map encLane).set k (splice (encLane none) 2 [D.lst [[.int .i64 2]]])=(js.set k (some p)).map encLane:=lset_map (some p);refine ret_of rfl ?_;show _=D.tup [D.agg [.lst ((js.set k (some p)).map encLane),.int .i64 at',.bool g],.int .i64 0]
 rw [<-em];rfl
def hasJ (j:OJ):Bool:=decide ((0:Int)<(cosL j).length)
theorem hasJ_ok (j:OJ):ACall Tryz.prog 268 [.agg (encLane j)] (.bool (hasJ j)):=by
 cases j with
 |none=>
  refine acall_of Tryz.func268 1 rfl (by kernel_rfl) (aO ?_);exact ret_of rfl rfl
 |some p=>
  refine acall_of Tryz.func268 1 rfl (by kernel_rfl) (aO ?_);exact ret_of rfl rfl
theorem ixLn_ok (g:FuncId) (cs:List D) (p:OJ->Bool) (hg:∀ c,ACall Tryz.prog g (.agg (encLane c)::cs) (.bool (p c))) (l:List OJ) (hl:l.length<=1000000):ACall Tryz.prog 288 [.lst (l.map encLane),.fn g cs] (.int .i64 (ixF p l 0)):=by
 refine acall_of Tryz.func288 2 rfl (by kernel_rfl) (w0 ?_);refine aloop (ι:=Nat) (fun k=>[(0,.d (.lst (l.map encLane))),(1,.d (.fn g cs)),(7,.d (.int .i64 (l.map encLane).length)),(8,.d (.int .i64 k))]) (fun _=>[])
  (fun k=>k<=l.length/\ixF p (l.drop k) k=ixF p l 0) (fun k=>l.length-k) 0 ⟨Nat.zero_le _,rfl⟩ (le0 (le_of_cov ⟨rfl,rfl,rfl,rfl,trivial⟩ trivial ⟨rfl,rfl,rfl,rfl⟩)) ?_
 rintro k ⟨hk,hR⟩
 conv=>whnf
 refine bcase_p (fun h=>?_) (fun h=>?_)<;>conv=>whnf
 ·have hk2:k<l.length:=by simpa using h
  refine idxK_nat (by omega) (w0 ?_);refine getRow_of (x:=encLane l[k]) (by simp [hk2]) (aW ?_);rw [drop_cons hk2,ixF] at hR;refine callX_pure (hg l[k]) (w0 ?_)
  refine bcase_intro (fun h2=>?_) (fun h2=>?_)<;>conv=>whnf
  ·rw [if_pos h2] at hR;exact ret_of rfl (by rw [<-hR];rfl)
  ·rw [if_neg (by rw [h2];decide)] at hR;refine aA ?_;exact ⟨k+1,⟨by omega,hR⟩,by omega,(le0 (le_of_cov ⟨rfl,rfl,rfl,rfl,trivial⟩ trivial ⟨rfl,rfl,rfl,rfl⟩))⟩
 ·have:k=l.length:=by simp at h;omega
  subst this;simp [ixF] at hR;exact ret_of rfl (by rw [<-hR];rfl)
theorem lwaits_ok (js:List OJ) (at':Nat) (g:Bool) (hl:js.length<=1000):ACall Tryz.prog 217 [.agg (lnC js at' g)] (.bool (js.any hasJ)):=by
 have h265:ACall Tryz.prog 267 [.lst (js.map encLane),.fn 268 []] (.bool (js.any hasJ)):=by
  have e:decide (0<=ixF hasJ js 0)=js.any hasJ:=by rw [Bool.eq_iff_iff,decide_eq_true_eq];exact ixF_ge hasJ js 0
  rw [<-e];refine acall_of Tryz.func267 2 rfl (by kernel_rfl) (w0 ?_);refine callX_pure (ixLn_ok 268 [] hasJ hasJ_ok js (by omega)) (aW ?_);exact ret_of rfl rfl
 refine acall_of Tryz.func217 1 rfl (by kernel_rfl) (aO ?_);refine callX_pure h265 (aW ?_);exact ret_of rfl rfl
theorem laneFrom_mod {js:List OJ} (hn:0<js.length):∀ (m k:Nat),laneFrom js m (k%js.length)=laneFrom js m k
 |0,_=>rfl
 |m+1,k=>by
  rw [laneFrom,laneFrom,Nat.mod_mod,<-laneFrom_mod hn m (k+1),<-laneFrom_mod hn m (k%js.length+1)]
  congr 2
  rw [Nat.mod_add_mod]
structure NxI (js:List OJ) (K:Nat) (s:Nat×Bool×Nat):Prop where
 a:s.1<js.length
 go:laneFrom js s.2.2 (if s.2.1=true then s.1+1 else s.1)=some K
theorem NxI.next {js:List OJ} {K a m:Nat} {g:Bool} (h:NxI js K (a,g,m)) (hg:g=true\/js[a]'h.a=none):∃ m',NxI js K ((a+1)%js.length,false,m') /\2*m'<2*m+(if g=true then 1 else 0):=by
 have ha:=h.a;have go:=h.go;simp only [] at ha go
 have hp:0<js.length:=by omega
 cases g with
 |true=>
  refine ⟨m,⟨Nat.mod_lt _ hp,?_⟩,by simp⟩;simp only [Bool.false_eq_true,if_false];rw [laneFrom_mod hp]
  simpa using go
 |false=>
  have hz:js[a]=none:=hg.resolve_left (by decide);simp only [Bool.false_eq_true,if_false] at go
  cases m with
  |zero=>cases go
  |succ m=>
   rw [laneFrom,Nat.mod_eq_of_lt ha,List.getElem?_eq_getElem ha,hz] at go;refine ⟨m,⟨Nat.mod_lt _ hp,?_⟩,by simp⟩;simp only [Bool.false_eq_true,if_false];rw [laneFrom_mod hp]
   simpa using go
theorem NxI.here {js:List OJ} {K a m:Nat} (h:NxI js K (a,false,m)) {p:Int} (hs:js[a]'h.a=some p):a=K:=by
 have ha:=h.a;have go:=h.go;simp only [Bool.false_eq_true,if_false] at ha go
 cases m with
 |zero=>cases go
 |succ m=>
  rw [laneFrom,Nat.mod_eq_of_lt ha,List.getElem?_eq_getElem ha,hs] at go
  simpa using go
theorem get_set {R:List (List D)} {a:Nat} {x:List D} (h:a<R.length):(R.set a x)[a]?=some x:=by simp [h]
theorem set_same {R:List (List D)} {a:Nat} {e v:List D} (h:R[a]?=some e) (hv:v=e):R.set a v=R:=by
 subst hv;obtain ⟨ha,rfl⟩:=List.getElem?_eq_some_iff.1 h;exact List.set_getElem_self ha
set_option maxHeartbeats 4000000 in
theorem lnext_ok (js:List OJ) (at':Nat) (g:Bool) (h1:1<=js.length) (h4:js.length<=4) (ha:at'<js.length) (K:Nat) (hK:laneFrom js js.length (if g=true then at'+1 else at')=some K):
  ACall Tryz.prog 153 [.agg (lnC js at' g)] (.tup [.agg (lnC (js.set K none) K true),.int .i64 K,.int .i64 2,.bool true]):=by
 have hm:(js.map encLane).length=js.length:=List.length_map ..
 have hne:js≠[]:=fun e=>by rw [e] at h1;exact absurd h1 (by decide)
 obtain ⟨hKl,p,hKp⟩:=laneFrom_some hne hK;have hw:=lwaits_ok js at' g (by omega);have hany:js.any hasJ=true:=List.any_eq_true.2 ⟨some p,List.mem_of_getElem? hKp,rfl⟩;rw [hany] at hw;refine acall_of Tryz.func153 1 rfl (by kernel_rfl) (aO ?_);refine callX_pure (lanesR_ok js at' g h1 h4 ha) (aO ?_);refine callX_pure hw (aO ?_);refine callX_own (cloneLn (encLane_ok js) (by omega)) (aO ?_);refine aloop (ι:=Nat×Bool×Nat) (fun s=>[(1,.ptr 1 0 0),(2,.ptr 2 0 0)]) (fun s=>[(1,.box [.own 19,.d (.int .i64 s.1),.d (.bool s.2.1)] false),(2,.box [.nil,.d (.int .i64 0),.d (.bool false)] false),(19,.row (js.map encLane) 3 false)])
  (NxI js K) (fun s=>2*s.2.2+(if s.2.1=true then 1 else 0)) (at',g,js.length) ⟨ha,hK⟩ (le0 (le_of_cov ⟨rfl,rfl,trivial⟩ ⟨rfl,rfl,rfl,trivial⟩ ⟨rfl,rfl,rfl,rfl⟩)) ?_
 rintro ⟨a,g,m⟩ hI;have ia:=hI.a;simp only [] at ia⊢
 have hga:(js.map encLane)[a]?=some (encLane js[a]):=by rw [List.getElem?_map,List.getElem?_eq_getElem ia];rfl
 refine aO ?_;refine idxK_nat (by omega) (aO ?_)
 cases hz:js[a] with
 |none=>
  rw [hz] at hga;have es:(js.map encLane).set a (splice (encLane none) 1 [D.int .i64 0])=js.map encLane:=set_same hga rfl;obtain ⟨m',hJ,hlt⟩:=hI.next (.inr hz);refine getRow_of hga (aO ?_);refine getRow_of hga (aO ?_);refine divK_rem (by rw [List.length_set,hm];omega) (by omega) (w0 ?_)
  have ed:((a:Int)+1)%(((js.map encLane).set a (splice (encLane none) 1 [D.int .i64 0])).length:Nat)=(((a+1)%js.length:Nat):Int):=by
   rw [List.length_set,hm];rfl
  refine aO ?_;exact ⟨((a+1)%js.length,false,m'),hJ,hlt,le1 (.wkc 1 2 (.d (.bool false))) ⟨⟨_,rfl,wk_ff⟩,rfl⟩ (le_of_cov ⟨rfl,rfl,trivial⟩ ⟨by rw [<-ed];rfl,rfl,congrArg (fun R=>some (Blk.row R 3 false)) es,trivial⟩ ⟨rfl,rfl,rfl,rfl⟩)⟩
 |some p'=>
  rw [hz] at hga;refine getRow_of hga (aO ?_)
  cases g with
  |true=>
   obtain ⟨m',hJ,hlt⟩:=hI.next (.inl rfl);refine aO ?_
   repeat (first|refine getRow_of hga (aO ?_)|refine idxK_nat (i:=0) (by simp) (w0 ?_)|refine getRow_of (x:=[D.int .i64 2]) rfl (aO ?_))
   refine divK_rem (by rw [hm];omega) (by omega) (w0 ?_)
   have ed:((a:Int)+1)%((js.map encLane).length:Nat)=(((a+1)%js.length:Nat):Int):=by
    rw [hm];rfl
   refine aO ?_;exact ⟨((a+1)%js.length,false,m'),hJ,hlt,le1 (.wkc 1 2 (.d (.bool false))) ⟨⟨_,rfl,wk_ff⟩,rfl⟩ (le_of_cov ⟨rfl,rfl,trivial⟩ ⟨by rw [<-ed];rfl,rfl,rfl,trivial⟩ ⟨rfl,rfl,rfl,rfl⟩)⟩
  |false=>
   have hKa:=hI.here hz;subst hKa;refine aO ?_
   repeat (first|refine getRow_of hga (aO ?_)|refine idxK_nat (i:=0) (by simp) (w0 ?_)|refine getRow_of (x:=[D.int .i64 2]) rfl (aO ?_)|refine getRow_of (get_set (by simp;omega)) (aO ?_))
   refine condK_of (fun e he=>by simp at he;subst he;rfl) (w0 ?_);refine sliceK_lo (l:=1) (by simp) (aO ?_);refine callX_own (cloneN (l:=[]) rfl (by simp)) (aO ?_)
   repeat (first|refine idxK_nat (i:=0) (by simp) (w0 ?_)|refine getRow_of (get_set (by simp;omega)) (aO ?_))
   have em:∀ x1 x2 x3:List D,((((js.map encLane).set a x1).set a x2).set a x3).set a (encLane none)=(js.set a none).map encLane:=fun x1 x2 x3=>by
    simp only [List.set_set];exact lset_map none
   exact ret_of rfl (congrArg (fun R=>D.tup [D.agg [.lst R,.int .i64 a,.bool true],.int .i64 a,.int .i64 2,.bool true]) (em _ _ _))
theorem lnone_ok (js:List OJ) (at':Nat) (g:Bool) (h1:1<=js.length) (h4:js.length<=4) (ha:at'<js.length) (hK:laneFrom js js.length (if g=true then at'+1 else at')=none):
  ACall Tryz.prog 153 [.agg (lnC js at' g)] (.tup [.agg (lnC js at' g),.int .i64 0,.int .i64 0,.bool false]):=by
 have hne:js≠[]:=fun e=>by rw [e] at h1;exact absurd h1 (by decide)
 have hw:=lwaits_ok js at' g (by omega)
 have hany:js.any hasJ=false:=by
  rw [List.any_eq_false];intro x hx;obtain ⟨i,hi,rfl⟩:=List.mem_iff_getElem.1 hx;have:=laneFrom_all hne hK i hi;rw [List.getElem?_eq_getElem hi,Option.some.injEq] at this
  rw [this];decide
 rw [hany] at hw;refine acall_of Tryz.func153 1 rfl (by kernel_rfl) (aO ?_);refine callX_pure (lanesR_ok js at' g h1 h4 ha) (aO ?_);refine callX_pure hw (aO ?_);exact ret_of rfl rfl
def nwR (n k:Nat):List (List D):=List.replicate k (encLane none)++List.replicate (n-k) [.int .i64 0,.int .i64 0,.lst []]
theorem nwR_len {n k:Nat} (h:k<=n):(nwR n k).length=n:=by simp [nwR];omega
theorem nwR_get {n k:Nat} (h:k<n):(nwR n k)[k]?=some [.int .i64 0,.int .i64 0,.lst []]:=by
 rw [nwR,List.getElem?_append_right (by simp),List.length_replicate,Nat.sub_self,List.getElem?_replicate,if_pos (by omega)]
theorem nwR_set {n k:Nat} (h:k<n):(nwR n k).set k (encLane none)=nwR n (k+1):=by
 have e:n-k=(n-(k+1))+1:=by omega
 rw [nwR,nwR,e,List.replicate_succ,List.replicate_succ',List.append_assoc];exact set_mid' (by simp)
set_option maxHeartbeats 4000000 in
theorem lnew_ok (n:Nat) (h1:1<=n) (h4:n<=4):ACall Tryz.prog 129 [.lst (List.replicate n [D.int .i64 1])] (.tup [.agg (lnC (List.replicate n none) 0 false),.int .i64 0]):=by
 have hm:(List.replicate n [D.int .i64 1]).length=n:=List.length_replicate
 have hg:∀ k,k<n->(List.replicate n [D.int .i64 1])[k]?=some [D.int .i64 1]:=fun k hk=>by rw [List.getElem?_replicate,if_pos hk]
 refine acall_of Tryz.func129 1 rfl (by kernel_rfl) (aO ?_);rw [hm,Int.toNat_natCast];refine roomK_le 1000 100 (by omega) (by decide) (by decide) (by decide) (aO ?_);refine aloop (ι:=Nat) (fun k=>[(2,.ptr 2 0 0),(4,.own 18),(19,.d (.lst (List.replicate n [D.int .i64 1]))),(20,.d (.int .i64 (List.replicate n [D.int .i64 1]).length)),(21,.d (.int .i64 k))]) (fun k=>[(2,.box [.nil,.d (.int .i64 0),.d (.bool false)] false),(18,.row (nwR n k) 3 false)])
  (fun k=>k<=n) (fun k=>n-k) 0 (Nat.zero_le _) (le0 (le_of_cov ⟨rfl,rfl,rfl,rfl,rfl,trivial⟩ ⟨rfl,rfl,trivial⟩ ⟨rfl,rfl,rfl,rfl⟩)) ?_
 intro k hk
 conv=>whnf
 refine bcase_p (fun h5=>?_) (fun h5=>?_)<;>conv=>whnf
 ·have hk2:k<n:=by omega
  have hnl:=nwR_len hk;refine idxK_nat (by omega) (w0 ?_);refine getRow_of (hg k hk2) (aO ?_);refine idxK_nat (by omega) (w0 ?_);refine getRow_of (nwR_get hk2) (aO ?_);refine ⟨k+1,by omega,by omega,le0 (le_of_cov ⟨rfl,rfl,rfl,rfl,rfl,trivial⟩ ⟨rfl,?_,trivial⟩ ⟨rfl,rfl,rfl,rfl⟩)⟩
  rw [<-nwR_set hk2];rfl
 ·have:k=n:=by omega
  subst this;refine aO ?_
  have e:nwR k k=(List.replicate k none).map encLane:=by simp [nwR]
  exact ret_of rfl (congrArg (fun R=>D.tup [D.agg [.lst R,.int .i64 0,.bool false],.int .i64 0]) e)
def encSA (s:SA) (d:DS):D:=.agg (s.cells d)
def jobL (w:Nat):OJ->List (List D)
 |none=>[]
 |some p=>[encJob w p 0]
theorem jobsJ_eq (w:Nat) (j:OJ):jobsJ w j=[.lst (jobL w j)]:=by cases j<;>rfl
def jbR (js:List OJ):List (List D):=js.mapIdx jobsJ
theorem jbR_len (js:List OJ):(jbR js).length=js.length:=by simp [jbR]
theorem jbR_get {js:List OJ} {k:Nat} (hk:k<js.length):(jbR js)[k]?=some [.lst (jobL k js[k])]:=by
 rw [jbR,List.getElem?_mapIdx,List.getElem?_eq_getElem hk,<-jobsJ_eq];rfl
theorem jobL_len (w:Nat) (j:OJ):(jobL w j).length=(cosL j).length:=by cases j<;>rfl
theorem jobL_get {w:Nat} {j:OJ} {q:Nat} (h:q<(jobL w j).length):∃ p,j=some p/\ (jobL w j)[q]?=some (encJob w p 0):=by
 cases j with
 |none=>simp [jobL] at h
 |some p=>simp [jobL] at h;subst h;exact ⟨p,rfl,rfl⟩
theorem SOk.flk {s:SA} (o:SOk s):FlOk s.next s.out:=⟨o.fl,o.nx,o.up,fun f hf=>⟨(o.lt f hf).1,(o.lt f hf).2.2.1⟩⟩
theorem srequest_ok (w:Nat) (p:Int) (t:Nat) (h1:1<=p) (h2:p<=16):ACall Tryz.prog 204 [.agg (encJob w p t)] (.bool true):=by
 refine acall_of Tryz.func204 1 rfl (by kernel_rfl) (aO ?_);refine ret_of rfl ?_;simp;rfl
theorem cost_ok:ACall Tryz.prog 206 [.int .i64 1] (.int .i64 2):=by
 refine acall_of Tryz.func206 1 rfl (by kernel_rfl) (aO ?_);exact ret_of rfl rfl
set_option maxHeartbeats 4000000 in
theorem schedR_ok (s:SA) (d:DS) (o:SOk s) (hU:Us d):ACall Tryz.prog 150 [encSA s d] (.bool true):=by
 have n1:=o.n1;have n4:=o.n4;have fl:=o.fl;have hl:=jbR_len s.jobs;have hl0:(s.jobs.mapIdx jobsJ).length=s.jobs.length:=hl
 have hm:(s.jobs.map encLane).length=s.jobs.length:=List.length_map ..
 have hmo:(s.out.map encOut).length=s.out.length:=List.length_map ..
 have hmr:(s.out.map encReq).length=s.out.length:=List.length_map ..
 refine acall_of Tryz.func150 1 rfl (by kernel_rfl) (aO ?_);refine callX_pure (lanesR_ok s.jobs s.at' s.giv n1 n4 o.at1) (aO ?_);refine callX_pure (dvRight_ok s.next s.out d o.flk hU) (aO ?_);refine aloop (ι:=Nat) (fun k=>[(1,.ptr 1 0 0),(40,.d (.lst (jbR s.jobs))),(41,.d (.int .i64 (jbR s.jobs).length)),(42,.d (.int .i64 k))]) (fun _=>[(1,.box ((s.cells d).map AV.d) false)])
  (fun k=>k<=s.jobs.length) (fun k=>s.jobs.length-k) 0 (Nat.zero_le _) (le0 (le_of_cov ⟨rfl,rfl,rfl,rfl,trivial⟩ ⟨rfl,trivial⟩ ⟨rfl,rfl,rfl,rfl⟩)) ?_
 intro k hk
 conv=>whnf
 refine bcase_p (fun h5=>?_) (fun h5=>?_)<;>conv=>whnf
 ·have hk2:k<s.jobs.length:=by omega
  have hcl:=jobL_len k s.jobs[k];refine idxK_nat (by omega) (w0 ?_);refine getRow_of (jbR_get hk2) (aO ?_);refine idxK_nat (by omega) (w0 ?_);refine getRow_of (lane_get hk2) (aO ?_);refine aloop (ι:=Nat) (fun q=>[(1,.ptr 1 0 0),(3,.d (.int .i64 k)),(5,.d (.lst (cosL s.jobs[k]))),(40,.d (.lst (jbR s.jobs))),(41,.d (.int .i64 (jbR s.jobs).length)),(42,.d (.int .i64 k)),(59,.d (.lst (jobL k s.jobs[k]))),(60,.d (.int .i64 (jobL k s.jobs[k]).length)),(61,.d (.int .i64 q))]) (fun _=>[(1,.box ((s.cells d).map AV.d) false)])
   (fun q=>q<= (jobL k s.jobs[k]).length) (fun q=>(jobL k s.jobs[k]).length-q) 0 (Nat.zero_le _) (le0 (le_of_cov ⟨rfl,rfl,rfl,rfl,rfl,rfl,rfl,rfl,rfl,trivial⟩ ⟨rfl,trivial⟩ ⟨rfl,rfl,rfl,rfl⟩)) ?_
  intro q hq
  conv=>whnf
  refine bcase_p (fun h6=>?_) (fun h6=>?_)<;>conv=>whnf
  ·have hq2:q<(jobL k s.jobs[k]).length:=by omega
   obtain ⟨p,ep,hg⟩:=jobL_get hq2;have hq3:=cosL_len s.jobs[k];have hpg:=o.pg p (by rw [<-ep];exact List.getElem_mem hk2);refine idxK_nat (by omega) (w0 ?_);refine getRow_of hg (aO ?_);refine callX_pure (srequest_ok k p 0 hpg.1 hpg.2) (aO ?_);refine callX_pure cost_ok (aO ?_);refine idxK_nat (by omega) (w0 ?_);refine getRow_of (cosL_get (by omega)) (aO ?_);exact ⟨q+1,by omega,by omega,(le0 (le_of_cov ⟨rfl,rfl,rfl,rfl,rfl,rfl,rfl,rfl,rfl,trivial⟩ ⟨rfl,trivial⟩ ⟨rfl,rfl,rfl,rfl⟩))⟩
  ·refine aO ?_;exact ⟨k+1,by omega,by omega,(le0 (le_of_cov ⟨rfl,rfl,rfl,rfl,trivial⟩ ⟨rfl,trivial⟩ ⟨rfl,rfl,rfl,rfl⟩))⟩
 refine aO ?_;refine aloop (ι:=Nat) (fun k=>[(1,.ptr 1 0 0),(93,.d (.lst (s.out.map encOut))),(94,.d (.int .i64 (s.out.map encOut).length)),(95,.d (.int .i64 k))]) (fun _=>[(1,.box ((s.cells d).map AV.d) false)])
  (fun k=>k<=s.out.length) (fun k=>s.out.length-k) 0 (Nat.zero_le _) (le0 (le_of_cov ⟨rfl,rfl,rfl,rfl,trivial⟩ ⟨rfl,trivial⟩ ⟨rfl,rfl,rfl,rfl⟩)) ?_
 intro k hk
 conv=>whnf
 refine bcase_p (fun h5=>?_) (fun h5=>?_)<;>conv=>whnf
 ·have hk2:k<s.out.length:=by omega
  obtain ⟨g1,g2,g3,g4,g5⟩:=o.lt s.out[k] (List.getElem_mem hk2);refine idxK_nat (by omega) (w0 ?_);refine getRow_of (x:=encOut s.out[k]) (by simp [hk2]) (aW ?_);refine idxK_nat (by omega) (w0 ?_);refine getRow_of (x:=encReq s.out[k]) (by simp [hk2]) (aO ?_);exact ⟨k+1,by omega,by omega,(le0 (le_of_cov ⟨rfl,rfl,rfl,rfl,trivial⟩ ⟨rfl,trivial⟩ ⟨rfl,rfl,rfl,rfl⟩))⟩
 refine aO ?_;exact ret_of rfl rfl
end Go.Lk
