/-
  What is proved here: what functions of the program compute, and what follows; no condition beyond each theorem's own.
-/
import Derived.Test.YtaofmndhdmkgkaaGreatGAc
import Derived.Test.YtaofmndhdmkgkaaGreatGAh
import Derived.Test.YtaofmndhdmkgkaaGreatGAk
set_option linter.unusedSimpArgs false
set_option linter.unusedVariables false
set_option linter.unnecessarySimpa false
set_option linter.unusedSectionVars false
namespace Go.Lk
open Go Go.Proofs Go.RowKit
theorem mixed:Tryz.prog.follows .mixedOrders=true:=by kernel_rfl
theorem zAe {f:FuncId} {fn:Func} {args:List D} {d:D} (hf:Tryz.prog.funcs[f]?=some fn) (n:Nat) (hn:args.length=n) (hc:zNe fn n=true) (h:AFn T Tryz.prog fn args d):zAj Tryz.prog f args d:=
 z7t zYf mixed hf (by subst hn;exact hc) h
theorem zBk {f:FuncId} {fn:Func} {args:List D} {l:List (List D)} {sz:Nat} (hf:Tryz.prog.funcs[f]?=some fn) (n:Nat) (hn:args.length=n) (hc:zNe fn n=true) (h:AFnO T Tryz.prog fn args l sz):zDt Tryz.prog f args l sz:=
 yAe zYf mixed hf (by subst hn;exact hc) h
theorem yRu {f:FuncId} {fn:Func} {args:List D} {cs:List SC} (hf:Tryz.prog.funcs[f]?=some fn) (n:Nat) (hn:args.length=n) (hc:zNe fn n=true) (h:AFnS T Tryz.prog fn args cs):yIm Tryz.prog f args cs:=
 yAt zYf mixed hf (by subst hn;exact hc) h
def zDh (n:Nat):ByteArray:=bstr [((n%256:Nat):Int),((n/256%256:Nat):Int),((n/65536%256:Nat):Int),((n/16777216%256:Nat):Int)]
theorem shrN (n k:Nat):((n:Int)).fdiv (2^k)=((n/2^k:Nat):Int):=by
 rw [Int.fdiv_eq_ediv_of_nonneg _ (by exact Int.pow_nonneg (by decide))];simp
theorem z1d (n:Nat) (hn:n<4294967296):zAj Tryz.prog 270 [.int .i64 n] (.str (zDh n)):=by
 refine zAe Tryz.func270 1 rfl (by kernel_rfl) (w0 ?_);refine zCg (z3m (by omega) (by omega)) (aW ?_);refine zFn (aW ?_);refine zFn (aW ?_);refine zFn (aW ?_);refine zFn (aW ?_);refine ret_of rfl (congrArg D.str ?_);show bstr [IntKind.u8.wrap (n:Int),IntKind.u8.wrap ((n:Int).fdiv (2^8)),IntKind.u8.wrap ((n:Int).fdiv (2^16)),IntKind.u8.wrap ((n:Int).fdiv (2^24))]=zDh n;simp only [shrN,yTc];rfl
def numB (s:ByteArray) (i:Nat):Nat:=(s.data.getD i 0).toNat+256*(s.data.getD (i+1) 0).toNat+65536*(s.data.getD (i+2) 0).toNat+16777216*(s.data.getD (i+3) 0).toNat
def numK (s:ByteArray) (i:Nat):Nat->Nat
 |0=>0
 |k+1=>numK s i k+(s.data.getD (i+k) 0).toNat*2^(8*k)
theorem yUf (s:ByteArray) (i:Nat):numK s i 4=numB s i:=by
 simp only [numK,numB,Nat.add_zero];omega
theorem z1x (s:ByteArray) (i:Nat):∀ k,numK s i k<2^(8*k)
 |0=>by simp [numK]
 |k+1=>by
  have h1:=z1x s i k;have h2:=(s.data.getD (i+k) 0).toNat_lt;have h3:(s.data.getD (i+k) 0).toNat*2^(8*k) <=255*2^(8*k):=Nat.mul_le_mul_right _ (by omega)
  have h4:2^(8*(k+1))=256*2^(8*k):=by rw [show 8*(k+1)=8+8*k by omega,Nat.pow_add]
  simp only [numK];omega
theorem or32 {x y:Nat} {m:Nat} (hx:x<2^m) (hs:x+y*2^m<4294967296):zIh .or .u32 (x:Int) ((y*2^m:Nat):Int)=((x+y*2^m:Nat):Int):=by
 have:=bo32 (BitVec.ofNat 32 x) (BitVec.ofNat 32 (y*2^m));rw [BitVec.toNat_or,BitVec.toNat_ofNat,BitVec.toNat_ofNat,Nat.mod_eq_of_lt (by omega),Nat.mod_eq_of_lt (by omega)] at this;rw [this,Nat.or_comm,Nat.mul_comm,<-Nat.two_pow_add_eq_or_of_lt hx,Nat.add_comm]
theorem zWj (s:ByteArray) (i:Nat) (hs:i+4<=s.size) (h1:s.size<=1000):zAj Tryz.prog 224 [.str s,.int .i64 i] (.int .i64 (numB s i)):=by
 refine zAe Tryz.func224 2 rfl (by kernel_rfl) (w0 ?_);refine zAq (ι:=Nat) (fun k=>[(0,.d (.str s)),(1,.d (.int .i64 i)),(5,.d (.int .u32 (numK s i k))),(7,.d (.int .i64 k))]) (fun _=>[])
  (fun k=>k<=4) (fun k=>4-k) 0 (by omega) (le0 (zAb ⟨rfl,rfl,rfl,rfl,trivial⟩ trivial ⟨rfl,rfl,rfl,rfl⟩)) ?_
 intro k hk
 conv=>whnf
 refine bcase_p (fun h5=>?_) (fun h5=>?_)<;>conv=>whnf
 ·have hk2:k<4:=by omega
  refine aA ?_;rw [show (i:Int)+(k:Int)=((i+k:Nat):Int) by omega];refine zAd (by omega) (w0 ?_);obtain ⟨b,hb,hb2⟩:∃ b:Nat,(s.data.getD (i+k) 0).toNat=b/\b<256:=⟨_,rfl,(s.data.getD (i+k) 0).toNat_lt⟩;rw [hb];refine zCg (z3m (by omega) (by omega)) (aW ?_);have hlt:=z1x s i (k+1);have hlt0:=z1x s i k
  have he:numK s i (k+1)=numK s i k+b*2^(8*k):=by rw [numK,hb]
  have hp:2^(8*(k+1)) <=4294967296:=Nat.le_trans (Nat.pow_le_pow_right (by decide) (show 8*(k+1) <=32 by omega)) (by decide)
  have em:(b:Int)*2^(min (8*(k:Int)).toNat IntKind.u32.bits)=((b*2^(8*k):Nat):Int):=by
   rw [show min (8*(k:Int)).toNat IntKind.u32.bits=8*k by show min _ 32=_;omega];simp
  rw [em];refine zCg (z3m (by omega) (by omega)) (w0 ?_);rw [or32 hlt0 (by omega),<-he];refine aA ?_;exact ⟨k+1,by omega,by omega,(le0 (zAb ⟨rfl,rfl,rfl,rfl,trivial⟩ trivial ⟨rfl,rfl,rfl,rfl⟩))⟩
 ·refine aA ?_
  have ek:k=4:=by omega
  subst ek
  have hb:numB s i<4294967296:=by have:=z1x s i 4;rw [yUf] at this;simpa using this
  rw [yUf];refine zCg (w64 (by omega) (by omega)) (w0 ?_);exact ret_of rfl rfl
def rowT (i j:Nat):List D:=[.int .i64 (if j<i then ((ent j).toNat:Int) else 0)]
def tabL (i:Nat):List (List D):=(List.range 256).map (rowT i)
theorem yFl (i:Nat):(tabL i).length=256:=by simp [tabL]
theorem tabL_0:List.replicate 256 [D.int .i64 0]=tabL 0:=by
 apply List.ext_getElem
 ·rw [List.length_replicate,tabL,List.length_map,List.length_range]
 ·intro j h1 h2;rw [List.getElem_replicate];simp only [tabL,List.getElem_map,List.getElem_range,rowT];rw [if_neg (by omega)]
theorem yFk {i j:Nat} (hj:j<256):(tabL i)[j]?=some (rowT i j):=by simp [tabL,hj]
theorem ySl {i:Nat} (hi:i<256):(tabL i).set i [.int .i64 ((ent i).toNat:Int)]=tabL (i+1):=by
 apply List.ext_getElem
 ·simp [tabL]
 ·intro j h1 h2;rw [List.getElem_set];simp only [tabL,List.getElem_map,List.getElem_range,rowT]
  by_cases e:i=j
  ·subst e;rw [if_pos rfl,if_pos (by omega)]
  ·rw [if_neg e]
   by_cases h:j<i
   ·rw [if_pos h,if_pos (by omega)]
   ·rw [if_neg h,if_neg (by omega)]
theorem ySn:zDt Tryz.prog 272 [] (tabL 256) 1:=by
 refine zBk Tryz.func272 0 rfl (by kernel_rfl) (aW ?_);refine zAk 1000 1000 (by decide) (by decide) (by decide) (by decide) (aW ?_);rw [show List.replicate (256:Int).toNat (T 3).zero=tabL 0 from tabL_0];refine zAq (ι:=Nat) (fun i=>[(1,.own 5),(7,.d (.int .i64 256)),(8,.d (.int .i64 i))]) (fun i=>[(5,.row (tabL i) 1 false)])
  (fun i=>i<=256) (fun i=>256-i) 0 (by omega) (le0 (zAb ⟨rfl,by kernel_rfl,rfl,trivial⟩ ⟨rfl,trivial⟩ ⟨rfl,rfl,rfl,rfl⟩)) ?_
 intro i hi
 conv=>whnf
 refine bcase_p (fun h5=>?_) (fun h5=>?_)<;>conv=>whnf
 ·have hi2:i<256:=by omega
  refine aA ?_;refine zCg (z3m (by omega) (by omega)) (aW ?_);refine zAq (ι:=Nat) (fun k=>[(1,.own 5),(2,.d (.int .i64 i)),(3,.d (.int .u32 (stpN k (BitVec.ofNat 32 i)).toNat)),(7,.d (.int .i64 256)),(8,.d (.int .i64 i)),(13,.d (.int .i64 k))]) (fun k=>[(5,.row (tabL i) 1 false)])
   (fun k=>k<=8) (fun k=>8-k) 0 (by omega) (le0 (zAb ⟨rfl,rfl,?_,rfl,rfl,rfl,trivial⟩ ⟨rfl,trivial⟩ ⟨rfl,rfl,rfl,rfl⟩)) ?_
  ·show _=AV.d (.int .u32 (((BitVec.ofNat 32 i).toNat:Nat):Int));rw [BitVec.toNat_ofNat,Nat.mod_eq_of_lt (by omega)];rfl
  intro k hk;obtain ⟨x,hx⟩:∃ x,stpN k (BitVec.ofNat 32 i)=x:=⟨_,rfl⟩;simp only [hx]
  conv=>whnf
  refine bcase_p (fun h6=>?_) (fun h6=>?_)<;>conv=>whnf
  ·refine aA ?_;rw [odd32 x]
   refine zAf (fun h=>?_) (fun h=>?_)<;>conv=>whnf
   ·refine aA ?_
    have e1:stpN (k+1) (BitVec.ofNat 32 i)=(x>>>1)^^^zQo:=by rw [stpN,hx,stp_t h]
    have e2:zIh .xor .u32 ((x.toNat:Int).fdiv (2^min (1:Int).toNat IntKind.u32.bits)) 3988292384=(((x>>>1)^^^zQo).toNat:Int):=by
     rw [show (x.toNat:Int).fdiv (2^min (1:Int).toNat IntKind.u32.bits)=((x>>>1).toNat:Int) from yYn x 1];exact bx32 _ zQo
    rw [e2,<-e1];exact ⟨k+1,by omega,by omega,(le0 (zAb ⟨rfl,rfl,rfl,rfl,rfl,rfl,trivial⟩ ⟨rfl,trivial⟩ ⟨rfl,rfl,rfl,rfl⟩))⟩
   ·refine aA ?_
    have e1:stpN (k+1) (BitVec.ofNat 32 i)=x>>>1:=by rw [stpN,hx,stp_f h]
    rw [show (x.toNat:Int).fdiv (2^min (1:Int).toNat IntKind.u32.bits)=((x>>>1).toNat:Int) from yYn x 1,<-e1];exact ⟨k+1,by omega,by omega,(le0 (zAb ⟨rfl,rfl,rfl,rfl,rfl,rfl,trivial⟩ ⟨rfl,trivial⟩ ⟨rfl,rfl,rfl,rfl⟩))⟩
  ·refine aA ?_
   have ek:k=8:=by omega
   subst ek;have ex:x=ent i:=hx.symm;subst ex;refine zAd (by rw [yFl];omega) (w0 ?_);refine zAc (x:=rowT i i) (by exact yFk hi2) (aW ?_);refine ⟨i+1,by omega,by omega,le0 (zAb ⟨rfl,by kernel_rfl,rfl,trivial⟩ ⟨?_,trivial⟩ ⟨rfl,rfl,rfl,rfl⟩)⟩;rw [<-ySl hi2];rfl
 ·refine aA ?_
  have ei:i=256:=by omega
  subst ei;exact ⟨0,rfl,.inl ⟨5,rfl,rfl⟩⟩
def crcK (s:ByteArray) (k:Nat):W32:=crcL (s.data.toList.take k)
theorem z4s {s:ByteArray} {k:Nat} (hk:k<s.size):crcK s (k+1)=crcS (crcK s k) (s.data.getD k 0):=by
 have hk2:k<s.data.toList.length:=by simpa using hk
 rw [crcK,zAs hk2,yJw]
 have:s.data.getD k 0=s.data.toList[k]:=by
  rw [Array.getD_eq_getD_getElem?,Array.getElem?_eq_getElem (by simpa using hk)];simp
 rw [this];rfl
theorem yCa {s:ByteArray} {k:Nat} (hk:s.size<=k): ~~~ crcK s k=crcB s:=by
 rw [crcK,List.take_of_length_le (by simpa using hk)];rfl
theorem sum_ok (s:ByteArray) (hs:s.size<=1000):zAj Tryz.prog 271 [.lst (tabL 256),.str s] (.tup [.int .i64 (crcB s).toNat,.bool true]):=by
 obtain ⟨tb,htb⟩:∃ tb,tabL 256=tb:=⟨_,rfl⟩
 have htl:tb.length=256:=by rw [<-htb,yFl]
 have htg:∀ j,j<256->tb[j]?=some (rowT 256 j):=fun j hj=>htb▸yFk hj
 rw [htb];refine zAe Tryz.func271 2 rfl (by kernel_rfl) (w0 ?_);refine zDa (by rw [htl];rfl) (aW ?_);refine zAq (ι:=Nat) (fun k=>[(0,.d (.lst tb)),(1,.d (.str s)),(6,.d (.int .u32 (crcK s k).toNat)),(7,.d (.int .i64 k))]) (fun _=>[])
  (fun k=>k<=s.size) (fun k=>s.size-k) 0 (by omega) (le0 (zAb ⟨rfl,rfl,by kernel_rfl,rfl,trivial⟩ trivial ⟨rfl,rfl,rfl,rfl⟩)) ?_
 intro k hk;obtain ⟨x,hx⟩:∃ x,crcK s k=x:=⟨_,rfl⟩;simp only [hx]
 conv=>whnf
 refine bcase_p (fun h5=>?_) (fun h5=>?_)<;>conv=>whnf
 ·have hk2:k<s.size:=by omega
  refine aA ?_;refine zFn (aW ?_);refine zAd (by omega) (w0 ?_);obtain ⟨c,hc⟩:∃ c:UInt8,s.data.getD k 0=c:=⟨_,rfl⟩;have hc2:=c.toNat_lt;rw [hc]
  have e1:zIh .xor .u8 (IntKind.u8.wrap (x.toNat:Int)) (c.toNat:Int)=(((x.toNat%256)^^^c.toNat:Nat):Int):=by
   rw [yTc,show (x.toNat:Int)%256=((x.toNat%256:Nat):Int) by omega];exact bx8 (Nat.mod_lt _ (by decide)) (by omega)
  have hj:(x.toNat%256)^^^c.toNat<256:=Nat.xor_lt_two_pow (n:=8) (Nat.mod_lt _ (by decide)) (by omega);rw [e1];refine zAd (by omega) (w0 ?_);refine zAc (x:=rowT 256 ((x.toNat%256)^^^c.toNat)) (by exact htg _ hj) (w0 ?_);obtain ⟨y,hy⟩:∃ y,ent ((x.toNat%256)^^^c.toNat)=y:=⟨_,rfl⟩
  have e2:crcK s (k+1)=y^^^(x>>>8):=by rw [z4s hk2,hx,hc,yPv,hy]
  rw [if_pos hj,hy];refine zCg (z3m (by omega) (lt32 y)) (aW ?_);rw [show (x.toNat:Int).fdiv (2^min (8:Int).toNat IntKind.u32.bits)=((x>>>8).toNat:Int) from yYn x 8,bx32,<-e2];refine aA ?_;exact ⟨k+1,by omega,by omega,(le0 (zAb ⟨rfl,rfl,rfl,rfl,trivial⟩ trivial ⟨rfl,rfl,rfl,rfl⟩))⟩
 ·refine aA ?_;rw [show (if IntKind.u32.signed=true then (-1:Int) else IntKind.u32.max)=4294967295 from rfl,not32];refine zCg (w64 (by omega) (by have:=lt32 (~~~ x);omega)) (aW ?_)
  have e: ~~~ x=crcB s:=by rw [<-hx];exact yCa (by omega)
  rw [e];exact ret_of rfl rfl
end Go.Lk
namespace Go.Lk
open Go Go.Proofs Go.RowKit Go.Lk
abbrev Fr:=Int×Int×Bool
abbrev Pg:=Int×Int×ByteArray
def encF (x:Fr):List D:=[.int .i64 x.1,.int .i64 x.2.1,.bool x.2.2]
def encP (x:Pg):List D:=[.int .i64 x.1,.int .i64 x.2.1,.str x.2.2]
def encC (l:List Fr) (h:Int):D:=.agg [.lst (l.map encF),.int .i64 h]
theorem yKj:∀ (l:List Fr),okRows 3 (l.map encF)=true
 | []=>rfl
 |_::r=>yKj r
theorem encP_ok:∀ (l:List Pg),okRows 3 (l.map encP)=true
 | []=>rfl
 |_::r=>encP_ok r
def pgR (x:Pg):Bool:=decide (1<=x.1)&&(decide (x.1<=16)&&(decide (1<=x.2.1)&&(decide (x.2.1<=2147483647)&&decide (x.2.2.size<=16))))
theorem pgR_out {x:Pg}:pgR x=true↔1<=x.1/\x.1<=16/\1<=x.2.1/\x.2.1<=2147483647/\x.2.2.size<=16:=by simp [pgR]
theorem pageRight_ok (x:Pg):zAj Tryz.prog 119 [.agg (encP x)] (.bool (pgR x)):=by
 refine zAe Tryz.func119 1 rfl (by kernel_rfl) (aW ?_)
 refine bcase_p (fun h1=>?_) (fun h1=>?_)<;>conv=>whnf
 ·exact ret_of rfl (congrArg D.bool (by simp [pgR];omega))
 refine aA ?_
 refine bcase_p (fun h2=>?_) (fun h2=>?_)<;>conv=>whnf
 ·exact ret_of rfl (congrArg D.bool (by simp [pgR];omega))
 refine aA ?_
 refine bcase_p (fun h3=>?_) (fun h3=>?_)<;>conv=>whnf
 ·exact ret_of rfl (congrArg D.bool (by simp [pgR];omega))
 refine aA ?_
 refine bcase_p (fun h4=>?_) (fun h4=>?_)<;>conv=>whnf
 ·exact ret_of rfl (congrArg D.bool (by simp [pgR];omega))
 refine aA ?_
 exact ret_of rfl (congrArg D.bool (by
  have e1:decide (1<=x.1)=true:=by simp;omega
  have e2:decide (x.1<=16)=true:=by simp;omega
  have e3:decide (1<=x.2.1)=true:=by simp;omega
  have e4:decide (x.2.1<=2147483647)=true:=by simp;omega
  rw [pgR,e1,e2,e3,e4];simp;omega))
def frOk (x:Fr):Bool:=decide (0<=x.1)&&(decide (x.1<=16)&&(decide (0<=x.2.1)&&decide (x.2.1<=2147483647)))
theorem zBr {x:Fr}:frOk x=true↔0<=x.1/\x.1<=16/\0<=x.2.1/\x.2.1<=2147483647:=by simp [frOk]
structure zOi (l:List Fr) (h:Int):Prop where
 one:1<=l.length
 most:l.length<=8
 h0:0<=h
 h1:h<l.length
 all:∀ i,(hi:i<l.length)->frOk l[i]=true
open Classical in
noncomputable def zUq (l:List Fr) (h:Int):Bool:=decide (zOi l h)
theorem zTn {l:List Fr} {h:Int}:zUq l h=true↔zOi l h:=by simp [zUq]
theorem zOu {l:List Fr} {h:Int}:zUq l h=false↔¬zOi l h:=by simp [zUq]
theorem noFr {l:List Fr} {h:Int} {k:Nat} (hk:k<l.length) (hf:¬(0<=l[k].1/\l[k].1<=16/\0<=l[k].2.1/\l[k].2.1<=2147483647)):D.bool false=D.bool (zUq l h):=
 congrArg D.bool (zOu.2 fun hR=>hf (zBr.1 (hR.all k hk))).symm
theorem zKa (l:List Fr) (h:Int):zAj Tryz.prog 163 [encC l h] (.bool (zUq l h)):=by
 refine zAe Tryz.func163 1 rfl (by kernel_rfl) (w0 ?_)
 have hm:(l.map encF).length=l.length:=List.length_map ..
 refine aA ?_
 refine bcase_p (fun h1=>?_) (fun h1=>?_)<;>conv=>whnf
 ·exact ret_of rfl (congrArg D.bool (zOu.2 fun hR=>by have:=hR.one;omega).symm)
 refine aA ?_
 refine bcase_p (fun h2=>?_) (fun h2=>?_)<;>conv=>whnf
 ·exact ret_of rfl (congrArg D.bool (zOu.2 fun hR=>by have:=hR.most;omega).symm)
 refine aA ?_
 refine bcase_p (fun h3=>?_) (fun h3=>?_)<;>conv=>whnf
 ·exact ret_of rfl (congrArg D.bool (zOu.2 fun hR=>by have:=hR.h0;omega).symm)
 refine aA ?_
 refine bcase_p (fun h4=>?_) (fun h4=>?_)<;>conv=>whnf
 ·exact ret_of rfl (congrArg D.bool (zOu.2 fun hR=>by have:=hR.h1;omega).symm)
 refine aA ?_;refine zAq (ι:=Nat) (fun k=>[(27,.d (.lst (l.map encF))),(28,.d (.int .i64 (l.map encF).length)),(29,.d (.int .i64 k))]) (fun _=>[])
  (fun k=>k<=l.length/\ ∀ i,i<k->(hi:i<l.length)->frOk l[i]=true) (fun k=>l.length-k) 0 ⟨Nat.zero_le _,fun j h=>absurd h (Nat.not_lt_zero _)⟩ (le0 (zAb ⟨rfl,rfl,rfl,trivial⟩ trivial ⟨rfl,rfl,rfl,rfl⟩)) ?_
 rintro k ⟨hk,hR⟩
 conv=>whnf
 refine bcase_p (fun h5=>?_) (fun h5=>?_)<;>conv=>whnf
 ·have hk2:k<l.length:=by omega
  refine zAd (by omega) (w0 ?_);refine zAc (x:=encF l[k]) (by simp [hk2]) (aW ?_)
  refine bcase_p (fun g1=>?_) (fun g1=>?_)<;>conv=>whnf
  ·exact ret_of rfl (noFr hk2 (by omega))
  refine aA ?_
  refine bcase_p (fun g2=>?_) (fun g2=>?_)<;>conv=>whnf
  ·exact ret_of rfl (noFr hk2 (by omega))
  refine aA ?_
  refine bcase_p (fun g3=>?_) (fun g3=>?_)<;>conv=>whnf
  ·exact ret_of rfl (noFr hk2 (by omega))
  refine aA ?_
  refine bcase_p (fun g4=>?_) (fun g4=>?_)<;>conv=>whnf
  ·exact ret_of rfl (noFr hk2 (by omega))
  refine aA ?_;exact ⟨k+1,⟨by omega,fun i hi hi2=>(Nat.lt_succ_iff_lt_or_eq.1 hi).elim (fun h=>hR i h hi2) (fun e=>by subst e;exact zBr.2 (by omega))⟩,by omega,le0 (zAb ⟨rfl,rfl,rfl,trivial⟩ trivial ⟨rfl,rfl,rfl,rfl⟩)⟩
 ·exact ret_of rfl (congrArg D.bool (zTn.2 ⟨by omega,by omega,by omega,by omega,fun i hi=>hR i (by omega) hi⟩).symm)
theorem zUs (l:List Fr) (hl:l.length<=1000000):zDt Tryz.prog 59 [.lst (l.map encF)] (l.map encF) 3:=by
 refine zBk Tryz.func59 1 rfl (by kernel_rfl) (w0 ?_);refine zDn (w0 ?_);intro r hr
 conv=>whnf
 refine zAf (fun h=>?_) (fun h=>?_)<;>conv=>whnf
 ·have:=hr h;exact ⟨2,rfl,.inr ⟨rfl,this⟩⟩
 ·refine aA ?_;refine zAh (yKj l) (w0 ?_);refine zAk 1000100 100 (by show 0+List.length _<=1000100;simp;omega) (by decide) (by decide) (by decide) (w0 ?_);exact ⟨2,rfl,.inl ⟨5,rfl,rfl⟩⟩
theorem cloneP_ok (l:List Pg) (hl:l.length<=1000000):zDt Tryz.prog 61 [.lst (l.map encP)] (l.map encP) 3:=by
 refine zBk Tryz.func61 1 rfl (by kernel_rfl) (w0 ?_);refine zDn (w0 ?_);intro r hr
 conv=>whnf
 refine zAf (fun h=>?_) (fun h=>?_)<;>conv=>whnf
 ·have:=hr h;exact ⟨2,rfl,.inr ⟨rfl,this⟩⟩
 ·refine aA ?_;refine zAh (encP_ok l) (w0 ?_);refine zAk 1000100 100 (by show 0+List.length _<=1000100;simp;omega) (by decide) (by decide) (by decide) (w0 ?_);exact ⟨2,rfl,.inl ⟨5,rfl,rfl⟩⟩
theorem zTz (x:Fr):zAj Tryz.prog 308 [.agg (encF x)] (.bool (decide (x.2.1=0))):=by
 refine zAe Tryz.func308 1 rfl (by kernel_rfl) (aW ?_);exact ret_of rfl rfl
def looseAt (l:List Fr) (k:Nat):Int:=
 match l with
 | []=>-1
 |x::r=>if x.2.1=0 then (k:Int) else looseAt r (k+1)
theorem z5o (l:List Fr) (hl:l.length<=1000000):zAj Tryz.prog 312 [.lst (l.map encF),.fn 308 []] (.int .i64 (looseAt l 0)):=by
 refine zAe Tryz.func312 2 rfl (by kernel_rfl) (w0 ?_);refine zAq (ι:=Nat) (fun k=>[(0,.d (.lst (l.map encF))),(1,.d (.fn 308 [])),(7,.d (.int .i64 (l.map encF).length)),(8,.d (.int .i64 k))]) (fun _=>[])
  (fun k=>k<=l.length/\looseAt (l.drop k) k=looseAt l 0) (fun k=>l.length-k) 0 ⟨Nat.zero_le _,rfl⟩ (le0 (zAb ⟨rfl,rfl,rfl,rfl,trivial⟩ trivial ⟨rfl,rfl,rfl,rfl⟩)) ?_
 rintro k ⟨hk,hR⟩
 conv=>whnf
 refine bcase_p (fun h=>?_) (fun h=>?_)<;>conv=>whnf
 ·have hk2:k<l.length:=by simpa using h
  refine zAd (by simpa using hk2) (w0 ?_);refine zAc (x:=encF l[k]) (by simp [hk2]) (aW ?_);rw [zBg hk2,looseAt] at hR;refine zAa (zTz l[k]) (w0 ?_)
  refine bcase_p (fun h2=>?_) (fun h2=>?_)<;>conv=>whnf
  ·rw [if_pos h2] at hR;exact ret_of rfl (by rw [<-hR];rfl)
  ·rw [if_neg h2] at hR;refine aA ?_;exact ⟨k+1,⟨by omega,hR⟩,by omega,le0 (zAb ⟨rfl,rfl,rfl,rfl,trivial⟩ trivial ⟨rfl,rfl,rfl,rfl⟩)⟩
 ·have:k=l.length:=by simp at h;omega
  subst this;simp [looseAt] at hR;exact ret_of rfl (by rw [<-hR];rfl)
theorem zLg (l:List Fr) (hl:l.length<=1000000):zAj Tryz.prog 309 [.lst (l.map encF),.fn 308 []] (.bool (decide (0<=looseAt l 0))):=by
 refine zAe Tryz.func309 2 rfl (by kernel_rfl) (w0 ?_);refine zAa (z5o l hl) (w0 ?_);exact ret_of rfl rfl
def clr (x:Fr):Fr:=(x.1,x.2.1,false)
def pass (l:List Fr) (a:Nat) (h:a<l.length):List Fr:=if l[a].2.1=0 then l.set a (clr l[a]) else l
inductive Swp:List Fr->Nat->List Fr->Nat->Prop
 |stop (l:List Fr) (a:Nat) (h:a<l.length) (h1:l[a].2.1=0) (h2:l[a].2.2=false):Swp l a l a
 |go (l:List Fr) (a:Nat) (h:a<l.length) (l2:List Fr) (a2:Nat) (hn:¬(l[a].2.1=0/\l[a].2.2=false)) (r:Swp (pass l a h) ((a+1)%l.length) l2 a2):Swp l a l2 a2
theorem zKi {l:List Fr} {a:Nat} {h:a<l.length}:(pass l a h).length=l.length:=by unfold pass;split<;>simp
theorem z2e {l:List Fr} {a i:Nat} {h:a<l.length} (hi:i<l.length):((pass l a h)[i]'(by rw [zKi];exact hi)).1=l[i].1/\ ((pass l a h)[i]'(by rw [zKi];exact hi)).2.1=l[i].2.1:=by
 unfold pass
 split
 ·rw [List.getElem_set]
  split
  ·rename_i e;subst e;exact ⟨rfl,rfl⟩
  ·exact ⟨rfl,rfl⟩
 ·exact ⟨rfl,rfl⟩
def yOu (l:List Fr):Nat:=l.countP fun x=>decide (x.2.1=0)&&x.2.2
def wayL (n a b:Nat):Nat:=(b+n-a)%n
def mSw (j:Nat) (l:List Fr) (a:Nat):Nat:=yOu l*l.length+wayL l.length a j
theorem ySx {l:List Fr} {a:Nat} (h:a<l.length) (h1:l[a].2.1=0) (h2:l[a].2.2=true):yOu (l.set a (clr l[a]))+1=yOu l:=by
 have hp:0<yOu l:=List.countP_pos_iff.2 ⟨l[a],List.getElem_mem h,by simp [h1,h2]⟩
 unfold yOu at*
 rw [List.countP_set h];simp only [h1,h2,clr,decide_true,Bool.and_self,if_true,Bool.and_false,Bool.false_eq_true,if_false];omega
theorem ySy {n a b:Nat} (ha:a<n) (hb:b<n) (hne:a≠b):wayL n ((a+1)%n) b<wayL n a b:=by
 unfold wayL
 by_cases h:a<b
 ·rw [Nat.mod_eq_of_lt (show a+1<n by omega),show b+n-a=(b-a)+n by omega,show b+n-(a+1)=(b-a-1)+n by omega,Nat.add_mod_right,Nat.add_mod_right,Nat.mod_eq_of_lt (by omega),Nat.mod_eq_of_lt (by omega)];omega
 ·by_cases e:a+1=n
  ·rw [e,Nat.mod_self,Nat.sub_zero,Nat.add_mod_right,Nat.mod_eq_of_lt hb,Nat.mod_eq_of_lt (by omega)];omega
  ·rw [Nat.mod_eq_of_lt (show a+1<n by omega),Nat.mod_eq_of_lt (by omega),Nat.mod_eq_of_lt (by omega)];omega
theorem way_lt {n a b:Nat} (hn:0<n):wayL n a b<n:=Nat.mod_lt _ hn
theorem z9w {j:Nat} {l:List Fr} {a:Nat} (ha:a<l.length) (hj:j<l.length) (lj:l[j].2.1=0) (hn:¬(l[a].2.1=0/\l[a].2.2=false)):mSw j (pass l a ha) ((a+1)%l.length)<mSw j l a:=by
 unfold mSw;rw [zKi]
 by_cases h1:l[a].2.1=0
 ·have h2:l[a].2.2=true:=by cases e:l[a].2.2 with|true=>rfl|false=>exact absurd ⟨h1,e⟩ hn
  have hu:=ySx ha h1 h2;rw [show pass l a ha=l.set a (clr l[a]) from if_pos h1];have hw:=way_lt (n:=l.length) (a:=(a+1)%l.length) (b:=j) (by omega);rw [<-hu,Nat.succ_mul];omega
 ·rw [show pass l a ha=l from if_neg h1]
  have hne:a≠j:=fun e=>by subst e;exact h1 lj
  have:=ySy ha hj hne;omega
theorem yUs {j:Nat}:∀ (n:Nat) {l:List Fr} {a:Nat} (ha:a<l.length) (hj:j<l.length),l[j].2.1=0->mSw j l a<n->∃ l2 a2,Swp l a l2 a2
 |0,_,_,_,_,_,h=>absurd h (Nat.not_lt_zero _)
 |n+1,l,a,ha,hj,lj,h=>by
  by_cases hs:l[a].2.1=0/\l[a].2.2=false
  ·exact ⟨l,a,.stop l a ha hs.1 hs.2⟩
  ·have hd:=z9w ha hj lj hs;obtain ⟨l2,a2,r⟩:=yUs n (l:=pass l a ha) (a:=(a+1)%l.length) (by rw [zKi];exact Nat.mod_lt _ (by omega)) (by rw [zKi];exact hj) (by rw [(z2e hj).2];exact lj) (by omega);exact ⟨l2,a2,.go l a ha l2 a2 hs r⟩
theorem Swp.out {l l2:List Fr} {a a2:Nat} (h:Swp l a l2 a2):l2.length=l.length/\a2<l.length/\ (∀ i (hi:i<l.length) (hi2:i<l2.length),l2[i].1=l[i].1/\l2[i].2.1=l[i].2.1) /\ ∃ h2:a2<l2.length,l2[a2].2.1=0:=by
 induction h with
 |stop l a h h1 h2=>exact ⟨rfl,h,fun i _ _=>⟨rfl,rfl⟩,h,h1⟩
 |go l a h l2 a2 hn r ih=>
  obtain ⟨e1,e2,e3,e4⟩:=ih;rw [zKi] at e1 e2;refine ⟨e1,e2,fun i hi hi2=>?_,e4⟩;have h1:=e3 i (by rw [zKi];exact hi) hi2;have h2:=z2e (h:=h) hi;exact ⟨h1.1.trans h2.1,h1.2.trans h2.2⟩
theorem looseAt_lt {l:List Fr}:∀ {k:Nat},looseAt l k<0\/ ∃ i:Nat,looseAt l k=((k+i:Nat):Int) /\ ∃ h:i<l.length,l[i].2.1=0:=by
 induction l with
 |nil=>intro k;exact .inl (show (-1:Int)<0 by decide)
 |cons p r ih=>
  intro k;simp only [looseAt]
  by_cases h:p.2.1=0
  ·exact .inr ⟨0,by simp [h],by simp,by simpa using h⟩
  ·rw [if_neg h]
   rcases ih (k:=k+1) with h1|⟨i,h1,h2,h3⟩
   ·exact .inl h1
   ·exact .inr ⟨i+1,by rw [h1];simp;omega,by simpa using h2,by simpa using h3⟩
theorem zZl {l:List Fr}:∀ {k:Nat},looseAt l k<0->∀ i (h:i<l.length),l[i].2.1≠0:=by
 induction l with
 |nil=>intro k _ i h;exact absurd h (Nat.not_lt_zero _)
 |cons p r ih=>
  intro k hl i h;simp only [looseAt] at hl
  by_cases e:p.2.1=0
  ·rw [if_pos e] at hl;omega
  ·rw [if_neg e] at hl
   cases i with
   |zero=>simpa using e
   |succ i=>simpa using ih hl i (by simpa using h)
theorem ySk (l:List Fr) (h:Int) (hn:zUq l h=false\/looseAt l 0<0) (hl:l.length<=1000000):zAj Tryz.prog 299 [encC l h] (.tup [encC l h,.int .i64 0,.bool false]):=by
 refine zAe Tryz.func299 1 rfl (by kernel_rfl) (aW ?_);refine zAa (zKa l h) (w0 ?_)
 refine zAf (fun h1=>?_) (fun h1=>?_)<;>conv=>whnf
 ·refine aA ?_;exact ret_of rfl rfl
 refine aA ?_;refine zAa (zLg l hl) (w0 ?_)
 refine zAf (fun h2=>?_) (fun h2=>?_)<;>conv=>whnf
 ·refine aA ?_;exact ret_of rfl rfl
 ·exfalso;simp at h1 h2
  rcases hn with hn|hn
  ·rw [h1] at hn;cases hn
  ·omega
theorem yOq (l:List Fr) (h:Nat) (hR:zOi l h) {l2:List Fr} {a2:Nat} (hS:Swp l h l2 a2):zAj Tryz.prog 299 [encC l h] (.tup [encC l2 (((a2+1)%l.length:Nat):Int),.int .i64 a2,.bool true]):=by
 refine zAe Tryz.func299 1 rfl (by kernel_rfl) (w0 ?_);have hl1:=hR.one;have hl8:=hR.most;have hh:=hR.h1;refine aA ?_;refine zAa (zKa l h) (w0 ?_);refine zDa (by simp [zTn.2 hR]) (aW ?_)
 have hj:∃ j,∃ hj:j<l.length,l[j].2.1=0:=by
  obtain ⟨e1,e2,e3,h2,e4⟩:=hS.out;have:=e3 a2 e2 h2;exact ⟨a2,e2,by rw [<-this.2];exact e4⟩
 obtain ⟨j,hj,lj⟩:=hj;refine zAa (zLg l (by omega)) (w0 ?_)
 have hlo:¬looseAt l 0<0:=fun e=>zZl e j hj lj
 refine zDa (by simp;omega) (aW ?_);refine zAn (zUs l (by omega)) (aW ?_);refine zAq (ι:=List Fr×Nat) (fun s=>[(1,.ptr 1 0 0),(2,.ptr 2 0 0),(5,.d (.fn 308 [])),(6,.d (.int .i64 s.2))]) (fun s=>[(1,.box [.own 19,.d (.int .i64 h)] false),(2,.box [.nil,.d (.int .i64 0)] false),(19,.row (s.1.map encF) 3 false)])
  (fun s=>s.1.length=l.length/\s.2<l.length/\Swp s.1 s.2 l2 a2/\ ∃ hj:j<s.1.length,s.1[j].2.1=0) (fun s=>mSw j s.1 s.2) (l,h) ⟨rfl,by simp only [];omega,hS,hj,lj⟩ (le0 (zAb ⟨rfl,rfl,rfl,rfl,trivial⟩ ⟨rfl,rfl,rfl,trivial⟩ ⟨rfl,rfl,rfl,rfl⟩)) ?_
 rintro ⟨l',a⟩ ⟨el,ha,hS,hj',lj'⟩;simp only at el ha hS hj' lj'⊢
 have ha':a<l'.length:=by omega
 have hm:(l'.map encF).length=l'.length:=List.length_map ..
 conv=>whnf
 refine aA ?_;refine zAd (by omega) (w0 ?_);refine zAc (x:=encF l'[a]) (by simp [ha']) (aW ?_);refine zAa (zTz l'[a]) (w0 ?_)
 have hmod:(((a:Int)+1)%(l'.map encF).length:Int)=(((a+1)%l'.length:Nat):Int):=by rw [hm];norm_cast
 refine bcase_n (fun h1=>?_) (fun h1=>?_)<;>conv=>whnf
 ·have hns:¬(l'[a].2.1=0/\l'[a].2.2=false):=fun e=>h1 e.1
  have hp:pass l' a ha'=l':=if_neg h1
  have hr:Swp l' ((a+1)%l'.length) l2 a2:=by
   cases hS with
   |stop _ _ h e1 e2=>exact absurd e1 h1
   |go _ _ h _ _ hn r=>rw [hp] at r;exact r
  have hd:=z9w ha' hj' lj' hns;rw [hp] at hd;refine aA ?_;refine zAd (by omega) (w0 ?_);refine zAc (x:=encF l'[a]) (by simp [ha']) (aW ?_);refine zAa (zTz l'[a]) (w0 ?_);refine zDa (by simp [h1]) (aW ?_);refine zCs (by omega) (by omega) (w0 ?_);rw [hmod];refine aA ?_;exact ⟨(l',(a+1)%l'.length),⟨el,by simp only [];rw [<-el];exact Nat.mod_lt _ (by omega),hr,hj',lj'⟩,hd,le0 (zAb ⟨rfl,rfl,rfl,rfl,trivial⟩ ⟨rfl,rfl,rfl,trivial⟩ ⟨rfl,rfl,rfl,rfl⟩)⟩
 ·refine aA ?_;refine zAd (by omega) (w0 ?_);refine zAc (x:=encF l'[a]) (by simp [ha']) (aW ?_)
  refine zAf (fun h2=>?_) (fun h2=>?_)<;>conv=>whnf
  ·have hns:¬(l'[a].2.1=0/\l'[a].2.2=false):=fun e=>by rw [h2] at e;cases e.2
   have hp:pass l' a ha'=l'.set a (clr l'[a]):=if_pos h1
   have hr:Swp (l'.set a (clr l'[a])) ((a+1)%l'.length) l2 a2:=by
    cases hS with
    |stop _ _ h e1 e2=>rw [h2] at e2;cases e2
    |go _ _ h _ _ hn r=>rw [hp] at r;exact r
   have hd:=z9w ha' hj' lj' hns;have hg:=z2e (h:=ha') hj'
   have hm2:((l'.map encF).set a (encF (clr l'[a]))).length=l'.length:=by rw [List.length_set,hm]
   refine aA ?_;refine zAd (by omega) (w0 ?_);refine zAc (x:=encF l'[a]) (by simp [ha']) (aW ?_);refine zAa (zTz l'[a]) (w0 ?_);refine zBw (by simp [h1]) (aW ?_);refine zAd (by omega) (w0 ?_);refine zAc (x:=encF l'[a]) (by simp [ha']) (aW ?_);refine zCs (by show ((List.set _ _ _).length:Int)≠0;rw [List.length_set];omega) (by omega) (aW ?_)
   refine ⟨(l'.set a (clr l'[a]),(a+1)%l'.length),⟨by simp only [];rw [List.length_set];exact el,by simp only [];rw [<-el];exact Nat.mod_lt _ (by omega),hr,by rw [List.length_set];exact hj',?_⟩,by simp only [];rw [hp] at hd;exact hd,le0 (zAb ⟨rfl,rfl,rfl,by
    show AV.d (.int .i64 (((a:Int)+1)%((List.set (l'.map encF) a _).length:Int)))=AV.d (.int .i64 (((a+1)%l'.length:Nat):Int));rw [List.length_set,hmod],trivial⟩ ⟨rfl,rfl,by
    show some (Blk.row ((l'.map encF).set a (encF (clr l'[a]))) 3 false)=_;rw [List.map_set],trivial⟩ ⟨rfl,rfl,rfl,rfl⟩)⟩
   have hg2:=hg.2;simp only [hp] at hg2
   rw [hg2];exact lj'
  ·have hst:l'=l2/\a=a2:=by
    cases hS with
    |stop _ _ h e1 e2=>exact ⟨rfl,rfl⟩
    |go _ _ h _ _ hn r=>exact absurd ⟨h1,h2⟩ hn
   obtain ⟨rfl,rfl⟩:=hst;refine aA ?_;refine zCs (by omega) (by omega) (w0 ?_);rw [hmod,el];refine aA ?_;exact ret_of rfl rfl
end Go.Lk
namespace Go.Lk.Dt
open Go Go.Proofs Go.RowKit Go.Lk
def pageB (n:Int):Bool:=decide (1<=n)&&decide (n<=16)
def timeB (n:Int):Bool:=decide (0<=n)&&decide (n<=2147483647)
theorem z5p (n:Int):zAj Tryz.prog 230 [.int .i64 n] (.bool (pageB n)):=by
 refine zAe Tryz.func230 1 rfl (by kernel_rfl) (w0 ?_)
 refine bcase_p (fun h=>?_) (fun h=>?_)<;>conv=>whnf
 ·exact ret_of rfl (by simp [pageB,h])
 ·exact ret_of rfl (by simp [pageB,h])
theorem z5q (n:Int):zAj Tryz.prog 231 [.int .i64 n] (.bool (timeB n)):=by
 refine zAe Tryz.func231 1 rfl (by kernel_rfl) (w0 ?_)
 refine bcase_p (fun h=>?_) (fun h=>?_)<;>conv=>whnf
 ·exact ret_of rfl (by simp [timeB,h])
 ·exact ret_of rfl (by simp [timeB,h])
def placeG (l:List (Int×Int)) (n:Int) (k:Nat):Int:=
 match l with
 | []=>-1
 |p::r=>if p.1=n then (k:Int) else placeG r n (k+1)
theorem place_ok (l:List (Int×Int)) (n:Int) (hl:l.length<=1000000):zAj Tryz.prog 232 [zCh l,.int .i64 n] (.int .i64 (placeG l n 0)):=by
 refine zAe Tryz.func232 2 rfl (by kernel_rfl) (w0 ?_);refine zAq (ι:=Nat) (fun k=>[(1,.d (.int .i64 n)),(7,.d (zCh l)),(8,.d (.int .i64 (l.map encI).length)),(9,.d (.int .i64 k))]) (fun _=>[])
  (fun k=>k<=l.length/\placeG (l.drop k) n k=placeG l n 0) (fun k=>l.length-k) 0 ⟨Nat.zero_le _,rfl⟩ (le0 (zAb ⟨rfl,rfl,rfl,rfl,trivial⟩ trivial ⟨rfl,rfl,rfl,rfl⟩)) ?_
 rintro k ⟨hk,hR⟩
 conv=>whnf
 refine bcase_p (fun h=>?_) (fun h=>?_)<;>conv=>whnf
 ·have hk2:k<l.length:=by simpa using h
  refine zAd (by simpa using hk2) (w0 ?_);refine zAc (x:=encI l[k]) (by simp [hk2]) (w0 ?_);refine zAh rfl (w0 ?_);refine zAh rfl (w0 ?_);rw [zBg hk2,placeG] at hR
  refine bcase_p (fun h2=>?_) (fun h2=>?_)<;>conv=>whnf
  ·rw [if_pos h2] at hR;exact ret_of rfl (by rw [<-hR];rfl)
  ·rw [if_neg h2] at hR;refine zCg (w64 (by omega) (by omega)) (w0 ?_);exact ⟨k+1,⟨by omega,hR⟩,by omega,le0 (zAb ⟨rfl,rfl,rfl,rfl,trivial⟩ trivial ⟨rfl,rfl,rfl,rfl⟩)⟩
 ·have:k=l.length:=by simp at h;omega
  subst this;simp [placeG] at hR;exact ret_of rfl (by rw [<-hR];rfl)
def okAt (l:List (Int×Int)) (i:Nat):Bool:=
 match l[i]? with
 |none=>true
 |some p=>pageB p.1&&timeB p.2&&!(decide (0<=placeG (l.take i) p.1 0))&&!(decide (0<i)&&decide (p.2<(l[i-1]?.getD (0,0)).2))
def rightB (l:List (Int×Int)):Bool:=decide (l.length<=16)&&(List.range l.length).all (okAt l)
theorem zQe {l:List (Int×Int)} {k:Nat} (hk:k<l.length) (h:okAt l k=false):rightB l=false:=by
 unfold rightB
 have:(List.range l.length).all (okAt l)=false:=by
  rw [List.all_eq_false];exact ⟨k,by simpa using hk,by simp [h]⟩
 rw [this];simp
theorem right_ok (l:List (Int×Int)) (hl:l.length<=1000000):zAj Tryz.prog 165 [zCh l] (.bool (rightB l)):=by
 refine zAe Tryz.func165 1 rfl (by kernel_rfl) (w0 ?_)
 refine bcase_p (fun h0=>?_) (fun h0=>?_)<;>conv=>whnf
 ·simp at h0;exact ret_of rfl (by simp [rightB];omega)
 have hlen:l.length<=16:=by simp at h0;omega
 refine zAq (ι:=Nat) (fun k=>[(0,.d (zCh l)),(8,.d (zCh l)),(9,.d (.int .i64 (l.map encI).length)),(10,.d (.int .i64 k))]) (fun _=>[])
  (fun k=>k<=l.length/\ ∀ j,j<k->okAt l j=true) (fun k=>l.length-k) 0 ⟨Nat.zero_le _,fun j h=>absurd h (Nat.not_lt_zero _)⟩ (le0 (zAb ⟨rfl,rfl,rfl,rfl,trivial⟩ trivial ⟨rfl,rfl,rfl,rfl⟩)) ?_
 rintro k ⟨hk,hR⟩
 conv=>whnf
 refine bcase_p (fun h=>?_) (fun h=>?_)<;>conv=>whnf
 ·have hk2:k<l.length:=by simpa using h
  have hat:okAt l k=(pageB l[k].1&&timeB l[k].2&&!(decide (0<=placeG (l.take k) l[k].1 0))&&!(decide (0<k)&&decide (l[k].2<(l[k-1]?.getD (0,0)).2))):=by simp [okAt,hk2]
  refine zAd (by simpa using hk2) (w0 ?_);refine zAc (x:=encI l[k]) (by simp [hk2]) (w0 ?_);refine zAh rfl (w0 ?_);refine zAh rfl (w0 ?_);refine zAa (z5p _) (w0 ?_)
  refine zAf (fun h1=>?_) (fun h1=>?_)<;>conv=>whnf
  ·simp at h1;exact ret_of rfl (congrArg D.bool (zQe hk2 (by rw [hat,h1];rfl)).symm)
  refine zAh rfl (w0 ?_);refine zAa (z5q _) (w0 ?_)
  refine zAf (fun h2=>?_) (fun h2=>?_)<;>conv=>whnf
  ·simp at h2;exact ret_of rfl (congrArg D.bool (zQe hk2 (by rw [hat,h2];simp)).symm)
  simp at h1 h2;refine zAh (fun e he=>yCl he) (w0 ?_);refine zCv (by simpa using Nat.le_of_lt hk2) (w0 ?_);refine zAh rfl (w0 ?_);refine zAa (d:=.int .i64 (placeG (l.take k) l[k].1 0)) (by simpa [zCh,List.map_take] using place_ok (l.take k) l[k].1 (by simp;omega)) (w0 ?_);refine zAh rfl (w0 ?_)
  refine bcase_p (fun h3=>?_) (fun h3=>?_)<;>conv=>whnf
  ·exact ret_of rfl (congrArg D.bool (zQe hk2 (by rw [hat];simp [h3])).symm)
  refine bcase_p (fun h4=>?_) (fun h4=>?_)<;>conv=>whnf
  ·refine aA ?_;refine zBq (by omega) (by simp;omega) (w0 ?_);refine zAc (x:=encI l[k-1]) (by rw [show ((k:Int)-1).toNat=k-1 by omega];simp [show k-1<l.length by omega]) (aW ?_)
   refine bcase_p (fun h5=>?_) (fun h5=>?_)<;>conv=>whnf
   ·refine ret_of rfl ?_;rw [zQe hk2 (by rw [hat];simp [show k-1<l.length by omega,h5];intros;omega)];rfl
   refine aA ?_
   have hok:okAt l k=true:=by
    have:k-1<l.length:=by omega
    simp at h3
    rw [hat];simp [h1,h2,h3,this];right;omega
   exact ⟨k+1,⟨by omega,fun j hj=>(Nat.lt_succ_iff_lt_or_eq.1 hj).elim (hR j) (fun e=>e▸hok)⟩,by omega,le0 (zAb ⟨rfl,rfl,rfl,rfl,trivial⟩ trivial ⟨rfl,rfl,rfl,rfl⟩)⟩
  ·refine aA ?_
   have hok:okAt l k=true:=by
    have hk0:decide (0<k)=false:=by simp;omega
    simp at h3
    rw [hat,h1,h2,hk0];simp [h3]
   exact ⟨k+1,⟨by omega,fun j hj=>(Nat.lt_succ_iff_lt_or_eq.1 hj).elim (hR j) (fun e=>e▸hok)⟩,by omega,le0 (zAb ⟨rfl,rfl,rfl,rfl,trivial⟩ trivial ⟨rfl,rfl,rfl,rfl⟩)⟩
 ·have:k=l.length:=by simp at h;omega
  subst this;refine ret_of rfl ?_
  have:(List.range l.length).all (okAt l)=true:=by
   rw [List.all_eq_true]
   exact fun x hx=>hR x (by simpa using hx)
  simp [rightB,hlen]
  simpa using this
theorem rightB_out {l:List (Int×Int)} (h:rightB l=true):l.length<=16/\ ∀ k (hk:k<l.length),okAt l k=true/\1<=l[k].1/\l[k].1<=16/\0<=l[k].2/\l[k].2<=2147483647:=by
 simp only [rightB,Bool.and_eq_true,decide_eq_true_eq,List.all_eq_true,List.mem_range] at h;refine ⟨h.1,fun k hk=>⟨h.2 k hk,?_⟩⟩;have:=h.2 k hk;simp [okAt,hk,pageB,timeB] at this;omega
def dueF (now age:Int) (it:Int×Int):Option Int:=if age<=now-it.2 then some it.1 else none
def dueG (l:List (Int×Int)) (now age:Int):List Int:=if age<0\/now<0\/rightB l=false then [] else l.filterMap (dueF now age)
theorem placeG_lt {l:List (Int×Int)} {n:Int}:∀ {k:Nat},placeG l n k<0\/ ∃ i:Nat,placeG l n k=((k+i:Nat):Int) /\ ∃ h:i<l.length,l[i].1=n:=by
 induction l with
 |nil=>intro k;exact .inl (show (-1:Int)<0 by decide)
 |cons p r ih=>
  intro k;simp only [placeG]
  by_cases h:p.1=n
  ·exact .inr ⟨0,by simp [h],by simp,by simpa using h⟩
  ·rw [if_neg h]
   rcases ih (k:=k+1) with h1|⟨i,h1,h2,h3⟩
   ·exact .inl h1
   ·exact .inr ⟨i+1,by rw [h1];simp;omega,by simpa using h2,by simpa using h3⟩
def sinceG (l:List (Int×Int)) (n:Int):Int×Bool:=
 if rightB l=false\/placeG l n 0<0 then (0,false) else ((l[(placeG l n 0).toNat]?.getD (0,0)).2,true)
theorem since_ok (l:List (Int×Int)) (n:Int) (hl:l.length<=1000000):zAj Tryz.prog 173 [zCh l,.int .i64 n] (.tup [.int .i64 (sinceG l n).1,.bool (sinceG l n).2]):=by
 refine zAe Tryz.func173 2 rfl (by kernel_rfl) (w0 ?_);refine zAa (right_ok l hl) (w0 ?_)
 refine zAf (fun h=>?_) (fun h=>?_)<;>conv=>whnf
 ·simp at h;exact ret_of rfl (by simp [sinceG,h];rfl)
 refine zAa (place_ok l n hl) (w0 ?_)
 refine bcase_p (fun h1=>?_) (fun h1=>?_)<;>conv=>whnf
 ·exact ret_of rfl (by simp [sinceG,h1];rfl)
 simp at h
 obtain h2|⟨i,h2,h3,h4⟩:=placeG_lt (l:=l) (n:=n) (k:=0)
 ·exact absurd h2 h1
 rw [Nat.zero_add] at h2;refine zBq (by omega) (by rw [h2];simp;omega) (w0 ?_);refine zAc (x:=encI l[i]) (by rw [h2];simp [h3]) (aW ?_);exact ret_of rfl (by simp [sinceG,h,h2,h3,show ¬((i:Int)<0) by omega];rfl)
def lateB (l:List (Int×Int)) (t:Int):Bool:=decide (0<l.length)&&decide (t<(l[l.length-1]?.getD (0,0)).2)
def markG (l:List (Int×Int)) (p t:Int):List (Int×Int)×Int:=
 if rightB l=false\/pageB p=false\/timeB t=false then (l,1)
 else if lateB l t=true then (l,1)
 else if 0<=placeG l p 0 then (l,0) else (l++[(p,t)],0)
theorem mark_ok (l:List (Int×Int)) (p t:Int) (hl:l.length<=1000000):zAj Tryz.prog 245 [zCh l,.int .i64 p,.int .i64 t] (.tup [zCh (markG l p t).1,.int .i64 (markG l p t).2]):=by
 refine zAe Tryz.func245 3 rfl (by kernel_rfl) (w0 ?_);refine zAa (right_ok l hl) (w0 ?_)
 refine zAf (fun h1=>?_) (fun h1=>?_)<;>conv=>whnf
 ·simp at h1;exact ret_of rfl (by simp [markG,h1];rfl)
 simp at h1;refine zAa (z5p p) (w0 ?_)
 refine zAf (fun h2=>?_) (fun h2=>?_)<;>conv=>whnf
 ·simp at h2;exact ret_of rfl (by simp [markG,h2];rfl)
 simp at h2;refine zAa (z5q t) (w0 ?_)
 refine zAf (fun h3=>?_) (fun h3=>?_)<;>conv=>whnf
 ·simp at h3;exact ret_of rfl (by simp [markG,h3];rfl)
 simp at h3;obtain ⟨hlen,hR⟩:=rightB_out h1
 have hm:(l.map encI).length=l.length:=List.length_map ..
 refine bcase_p (fun h4=>?_) (fun h4=>?_)<;>conv=>whnf
 ·simp at h4;refine aA ?_;refine zBq (by omega) (by omega) (w0 ?_);refine zAc (x:=encI l[l.length-1]) (by rw [show (((l.map encI).length:Int)-1).toNat=l.length-1 by omega];simp [show l.length-1<l.length by omega]) (aW ?_)
  refine bcase_p (fun h5=>?_) (fun h5=>?_)<;>conv=>whnf
  ·have:lateB l t=true:=by simp [lateB,show l.length-1<l.length by omega,h4,h5]
   exact ret_of rfl (by simp [markG,this,h1,h2,h3];rfl)
  have h6:lateB l t=false:=by simp [lateB,show l.length-1<l.length by omega];omega
  refine zAa (place_ok l p hl) (w0 ?_)
  refine bcase_p (fun h7=>?_) (fun h7=>?_)<;>conv=>whnf
  ·exact ret_of rfl (by simp [markG,h6,h1,h2,h3,h7];rfl)
  refine aA ?_;refine zAk 1000100 100 (by omega) (by decide) (by decide) (by decide) (w0 ?_);refine zAh (z0y l) (w0 ?_);refine zAk 1000100 100 (by show 0+List.length _<=1000100;omega) (by decide) (by decide) (by decide) (aW ?_);refine zAk 1000100 100 (by show List.length _+1<=1000100;simp;omega) (by decide) (by decide) (by decide) (w0 ?_);exact ret_of rfl (by simp [markG,h6,h1,h2,h3,h7,zCh];rfl)
 ·simp at h4
  have h6:lateB l t=false:=by simp [lateB,h4]
  refine zAa (place_ok l p hl) (w0 ?_)
  refine bcase_p (fun h7=>?_) (fun h7=>?_)<;>conv=>whnf
  ·exact ret_of rfl (by simp [markG,h6,h1,h2,h3,h7];rfl)
  refine aA ?_;refine zAk 1000100 100 (by omega) (by decide) (by decide) (by decide) (w0 ?_);refine zAh (z0y l) (w0 ?_);refine zAk 1000100 100 (by show 0+List.length _<=1000100;omega) (by decide) (by decide) (by decide) (aW ?_);refine zAk 1000100 100 (by show List.length _+1<=1000100;simp;omega) (by decide) (by decide) (by decide) (w0 ?_);exact ret_of rfl (by simp [markG,h6,h1,h2,h3,h7,zCh];rfl)
theorem zRh {α:Type} {l:List α} {i:Nat} {x:α}:(l++[x]).eraseIdx i=if i=l.length then l else l.eraseIdx i++[x]:=by
 by_cases h:i=l.length
 ·subst h;simp [List.eraseIdx_append_of_length_le]
 ·rw [if_neg h]
  by_cases h2:i<l.length
  ·rw [List.eraseIdx_append_of_lt_length h2]
  ·rw [List.eraseIdx_of_length_le (by simp;omega),List.eraseIdx_of_length_le (by omega)]
def cleanG (l:List (Int×Int)) (p:Int):List (Int×Int)×Int:=
 if rightB l=false then (l,1) else if placeG l p 0<0 then (l,3) else (l.eraseIdx (placeG l p 0).toNat,0)
theorem clean_ok (l:List (Int×Int)) (p:Int) (hl:l.length<=1000000):zAj Tryz.prog 279 [zCh l,.int .i64 p] (.tup [zCh (cleanG l p).1,.int .i64 (cleanG l p).2]):=by
 refine zAe Tryz.func279 2 rfl (by kernel_rfl) (w0 ?_);refine zAa (right_ok l hl) (w0 ?_)
 refine zAf (fun h1=>?_) (fun h1=>?_)<;>conv=>whnf
 ·simp at h1;exact ret_of rfl (by simp [cleanG,h1];rfl)
 simp at h1;refine zAa (place_ok l p hl) (w0 ?_)
 refine bcase_p (fun h2=>?_) (fun h2=>?_)<;>conv=>whnf
 ·exact ret_of rfl (by simp [cleanG,h1,h2];rfl)
 obtain h3|⟨i,h3,h4,h5⟩:=placeG_lt (l:=l) (n:=p) (k:=0)
 ·exact absurd h3 h2
 rw [Nat.zero_add] at h3
 have hm:(l.map encI).length=l.length:=List.length_map ..
 obtain ⟨hlen,hR⟩:=rightB_out h1
 have hc:cleanG l p=(l.eraseIdx i,0):=by simp [cleanG,h1,h3]
 rw [hc];refine zAq (ι:=Nat) (fun k=>[(6,.d (.int .i64 i)),(7,.own 33),(20,.d (zCh l)),(21,.d (.int .i64 (l.map encI).length)),(22,.d (.int .i64 k))]) (fun k=>[(33,.row (((l.take k).eraseIdx i).map encI) 2 false)])
  (fun k=>k<=l.length) (fun k=>l.length-k) 0 (Nat.zero_le _) (le1 (.row 7 33 2) ⟨rfl,rfl⟩ (zAb ⟨by rw [<-h3];rfl,rfl,rfl,rfl,rfl,trivial⟩ ⟨rfl,trivial⟩ ⟨rfl,rfl,rfl,rfl⟩)) ?_
 intro k hk
 conv=>whnf
 refine bcase_p (fun h=>?_) (fun h=>?_)<;>conv=>whnf
 ·have hk2:k<l.length:=by simpa using h
  refine zAd (by simpa using hk2) (w0 ?_);refine zAc (x:=encI l[k]) (by simp [hk2]) (aW ?_)
  have hmin:min k l.length=k:=by omega
  refine bcase_n (fun h6=>?_) (fun h6=>?_)<;>conv=>whnf
  ·refine aA ?_;refine zAk 1000100 100 (by show List.length _+1<=1000100;have:=List.length_eraseIdx_le (l.take k) i;simp at this⊢;omega) (by decide) (by decide) (by decide) (aW ?_)
   exact ⟨k+1,by omega,by omega,le0 (zAb ⟨rfl,rfl,rfl,rfl,rfl,trivial⟩ ⟨by
    rw [zAs hk2,zRh,if_neg (by simp [hmin];omega),List.map_append];rfl,trivial⟩ ⟨rfl,rfl,rfl,rfl⟩)⟩
  ·refine aA ?_
   exact ⟨k+1,by omega,by omega,le0 (zAb ⟨rfl,rfl,rfl,rfl,rfl,trivial⟩ ⟨by
    rw [zAs hk2,zRh,if_pos (by simp [hmin];omega),List.eraseIdx_of_length_le (by simp [hmin];omega)];rfl,trivial⟩ ⟨rfl,rfl,rfl,rfl⟩)⟩
 ·have:k=l.length:=by simp at h;omega
  subst this;exact ret_of rfl (by rw [List.take_length];rfl)
theorem pig:∀ (n:Nat) (l:List Nat),l.Nodup->(∀ x∈l,x<n)->l.length<=n
 |0,[],_,_=>Nat.le_refl _
 |0,x::r,_,h=>absurd (h x (List.mem_cons_self ..)) (Nat.not_lt_zero _)
 |n+1,l,hn,h=>by
  by_cases hm:n∈l
  ·have:=pig n (l.erase n) (hn.erase n) fun x hx=>by
    have:=(hn.mem_erase_iff).1 hx;have:=h x this.2;omega
   rw [List.length_erase_of_mem hm] at this;omega
  ·have:=pig n l hn fun x hx=>by
    have:=h x hx
    have:x≠n:=fun e=>hm (e▸hx)
    omega
   omega
theorem yDx {l:List (Int×Int)} {x:Int×Int} {i:Nat} (h:i<l.length):okAt (l++[x]) i=okAt l i:=by
 unfold okAt;rw [List.getElem?_append_left h,List.take_append_of_le_length (Nat.le_of_lt h)]
 cases i with
 |zero=>simp
 |succ i=>rw [List.getElem?_append_left (by omega)]
theorem z6j {l:List (Int×Int)} {x:Int×Int}:okAt (l++[x]) l.length=(pageB x.1&&timeB x.2&&!(decide (0<=placeG l x.1 0))&&!(lateB l x.2)):=by
 unfold okAt lateB;rw [List.getElem?_append_right (Nat.le_refl _)];simp only [Nat.sub_self,List.getElem?_cons_zero,List.take_left']
 congr 2
 by_cases h:0<l.length
 ·rw [List.getElem?_append_left (by omega)]
 ·simp [h]
theorem zOe {l:List (Int×Int)} {x:Int×Int}:rightB (l++[x])=true↔rightB l=true/\l.length<16/\pageB x.1=true/\timeB x.2=true/\placeG l x.1 0<0/\lateB l x.2=false:=by
 simp only [rightB,Bool.and_eq_true,decide_eq_true_eq,List.all_eq_true,List.mem_range,List.length_append,List.length_cons,List.length_nil]
 constructor
 ·rintro ⟨h1,h2⟩;have h3:=h2 l.length (by omega);rw [z6j] at h3;simp at h3;refine ⟨⟨by omega,fun i hi=>?_⟩,by omega,h3.1.1.1,h3.1.1.2,h3.1.2,h3.2⟩;rw [<-yDx hi];exact h2 i (by omega)
 ·rintro ⟨⟨h1,h2⟩,h3,h4,h5,h6,h7⟩;refine ⟨by omega,fun i hi=>?_⟩
  by_cases e:i<l.length
  ·rw [yDx e];exact h2 i e
  ·obtain rfl:i=l.length:=by omega
   rw [z6j];simp [h4,h5,h6,h7]
theorem placeG_mem {l:List (Int×Int)} {n:Int}:∀ {k:Nat},0<=placeG l n k↔∃ x∈l,x.1=n:=by
 induction l with
 |nil=>intro k;exact ⟨fun h=>absurd h (show ¬(0<= (-1:Int)) by decide),fun ⟨x,h,_⟩=>by cases h⟩
 |cons p r ih=>
  intro k;simp only [placeG]
  by_cases h:p.1=n
  ·rw [if_pos h];exact ⟨fun _=>⟨p,List.mem_cons_self ..,h⟩,fun _=>by omega⟩
  ·rw [if_neg h,ih]
   constructor
   ·rintro ⟨x,h1,h2⟩;exact ⟨x,List.mem_cons_of_mem _ h1,h2⟩
   ·rintro ⟨x,h1,h2⟩
    rcases List.mem_cons.1 h1 with rfl|h1
    ·exact absurd h2 h
    ·exact ⟨x,h1,h2⟩
theorem yOd {α:Type} {motive:List α->Prop} (h0:motive []) (h1:∀ l x,motive l->motive (l++[x])) (l:List α):motive l:=by
 have:∀ n (l:List α),l.length=n->motive l:=by
  intro n
  induction n with
  |zero=>intro l h;rw [List.length_eq_zero_iff.1 h];exact h0
  |succ n ih=>
   intro l h
   have hne:l≠[]:=fun e=>by subst e;cases h
   rw [<-List.dropLast_concat_getLast hne];exact h1 _ _ (ih _ (by simp [h]))
 exact this _ l rfl
theorem z6z {l:List (Int×Int)}:rightB l=true->(l.map fun x=>x.1.toNat).Nodup/\ ∀ x∈l,1<=x.1/\x.1<=16:=by
 refine yOd (motive:=fun l=>rightB l=true->(l.map fun x=>x.1.toNat).Nodup/\ ∀ x∈l,1<=x.1/\x.1<=16) (fun _=>⟨List.nodup_nil,fun x h=>by cases h⟩) (fun l x ih h=>?_) l;obtain ⟨h1,h2,h3,h4,h5,h6⟩:=zOe.1 h;obtain ⟨g1,g2⟩:=ih h1
 have hx:1<=x.1/\x.1<=16:=by simpa [pageB] using h3
 refine ⟨?_,fun y hy=>?_⟩
 ·rw [List.map_append,List.nodup_append];refine ⟨g1,by simp,fun a ha b hb e=>?_⟩;simp only [List.map_cons,List.map_nil,List.mem_singleton] at hb;subst hb e;obtain ⟨y,hy,e⟩:=List.mem_map.1 ha;have:=g2 y hy;have:0<=placeG l x.1 0:=placeG_mem.2 ⟨y,hy,by omega⟩;omega
 ·rcases List.mem_append.1 hy with hy|hy
  ·exact g2 y hy
  ·rw [List.mem_singleton.1 hy];exact hx
theorem yHp {l:List (Int×Int)} {p:Int} (h:rightB l=true) (hp:pageB p=true) (hn:placeG l p 0<0):l.length<16:=by
 obtain ⟨h1,h2⟩:=z6z h
 have hp':1<=p/\p<=16:=by simpa [pageB] using hp
 have:=pig 16 ((p.toNat-1)::l.map fun x=>x.1.toNat-1) (by
  rw [List.nodup_cons];refine ⟨fun hm=>?_,?_⟩
  ·obtain ⟨y,hy,e⟩:=List.mem_map.1 hm;have:=h2 y hy;have:0<=placeG l p 0:=placeG_mem.2 ⟨y,hy,by omega⟩;omega
  ·rw [show (l.map fun x=>x.1.toNat-1)=(l.map fun x=>x.1.toNat).map (·-1) by simp];refine List.pairwise_map.2 (h1.imp_of_mem fun {a b} ha hb e=>?_);obtain ⟨y,hy,rfl⟩:=List.mem_map.1 ha;obtain ⟨z,hz,rfl⟩:=List.mem_map.1 hb;have:=h2 y hy;have:=h2 z hz
   omega) (by
  intro x hx
  rcases List.mem_cons.1 hx with rfl|hx
  ·omega
  ·obtain ⟨y,hy,rfl⟩:=List.mem_map.1 hx;have:=h2 y hy
   omega)
 simp at this;omega
theorem yHf {l:List (Int×Int)} {p t:Int} (h:(markG l p t).2=0):rightB l=true/\pageB p=true/\timeB t=true/\lateB l t=false/\
  ((0<=placeG l p 0/\ (markG l p t).1=l) \/ (placeG l p 0<0/\ (markG l p t).1=l++[(p,t)])):=by
 unfold markG at h⊢
 by_cases h1:rightB l=false\/pageB p=false\/timeB t=false
 ·rw [if_pos h1] at h;cases h
 ·rw [if_neg h1] at h⊢
  by_cases h2:lateB l t=true
  ·rw [if_pos h2] at h;cases h
  ·rw [if_neg h2] at h⊢;simp at h1 h2;refine ⟨h1.1,h1.2.1,h1.2.2,h2,?_⟩
   by_cases h3:0<=placeG l p 0
   ·rw [if_pos h3];exact .inl ⟨h3,rfl⟩
   ·rw [if_neg h3];exact .inr ⟨by omega,rfl⟩
theorem mark_keeps {l:List (Int×Int)} {p t:Int} (h:(markG l p t).2=0):rightB (markG l p t).1=true:=by
 obtain ⟨h1,h2,h3,h4,h5|h5⟩:=yHf h
 ·rw [h5.2];exact h1
 ·rw [h5.2];exact zOe.2 ⟨h1,yHp h1 h2 h5.1,h2,h3,h5.1,h4⟩
def yIl (l:List (Int×Int)):Prop:=l.length<=16/\ (∀ x∈l,pageB x.1=true/\timeB x.2=true) /\l.Pairwise (fun a b=>a.1≠b.1) /\l.Pairwise (fun a b=>a.2<=b.2)
theorem yLw {l:List (Int×Int)} {t:Int} (hs:l.Pairwise (fun a b=>a.2<=b.2)):lateB l t=false↔∀ a∈l,a.2<=t:=by
 constructor
 ·intro h a ha;obtain ⟨i,hi,rfl⟩:=List.mem_iff_getElem.1 ha
  have hp:0<l.length:=by omega
  simp [lateB,show l.length-1<l.length by omega] at h;have h:=h hp
  by_cases e:i=l.length-1
  ·subst e;exact h
  ·have:=List.pairwise_iff_getElem.1 hs i (l.length-1) hi (by omega) (by omega);omega
 ·intro h;simp [lateB];intro hp;rw [List.getElem?_eq_getElem (show l.length-1<l.length by omega)];exact h _ (List.getElem_mem _)
theorem rightB_iff {l:List (Int×Int)}:rightB l=true↔yIl l:=by
 refine yOd (motive:=fun l=>rightB l=true↔yIl l) ⟨fun _=>⟨by simp,fun x h=>(by cases h),.nil,.nil⟩,fun _=>rfl⟩ (fun l x ih=>?_) l;rw [zOe,ih];unfold yIl;simp only [List.length_append,List.length_cons,List.length_nil,List.mem_append,List.mem_singleton,List.pairwise_append]
 constructor
 ·rintro ⟨⟨h1,h2,h3,h4⟩,h5,h6,h7,h8,h9⟩;refine ⟨by omega,fun y hy=>?_,⟨h3,by simp,fun a ha b hb e=>?_⟩,⟨h4,by simp,fun a ha b hb=>?_⟩⟩
  ·rcases hy with hy|rfl
   ·exact h2 y hy
   ·exact ⟨h6,h7⟩
  ·subst hb;have:0<=placeG l b.1 0:=placeG_mem.2 ⟨a,ha,e⟩;omega
  ·subst hb;exact (yLw h4).1 h9 a ha
 ·rintro ⟨h1,h2,⟨h3,_,h4⟩,⟨h5,_,h6⟩⟩;refine ⟨⟨by omega,fun y hy=>h2 y (.inl hy),h3,h5⟩,by omega,(h2 x (.inr rfl)).1,(h2 x (.inr rfl)).2,?_,(yLw h5).2 fun a ha=>h6 a ha x rfl⟩
  by_cases h:0<=placeG l x.1 0
  ·obtain ⟨y,hy,e⟩:=placeG_mem.1 h;exact absurd e (h4 y hy x rfl)
  ·omega
theorem since_yes {l:List (Int×Int)} {p t:Int} (hr:rightB l=true) (h:(p,t)∈l):sinceG l p=(t,true):=by
 have hp:0<=placeG l p 0:=placeG_mem.2 ⟨_,h,rfl⟩
 obtain h4|⟨i,h4,h5,h6⟩:=placeG_lt (l:=l) (n:=p) (k:=0)
 ·omega
 rw [Nat.zero_add] at h4
 have hi:l[i]=(p,t):=by
  obtain ⟨j,hj,e⟩:=List.mem_iff_getElem.1 h;have hn:=List.pairwise_iff_getElem.1 (rightB_iff.1 hr).2.2.1
  by_cases e1:i=j
  ·subst e1;exact e
  ·rcases Nat.lt_or_gt_of_ne e1 with h7|h7
   ·exact absurd (by rw [h6,e]) (hn i j h5 hj h7)
   ·exact absurd (by rw [h6,e]) (hn j i hj h5 h7)
 simp [sinceG,hr,h4,h5,hi]
theorem since_no {l:List (Int×Int)} {p:Int} (h:∀ t,(p,t)∉l):sinceG l p=(0,false):=by
 have:placeG l p 0<0:=by
  by_cases e:0<=placeG l p 0
  ·obtain ⟨⟨a,b⟩,hy,rfl⟩:=placeG_mem.1 e;exact absurd hy (h b)
  ·omega
 simp [sinceG,this]
theorem zSr {p:Int}:∀ {l:List (Int×Int)} {i:Nat} (h:i<l.length),l.Pairwise (fun a b=>a.1≠b.1)->l[i].1=p->l.eraseIdx i=l.filter (fun x=>x.1 !=p)
 |a::r,0,_,hn,e=>by
  obtain ⟨h1,h2⟩:=List.pairwise_cons.1 hn;have e:a.1=p:=e;rw [List.eraseIdx_cons_zero,List.filter_cons_of_neg (by simp [e])];exact (List.filter_eq_self.2 fun x hx=>by have:=h1 x hx;rw [e] at this;simp;exact fun e'=>this e'.symm).symm
 |a::r,i+1,h,hn,e=>by
  obtain ⟨h1,h2⟩:=List.pairwise_cons.1 hn
  have hi:i<r.length:=by simpa using h
  have e:r[i].1=p:=by simpa using e
  have:=h1 _ (List.getElem_mem hi);rw [e] at this;rw [List.eraseIdx_cons_succ,zSr hi h2 e,List.filter_cons_of_pos (by simpa using this)]
theorem right_filter {l:List (Int×Int)} (hr:rightB l=true) (f:Int×Int->Bool):rightB (l.filter f)=true:=by
 obtain ⟨h1,h2,h3,h4⟩:=rightB_iff.1 hr;refine rightB_iff.2 ⟨Nat.le_trans (List.length_filter_le _ _) h1,fun x hx=>h2 x (List.mem_filter.1 hx).1,h3.filter f,h4.filter f⟩
theorem clean_right {l:List (Int×Int)} {p:Int} (hr:rightB l=true):cleanG l p=if 0<=placeG l p 0 then (l.filter (fun x=>x.1 !=p),0) else (l,3):=by
 unfold cleanG;rw [if_neg (by simp [hr])]
 by_cases h:0<=placeG l p 0
 ·obtain h4|⟨i,h4,h5,h6⟩:=placeG_lt (l:=l) (n:=p) (k:=0)
  ·omega
  rw [Nat.zero_add] at h4;rw [if_neg (by omega),if_pos h,h4,Int.toNat_natCast,zSr h5 (rightB_iff.1 hr).2.2.1 h6]
 ·rw [if_pos (by omega),if_neg h]
end Go.Lk.Dt
namespace Go.Lk.Tb
open Go Go.Proofs Go.RowKit Go.Lk
abbrev zBe:=List (Int×Int)
def encS (x:Int×Int):D:=.agg (encI x)
def encT (l:zBe):D:=.agg [zCh l]
def freeB (x:Int×Int):Bool:=decide (x.1=0)&&decide (x.2=0)
def zLl (p f:Int):Bool:=decide (1<=p)&&(decide (p<=2147483647)&&(decide (0<=f)&&decide (f<=2147483647)))
theorem zRk (x:Int×Int):zAj Tryz.prog 226 [encS x] (.bool (freeB x)):=by
 refine zAe Tryz.func226 1 rfl (by kernel_rfl) (aW ?_)
 refine bcase_p (fun h=>?_) (fun h=>?_)<;>conv=>whnf
 ·refine aA ?_;exact ret_of rfl (by simp [freeB,h])
 ·refine aA ?_;exact ret_of rfl (by simp [freeB,h])
theorem yKs (p f:Int):zAj Tryz.prog 227 [.int .i64 p,.int .i64 f] (.bool (zLl p f)):=by
 refine zAe Tryz.func227 2 rfl (by kernel_rfl) (w0 ?_)
 refine bcase_p (fun h=>?_) (fun h=>?_)<;>conv=>whnf
 ·refine bcase_p (fun h2=>?_) (fun h2=>?_)<;>conv=>whnf
  ·refine bcase_p (fun h3=>?_) (fun h3=>?_)<;>conv=>whnf
   ·exact ret_of rfl (by simp [zLl,h,h2,h3])
   ·exact ret_of rfl (by simp [zLl,h,h2,h3])
  ·refine aA ?_;exact ret_of rfl (by simp [zLl,h,h2])
 ·refine aA ?_;exact ret_of rfl (by simp [zLl,h])
theorem home_ok (n:Int) (h:0<=n):zAj Tryz.prog 228 [.int .i64 n] (.int .i64 (n%16)):=by
 refine zAe Tryz.func228 1 rfl (by kernel_rfl) (w0 ?_);refine zCs (by decide) h (w0 ?_);exact ret_of rfl rfl
theorem zUl (n:Int) (h:0<=n) (h1:n<=100):zAj Tryz.prog 229 [.int .i64 n] (.int .i64 ((n+1)%16)):=by
 refine zAe Tryz.func229 1 rfl (by kernel_rfl) (aW ?_);refine zCs (by decide) (by omega) (w0 ?_);exact ret_of rfl rfl
theorem yUx (a b:Int) (h:0<=a) (h1:a<=15) (h2:0<=b) (h3:b<=15):zAj Tryz.prog 300 [.int .i64 a,.int .i64 b] (.int .i64 ((b-a+16)%16)):=by
 refine zAe Tryz.func300 2 rfl (by kernel_rfl) (aW ?_);refine zCs (by decide) (by omega) (w0 ?_);exact ret_of rfl rfl
theorem clone_ok (l:zBe) (hl:l.length<=1000000):zDt Tryz.prog 60 [zCh l] (l.map encI) 2:=by
 refine zBk Tryz.func60 1 rfl (by kernel_rfl) (w0 ?_);refine zDn (w0 ?_);intro r hr
 conv=>whnf
 refine zAf (fun h=>?_) (fun h=>?_)<;>conv=>whnf
 ·have:=hr h;exact ⟨2,rfl,.inr ⟨rfl,this⟩⟩
 ·refine aA ?_;refine zAh (z0y l) (w0 ?_);refine zAk 1000100 100 (by show 0+List.length _<=1000100;simp;omega) (by decide) (by decide) (by decide) (w0 ?_);exact ⟨2,rfl,.inl ⟨5,rfl,rfl⟩⟩
theorem new_ok:zAj Tryz.prog 186 [] (encT (List.replicate 16 (0,0))):=by
 refine zAe Tryz.func186 0 rfl (by kernel_rfl) (aW ?_);refine zAk 100 100 (by decide) (by decide) (by decide) (by decide) (aW ?_);exact ret_of rfl rfl
def placeG (l:zBe) (n:Int) (k:Nat):Int:=
 match l with
 | []=>-1
 |p::r=>if p.1=n then (k:Int) else placeG r n (k+1)
def placeT (l:zBe) (p:Int):Int×Bool:=if p<1\/placeG l p 0<0 then (0,false) else (placeG l p 0,true)
theorem place_ok (l:zBe) (n:Int) (hl:l.length<=1000000):zAj Tryz.prog 233 [encT l,.int .i64 n] (.tup [.int .i64 (placeT l n).1,.bool (placeT l n).2]):=by
 refine zAe Tryz.func233 2 rfl (by kernel_rfl) (w0 ?_)
 refine bcase_p (fun h0=>?_) (fun h0=>?_)<;>conv=>whnf
 ·exact ret_of rfl (by simp [placeT,h0];rfl)
 refine aA ?_;refine zAq (ι:=Nat) (fun k=>[(1,.d (.int .i64 n)),(11,.d (zCh l)),(12,.d (.int .i64 (l.map encI).length)),(13,.d (.int .i64 k))]) (fun _=>[])
  (fun k=>k<=l.length/\placeG (l.drop k) n k=placeG l n 0) (fun k=>l.length-k) 0 ⟨Nat.zero_le _,rfl⟩ (le0 (zAb ⟨rfl,rfl,rfl,rfl,trivial⟩ trivial ⟨rfl,rfl,rfl,rfl⟩)) ?_
 rintro k ⟨hk,hR⟩
 conv=>whnf
 refine bcase_p (fun h=>?_) (fun h=>?_)<;>conv=>whnf
 ·have hk2:k<l.length:=by simpa using h
  refine zAd (by simpa using hk2) (w0 ?_);refine zAc (x:=encI l[k]) (by simp [hk2]) (aW ?_);rw [zBg hk2,placeG] at hR
  refine bcase_p (fun h2=>?_) (fun h2=>?_)<;>conv=>whnf
  ·rw [if_pos h2] at hR;refine ret_of rfl ?_
   have:placeT l n=((k:Int),true):=by rw [placeT,<-hR,if_neg (by omega)]
   rw [this];rfl
  ·rw [if_neg h2] at hR;refine aA ?_;exact ⟨k+1,⟨by omega,hR⟩,by omega,le0 (zAb ⟨rfl,rfl,rfl,rfl,trivial⟩ trivial ⟨rfl,rfl,rfl,rfl⟩)⟩
 ·have:k=l.length:=by simp at h;omega
  subst this;simp [placeG] at hR;refine ret_of rfl ?_
  have:placeT l n=(0,false):=by rw [placeT,<-hR,if_pos (by omega)]
  rw [this];rfl
def at' (l:zBe) (i:Nat):Int×Int:=l[i]?.getD (0,0)
theorem at_eq {l:zBe} {i:Nat} (h:i<l.length):at' l i=l[i]:=by simp [at',h]
def homeN (p:Int):Nat:=(p%16).toNat
def wayN (a b:Nat):Nat:=(b+16-a)%16
def zQv (x:Int×Int):Prop:=freeB x=true\/zLl x.1 x.2=true
def yBs (l:zBe) (i:Nat):Prop:=freeB (at' l i)=true\/ ((∀ j,j<i->(at' l j).1≠(at' l i).1) /\ ∀ d,d<wayN (homeN (at' l i).1) i->freeB (at' l ((homeN (at' l i).1+d)%16))=false)
structure RT (l:zBe):Prop where
 len:l.length=16
 slots:∀ i,i<16->zQv (at' l i)
 places:∀ i,i<16->yBs l i
open Classical in
noncomputable def rightB (l:zBe):Bool:=decide (RT l)
theorem rightB_t {l:zBe}:rightB l=true↔RT l:=by simp [rightB]
theorem zUc {l:zBe}:rightB l=false↔¬RT l:=by simp [rightB]
theorem fits_out {p f:Int}:zLl p f=true↔1<=p/\p<=2147483647/\0<=f/\f<=2147483647:=by simp [zLl]
theorem z1e {x:Int×Int}:freeB x=true↔x.1=0/\x.2=0:=by simp [freeB]
theorem right_ok (l:zBe) (hl:l.length<=1000000):zAj Tryz.prog 164 [encT l] (.bool (rightB l)):=by
 refine zAe Tryz.func164 1 rfl (by kernel_rfl) (w0 ?_)
 have hm:(l.map encI).length=l.length:=List.length_map ..
 refine aA ?_
 refine bcase_n (fun h0=>?_) (fun h0=>?_)<;>conv=>whnf
 ·exact ret_of rfl (congrArg D.bool (zUc.2 fun h=>h0 (by rw [hm,h.len];rfl)).symm)
 have hlen:l.length=16:=by omega
 refine aA ?_;refine zAq (ι:=Nat) (fun k=>[(1,.ptr 1 0 0),(15,.d (zCh l)),(16,.d (.int .i64 (l.map encI).length)),(17,.d (.int .i64 k))]) (fun _=>[(1,.box [.d (zCh l)] false)])
  (fun k=>k<=16/\ ∀ j,j<k->zQv (at' l j)) (fun k=>16-k) 0 ⟨Nat.zero_le _,fun j h=>absurd h (Nat.not_lt_zero _)⟩ (le0 (zAb ⟨rfl,rfl,rfl,rfl,trivial⟩ ⟨rfl,trivial⟩ ⟨rfl,rfl,rfl,rfl⟩)) ?_
 rintro k ⟨hk,hR⟩
 conv=>whnf
 refine bcase_p (fun h=>?_) (fun h=>?_)<;>conv=>whnf
 ·have hk2:k<l.length:=by omega
  have hat:=at_eq hk2
  have hlast (hs:zQv l[k]):∀ j,j<k+1->zQv (at' l j):=fun j hj=>(Nat.lt_succ_iff_lt_or_eq.1 hj).elim (hR j) (fun e=>by subst e;rw [hat];exact hs)
  refine zAd (by omega) (w0 ?_);refine zAc (x:=encI l[k]) (by simp [hk2]) (aW ?_);refine zAa (zRk l[k]) (w0 ?_)
  refine zAf (fun h1=>?_) (fun h1=>?_)<;>conv=>whnf
  ·refine aA ?_;refine zAa (yKs _ _) (w0 ?_)
   refine zAf (fun h2=>?_) (fun h2=>?_)<;>conv=>whnf
   ·refine ret_of rfl (congrArg D.bool (zUc.2 fun h=>?_).symm);have:=h.slots k (by omega);rw [hat] at this;simp [zQv] at this h1 h2;rw [h1,h2] at this;simp at this
   ·refine aA ?_;simp at h2;exact ⟨k+1,⟨by omega,hlast (.inr h2)⟩,by omega,le0 (zAb ⟨rfl,rfl,rfl,rfl,trivial⟩ ⟨rfl,trivial⟩ ⟨rfl,rfl,rfl,rfl⟩)⟩
  ·refine aA ?_;simp at h1;exact ⟨k+1,⟨by omega,hlast (.inl h1)⟩,by omega,le0 (zAb ⟨rfl,rfl,rfl,rfl,trivial⟩ ⟨rfl,trivial⟩ ⟨rfl,rfl,rfl,rfl⟩)⟩
 have hS:∀ j,j<16->zQv (at' l j):=fun j hj=>hR j (by omega)
 clear hR hk h
 refine aA ?_;refine zAq (ι:=Nat) (fun k=>[(1,.ptr 1 0 0),(34,.d (zCh l)),(35,.d (.int .i64 (l.map encI).length)),(36,.d (.int .i64 k))]) (fun _=>[(1,.box [.d (zCh l)] false)])
  (fun k=>k<=16/\ ∀ j,j<k->yBs l j) (fun k=>16-k) 0 ⟨Nat.zero_le _,fun j h=>absurd h (Nat.not_lt_zero _)⟩ (le0 (zAb ⟨rfl,rfl,rfl,rfl,trivial⟩ ⟨rfl,trivial⟩ ⟨rfl,rfl,rfl,rfl⟩)) ?_
 rintro k ⟨hk,hR⟩
 conv=>whnf
 refine bcase_p (fun h=>?_) (fun h=>?_)<;>conv=>whnf
 ·have hk2:k<l.length:=by omega
  have hat:=at_eq hk2
  have hlast (hs:yBs l k):∀ j,j<k+1->yBs l j:=fun j hj=>(Nat.lt_succ_iff_lt_or_eq.1 hj).elim (hR j) (fun e=>by subst e;exact hs)
  have hsl:=hS k (by omega);refine zAd (by omega) (w0 ?_);refine zAc (x:=encI l[k]) (by simp [hk2]) (aW ?_);refine zAa (zRk l[k]) (w0 ?_)
  refine zAf (fun h1=>?_) (fun h1=>?_)<;>conv=>whnf
  ·refine aA ?_;exact ⟨k+1,⟨by omega,hlast (.inl (by rw [hat];exact h1))⟩,by omega,le0 (zAb ⟨rfl,rfl,rfl,rfl,trivial⟩ ⟨rfl,trivial⟩ ⟨rfl,rfl,rfl,rfl⟩)⟩
  have hfit:1<=l[k].1:=by
   rcases hsl with h2|h2
   ·rw [hat,h1] at h2;cases h2
   ·rw [hat] at h2;exact (fits_out.1 h2).1
  refine aA ?_;refine zAh (fun e he=>yCl he) (w0 ?_);refine zCv (by omega) (aW ?_)
  have hlt:(List.drop 0 (List.take k (l.map encI))).length=k:=by simp;omega
  refine zAq (ι:=Nat) (fun q=>[(1,.ptr 1 0 0),(5,.d (.int .i64 k)),(6,.ptr 6 0 0),(34,.d (zCh l)),(35,.d (.int .i64 (l.map encI).length)),(36,.d (.int .i64 k)),(46,.d (.lst (List.drop 0 (List.take k (l.map encI))))),(47,.d (.int .i64 (List.drop 0 (List.take k (l.map encI))).length)),(48,.d (.int .i64 q))]) (fun _=>[(1,.box [.d (zCh l)] false),(6,.box [.d (.int .i64 l[k].1),.d (.int .i64 l[k].2)] false)])
   (fun q=>q<=k/\ ∀ j,j<q->(at' l j).1≠(at' l k).1) (fun q=>k-q) 0 ⟨Nat.zero_le _,fun j h=>absurd h (Nat.not_lt_zero _)⟩ (le0 (zAb ⟨rfl,rfl,rfl,rfl,rfl,rfl,rfl,rfl,rfl,trivial⟩ ⟨rfl,rfl,trivial⟩ ⟨rfl,rfl,rfl,rfl⟩)) ?_
  rintro q ⟨hq,hQ⟩
  conv=>whnf
  refine bcase_p (fun h2=>?_) (fun h2=>?_)<;>conv=>whnf
  ·have hq2:q<k:=by omega
   have hq3:q<l.length:=by omega
   refine zAd (by omega) (w0 ?_);refine zAc (x:=encI l[q]) (by rw [List.drop_zero,List.getElem?_take_of_lt hq2,List.getElem?_map,List.getElem?_eq_getElem hq3];rfl) (aW ?_)
   refine bcase_p (fun h3=>?_) (fun h3=>?_)<;>conv=>whnf
   ·refine ret_of rfl (congrArg D.bool (zUc.2 fun h=>?_).symm)
    rcases h.places k (by omega) with h4|⟨h4,_⟩
    ·rw [hat,h1] at h4;cases h4
    ·exact h4 q hq2 (by rw [at_eq hq3,hat,h3])
   ·refine aA ?_;exact ⟨q+1,⟨by omega,fun j hj=>(Nat.lt_succ_iff_lt_or_eq.1 hj).elim (hQ j) (fun e=>by subst e;rw [at_eq hq3,hat];exact h3)⟩,by omega,le0 (zAb ⟨rfl,rfl,rfl,rfl,rfl,rfl,rfl,rfl,rfl,trivial⟩ ⟨rfl,rfl,trivial⟩ ⟨rfl,rfl,rfl,rfl⟩)⟩
  have hQk:∀ j,j<k->(at' l j).1≠(at' l k).1:=fun j hj=>hQ j (by omega)
  clear hQ hq h2
  refine aA ?_;refine zAa (home_ok l[k].1 (by omega)) (w0 ?_)
  have hhm:((homeN l[k].1:Nat):Int)=l[k].1%16:=by simp [homeN];omega
  have hh16:homeN l[k].1<16:=by simp [homeN];omega
  refine zAq (ι:=Nat) (fun d=>[(1,.ptr 1 0 0),(5,.d (.int .i64 k)),(9,.d (.int .i64 (((homeN l[k].1+d)%16:Nat):Int))),(34,.d (zCh l)),(35,.d (.int .i64 (l.map encI).length)),(36,.d (.int .i64 k))]) (fun _=>[(1,.box [.d (zCh l)] false)])
   (fun d=>d<=wayN (homeN l[k].1) k/\ ∀ d',d'<d->freeB (at' l ((homeN l[k].1+d')%16))=false) (fun d=>16-d) 0 ⟨Nat.zero_le _,fun j h=>absurd h (Nat.not_lt_zero _)⟩ (le0 (zAb ⟨rfl,rfl,by
    show _=AV.d (.int .i64 (((homeN l[k].1+0)%16:Nat):Int));rw [show (((homeN l[k].1+0)%16:Nat):Int)=l[k].1%16 by omega];rfl,rfl,rfl,rfl,trivial⟩ ⟨rfl,trivial⟩ ⟨rfl,rfl,rfl,rfl⟩)) ?_
  rintro d ⟨hd,hD⟩
  conv=>whnf
  have hw16:wayN (homeN l[k].1) k<16:=by simp [wayN];omega
  refine bcase_n (fun h2=>?_) (fun h2=>?_)<;>conv=>whnf
  ·have hd2:d<wayN (homeN l[k].1) k:=by
    by_cases e:d=wayN (homeN l[k].1) k
    ·exfalso;apply h2;rw [e];simp only [wayN];omega
    ·omega
   have hj:(homeN l[k].1+d)%16<l.length:=by omega
   refine aA ?_;refine zAd (by omega) (w0 ?_);refine zAc (x:=encI l[(homeN l[k].1+d)%16]) (by simp [hj]) (aW ?_);refine zAa (zRk l[(homeN l[k].1+d)%16]) (w0 ?_)
   refine zAf (fun h3=>?_) (fun h3=>?_)<;>conv=>whnf
   ·refine ret_of rfl (congrArg D.bool (zUc.2 fun h=>?_).symm)
    rcases h.places k (by omega) with h4|⟨_,h4⟩
    ·rw [hat,h1] at h4;cases h4
    ·rw [hat] at h4;have:=h4 d hd2;rw [at_eq hj,h3] at this
     cases this
   ·refine zAa (zUl (((homeN l[k].1+d)%16:Nat):Int) (by omega) (by omega)) (w0 ?_)
    exact ⟨d+1,⟨by omega,fun j hj'=>(Nat.lt_succ_iff_lt_or_eq.1 hj').elim (hD j) (fun e=>by subst e;rw [at_eq hj];exact h3)⟩,by omega,le0 (zAb ⟨rfl,rfl,by
     show _=AV.d (.int .i64 (((homeN l[k].1+(d+1))%16:Nat):Int))
     rw [show (((homeN l[k].1+(d+1))%16:Nat):Int)=((((homeN l[k].1+d)%16:Nat):Int)+1)%16 by omega];rfl,rfl,rfl,rfl,trivial⟩ ⟨rfl,trivial⟩ ⟨rfl,rfl,rfl,rfl⟩)⟩
  ·have hd3:d=wayN (homeN l[k].1) k:=by simp only [wayN] at hd hw16⊢;omega
   refine aA ?_;refine ⟨k+1,⟨by omega,hlast (.inr ⟨hQk,?_⟩)⟩,by omega,le0 (zAb ⟨rfl,rfl,rfl,rfl,trivial⟩ ⟨rfl,trivial⟩ ⟨rfl,rfl,rfl,rfl⟩)⟩
   rw [hat,<-hd3];exact hD
 exact ret_of rfl (congrArg D.bool (rightB_t.2 ⟨hlen,hS,fun j hj=>hR j (by omega)⟩).symm)
theorem placeG_lt {l:zBe} {n:Int}:∀ {k:Nat},placeG l n k<0\/ ∃ i:Nat,placeG l n k=((k+i:Nat):Int) /\ ∃ h:i<l.length,l[i].1=n:=by
 induction l with
 |nil=>intro k;exact .inl (show (-1:Int)<0 by decide)
 |cons p r ih=>
  intro k;simp only [placeG]
  by_cases h:p.1=n
  ·exact .inr ⟨0,by simp [h],by simp,by simpa using h⟩
  ·rw [if_neg h]
   rcases ih (k:=k+1) with h1|⟨i,h1,h2,h3⟩
   ·exact .inl h1
   ·exact .inr ⟨i+1,by rw [h1];simp;omega,by simpa using h2,by simpa using h3⟩
def zLj (l:zBe) (h d:Nat):Nat->Option Nat
 |0=>none
 |n+1=>if freeB (at' l ((h+d)%16))=true then some ((h+d)%16) else zLj l h (d+1) n
noncomputable def putS (l:zBe) (p f:Int):zBe×Int:=
 if rightB l=false\/zLl p f=false then (l,1) else if (placeT l p).2=true then (l,4) else match zLj l (homeN p) 0 16 with
  |some i=>(l.set i (p,f),0)
  |none=>(l,7)
theorem zXg (l:zBe) (i:Nat) (x:Int×Int):(l.map encI).set i (encI x)=(l.set i x).map encI:=by rw [List.map_set]
theorem put_ok (l:zBe) (p f:Int) (hl:l.length<=1000000):zAj Tryz.prog 277 [encT l,.int .i64 p,.int .i64 f] (.tup [encT (putS l p f).1,.int .i64 (putS l p f).2]):=by
 refine zAe Tryz.func277 3 rfl (by kernel_rfl) (aW ?_);refine zAa (right_ok l hl) (w0 ?_)
 refine zAf (fun h1=>?_) (fun h1=>?_)<;>conv=>whnf
 ·refine aA ?_;simp at h1;exact ret_of rfl (by simp [putS,h1];rfl)
 simp at h1;refine zAa (yKs p f) (w0 ?_)
 refine zAf (fun h2=>?_) (fun h2=>?_)<;>conv=>whnf
 ·refine aA ?_;simp at h2;exact ret_of rfl (by simp [putS,h2];rfl)
 simp at h2;refine aA ?_;refine zAa (place_ok l p hl) (w0 ?_)
 refine zAf (fun h3=>?_) (fun h3=>?_)<;>conv=>whnf
 ·refine aA ?_;exact ret_of rfl (by simp [putS,h1,h2,h3];rfl)
 have hp:=fits_out.1 h2;have hlen:=(rightB_t.1 h1).len
 have hm:(l.map encI).length=l.length:=List.length_map ..
 have hhm:((homeN p:Nat):Int)=p%16:=by simp [homeN];omega
 have hh16:homeN p<16:=by simp [homeN];omega
 refine zAa (home_ok p (by omega)) (w0 ?_);refine zAq (ι:=Nat) (fun d=>[(1,.d (.int .i64 p)),(2,.d (.int .i64 f)),(3,.ptr 3 0 0),(6,.ptr 6 0 0),(10,.d (.int .i64 (((homeN p+d)%16:Nat):Int))),(32,.d (.int .i64 d))]) (fun _=>[(3,.box [.d (zCh l)] false),(6,.box [.nil] false)])
  (fun d=>d<=16/\zLj l (homeN p) d (16-d)=zLj l (homeN p) 0 16) (fun d=>16-d) 0 ⟨Nat.zero_le _,rfl⟩ (le0 (zAb ⟨rfl,rfl,rfl,rfl,by
   show AV.d (.int .i64 (p%16))=AV.d (.int .i64 (((homeN p+0)%16:Nat):Int));rw [show (((homeN p+0)%16:Nat):Int)=p%16 by omega],rfl,trivial⟩ ⟨rfl,rfl,trivial⟩ ⟨rfl,rfl,rfl,rfl⟩)) ?_
 rintro d ⟨hd,hD⟩
 conv=>whnf
 refine bcase_p (fun h=>?_) (fun h=>?_)<;>conv=>whnf
 ·have hj:(homeN p+d)%16<l.length:=by omega
  rw [show 16-d=(16-(d+1))+1 by omega,zLj,at_eq hj] at hD;refine aA ?_;refine zAd (by omega) (w0 ?_);refine zAc (x:=encI l[(homeN p+d)%16]) (by simp [hj]) (aW ?_);refine zAa (zRk l[(homeN p+d)%16]) (w0 ?_)
  refine zAf (fun h4=>?_) (fun h4=>?_)<;>conv=>whnf
  ·rw [if_pos h4] at hD
   have hput:putS l p f=(l.set ((homeN p+d)%16) (p,f),0):=by simp [putS,h1,h2,h3,<-hD]
   rw [hput];refine aA ?_;refine zAn (clone_ok l hl) (w0 ?_);refine zAd (by omega) (w0 ?_);refine zAc (x:=encI l[(homeN p+d)%16]) (by simp [hj]) (aW ?_);refine ret_of rfl ?_;show D.tup [.agg [.lst ((l.map encI).set _ (encI (p,f)))],.int .i64 0]=_
   rw [zXg];rfl
  ·rw [if_neg (by simp [h4])] at hD;refine zAa (zUl (((homeN p+d)%16:Nat):Int) (by omega) (by omega)) (aW ?_)
   exact ⟨d+1,⟨by omega,hD⟩,by omega,le0 (zAb ⟨rfl,rfl,rfl,rfl,by
    show _=AV.d (.int .i64 (((homeN p+(d+1))%16:Nat):Int))
    rw [show (((homeN p+(d+1))%16:Nat):Int)=((((homeN p+d)%16:Nat):Int)+1)%16 by omega];rfl,rfl,trivial⟩ ⟨rfl,rfl,trivial⟩ ⟨rfl,rfl,rfl,rfl⟩)⟩
 ·have hd2:d=16:=by omega
  subst hd2
  have hput:putS l p f=(l,7):=by
   simp only [putS,h1,h2,h3,<-hD];rfl
  rw [hput];refine aA ?_;exact ret_of rfl rfl
def delG (l:zBe) (hole i:Nat):Nat->zBe
 |0=>l
 |n+1=>if freeB (at' l ((i+1)%16))=true then l
  else if wayN (homeN (at' l ((i+1)%16)).1) hole<wayN (homeN (at' l ((i+1)%16)).1) ((i+1)%16) then delG ((l.set hole (at' l ((i+1)%16))).set ((i+1)%16) (0,0)) ((i+1)%16) ((i+1)%16) n
  else delG l hole ((i+1)%16) n
noncomputable def delS (l:zBe) (p:Int):zBe×Int:=
 if rightB l=false then (l,1) else if (placeT l p).2=false then (l,3) else (delG (l.set (placeT l p).1.toNat (0,0)) (placeT l p).1.toNat (placeT l p).1.toNat 15,0)
theorem yUw {a b:Nat} (ha:a<16) (hb:b<16):((b:Int)-(a:Int)+16)%16=((wayN a b:Nat):Int):=by simp only [wayN];omega
theorem placeT_t {l:zBe} {p:Int} (h:(placeT l p).2=true):∃ i:Nat,(placeT l p).1=i/\ ∃ h:i<l.length,l[i].1=p:=by
 unfold placeT at h⊢
 by_cases e:p<1\/placeG l p 0<0
 ·rw [if_pos e] at h;cases h
 ·rw [if_neg e]
  obtain h4|⟨i,h4,h5,h6⟩:=placeG_lt (l:=l) (n:=p) (k:=0)
  ·exact absurd (.inr h4) e
  ·exact ⟨i,by simpa using h4,h5,h6⟩
theorem zGl:zQv (0,0):=.inl rfl
theorem del_ok (l:zBe) (p:Int) (hl:l.length<=1000000):zAj Tryz.prog 278 [encT l,.int .i64 p] (.tup [encT (delS l p).1,.int .i64 (delS l p).2]):=by
 refine zAe Tryz.func278 2 rfl (by kernel_rfl) (aW ?_);refine zAa (right_ok l hl) (w0 ?_)
 refine zAf (fun h1=>?_) (fun h1=>?_)<;>conv=>whnf
 ·refine aA ?_;simp at h1;exact ret_of rfl (by simp [delS,h1];rfl)
 simp at h1;refine aA ?_;refine zAa (place_ok l p hl) (w0 ?_)
 refine zAf (fun h3=>?_) (fun h3=>?_)<;>conv=>whnf
 ·refine aA ?_;simp at h3;exact ret_of rfl (by simp [delS,h1,h3];rfl)
 simp at h3;have hR:=rightB_t.1 h1;have hlen:=hR.len
 have hm:(l.map encI).length=l.length:=List.length_map ..
 obtain ⟨a,ha,ha2,ha3⟩:=placeT_t h3
 have hdel:delS l p=(delG (l.set a (0,0)) a a 15,0):=by simp [delS,h1,h3,ha]
 rw [hdel,ha];refine aA ?_;refine zAn (clone_ok l hl) (aW ?_);refine zAd (by omega) (w0 ?_);refine zAc (x:=encI l[a]) (by simp [ha2]) (w0 ?_);refine zAq (ι:=Nat×zBe×Nat×Nat) (fun s=>[(4,.ptr 4 0 0),(6,.d (.int .i64 s.2.2.1)),(8,.own 26),(9,.d (.int .i64 s.2.2.2)),(32,.d (.int .i64 s.1))]) (fun s=>[(4,.box [.nil] false),(26,.row (s.2.1.map encI) 2 false)])
  (fun s=>s.1<=15/\s.2.1.length=16/\s.2.2.1<16/\s.2.2.2<16/\ (∀ j,j<16->zQv (at' s.2.1 j)) /\delG s.2.1 s.2.2.1 s.2.2.2 (15-s.1)=delG (l.set a (0,0)) a a 15) (fun s=>15-s.1) (0,l.set a (0,0),a,a)
  ⟨Nat.zero_le _,by simp [hlen],by simp only [];omega,by simp only [];omega,fun j hj=>?_,rfl⟩ (le0 (zAb ⟨rfl,rfl,rfl,rfl,rfl,trivial⟩ ⟨rfl,by
   show some (Blk.row ((l.map encI).set a (encI (0,0))) 2 false)=_;rw [zXg],trivial⟩ ⟨rfl,rfl,rfl,rfl⟩)) ?_
 ·show zQv (at' (l.set a (0,0)) j);unfold at';rw [List.getElem?_set]
  split
  ·first|exact zGl|(split<;>exact zGl)
  ·exact hR.slots j hj
 rintro ⟨n,l',h,i⟩ ⟨hn,hlen',hh,hi,hS,hD⟩;simp only at hn hlen' hh hi hS hD⊢
 have hm':(l'.map encI).length=l'.length:=List.length_map ..
 conv=>whnf
 refine bcase_p (fun hlt=>?_) (fun hlt=>?_)<;>conv=>whnf
 ·rw [show 15-n=(15-(n+1))+1 by omega,delG] at hD
  have hj16:(i+1)%16<16:=by omega
  have hj:(i+1)%16<l'.length:=by omega
  generalize hij:(i+1)%16=i' at hD hj hj16
  have hcast:((i:Int)+1)%16=(i':Int):=by omega
  rw [at_eq hj] at hD;refine zAa (d:=.int .i64 (i':Int)) (by rw [<-hcast];exact zUl (i:Int) (by omega) (by omega)) (aW ?_);refine zAd (by omega) (w0 ?_);refine zAc (x:=encI l'[i']) (by simp [hj]) (aW ?_);refine zAa (zRk l'[i']) (w0 ?_)
  refine zAf (fun h4=>?_) (fun h4=>?_)<;>conv=>whnf
  ·rw [if_pos h4] at hD;rw [<-hD];refine aA ?_;exact ret_of rfl rfl
  rw [if_neg (by simp [h4])] at hD
  have hp1:1<=l'[i'].1:=by
   rcases hS i' hj16 with h2|h2
   ·rw [at_eq hj,h4] at h2;cases h2
   ·rw [at_eq hj] at h2;exact (fits_out.1 h2).1
  have hhm:((homeN l'[i'].1:Nat):Int)=l'[i'].1%16:=by simp [homeN];omega
  have hh16:homeN l'[i'].1<16:=by simp [homeN];omega
  refine aA ?_;refine zAd (by omega) (w0 ?_);refine zAc (x:=encI l'[i']) (by simp [hj]) (aW ?_);refine zAa (d:=.int .i64 ((homeN l'[i'].1:Nat):Int)) (by rw [hhm];exact home_ok l'[i'].1 (by omega)) (aW ?_);refine zAa (d:=.int .i64 ((wayN (homeN l'[i'].1) h:Nat):Int)) (by rw [<-yUw hh16 hh];exact yUx _ _ (by omega) (by omega) (by omega) (by omega)) (aW ?_);refine zAa (d:=.int .i64 ((wayN (homeN l'[i'].1) i':Nat):Int)) (by rw [<-yUw hh16 hj16];exact yUx _ _ (by omega) (by omega) (by omega) (by omega)) (w0 ?_)
  refine bcase_p (fun h5=>?_) (fun h5=>?_)<;>conv=>whnf
  ·rw [if_pos (by omega)] at hD;refine aA ?_;refine zAd (by omega) (w0 ?_);refine zAc (x:=encI l'[i']) (by simp [hj]) (aW ?_);refine zAd (by omega) (w0 ?_);refine zAc (x:=encI (at' l' h)) (by simp [at',show h<l'.length by omega]) (aW ?_);refine zAd (by rw [List.length_set];omega) (w0 ?_);refine zAc (x:=encI (at' (l'.set h l'[i']) i')) ?_ ?_
   ·show ((l'.map encI).set h (encI l'[i']))[i']?=_
    rw [zXg,List.getElem?_map,at',List.getElem?_eq_getElem (by simpa using hj)];rfl
   conv=>whnf
   refine aA ?_
   refine ⟨(n+1,(l'.set h l'[i']).set i' (0,0),i',i'),⟨by simp only [];omega,by simpa using hlen',hj16,hj16,fun j hj'=>?_,hD⟩,by simp only [];omega,le0 (zAb ⟨rfl,rfl,rfl,rfl,rfl,trivial⟩ ⟨rfl,by
    show some (Blk.row (((l'.map encI).set h (encI l'[i'])).set i' (encI (0,0))) 2 false)=_;rw [zXg,zXg],trivial⟩ ⟨rfl,rfl,rfl,rfl⟩)⟩
   unfold at';simp only [];rw [List.getElem?_set]
   split
   ·first|exact zGl|(split<;>exact zGl)
   ·rw [List.getElem?_set];have h6:=hS i' hj16;rw [at_eq hj] at h6
    split
    ·first|exact h6|(split;exact h6;exact zGl)
    ·exact hS j hj'
  ·rw [if_neg (by omega)] at hD;refine aA ?_;exact ⟨(n+1,l',h,i'),⟨by simp only [];omega,hlen',hh,hj16,hS,hD⟩,by simp only [];omega,le0 (zAb ⟨rfl,rfl,rfl,rfl,rfl,trivial⟩ ⟨rfl,rfl,trivial⟩ ⟨rfl,rfl,rfl,rfl⟩)⟩
 ·have:n=15:=by omega
  subst this;replace hD:l'=delG (l.set a (0,0)) a a 15:=hD;rw [<-hD];refine aA ?_;exact ret_of rfl rfl
end Go.Lk.Tb
namespace Go.Lk.Dt
open Go Go.Proofs Go.RowKit Go.Lk
theorem due_ok (l:List (Int×Int)) (now age:Int) (hl:l.length<=1000000) (hn:now<=9223372036854775807):zAj Tryz.prog 175 [zCh l,.int .i64 now,.int .i64 age] (yGn (dueG l now age)):=by
 refine zAe Tryz.func175 3 rfl (by kernel_rfl) (w0 ?_)
 refine bcase_p (fun h1=>?_) (fun h1=>?_)<;>conv=>whnf
 ·exact ret_of rfl (by simp [dueG,h1];rfl)
 refine bcase_p (fun h2=>?_) (fun h2=>?_)<;>conv=>whnf
 ·exact ret_of rfl (by simp [dueG,h2];rfl)
 refine zAa (right_ok l hl) (w0 ?_)
 refine zAf (fun h3=>?_) (fun h3=>?_)<;>conv=>whnf
 ·exact ret_of rfl (by simp at h3;simp [dueG,h3];rfl)
 simp at h3;obtain ⟨hlen,hR⟩:=rightB_out h3
 have hG:dueG l now age=l.filterMap (dueF now age):=by simp [dueG,h1,h2,h3]
 refine zAq (ι:=Nat) (fun k=>[(1,.d (.int .i64 now)),(2,.d (.int .i64 age)),(7,.own 37),(21,.d (zCh l)),(22,.d (.int .i64 (l.map encI).length)),(23,.d (.int .i64 k))]) (fun k=>[(37,.row (((l.take k).filterMap (dueF now age)).map enc1) 1 false)])
  (fun k=>k<=l.length) (fun k=>l.length-k) 0 (Nat.zero_le _) (le1 (.row 7 37 1) ⟨rfl,rfl⟩ (zAb ⟨rfl,rfl,rfl,rfl,rfl,rfl,trivial⟩ ⟨rfl,trivial⟩ ⟨rfl,rfl,rfl,rfl⟩)) ?_
 intro k hk
 conv=>whnf
 refine bcase_p (fun h=>?_) (fun h=>?_)<;>conv=>whnf
 ·have hk2:k<l.length:=by simpa using h
  obtain ⟨hok,b1,b2,b3,b4⟩:=hR k hk2;refine zAd (by simpa using hk2) (w0 ?_);refine zAc (x:=encI l[k]) (by simp [hk2]) (w0 ?_);refine zAh rfl (aW ?_);have hcov (x:List (Int×Int)) (hx:l.take (k+1)=x):True:=trivial
  refine bcase_p (fun h5=>?_) (fun h5=>?_)<;>conv=>whnf
  ·refine aA ?_;have hl2:=List.length_filterMap_le (dueF now age) (l.take k);refine zAk 100 100 (by show List.length _+1<=100;simp at hl2⊢;omega) (by decide) (by decide) (by decide) (aW ?_);exact ⟨k+1,by omega,by omega,le0 (zAb ⟨rfl,rfl,rfl,rfl,rfl,rfl,trivial⟩ ⟨by rw [zAs hk2,List.filterMap_append,List.map_append];simp [dueF,h5];rfl,trivial⟩ ⟨rfl,rfl,rfl,rfl⟩)⟩
  ·refine aA ?_;exact ⟨k+1,by omega,by omega,le0 (zAb ⟨rfl,rfl,rfl,rfl,rfl,rfl,trivial⟩ ⟨by rw [zAs hk2,List.filterMap_append];simp [dueF,h5];rfl,trivial⟩ ⟨rfl,rfl,rfl,rfl⟩)⟩
 ·have:k=l.length:=by simp at h;omega
  subst this;exact ret_of rfl (by rw [hG,List.take_length];rfl)
end Go.Lk.Dt
namespace Go.Lk
open Go Go.Proofs Go.RowKit
theorem zAr {f:FuncId} {fn:Func} {args:List AV} {pre post:List (Nat×Blk)} {d:D} (hf:Tryz.prog.funcs[f]?=some fn) (n:Nat) (hn:args.length=n) (hc:zNe fn n=true)
  (hpl:(zOb args&&(zQ pre&&(zXd pre post&&zSy post)))=true) (h:AFnH T Tryz.prog fn args pre post d):zAx Tryz.prog f args pre post d:=
 z9j zYf mixed hf (by subst hn;exact hc) hpl h
theorem zKn {f:FuncId} {fn:Func} {l l':List (List D)} {sz:Nat} {rest:List AV} {pre post:List (Nat×Blk)} (hf:Tryz.prog.funcs[f]?=some fn) (n:Nat) (hn:rest.length+1=n) (hc:zNe fn n=true)
  (hpl:(zOb rest&&(!killV.parts 1000004 rest&&(zQ ((1000004,.row l sz false)::pre)&&(zXd pre post&&(zSy ((1000004,.row l' sz false)::post)&&(yAq pre&&yAq post))))))=true) (h:AFnW T Tryz.prog fn l sz rest pre post l'):zXw Tryz.prog f l sz rest pre post l':=
 yBk zYf mixed hf (by subst hn;exact hc) hpl h
theorem yEe {f:FuncId} {fn:Func} {args:List D} {cs:List SC} {rs:List D} (hf:Tryz.prog.funcs[f]?=some fn) (n:Nat) (hn:args.length=n) (hc:zNe fn n=true) (h:AFnP T Tryz.prog fn args cs rs):yGb Tryz.prog f args cs rs:=
 yAi zYf mixed hf (by subst hn;exact hc) h
theorem yDt {f:FuncId} {fn:Func} {args:List AV} {l:List (List D)} {sz:Nat} (hf:Tryz.prog.funcs[f]?=some fn) (n:Nat) (hn:args.length=n) (hc:zNe fn n=true) (hfl:z5j args=true) (h:AFnN T Tryz.prog fn args l sz) (hp:Nat->Option Blk) (t:Nat):
  zOj Tryz.prog f args hp ⟨.own t,[(t,.row l sz false)],some t⟩:=
 yA zYf mixed hf (by subst hn;exact hc) hfl h hp t
end Go.Lk
