/-
  What is proved here: what functions of the program compute, and what follows; no condition beyond each theorem's own.
-/
import Derived.Test.YtaofmndhdmkgkaaGreatGAm
import Derived.Shelf.Strings.Repeat
set_option linter.unusedSimpArgs false
set_option linter.unusedVariables false
set_option linter.unnecessarySimpa false
set_option linter.unusedSectionVars false
namespace Go.Lk
open Go Go.Proofs Go.Shelf Go.RowKit
def yUo:Ren:=
{
 f:=fun x=>
  match x with
  |105=>70
  |212=>120
  |99=>121
  |165=>122
  |166=>123
  |170=>124
  |169=>125
  |263=>180
  |264=>181
  |206=>182
  |240=>183
  |241=>184
  |276=>247
  |277=>248
  |n=>n,
 t:=fun x=>
  match x with
  |9=>9
  |3=>3
  |4=>4
  |20=>20
  |0=>0
  |46=>223
  |109=>224
  |5=>5
  |72=>229
  |76=>232
  |51=>296
  |146=>297
  |53=>299
  |148=>300
  |70=>227
  |37=>87
  |75=>231
  |127=>302
  |164=>360
  |80=>202
  |n=>n,
 g:=fun x=>
  x}
theorem zWx:Lays.n105 Tryz.prog yUo:=
{mixed:=by kernel_rfl,
 f99:=
  Eq.trans Tryz.func121 (congrArg some (by kernel_rfl)),
 f105:=
  Eq.trans Tryz.func70 (congrArg some (by kernel_rfl)),
 f165:=
  Eq.trans Tryz.func122 (congrArg some (by kernel_rfl)),
 f166:=
  Eq.trans Tryz.func123 (congrArg some (by kernel_rfl)),
 f169:=
  Eq.trans Tryz.func125 (congrArg some (by kernel_rfl)),
 f170:=
  Eq.trans Tryz.func124 (congrArg some (by kernel_rfl)),
 f206:=
  Eq.trans Tryz.func182 (congrArg some (by kernel_rfl)),
 f212:=
  Eq.trans Tryz.func120 (congrArg some (by kernel_rfl)),
 f240:=
  Eq.trans Tryz.func183 (congrArg some (by kernel_rfl)),
 f241:=
  Eq.trans Tryz.func184 (congrArg some (by kernel_rfl)),
 f263:=
  Eq.trans Tryz.func180 (congrArg some (by kernel_rfl)),
 f264:=
  Eq.trans Tryz.func181 (congrArg some (by kernel_rfl)),
 f276:=
  Eq.trans Tryz.func247 (congrArg some (by kernel_rfl)),
 f277:=
  Eq.trans Tryz.func248 (congrArg some (by kernel_rfl)),
 t0:=Tryz.underlying0,a0:=Tryz.isAgg0,z0:=Tryz.sizeOf0,
 v0:=Tryz.zeroValue0,t3:=Tryz.underlying3,a3:=Tryz.isAgg3,
 z3:=Tryz.sizeOf3,v3:=Tryz.zeroValue3,t4:=Tryz.underlying4,
 a4:=Tryz.isAgg4,z4:=Tryz.sizeOf4,v4:=Tryz.zeroValue4,
 t5:=Tryz.underlying5,a5:=Tryz.isAgg5,z5:=Tryz.sizeOf5,
 v5:=Tryz.zeroValue5,t9:=Tryz.underlying9,a9:=Tryz.isAgg9,
 z9:=Tryz.sizeOf9,v9:=Tryz.zeroValue9,t20:=Tryz.underlying20,
 a20:=Tryz.isAgg20,z20:=Tryz.sizeOf20,v20:=Tryz.zeroValue20,
 t37:=Tryz.underlying87,a37:=Tryz.isAgg87,z37:=Tryz.sizeOf87,
 v37:=Tryz.zeroValue87,t46:=Tryz.underlying223,a46:=Tryz.isAgg223,
 z46:=Tryz.sizeOf223,v46:=Tryz.zeroValue223,t51:=Tryz.underlying296,
 a51:=Tryz.isAgg296,z51:=Tryz.sizeOf296,v51:=Tryz.zeroValue296,
 t53:=Tryz.underlying299,a53:=Tryz.isAgg299,z53:=Tryz.sizeOf299,
 v53:=Tryz.zeroValue299,t70:=Tryz.underlying227,a70:=Tryz.isAgg227,
 z70:=Tryz.sizeOf227,v70:=Tryz.zeroValue227,t72:=Tryz.underlying229,
 a72:=Tryz.isAgg229,z72:=Tryz.sizeOf229,v72:=Tryz.zeroValue229,
 t75:=Tryz.underlying231,a75:=Tryz.isAgg231,z75:=Tryz.sizeOf231,
 v75:=Tryz.zeroValue231,t76:=Tryz.underlying232,a76:=Tryz.isAgg232,
 z76:=Tryz.sizeOf232,v76:=Tryz.zeroValue232,t109:=Tryz.underlying224,
 a109:=Tryz.isAgg224,z109:=Tryz.sizeOf224,v109:=Tryz.zeroValue224,
 t127:=Tryz.underlying302,a127:=Tryz.isAgg302,z127:=Tryz.sizeOf302,
 v127:=Tryz.zeroValue302,t146:=Tryz.underlying297,a146:=Tryz.isAgg297,
 z146:=Tryz.sizeOf297,v146:=Tryz.zeroValue297,t148:=Tryz.underlying300,
 a148:=Tryz.isAgg300,z148:=Tryz.sizeOf300,v148:=Tryz.zeroValue300,
 t164:=Tryz.underlying360,a164:=Tryz.isAgg360,z164:=Tryz.sizeOf360,
 v164:=Tryz.zeroValue360}
theorem yRn:Builder.Extra Tryz.prog yUo where
 sizeBuilder:=by kernel_rfl
 liesBuilder:=by kernel_rfl
 t5:=zWx.t5
 a5:=zWx.a5
 z5:=zWx.z5
 v5:=zWx.v5
 infoByte:=by kernel_rfl
 cellsByte:=by kernel_rfl
 sizeByte:=by kernel_rfl
 neB5:=by decide
theorem yBx {w:World} {b o:Nat} {v:Value} (h:w.cell? ⟨b,o,none⟩=some v):b<w.heap.size:=by
 refine Classical.byContradiction fun hn=>?_
 have:w.heap[b]?=none:=Array.getElem?_eq_none (by omega);simp [World.cell?,this] at h
def rep (s:ByteArray) (c:Nat):ByteArray:=⟨(Lib.repeatL s.data.toList c).toArray⟩
theorem zQd (s:ByteArray) (c:Nat) (hc:c<=1000) (hs:s.size<=1000):zAj Tryz.prog 70 [.str s,.int .i64 c] (.str (rep s c)):=by
 refine ⟨⟨Tryz.f70,Tryz.func70,rfl,by kernel_rfl⟩,fun w M vs hA hd=>?_⟩
 have hv:vs=#[.string s,.int .i64 c]:=by
  obtain ⟨l⟩:=vs
  match l,hd with
  | [],hd=>exact absurd hd.1 (by simp)
  | [_],hd=>exact absurd hd.1 (by simp)
  | [u1,u2],hd=>
   have q1:=hd.2 0 _ u1 rfl rfl;have q2:=hd.2 1 _ u2 rfl rfl
   cases q1
   cases q2
   rfl
  |_::_::_::_,hd=>exact absurd hd.1 (by simp)
 subst hv
 refine (Any.strings_Repeat zWx yRn s c w (by omega) (Nat.le_trans (Nat.mul_le_mul hs hc) (by decide))).mono fun e w' ⟨he,hb⟩=>?_
 exact ⟨_,M,he,hb,Sub.refl M,fun b o v h=>(hb.cell (p:=⟨b,o,none⟩) (yBx (hA b o v h))).trans (hA b o v h),fun b o v h=>.inl h,.str _⟩
end Go.Lk
namespace Go.Lk
open Go Go.Proofs Go.RowKit
theorem yJf (ns:List Int):∀ s:ByteArray,(ns.foldl (fun r n=>r.push (UInt8.ofNat n.toNat)) s).data.toList=s.data.toList++ns.map fun n=>UInt8.ofNat n.toNat:=by
 induction ns with
 |nil=>intro s;simp
 |cons n r ih=>intro s;rw [List.foldl_cons,ih];simp [ByteArray.push]
theorem zOr (ns:List Int):(bstr ns).data.toList=ns.map fun n=>UInt8.ofNat n.toNat:=by
 rw [bstr,yJf];exact List.nil_append _
theorem z7c (s:ByteArray):s.size=s.data.toList.length:=(Array.length_toList).symm
theorem zGf (ns:List Int):(bstr ns).size=ns.length:=by rw [z7c,zOr,List.length_map]
theorem zMt (n:Nat):(zDh n).size=4:=zGf _
def yBo:ByteArray:=⟨#[0]⟩
def nulB (n:Nat):ByteArray:=rep yBo n
theorem zDf (n:Nat):(nulB n).data.toList=List.replicate n 0:=by
 show (Lib.repeatL [0] n)=_;have:=Lib.repeatL_replicate 0 1 n
 simpa using this
theorem zCm (n:Nat):(nulB n).size=n:=by rw [z7c,zDf,List.length_replicate]
def zJi (x:Pg):ByteArray:=zDh x.1.toNat++zDh x.2.1.toNat++zDh x.2.2.size
def zIs (x:Pg):ByteArray:=x.2.2++nulB (16-x.2.2.size)
def putB (x:Pg):ByteArray:=zJi x++zDh (crcB (zJi x++zIs x)).toNat++zIs x
theorem zRn (x:Pg):(zJi x).size=12:=by
 simp only [zJi,ByteArray.size_append,zMt]
theorem zSk {x:Pg} (h:x.2.2.size<=16):(zIs x).size=16:=by
 simp only [zIs,ByteArray.size_append,zCm];omega
theorem zDz {x:Pg} (h:x.2.2.size<=16):(putB x).size=32:=by
 simp only [putB,ByteArray.size_append,zRn,zSk h,zMt]
theorem put_ok (x:Pg):zAj Tryz.prog 225 [.agg (encP x)] (if pgR x=true then .tup [.str (putB x),.int .i64 0] else .tup [.str ByteArray.empty,.int .i64 1]):=by
 refine zAe Tryz.func225 1 rfl (by kernel_rfl) (aW ?_);refine zAa (pageRight_ok x) (aW ?_)
 refine zAf (fun h1=>?_) (fun h1=>?_)<;>conv=>whnf
 ·refine aA ?_;rw [if_neg (by simpa using h1)];exact ret_of rfl rfl
 have hR:pgR x=true:=by simpa using h1
 have hv:=pgR_out.1 hR;rw [if_pos hR];refine aA ?_;obtain ⟨a,ha⟩:∃ a:Nat,x.1=a:=⟨x.1.toNat,by omega⟩;obtain ⟨b,hb⟩:∃ b:Nat,x.2.1=b:=⟨x.2.1.toNat,by omega⟩;rw [ha,hb];refine zAa (z1d a (by omega)) (aW ?_);refine zAa (z1d b (by omega)) (aW ?_);have hz:=zMt;refine zAh (by rw [hz,hz];decide) (aW ?_);refine zAa (z1d x.2.2.size (by omega)) (aW ?_);refine zAh (by rw [ByteArray.size_append,hz,hz,hz];decide) (aW ?_);rw [show (16:Int)-(x.2.2.size:Int)=((16-x.2.2.size:Nat):Int) by omega];refine zAa (zQd yBo (16-x.2.2.size) (by omega) (by decide)) (aW ?_);refine zAh (by rw [show (rep yBo (16-x.2.2.size)).size=_ from zCm _];omega) (aW ?_)
 have hh1:zDh a++zDh b++zDh x.2.2.size=zJi x:=by rw [zJi,ha,hb];rfl
 have ht1:x.2.2++rep yBo (16-x.2.2.size)=zIs x:=rfl;rw [hh1,ht1];refine zAn ySn (aW ?_);have h12:=zRn x;have h16:=zSk hv.2.2.2.2;refine zAh (by rw [h12,h16];decide) (aW ?_);refine zAa (sum_ok (zJi x++zIs x) (by rw [ByteArray.size_append,h12,h16];decide)) (aW ?_);obtain ⟨c,hc⟩:∃ c,(crcB (zJi x++zIs x)).toNat=c:=⟨_,rfl⟩
 have hc2:c<4294967296:=by rw [<-hc];exact (crcB (zJi x++zIs x)).isLt
 rw [hc];refine zAa (z1d c hc2) (aW ?_);refine zAh (by rw [h12,hz];decide) (aW ?_);refine zAh (by rw [ByteArray.size_append,h12,hz,h16];decide) (aW ?_)
 have e:zJi x++zDh c++zIs x=putB x:=by rw [putB,hc]
 rw [e];exact ret_of rfl rfl
def zP:Pg:=(0,0,ByteArray.empty)
def gotP (s:ByteArray):Pg:=(((numB s 0:Nat):Int),((numB s 4:Nat):Int),s.extract 16 (16+numB s 8))
noncomputable def zFl (s:ByteArray):Pg×Int:=
 if s.size≠32 then (zP,2) else if s=nulB 32 then (zP,3) else if 16<numB s 8 then (zP,9) else
 if pgR (gotP s)=true/\putB (gotP s)=s then (gotP s,0) else (zP,9)
theorem yZa (s:ByteArray):zAj Tryz.prog 162 [.str s] (.tup [.agg (encP (zFl s).1),.int .i64 (zFl s).2]):=by
 refine zAe Tryz.func162 1 rfl (by kernel_rfl) (aW ?_)
 refine bcase_n (fun h1=>?_) (fun h1=>?_)<;>conv=>whnf
 ·refine aA ?_;have e:zFl s=(zP,2):=if_pos (by omega);rw [e];exact ret_of rfl rfl
 have hs:s.size=32:=by omega
 have e0:zFl s=if s=nulB 32 then (zP,3) else if 16<numB s 8 then (zP,9) else if pgR (gotP s)=true/\putB (gotP s)=s then (gotP s,0) else (zP,9):=if_neg (by omega)
 rw [e0];refine aA ?_;refine zAa (zQd yBo 32 (by decide) (by decide)) (aW ?_)
 refine bcase_p (fun h2=>?_) (fun h2=>?_)<;>conv=>whnf
 ·refine aA ?_;rw [if_pos (show s=nulB 32 from h2)];exact ret_of rfl rfl
 rw [if_neg (show ¬s=nulB 32 from h2)];refine aA ?_;refine zAa (zWj s 8 (by omega) (by omega)) (aW ?_)
 refine bcase_p (fun h3=>?_) (fun h3=>?_)<;>conv=>whnf
 ·refine aA ?_;rw [if_pos (by omega)];exact ret_of rfl rfl
 rw [if_neg (by omega)];refine aA ?_;refine zAa (zWj s 0 (by omega) (by omega)) (aW ?_);refine zAa (zWj s 4 (by omega) (by omega)) (aW ?_);obtain ⟨n,hn⟩:∃ n,numB s 8=n:=⟨_,rfl⟩;rw [hn] at h3;rw [hn];refine aA ?_;rw [show (16:Int)+(n:Int)=((16+n:Nat):Int) by omega];refine zXh (l:=16) (by omega) (by omega) (aW ?_)
 have eg:gotP s=(((numB s 0:Nat):Int),((numB s 4:Nat):Int),s.extract 16 (16+n)):=by rw [gotP,hn]
 rw [eg];have hput:=put_ok (((numB s 0:Nat):Int),((numB s 4:Nat):Int),s.extract 16 (16+n))
 by_cases hR:pgR (((numB s 0:Nat):Int),((numB s 4:Nat):Int),s.extract 16 (16+n))=true
 ·rw [if_pos hR] at hput;refine zAa hput (aW ?_)
  refine bcase_n (fun h4=>?_) (fun h4=>?_)<;>conv=>whnf
  ·refine aA ?_;rw [if_neg (fun q=>h4 q.2)];exact ret_of rfl rfl
  ·refine aA ?_;rw [if_pos ⟨hR,h4⟩];exact ret_of rfl rfl
 ·rw [if_neg hR] at hput;refine zAa hput (aW ?_);rw [if_neg (fun q=>hR q.1)];exact ret_of rfl rfl
def bl (s:ByteArray):List UInt8:=s.data.toList
theorem bl_ext {s t:ByteArray} (h:bl s=bl t):s=t:=by
 cases s;cases t
 simp only [bl] at h
 congr 1
 exact Array.toList_inj.1 h
theorem zIa (s t:ByteArray):bl (s++t)=bl s++bl t:=by simp [bl,ByteArray.toList_data_append]
theorem zSp (s:ByteArray):(bl s).length=s.size:=Array.length_toList
theorem zEx (s:ByteArray) (a b:Nat):bl (s.extract a b)=((bl s).drop a).take (b-a):=by
 simp only [bl,ByteArray.data_extract,Array.toList_extract,List.extract]
theorem z0l (n:Nat):bl (zDh n)=[UInt8.ofNat (n%256),UInt8.ofNat (n/256%256),UInt8.ofNat (n/65536%256),UInt8.ofNat (n/16777216%256)]:=by
 show (bstr _).data.toList=_
 rw [zOr];rfl
theorem getD_bl (s:ByteArray) (j:Nat):s.data.getD j 0=(bl s)[j]?.getD 0:=by
 rw [Array.getD_eq_getD_getElem?,bl,Array.getElem?_toList]
theorem z1w {s:ByteArray} {A B:List UInt8} {n i:Nat} (h:bl s=A++(bl (zDh n)++B)) (hi:A.length=i) (hn:n<4294967296):numB s i=n:=by
 have get:∀ j,j<4->(s.data.getD (i+j) 0)=(bl (zDh n))[j]?.getD 0:=fun j hj=>by
  rw [getD_bl,h,List.getElem?_append_right (by omega),show i+j-A.length=j by omega,List.getElem?_append_left (by rw [z0l];exact hj)]
 have g0:=get 0 (by decide);rw [Nat.add_zero] at g0;rw [numB,g0,get 1 (by decide),get 2 (by decide),get 3 (by decide),z0l];simp only [List.getElem?_cons_zero,List.getElem?_cons_succ,Option.getD_some,UInt8.toNat_ofNat'];omega
theorem yQi {x:Pg} (h:pgR x=true):gotP (putB x)=x:=by
 have hv:=pgR_out.1 h
 have e:∀ a b c d:ByteArray,∀ t:ByteArray,bl (a++b++c++d++t)=bl a++(bl b++(bl c++(bl d++bl t))):=fun a b c d t=>by simp only [zIa,List.append_assoc]
 have e0:bl (putB x)=bl (zDh x.1.toNat)++(bl (zDh x.2.1.toNat)++(bl (zDh x.2.2.size)++(bl (zDh (crcB (zJi x++zIs x)).toNat)++bl (zIs x)))):=e _ _ _ _ _
 have l4:∀ n,(bl (zDh n)).length=4:=fun n=>by rw [z0l];rfl
 have n0:numB (putB x) 0=x.1.toNat:=z1w (A:=[]) (by rw [e0];rfl) rfl (by omega);have n4:numB (putB x) 4=x.2.1.toNat:=z1w (A:=bl (zDh x.1.toNat)) e0 (l4 _) (by omega);have n8:numB (putB x) 8=x.2.2.size:=z1w (A:=bl (zDh x.1.toNat)++bl (zDh x.2.1.toNat)) (by rw [e0,List.append_assoc]) (by rw [List.length_append,l4,l4]) (by omega);rw [gotP,n0,n4,n8];refine Prod.ext ?_ (Prod.ext ?_ ?_)
 ·show ((x.1.toNat:Nat):Int)=x.1;omega
 ·show ((x.2.1.toNat:Nat):Int)=x.2.1;omega
 ·show (putB x).extract 16 (16+x.2.2.size)=x.2.2;apply bl_ext;rw [zEx,e0,show 16+x.2.2.size-16=x.2.2.size by omega];rw [show bl (zDh x.1.toNat)++(bl (zDh x.2.1.toNat)++(bl (zDh x.2.2.size)++(bl (zDh (crcB (zJi x++zIs x)).toNat)++bl (zIs x))))=(bl (zDh x.1.toNat)++bl (zDh x.2.1.toNat)++bl (zDh x.2.2.size)++bl (zDh (crcB (zJi x++zIs x)).toNat))++bl (zIs x) by simp only [List.append_assoc]];rw [List.drop_append_of_le_length (by simp only [List.length_append,l4];omega),List.drop_of_length_le (by simp only [List.length_append,l4];omega),List.nil_append,zIs,zIa,<-zSp,List.take_left]
theorem ySo {x:Pg} (h:pgR x=true):zFl (putB x)=(x,0):=by
 have hv:=pgR_out.1 h;have g:=yQi h
 have n8:numB (putB x) 8=x.2.2.size:=by
  have:=congrArg (fun y:Pg=>y.2.2.size) g
  have l4:∀ n,(bl (zDh n)).length=4:=fun n=>by rw [z0l];rfl
  have e:∀ a b c d:ByteArray,∀ t:ByteArray,bl (a++b++c++d++t)=bl a++(bl b++(bl c++(bl d++bl t))):=fun a b c d t=>by simp only [zIa,List.append_assoc]
  exact z1w (A:=bl (zDh x.1.toNat)++bl (zDh x.2.1.toNat)) (by rw [List.append_assoc];exact e _ _ _ _ _) (by rw [List.length_append,l4,l4]) (by omega)
 have hz:¬putB x=nulB 32:=fun q=>by
  have n0:numB (putB x) 0=x.1.toNat:=by
   have:=congrArg (fun y:Pg=>y.1) g;simp only [gotP] at this;omega
  rw [q,numB] at n0
  have z:∀ j,(nulB 32).data.getD j 0=0:=fun j=>by
   rw [getD_bl,show bl (nulB 32)=_ from zDf 32,List.getElem?_replicate]
   split<;>rfl
  rw [z,z,z,z] at n0;have:(0:UInt8).toNat=0:=rfl;omega
 rw [zFl,if_neg (by rw [zDz hv.2.2.2.2];decide),if_neg hz,if_neg (by rw [n8];omega),g,if_pos ⟨h,rfl⟩]
theorem yFn:zFl (nulB 32)=(zP,3):=by
 rw [zFl,if_neg (by rw [zCm];decide),if_pos rfl]
theorem quo32 (x:W32):IntKind.u32.wrap ((x.toNat:Int).tdiv 2)=((x>>>1).toNat:Int):=by
 rw [Int.tdiv_eq_ediv_of_nonneg (by omega),BitVec.toNat_ushiftRight,Nat.shiftRight_eq_div_pow,yUy];have:=x.isLt;omega
theorem yYj (s:ByteArray) (hs:s.size<=1000):zAj Tryz.prog 161 [.str s] (.int .i64 (crcB s).toNat):=by
 refine zAe Tryz.func161 1 rfl (by kernel_rfl) (w0 ?_);refine zAq (ι:=Nat) (fun k=>[(0,.d (.str s)),(3,.d (.int .u32 (crcK s k).toNat)),(4,.d (.int .i64 k))]) (fun _=>[])
  (fun k=>k<=s.size) (fun k=>s.size-k) 0 (by omega) (le0 (zAb ⟨rfl,by kernel_rfl,rfl,trivial⟩ trivial ⟨rfl,rfl,rfl,rfl⟩)) ?_
 intro k hk;obtain ⟨x,hx⟩:∃ x,crcK s k=x:=⟨_,rfl⟩;simp only [hx]
 conv=>whnf
 refine bcase_p (fun h5=>?_) (fun h5=>?_)<;>conv=>whnf
 ·have hk2:k<s.size:=by omega
  refine aA ?_;refine zAd (by omega) (w0 ?_);obtain ⟨c,hc⟩:∃ c:UInt8,s.data.getD k 0=c:=⟨_,rfl⟩;have hc2:=c.toNat_lt;rw [hc];refine zCg (z3m (by omega) (by omega)) (w0 ?_)
  have e1:zIh .xor .u32 (x.toNat:Int) (c.toNat:Int)=((x^^^BitVec.ofNat 32 c.toNat).toNat:Int):=by
   have:=bx32 x (BitVec.ofNat 32 c.toNat);rw [BitVec.toNat_ofNat,Nat.mod_eq_of_lt (by omega)] at this;exact this
  rw [e1];refine aA ?_;refine zAq (ι:=Nat) (fun j=>[(0,.d (.str s)),(3,.d (.int .u32 (stpN j (x^^^BitVec.ofNat 32 c.toNat)).toNat)),(4,.d (.int .i64 k)),(5,.d (.int .i64 j))]) (fun _=>[])
   (fun j=>j<=8) (fun j=>8-j) 0 (by omega) (le0 (zAb ⟨rfl,rfl,rfl,rfl,trivial⟩ trivial ⟨rfl,rfl,rfl,rfl⟩)) ?_
  intro j hj;obtain ⟨y,hy⟩:∃ y,stpN j (x^^^BitVec.ofNat 32 c.toNat)=y:=⟨_,rfl⟩;simp only [hy]
  conv=>whnf
  refine bcase_p (fun h6=>?_) (fun h6=>?_)<;>conv=>whnf
  ·refine aA ?_;refine zCs (by decide) (by omega) (w0 ?_);rw [odd32' y]
   refine zAf (fun h=>?_) (fun h=>?_)<;>conv=>whnf
   ·refine zOz (by decide) (w0 ?_)
    have e1:stpN (j+1) (x^^^BitVec.ofNat 32 c.toNat)=(y>>>1)^^^zQo:=by rw [stpN,hy,stp_t h]
    have e2:zIh .xor .u32 (IntKind.u32.wrap ((y.toNat:Int).tdiv 2)) 3988292384=(((y>>>1)^^^zQo).toNat:Int):=by
     rw [quo32];exact bx32 _ zQo
    rw [show (if true=true then IntKind.u32.wrap ((y.toNat:Int).tdiv 2) else (y.toNat:Int).tmod 2)=IntKind.u32.wrap ((y.toNat:Int).tdiv 2) from rfl,e2,<-e1];refine aA ?_;exact ⟨j+1,by omega,by omega,(le0 (zAb ⟨rfl,rfl,rfl,rfl,trivial⟩ trivial ⟨rfl,rfl,rfl,rfl⟩))⟩
   ·refine zOz (by decide) (w0 ?_)
    have e1:stpN (j+1) (x^^^BitVec.ofNat 32 c.toNat)=y>>>1:=by rw [stpN,hy,stp_f h]
    rw [show (if true=true then IntKind.u32.wrap ((y.toNat:Int).tdiv 2) else (y.toNat:Int).tmod 2)=IntKind.u32.wrap ((y.toNat:Int).tdiv 2) from rfl,quo32,<-e1];refine aA ?_;exact ⟨j+1,by omega,by omega,(le0 (zAb ⟨rfl,rfl,rfl,rfl,trivial⟩ trivial ⟨rfl,rfl,rfl,rfl⟩))⟩
  ·refine aA ?_
   have ej:j=8:=by omega
   subst ej
   have e2:crcK s (k+1)=y:=by rw [z4s hk2,hx,hc,<-hy,stpN_8];rfl
   rw [<-e2];exact ⟨k+1,by omega,by omega,(le0 (zAb ⟨rfl,rfl,rfl,trivial⟩ trivial ⟨rfl,rfl,rfl,rfl⟩))⟩
 ·refine aA ?_;rw [show (if IntKind.u32.signed=true then (-1:Int) else IntKind.u32.max)=4294967295 from rfl,not32];refine zCg (w64 (by omega) (by have:=lt32 (~~~ x);omega)) (aW ?_)
  have e: ~~~ x=crcB s:=by rw [<-hx];exact yCa (by omega)
  rw [e];exact ret_of rfl rfl
theorem zUb (n:Nat) (hn:n<4294967296):zAj Tryz.prog 160 [.int .i64 n] (.str (zDh n)):=by
 refine zAe Tryz.func160 1 rfl (by kernel_rfl) (w0 ?_)
 have q:∀ k:Int,0<k->k<=16777216->(if true=true then IntKind.i64.wrap ((n:Int).tdiv k) else (n:Int).tmod k)=(n:Int)/k:=fun k hk hk2=>by
  rw [if_pos rfl,Int.tdiv_eq_ediv_of_nonneg (by omega)];have h1:0<= (n:Int)/k:=Int.ediv_nonneg (by omega) (by omega);have h2:(n:Int)/k<=n:=Int.ediv_le_self _ (by omega);exact w64 (by omega) (by omega)
 refine zCs (by decide) (by omega) (w0 ?_);refine zFn (w0 ?_);refine zOz (by decide) (w0 ?_);rw [q 256 (by decide) (by decide)];refine zCs (by decide) (by omega) (w0 ?_);refine zFn (w0 ?_);refine zOz (by decide) (w0 ?_);rw [q 65536 (by decide) (by decide)];refine zCs (by decide) (by omega) (w0 ?_);refine zFn (w0 ?_);refine zOz (by decide) (w0 ?_);rw [q 16777216 (by decide) (by decide)];refine zFn (aW ?_);refine ret_of rfl (congrArg D.str ?_);show bstr [IntKind.u8.wrap ((n:Int)%256),IntKind.u8.wrap ((n:Int)/256%256),IntKind.u8.wrap ((n:Int)/65536%256),IntKind.u8.wrap ((n:Int)/16777216)]=zDh n;rw [zDh];simp only [yTc]
 congr 1
 simp only [List.cons.injEq,and_true];omega
theorem z1v (n:Nat):nulB n++bstr [0]=nulB (n+1):=by
 apply bl_ext;rw [zIa,show bl (nulB n)=_ from zDf n,show bl (nulB (n+1))=_ from zDf (n+1),List.replicate_succ'];rfl
theorem yRd:nulB 0=ByteArray.empty:=bl_ext rfl
theorem yAr (x:Pg) (hR:pgR x=true):zAj Tryz.prog 96 [.agg (encP x)] (.str (putB x)):=by
 have hv:=pgR_out.1 hR;refine zAe Tryz.func96 1 rfl (by kernel_rfl) (aW ?_);obtain ⟨a,ha⟩:∃ a:Nat,x.1=a:=⟨x.1.toNat,by omega⟩;obtain ⟨b,hb⟩:∃ b:Nat,x.2.1=b:=⟨x.2.1.toNat,by omega⟩
 have hh1:zDh a++zDh b++zDh x.2.2.size=zJi x:=by rw [zJi,ha,hb];rfl
 rw [ha,hb];have hz:=zMt;have h12:=zRn x;have h16:=zSk hv.2.2.2.2;refine zAa (zUb a (by omega)) (aW ?_);refine zAa (zUb b (by omega)) (aW ?_);refine zAh (by rw [hz,hz];decide) (aW ?_);refine zAa (zUb x.2.2.size (by omega)) (aW ?_);refine zAh (by rw [ByteArray.size_append,hz,hz,hz];decide) (aW ?_);rw [hh1];refine zAq (ι:=Nat) (fun k=>[(3,.d (.str (zJi x))),(4,.d (.str (x.2.2++nulB k)))]) (fun _=>[])
  (fun k=>x.2.2.size+k<=16) (fun k=>16-k) 0 (by omega) (le0 (zAb ⟨rfl,?_,trivial⟩ trivial ⟨rfl,rfl,rfl,rfl⟩)) ?_
 ·show AV.d (.str x.2.2)=_;rw [yRd]
  congr 2
  apply bl_ext;rw [zIa];exact (List.append_nil _).symm
 intro k hk
 have hsz:(x.2.2++nulB k).size=x.2.2.size+k:=by rw [ByteArray.size_append,zCm]
 conv=>whnf
 refine bcase_p (fun h5=>?_) (fun h5=>?_)<;>conv=>whnf
 ·have hk2:x.2.2.size+k<16:=by omega
  refine aA ?_;refine zAh (by rw [hsz,zGf];simp;omega) (aW ?_)
  have e:x.2.2++nulB k++bstr [0]=x.2.2++nulB (k+1):=by
   rw [<-z1v];apply bl_ext;simp only [zIa,List.append_assoc]
  rw [e];exact ⟨k+1,by omega,by omega,(le0 (zAb ⟨rfl,rfl,trivial⟩ trivial ⟨rfl,rfl,rfl,rfl⟩))⟩
 ·refine aA ?_
  have ek:k=16-x.2.2.size:=by omega
  subst ek;rw [show x.2.2++nulB (16-x.2.2.size)=zIs x from rfl];refine zAa (yYj (zJi x++zIs x) (by rw [ByteArray.size_append,h12,h16];decide)) (aW ?_);obtain ⟨c,hc⟩:∃ c,(crcB (zJi x++zIs x)).toNat=c:=⟨_,rfl⟩
  have hc2:c<4294967296:=by rw [<-hc];exact (crcB (zJi x++zIs x)).isLt
  rw [hc];refine zAa (zUb c hc2) (aW ?_);refine zAh (by rw [h12,hz];decide) (aW ?_);refine zAh (by rw [ByteArray.size_append,h12,hz,h16];decide) (aW ?_)
  have e:zJi x++zDh c++zIs x=putB x:=by rw [putB,hc]
  rw [e];exact ret_of rfl rfl
theorem zKk (x:Pg):zAj Tryz.prog 95 [.agg (encP x)] (.bool (pgR x)):=by
 refine zAe Tryz.func95 1 rfl (by kernel_rfl) (aW ?_)
 refine bcase_p (fun h1=>?_) (fun h1=>?_)<;>conv=>whnf
 rotate_left
 ·refine aA ?_;exact ret_of rfl (congrArg D.bool (by symm;rw [<-Bool.not_eq_true,pgR_out];omega))
 refine aA ?_
 refine bcase_p (fun h2=>?_) (fun h2=>?_)<;>conv=>whnf
 rotate_left
 ·refine aA ?_;exact ret_of rfl (congrArg D.bool (by symm;rw [<-Bool.not_eq_true,pgR_out];omega))
 refine aA ?_
 refine bcase_p (fun h3=>?_) (fun h3=>?_)<;>conv=>whnf
 rotate_left
 ·refine aA ?_;exact ret_of rfl (congrArg D.bool (by symm;rw [<-Bool.not_eq_true,pgR_out];omega))
 refine aA ?_
 refine bcase_p (fun h4=>?_) (fun h4=>?_)<;>conv=>whnf
 rotate_left
 ·refine aA ?_;exact ret_of rfl (congrArg D.bool (by symm;rw [<-Bool.not_eq_true,pgR_out];omega))
 refine aA ?_;refine ret_of rfl (congrArg D.bool ?_)
 by_cases h5:(x.2.2.size:Int)<17
 ·rw [decide_eq_true h5];symm;rw [pgR_out];omega
 ·rw [decide_eq_false h5];symm;rw [<-Bool.not_eq_true,pgR_out];omega
theorem yMp {s:ByteArray}:(∀ i,i<s.size->s.data.getD i 0=0)↔s=nulB s.size:=by
 constructor
 ·intro h;apply bl_ext;rw [show bl (nulB s.size)=_ from zDf s.size];apply List.ext_getElem
  ·rw [zSp,List.length_replicate]
  ·intro i h1 h2
   have hi:i<s.size:=by rw [<-zSp];exact h1
   have:=h i hi;rw [getD_bl,List.getElem?_eq_getElem h1,Option.getD_some] at this;rw [this,List.getElem_replicate]
 ·intro h i hi;rw [h,getD_bl,show bl (nulB s.size)=_ from zDf s.size,List.getElem?_replicate]
  split<;>rfl
theorem yHi (s:ByteArray) (hs:s.size<=1000):zAj Tryz.prog 117 [.str s] (.bool (decide (s=nulB s.size))):=by
 refine zAe Tryz.func117 1 rfl (by kernel_rfl) (w0 ?_);refine zAq (ι:=Nat) (fun k=>[(0,.d (.str s)),(3,.d (.int .i64 k))]) (fun _=>[])
  (fun k=>k<=s.size/\ ∀ i,i<k->s.data.getD i 0=0) (fun k=>s.size-k) 0 ⟨by omega,by omega⟩ (le0 (zAb ⟨rfl,rfl,trivial⟩ trivial ⟨rfl,rfl,rfl,rfl⟩)) ?_
 rintro k ⟨hk,hR⟩
 conv=>whnf
 refine bcase_p (fun h5=>?_) (fun h5=>?_)<;>conv=>whnf
 ·have hk2:k<s.size:=by omega
  refine aA ?_;refine zAd (by omega) (w0 ?_)
  refine bcase_n (fun h6=>?_) (fun h6=>?_)<;>conv=>whnf
  ·refine aA ?_;refine ret_of rfl (congrArg D.bool ?_)
   symm;rw [decide_eq_false_iff_not]
   intro e;have:=yMp.2 e k hk2;rw [this] at h6;exact h6 rfl
  ·refine aA ?_
   have e0:s.data.getD k 0=0:=by
    apply UInt8.toNat.inj;have:(0:UInt8).toNat=0:=rfl;omega
   exact ⟨k+1,⟨by omega,fun i hi=>by
    by_cases e:i=k
    ·subst e;exact e0
    ·exact hR i (by omega)⟩,by omega,(le0 (zAb ⟨rfl,rfl,trivial⟩ trivial ⟨rfl,rfl,rfl,rfl⟩))⟩
 ·refine aA ?_;refine ret_of rfl (congrArg D.bool ?_)
  symm;rw [decide_eq_true_eq]
  exact yMp.1 fun i hi=>hR i (by omega)
def arr3 (s:ByteArray):Nat->List AV
 |0=>[.d (.int .i64 0),.d (.int .i64 0),.d (.int .i64 0)]
 |1=>[.d (.int .i64 (numB s 0)),.d (.int .i64 0),.d (.int .i64 0)]
 |2=>[.d (.int .i64 (numB s 0)),.d (.int .i64 (numB s 4)),.d (.int .i64 0)]
 |_=>[.d (.int .i64 (numB s 0)),.d (.int .i64 (numB s 4)),.d (.int .i64 (numB s 8))]
theorem yRs (s:ByteArray):zAj Tryz.prog 66 [.str s] (.tup [.agg (encP (zFl s).1),.int .i64 (zFl s).2]):=by
 refine zAe Tryz.func66 1 rfl (by kernel_rfl) (aW ?_)
 refine bcase_n (fun h1=>?_) (fun h1=>?_)<;>conv=>whnf
 ·refine aA ?_;have e:zFl s=(zP,2):=if_pos (by omega);rw [e];exact ret_of rfl rfl
 have hs:s.size=32:=by omega
 have e0:zFl s=if s=nulB 32 then (zP,3) else if 16<numB s 8 then (zP,9) else if pgR (gotP s)=true/\putB (gotP s)=s then (gotP s,0) else (zP,9):=if_neg (by omega)
 rw [e0];refine aA ?_;refine zAa (yHi s (by omega)) (aW ?_);rw [hs]
 refine bcase_p (fun h2=>?_) (fun h2=>?_)<;>conv=>whnf
 ·refine aA ?_;rw [if_pos h2];exact ret_of rfl rfl
 rw [if_neg h2];refine aA ?_;refine zAq (ι:=Nat) (fun k=>[(0,.d (.str s)),(2,.ptr 2 0 0),(4,.ptr 4 0 0),(5,.d (.int .i64 k))]) (fun k=>[(2,.box [.d (.int .i64 0),.d (.int .i64 0),.d (.str ByteArray.empty)] false),(4,.box (arr3 s k) false)])
  (fun k=>k<=3) (fun k=>3-k) 0 (by omega) (le0 (zAb ⟨rfl,rfl,rfl,rfl,trivial⟩ ⟨rfl,rfl,trivial⟩ ⟨rfl,rfl,rfl,rfl⟩)) ?_
 intro k hk
 conv=>whnf
 refine bcase_p (fun h5=>?_) (fun h5=>?_)<;>conv=>whnf
 ·have hk2:k<3:=by omega
  refine aA ?_
  have lt8:∀ j,(s.data.getD j 0).toNat<256:=fun j=>(s.data.getD j 0).toNat_lt
  obtain ⟨b0,hb0,l0⟩:∃ b:Nat,(s.data.getD (4*k) 0).toNat=b/\b<256:=⟨_,rfl,lt8 _⟩;obtain ⟨b1,hb1,l1⟩:∃ b:Nat,(s.data.getD (4*k+1) 0).toNat=b/\b<256:=⟨_,rfl,lt8 _⟩;obtain ⟨b2,hb2,l2⟩:∃ b:Nat,(s.data.getD (4*k+2) 0).toNat=b/\b<256:=⟨_,rfl,lt8 _⟩;obtain ⟨b3,hb3,l3⟩:∃ b:Nat,(s.data.getD (4*k+3) 0).toNat=b/\b<256:=⟨_,rfl,lt8 _⟩;rw [show 4*(k:Int)=((4*k:Nat):Int) by omega];refine zAd (by omega) (w0 ?_);rw [hb0];refine aA ?_;rw [show 4*(k:Int)+1=((4*k+1:Nat):Int) by omega];refine zAd (by omega) (w0 ?_);rw [hb1];refine aA ?_;rw [show 4*(k:Int)+2=((4*k+2:Nat):Int) by omega];refine zAd (by omega) (w0 ?_);rw [hb2];refine aA ?_;rw [show 4*(k:Int)+3=((4*k+3:Nat):Int) by omega];refine zAd (by omega) (w0 ?_);rw [hb3];refine aA ?_
  have en:(b0:Int)+256*(b1:Int)+65536*(b2:Int)+16777216*(b3:Int)=(numB s (4*k):Int):=by
   rw [numB,hb0,hb1,hb2,hb3];omega
  rw [en]
  rcases (show k=0\/k=1\/k=2 by omega) with rfl|rfl|rfl
  ·conv=>whnf
   refine zAd (by decide) (aW ?_);exact ⟨1,by omega,by omega,(le0 (zAb ⟨rfl,rfl,rfl,rfl,trivial⟩ ⟨rfl,rfl,trivial⟩ ⟨rfl,rfl,rfl,rfl⟩))⟩
  ·conv=>whnf
   refine zAd (by decide) (aW ?_);exact ⟨2,by omega,by omega,(le0 (zAb ⟨rfl,rfl,rfl,rfl,trivial⟩ ⟨rfl,rfl,trivial⟩ ⟨rfl,rfl,rfl,rfl⟩))⟩
  ·conv=>whnf
   refine zAd (by decide) (aW ?_);exact ⟨3,by omega,by omega,(le0 (zAb ⟨rfl,rfl,rfl,rfl,trivial⟩ ⟨rfl,rfl,trivial⟩ ⟨rfl,rfl,rfl,rfl⟩))⟩
 ·refine aA ?_
  have ek:k=3:=by omega
  subst ek;obtain ⟨n,hn⟩:∃ n,numB s 8=n:=⟨_,rfl⟩;simp only [arr3,hn];refine zBq (by decide) (by decide) (aW ?_)
  refine bcase_p (fun h3=>?_) (fun h3=>?_)<;>conv=>whnf
  ·refine aA ?_;rw [if_pos (by omega)];exact ret_of rfl rfl
  rw [if_neg (by omega)];refine aA ?_;refine zBq (by decide) (by decide) (aW ?_);refine zBq (by decide) (by decide) (aW ?_);refine zBq (by decide) (by decide) (aW ?_);rw [show (16:Int)+(n:Int)=((16+n:Nat):Int) by omega];refine zXh (l:=16) (by omega) (by omega) (aW ?_)
  have eg:gotP s=(((numB s 0:Nat):Int),((numB s 4:Nat):Int),s.extract 16 (16+n)):=by rw [gotP,hn]
  rw [eg];obtain ⟨g,hg⟩:∃ g:Pg,(((numB s 0:Nat):Int),((numB s 4:Nat):Int),s.extract 16 (16+n))=g:=⟨_,rfl⟩;have hr:=zKk g;refine zAa (zKk (((numB s 0:Nat):Int),((numB s 4:Nat):Int),s.extract 16 (16+n))) (aW ?_)
  refine zAf (fun h4=>?_) (fun h4=>?_)<;>conv=>whnf
  ·refine aA ?_;rw [if_neg (fun q=>by simp [q.1] at h4)];exact ret_of rfl rfl
  have hR:pgR (((numB s 0:Nat):Int),((numB s 4:Nat):Int),s.extract 16 (16+n))=true:=by simpa using h4
  refine aA ?_;refine zAa (yAr (((numB s 0:Nat):Int),((numB s 4:Nat):Int),s.extract 16 (16+n)) hR) (aW ?_)
  refine bcase_n (fun h5=>?_) (fun h5=>?_)<;>conv=>whnf
  ·refine aA ?_;rw [if_neg (fun q=>h5 q.2)];exact ret_of rfl rfl
  ·refine aA ?_;rw [if_pos ⟨hR,h5⟩];exact ret_of rfl rfl
abbrev Wt:=Int×ByteArray
def encB (s:ByteArray):List D:=[.str s]
def encW (w:Wt):List D:=[.int .i64 w.1,.str w.2]
structure DS where
 sec:List ByteArray
 ca:List Wt
def DS.cells (d:DS):List D:=[.lst (d.sec.map encB),.lst (d.ca.map encW)]
def zCp (d:DS):D:=.agg [.lst (d.sec.map encB),.lst (d.ca.map encW)]
def okW (n:Nat) (w:Wt):Bool:=decide (0<=w.1)&&(decide (w.1<n)&&decide (w.2.size=16))
theorem zDo {n:Nat} {w:Wt}:okW n w=true↔0<=w.1/\w.1<n/\w.2.size=16:=by simp [okW]
structure DR (d:DS):Prop where
 s1:1<=d.sec.length
 s2:d.sec.length<=64
 c1:d.ca.length<=200
 s:∀ i,(h:i<d.sec.length)->d.sec[i].size=16
 c:∀ i,(h:i<d.ca.length)->okW d.sec.length d.ca[i]=true
open Classical in
noncomputable def drB (d:DS):Bool:=decide (DR d)
theorem zRf {d:DS}:drB d=true↔DR d:=by simp [drB]
theorem zKb {d:DS}:drB d=false↔¬DR d:=by simp [drB]
theorem z8s:∀ (l:List ByteArray),okRows 1 (l.map encB)=true
 | []=>rfl
 |_::r=>z8s r
theorem z8v:∀ (l:List Wt),okRows 2 (l.map encW)=true
 | []=>rfl
 |_::r=>z8v r
theorem yCt (d:DS) (w:Wt):zAj Tryz.prog 116 [zCp d,.agg (encW w)] (.bool (okW d.sec.length w)):=by
 refine zAe Tryz.func116 2 rfl (by kernel_rfl) (w0 ?_)
 have hm:(d.sec.map encB).length=d.sec.length:=List.length_map ..
 refine aA ?_
 refine bcase_p (fun h1=>?_) (fun h1=>?_)<;>conv=>whnf
 rotate_left
 ·refine aA ?_;exact ret_of rfl (congrArg D.bool (by symm;rw [<-Bool.not_eq_true,zDo];omega))
 refine aA ?_
 refine bcase_p (fun h2=>?_) (fun h2=>?_)<;>conv=>whnf
 rotate_left
 ·refine aA ?_;exact ret_of rfl (congrArg D.bool (by symm;rw [<-Bool.not_eq_true,zDo];omega))
 refine aA ?_;refine ret_of rfl (congrArg D.bool ?_)
 by_cases h3:(w.2.size:Int)=16
 ·rw [decide_eq_true h3];symm;rw [zDo];omega
 ·rw [decide_eq_false h3];symm;rw [<-Bool.not_eq_true,zDo];omega
theorem zIy (d:DS):zAj Tryz.prog 57 [zCp d] (.bool (drB d)):=by
 refine zAe Tryz.func57 1 rfl (by kernel_rfl) (w0 ?_)
 have hm:(d.sec.map encB).length=d.sec.length:=List.length_map ..
 have hc:(d.ca.map encW).length=d.ca.length:=List.length_map ..
 refine aA ?_
 refine bcase_p (fun h1=>?_) (fun h1=>?_)<;>conv=>whnf
 ·refine aA ?_;exact ret_of rfl (congrArg D.bool (zKb.2 fun h=>by have:=h.s1;omega).symm)
 refine aA ?_
 refine bcase_p (fun h2=>?_) (fun h2=>?_)<;>conv=>whnf
 ·refine aA ?_;exact ret_of rfl (congrArg D.bool (zKb.2 fun h=>by have:=h.s2;omega).symm)
 refine aA ?_
 refine bcase_p (fun h3=>?_) (fun h3=>?_)<;>conv=>whnf
 ·refine aA ?_;exact ret_of rfl (congrArg D.bool (zKb.2 fun h=>by have:=h.c1;omega).symm)
 refine aA ?_;refine zAq (ι:=Nat) (fun k=>[(1,.ptr 1 0 0),(24,.d (.lst (d.sec.map encB))),(25,.d (.int .i64 (d.sec.map encB).length)),(26,.d (.int .i64 k))]) (fun _=>[(1,.box [.d (.lst (d.sec.map encB)),.d (.lst (d.ca.map encW))] false)])
  (fun k=>k<=d.sec.length/\ ∀ i,i<k->(h:i<d.sec.length)->d.sec[i].size=16) (fun k=>d.sec.length-k) 0 ⟨by omega,by omega⟩ (le0 (zAb ⟨rfl,rfl,rfl,rfl,trivial⟩ ⟨rfl,trivial⟩ ⟨rfl,rfl,rfl,rfl⟩)) ?_
 rintro k ⟨hk,hR⟩
 conv=>whnf
 refine bcase_p (fun h5=>?_) (fun h5=>?_)<;>conv=>whnf
 ·have hk2:k<d.sec.length:=by omega
  refine zAd (by omega) (w0 ?_);refine zAc (x:=encB d.sec[k]) (by simp [hk2]) (aW ?_)
  refine bcase_n (fun h6=>?_) (fun h6=>?_)<;>conv=>whnf
  ·refine aA ?_;exact ret_of rfl (congrArg D.bool (zKb.2 fun h=>by have:=h.s k hk2;omega).symm)
  refine aA ?_
  exact ⟨k+1,⟨by omega,fun i hi h=>by
   by_cases e:i=k
   ·subst e;omega
   ·exact hR i (by omega) h⟩,by omega,(le0 (zAb ⟨rfl,rfl,rfl,rfl,trivial⟩ ⟨rfl,trivial⟩ ⟨rfl,rfl,rfl,rfl⟩))⟩
 ·refine aA ?_;refine zAq (ι:=Nat) (fun k=>[(1,.ptr 1 0 0),(35,.d (.lst (d.ca.map encW))),(36,.d (.int .i64 (d.ca.map encW).length)),(37,.d (.int .i64 k))]) (fun _=>[(1,.box [.d (.lst (d.sec.map encB)),.d (.lst (d.ca.map encW))] false)])
   (fun k=>k<=d.ca.length/\ ∀ i,i<k->(h:i<d.ca.length)->okW d.sec.length d.ca[i]=true) (fun k=>d.ca.length-k) 0 ⟨by omega,by omega⟩ (le0 (zAb ⟨rfl,rfl,rfl,rfl,trivial⟩ ⟨rfl,trivial⟩ ⟨rfl,rfl,rfl,rfl⟩)) ?_
  rintro j ⟨hj,hS⟩
  conv=>whnf
  refine bcase_p (fun h7=>?_) (fun h7=>?_)<;>conv=>whnf
  ·have hj2:j<d.ca.length:=by omega
   refine zAd (by omega) (w0 ?_);refine zAc (x:=encW d.ca[j]) (by simp [hj2]) (aW ?_);refine zAa (yCt d d.ca[j]) (aW ?_)
   refine zAf (fun h8=>?_) (fun h8=>?_)<;>conv=>whnf
   ·refine aA ?_;exact ret_of rfl (congrArg D.bool (zKb.2 fun h=>by rw [h.c j hj2] at h8;exact absurd h8 (by decide)).symm)
   refine aA ?_
   exact ⟨j+1,⟨by omega,fun i hi h=>by
    by_cases e:i=j
    ·subst e;simpa using h8
    ·exact hS i (by omega) h⟩,by omega,(le0 (zAb ⟨rfl,rfl,rfl,rfl,trivial⟩ ⟨rfl,trivial⟩ ⟨rfl,rfl,rfl,rfl⟩))⟩
  ·refine aA ?_;exact ret_of rfl (congrArg D.bool (zRf.2 ⟨by omega,by omega,by omega,fun i h=>hR i (by omega) h,fun i h=>hS i (by omega) h⟩).symm)
theorem zSc (d:DS):zAj Tryz.prog 97 [zCp d] (.bool (drB d)):=by
 refine zAe Tryz.func97 1 rfl (by kernel_rfl) (w0 ?_)
 have hm:(d.sec.map encB).length=d.sec.length:=List.length_map ..
 have hc:(d.ca.map encW).length=d.ca.length:=List.length_map ..
 refine aA ?_
 refine bcase_p (fun h1=>?_) (fun h1=>?_)<;>conv=>whnf
 ·refine aA ?_;exact ret_of rfl (congrArg D.bool (zKb.2 fun h=>by have:=h.s1;omega).symm)
 refine aA ?_
 refine bcase_p (fun h2=>?_) (fun h2=>?_)<;>conv=>whnf
 ·refine aA ?_;exact ret_of rfl (congrArg D.bool (zKb.2 fun h=>by have:=h.s2;omega).symm)
 refine aA ?_
 refine bcase_p (fun h3=>?_) (fun h3=>?_)<;>conv=>whnf
 ·refine aA ?_;exact ret_of rfl (congrArg D.bool (zKb.2 fun h=>by have:=h.c1;omega).symm)
 refine aA ?_;refine zAq (ι:=Nat) (fun k=>[(1,.ptr 1 0 0),(3,.d (.int .i64 k))]) (fun _=>[(1,.box [.d (.lst (d.sec.map encB)),.d (.lst (d.ca.map encW))] false)])
  (fun k=>k<=d.sec.length/\ ∀ i,i<k->(h:i<d.sec.length)->d.sec[i].size=16) (fun k=>d.sec.length-k) 0 ⟨by omega,by omega⟩ (le0 (zAb ⟨rfl,rfl,trivial⟩ ⟨rfl,trivial⟩ ⟨rfl,rfl,rfl,rfl⟩)) ?_
 rintro k ⟨hk,hR⟩
 conv=>whnf
 refine aA ?_
 refine bcase_p (fun h5=>?_) (fun h5=>?_)<;>conv=>whnf
 ·have hk2:k<d.sec.length:=by omega
  refine aA ?_;refine zAd (by omega) (w0 ?_);refine zAc (x:=encB d.sec[k]) (by simp [hk2]) (aW ?_)
  refine bcase_n (fun h6=>?_) (fun h6=>?_)<;>conv=>whnf
  ·refine aA ?_;exact ret_of rfl (congrArg D.bool (zKb.2 fun h=>by have:=h.s k hk2;omega).symm)
  refine aA ?_
  exact ⟨k+1,⟨by omega,fun i hi h=>by
   by_cases e:i=k
   ·subst e;omega
   ·exact hR i (by omega) h⟩,by omega,(le0 (zAb ⟨rfl,rfl,trivial⟩ ⟨rfl,trivial⟩ ⟨rfl,rfl,rfl,rfl⟩))⟩
 ·refine aA ?_;refine zAq (ι:=Nat) (fun k=>[(1,.ptr 1 0 0),(4,.d (.int .i64 k))]) (fun _=>[(1,.box [.d (.lst (d.sec.map encB)),.d (.lst (d.ca.map encW))] false)])
   (fun k=>k<=d.ca.length/\ ∀ i,i<k->(h:i<d.ca.length)->okW d.sec.length d.ca[i]=true) (fun k=>d.ca.length-k) 0 ⟨by omega,by omega⟩ (le0 (zAb ⟨rfl,rfl,trivial⟩ ⟨rfl,trivial⟩ ⟨rfl,rfl,rfl,rfl⟩)) ?_
  rintro j ⟨hj,hS⟩
  conv=>whnf
  refine aA ?_
  refine bcase_p (fun h7=>?_) (fun h7=>?_)<;>conv=>whnf
  ·have hj2:j<d.ca.length:=by omega
   refine aA ?_;refine zAd (by omega) (w0 ?_);refine zAc (x:=encW d.ca[j]) (by simp [hj2]) (aW ?_)
   refine bcase_p (fun h8=>?_) (fun h8=>?_)<;>conv=>whnf
   ·refine aA ?_;exact ret_of rfl (congrArg D.bool (zKb.2 fun h=>by have:=zDo.1 (h.c j hj2);omega).symm)
   refine aA ?_
   refine bcase_p (fun h9=>?_) (fun h9=>?_)<;>conv=>whnf
   ·refine aA ?_;exact ret_of rfl (congrArg D.bool (zKb.2 fun h=>by have:=zDo.1 (h.c j hj2);omega).symm)
   refine aA ?_
   refine bcase_n (fun h10=>?_) (fun h10=>?_)<;>conv=>whnf
   ·refine aA ?_;exact ret_of rfl (congrArg D.bool (zKb.2 fun h=>by have:=zDo.1 (h.c j hj2);omega).symm)
   refine aA ?_
   exact ⟨j+1,⟨by omega,fun i hi h=>by
    by_cases e:i=j
    ·subst e;rw [zDo];omega
    ·exact hS i (by omega) h⟩,by omega,(le0 (zAb ⟨rfl,rfl,trivial⟩ ⟨rfl,trivial⟩ ⟨rfl,rfl,rfl,rfl⟩))⟩
  ·refine aA ?_;exact ret_of rfl (congrArg D.bool (zRf.2 ⟨by omega,by omega,by omega,fun i h=>hR i (by omega) h,fun i h=>hS i (by omega) h⟩).symm)
def wrS (s:List ByteArray) (l:List Wt):List ByteArray:=l.foldl (fun s w=>s.set w.1.toNat w.2) s
theorem zIt:∀ (l:List Wt) (s:List ByteArray),(wrS s l).length=s.length
 | [],s=>rfl
 |w::r,s=>by
  show (wrS (s.set w.1.toNat w.2) r).length=_;rw [zIt r,List.length_set]
theorem yTb (s:List ByteArray) (l:List Wt) (w:Wt):wrS s (l++[w])=(wrS s l).set w.1.toNat w.2:=by simp [wrS]
def pick (n:Int) (l:List Wt) (b:ByteArray):ByteArray:=l.foldl (fun b w=>if w.1=n then w.2 else b) b
def rdS (d:DS) (n:Int):ByteArray:=pick n d.ca (d.sec[n.toNat]?.getD ByteArray.empty)
theorem zPz {n:Int}:∀ {l:List Wt} {b:ByteArray},(∀ w∈l,w.1≠n)->pick n l b=b
 | [],b,_=>rfl
 |w::r,b,h=>by
  show pick n r (if w.1=n then w.2 else b)=b;rw [if_neg (h w (List.mem_cons_self ..)),zPz fun x hx=>h x (List.mem_cons_of_mem _ hx)]
theorem yRm (n:Int) (l r:List Wt) (b:ByteArray):pick n (l++r) b=pick n r (pick n l b):=by simp [pick]
theorem yNc {n:Int} {l:List Wt} {k:Nat} (hk:k<l.length) (h:l[k].1=n) (hR:∀ j,k<j->(hj:j<l.length)->l[j].1≠n) (b:ByteArray):pick n l b=l[k].2:=by
 have e:l=l.take k++l[k]::l.drop (k+1):=by rw [<-List.drop_eq_getElem_cons hk,List.take_append_drop]
 have h2:pick n l b=pick n (l.take k++l[k]::l.drop (k+1)) b:=congrArg (fun x=>pick n x b) e;rw [h2,yRm];show pick n (l.drop (k+1)) (if l[k].1=n then l[k].2 else pick n (l.take k) b)=_;rw [if_pos h,zPz];intro w hw;obtain ⟨i,hi,rfl⟩:=List.mem_iff_getElem.1 hw;rw [List.getElem_drop];rw [List.length_drop] at hi;exact hR _ (by omega) (by omega)
theorem z4k (l:List ByteArray) (hl:l.length<=1000000):zDt Tryz.prog 63 [.lst (l.map encB)] (l.map encB) 1:=by
 refine zBk Tryz.func63 1 rfl (by kernel_rfl) (w0 ?_);refine zDn (w0 ?_);intro r hr
 conv=>whnf
 refine zAf (fun h=>?_) (fun h=>?_)<;>conv=>whnf
 ·have:=hr h;exact ⟨2,rfl,.inr ⟨rfl,this⟩⟩
 ·refine aA ?_;refine zAh (z8s l) (w0 ?_);refine zAk 1000100 100 (by show 0+List.length _<=1000100;simp;omega) (by decide) (by decide) (by decide) (w0 ?_);exact ⟨2,rfl,.inl ⟨5,rfl,rfl⟩⟩
theorem z4n (l:List Wt) (hl:l.length<=1000000):zDt Tryz.prog 64 [.lst (l.map encW)] (l.map encW) 2:=by
 refine zBk Tryz.func64 1 rfl (by kernel_rfl) (w0 ?_);refine zDn (w0 ?_);intro r hr
 conv=>whnf
 refine zAf (fun h=>?_) (fun h=>?_)<;>conv=>whnf
 ·have:=hr h;exact ⟨2,rfl,.inr ⟨rfl,this⟩⟩
 ·refine aA ?_;refine zAh (z8v l) (w0 ?_);refine zAk 1000100 100 (by show 0+List.length _<=1000100;simp;omega) (by decide) (by decide) (by decide) (w0 ?_);exact ⟨2,rfl,.inl ⟨5,rfl,rfl⟩⟩
theorem z0e (d:DS) (l:List Wt) (hd:d.sec.length<=1000) (hl:l.length<=1000) (h:∀ i,(hi:i<l.length)->okW d.sec.length l[i]=true):
  zAj Tryz.prog 58 [zCp d,.lst (l.map encW)] (zCp ⟨wrS d.sec l,[]⟩):=by
 refine zAe Tryz.func58 2 rfl (by kernel_rfl) (w0 ?_)
 have hm:(l.map encW).length=l.length:=List.length_map ..
 refine aA ?_;refine zAn (z4k d.sec (by omega)) (aW ?_);refine zAq (ι:=Nat) (fun k=>[(4,.ptr 4 0 0),(5,.own 10),(11,.d (.lst (l.map encW))),(12,.d (.int .i64 (l.map encW).length)),(13,.d (.int .i64 k))]) (fun k=>[(4,.box [.nil,.nil] false),(10,.row ((wrS d.sec (l.take k)).map encB) 1 false)])
  (fun k=>k<=l.length) (fun k=>l.length-k) 0 (by omega) (le0 (zAb ⟨rfl,rfl,rfl,rfl,rfl,trivial⟩ ⟨rfl,rfl,trivial⟩ ⟨rfl,rfl,rfl,rfl⟩)) ?_
 intro k hk
 conv=>whnf
 refine bcase_p (fun h5=>?_) (fun h5=>?_)<;>conv=>whnf
 ·have hk2:k<l.length:=by omega
  have hw:=zDo.1 (h k hk2);have hln:=zIt (l.take k) d.sec
  have hlm:((wrS d.sec (l.take k)).map encB).length=(wrS d.sec (l.take k)).length:=List.length_map ..
  refine zAd (by omega) (w0 ?_);refine zAc (x:=encW l[k]) (by simp [hk2]) (aW ?_);refine zBq (by omega) (by omega) (w0 ?_)
  have hn:l[k].1.toNat<(wrS d.sec (l.take k)).length:=by omega
  refine zAc (x:=encB ((wrS d.sec (l.take k))[l[k].1.toNat])) (by simp [hn]) (aW ?_);refine ⟨k+1,by omega,by omega,le0 (zAb ⟨rfl,rfl,rfl,rfl,rfl,trivial⟩ ⟨rfl,?_,trivial⟩ ⟨rfl,rfl,rfl,rfl⟩)⟩;rw [zAs hk2,yTb,List.map_set];rfl
 ·refine aA ?_;have ek:l.take k=l:=List.take_of_length_le (by omega);rw [ek];exact ret_of rfl rfl
open Classical in
noncomputable def zXp (d:DS):DS:=if DR d then ⟨wrS d.sec d.ca,[]⟩ else d
open Classical in
noncomputable def putM (d:DS) (w:Wt):DS×Int:=if DR d/\okW d.sec.length w=true then (if 200<=d.ca.length then (d,7) else (⟨d.sec,d.ca++[w]⟩,0)) else (d,1)
theorem yYz (d:DS):zAj Tryz.prog 114 [zCp d] (zCp (zXp d)):=by
 refine zAe Tryz.func114 1 rfl (by kernel_rfl) (aW ?_);refine zAa (zIy d) (aW ?_)
 refine zAf (fun h1=>?_) (fun h1=>?_)<;>conv=>whnf
 ·refine aA ?_;have hn:¬DR d:=zKb.1 (by simpa using h1);rw [zXp,if_neg hn];exact ret_of rfl rfl
 have hR:DR d:=zRf.1 (by simpa using h1);rw [zXp,if_pos hR]
 have a1:=hR.s2;have a2:=hR.c1
 refine aA ?_;refine zAa (z0e d d.ca (by omega) (by omega) hR.c) (aW ?_);exact ret_of rfl rfl
theorem yWa (d:DS) (w:Wt):zAj Tryz.prog 115 [zCp d,.agg (encW w)] (.tup [zCp (putM d w).1,.int .i64 (putM d w).2]):=by
 refine zAe Tryz.func115 2 rfl (by kernel_rfl) (aW ?_);refine zAa (zIy d) (aW ?_)
 refine zAf (fun h1=>?_) (fun h1=>?_)<;>conv=>whnf
 ·refine aA ?_;have hn:¬DR d:=zKb.1 (by simpa using h1);rw [putM,if_neg (fun q=>hn q.1)];exact ret_of rfl rfl
 have hR:DR d:=zRf.1 (by simpa using h1)
 have a1:=hR.s2;have a2:=hR.c1
 have hm:(d.ca.map encW).length=d.ca.length:=List.length_map ..
 refine aA ?_;refine zAa (yCt d w) (aW ?_)
 refine zAf (fun h2=>?_) (fun h2=>?_)<;>conv=>whnf
 ·refine aA ?_;rw [putM,if_neg (fun q=>by rw [q.2] at h2;exact absurd h2 (by decide))];exact ret_of rfl rfl
 have hW:okW d.sec.length w=true:=by simpa using h2
 rw [putM,if_pos ⟨hR,hW⟩];refine aA ?_
 refine bcase_p (fun h3=>?_) (fun h3=>?_)<;>conv=>whnf
 ·refine aA ?_;rw [if_pos (by omega)];exact ret_of rfl rfl
 rw [if_neg (by omega)];refine aA ?_;refine zAn (z4n d.ca (by omega)) (aW ?_);refine zAk 1000100 1000 (by show List.length _+1<=1000100;omega) (by decide) (by decide) (by decide) (aW ?_);refine ret_of rfl ?_;rw [zCp,List.map_append];rfl
def zDe:ByteArray:=nulB 16
def zGu (k:Nat):List (List D):=(List.range 35).map fun j=>encB (if j<k then zDe else ByteArray.empty)
theorem yWj:List.replicate 35 (encB ByteArray.empty)=zGu 0:=by
 apply List.ext_getElem
 ·simp [zGu]
 ·intro j h1 h2;rw [List.getElem_replicate];simp only [zGu,List.getElem_map,List.getElem_range];rw [if_neg (by omega)]
theorem yKx {i:Nat} (hi:i<35):(zGu i).set i (encB zDe)=zGu (i+1):=by
 apply List.ext_getElem
 ·simp [zGu]
 ·intro j h1 h2;rw [List.getElem_set];simp only [zGu,List.getElem_map,List.getElem_range]
  by_cases e:i=j
  ·subst e;rw [if_pos rfl,if_pos (by omega)]
  ·rw [if_neg e]
   by_cases h:j<i
   ·rw [if_pos h,if_pos (by omega)]
   ·rw [if_neg h,if_neg (by omega)]
theorem yQg:zGu 35=(List.replicate 35 zDe).map encB:=by
 apply List.ext_getElem
 ·simp [zGu]
 ·intro j h1 h2
  have:j<35:=by simpa [zGu] using h1
  simp only [zGu,List.getElem_map,List.getElem_range,List.getElem_replicate];rw [if_pos this]
def z1r:DS:=⟨List.replicate 35 zDe,[]⟩
theorem zUx:zAj Tryz.prog 26 [.int .i64 35] (.tup [zCp z1r,.int .i64 0]):=by
 refine zAe Tryz.func26 1 rfl (by kernel_rfl) (aW ?_);refine zAk 1000 1000 (by decide) (by decide) (by decide) (by decide) (aW ?_);rw [show List.replicate (35:Int).toNat (T 9).zero=zGu 0 from yWj];refine zAq (ι:=Nat) (fun k=>[(2,.ptr 2 0 0),(4,.own 14),(16,.d (.int .i64 35)),(17,.d (.int .i64 k))]) (fun k=>[(2,.box [.nil,.nil] false),(14,.row (zGu k) 1 false)])
  (fun k=>k<=35) (fun k=>35-k) 0 (by omega) (le0 (zAb ⟨rfl,rfl,by kernel_rfl,rfl,trivial⟩ ⟨rfl,rfl,trivial⟩ ⟨rfl,rfl,rfl,rfl⟩)) ?_
 intro k hk
 have hfl:(zGu k).length=35:=by simp [zGu]
 conv=>whnf
 refine bcase_p (fun h5=>?_) (fun h5=>?_)<;>conv=>whnf
 ·have hk2:k<35:=by omega
  refine aA ?_;refine zAa (zQd yBo 16 (by decide) (by decide)) (aW ?_);refine zAd (by omega) (w0 ?_);refine zAc (x:=encB (if k<k then zDe else ByteArray.empty)) (by simp [zGu,hk2]) (aW ?_);refine ⟨k+1,by omega,by omega,le0 (zAb ⟨rfl,rfl,rfl,rfl,trivial⟩ ⟨rfl,?_,trivial⟩ ⟨rfl,rfl,rfl,rfl⟩)⟩;rw [<-yKx hk2];rfl
 ·refine aA ?_
  have ek:k=35:=by omega
  subst ek;rw [yQg];exact ret_of rfl rfl
theorem z2x (d:DS) (n:Int) (hc:d.ca.length<=1000) (h0:0<=n) (h1:n<d.sec.length):zAj Tryz.prog 118 [zCp d,.int .i64 n] (.str (rdS d n)):=by
 refine zAe Tryz.func118 2 rfl (by kernel_rfl) (w0 ?_)
 have hm:(d.ca.map encW).length=d.ca.length:=List.length_map ..
 have hs:(d.sec.map encB).length=d.sec.length:=List.length_map ..
 refine aA ?_;refine zAq (ι:=Nat) (fun k=>[(1,.d (.int .i64 n)),(2,.ptr 2 0 0),(5,.d (.int .i64 ((k:Int)-1)))]) (fun _=>[(2,.box [.d (.lst (d.sec.map encB)),.d (.lst (d.ca.map encW))] false)])
  (fun k=>k<=d.ca.length/\ ∀ j,k<=j->(h:j<d.ca.length)->d.ca[j].1≠n) (fun k=>k) d.ca.length ⟨by omega,by omega⟩ (le0 (zAb ⟨rfl,rfl,by rw [<-hm];rfl,trivial⟩ ⟨rfl,trivial⟩ ⟨rfl,rfl,rfl,rfl⟩)) ?_
 rintro k ⟨hk,hR⟩
 conv=>whnf
 refine bcase_p (fun h5=>?_) (fun h5=>?_)<;>conv=>whnf
 ·obtain ⟨j,rfl⟩:∃ j,k=j+1:=⟨k-1,by omega⟩
  have hj:j<d.ca.length:=by omega
  rw [show ((j+1:Nat):Int)-1=(j:Int) by omega];refine aA ?_;refine zAd (by omega) (w0 ?_);refine zAc (x:=encW d.ca[j]) (by simp [hj]) (aW ?_)
  refine bcase_p (fun h6=>?_) (fun h6=>?_)<;>conv=>whnf
  ·refine aA ?_;refine zAd (by omega) (w0 ?_);refine zAc (x:=encW d.ca[j]) (by simp [hj]) (aW ?_);refine ret_of rfl (congrArg D.str ?_);rw [rdS,yNc hj h6 (fun i hi hi2=>hR i (by omega) hi2)]
  ·refine aA ?_
   refine ⟨j,⟨by omega,fun i hi hi2=>by
    by_cases e:i=j
    ·subst e;exact h6
    ·exact hR i (by omega) hi2⟩,by omega,le0 (zAb ⟨rfl,rfl,rfl,trivial⟩ ⟨rfl,trivial⟩ ⟨rfl,rfl,rfl,rfl⟩)⟩
 ·refine aA ?_
  have hk0:k=0:=by omega
  subst hk0;refine zBq (by omega) (by omega) (w0 ?_)
  have hn:n.toNat<d.sec.length:=by omega
  refine zAc (x:=encB d.sec[n.toNat]) (by simp [hn]) (aW ?_);refine ret_of rfl (congrArg D.str ?_);rw [rdS,zPz,List.getElem?_eq_getElem hn]
  ·rfl
  ·intro w hw;obtain ⟨i,hi,rfl⟩:=List.mem_iff_getElem.1 hw;exact hR i (by omega) hi
end Go.Lk
