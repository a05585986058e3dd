/-
  What is proved here: what functions of the program compute, and what follows; no condition beyond each theorem's own.
-/
import Derived.Test.YtnlfingofodhlaaGreatBAm
import Derived.Shelf.Strings.Repeat
set_option linter.unusedSimpArgs false
set_option linter.unusedVariables false
set_option linter.unnecessarySimpa false
set_option linter.unusedSectionVars false
namespace Go.Lk
open Go Go.Proofs Go.Shelf Go.RowKit
def ySd:Ren:=
{
 f:=fun x=>
  match x with
  |105=>69
  |212=>131
  |99=>132
  |165=>133
  |166=>134
  |170=>135
  |169=>136
  |263=>200
  |264=>201
  |206=>202
  |240=>203
  |241=>204
  |276=>255
  |277=>256
  |n=>n,
 t:=fun x=>
  match x with
  |9=>9
  |3=>3
  |4=>4
  |20=>20
  |0=>0
  |46=>230
  |109=>231
  |5=>5
  |72=>236
  |76=>239
  |51=>307
  |146=>308
  |53=>310
  |148=>311
  |70=>234
  |37=>63
  |75=>238
  |127=>313
  |164=>363
  |80=>211
  |n=>n,
 g:=fun x=>
  x}
theorem zWq:Lays.n105 Tryz.prog ySd:=
{mixed:=by kernel_rfl,
 f99:=
  Eq.trans Tryz.func132 (congrArg some (by kernel_rfl)),
 f105:=
  Eq.trans Tryz.func69 (congrArg some (by kernel_rfl)),
 f165:=
  Eq.trans Tryz.func133 (congrArg some (by kernel_rfl)),
 f166:=
  Eq.trans Tryz.func134 (congrArg some (by kernel_rfl)),
 f169:=
  Eq.trans Tryz.func136 (congrArg some (by kernel_rfl)),
 f170:=
  Eq.trans Tryz.func135 (congrArg some (by kernel_rfl)),
 f206:=
  Eq.trans Tryz.func202 (congrArg some (by kernel_rfl)),
 f212:=
  Eq.trans Tryz.func131 (congrArg some (by kernel_rfl)),
 f240:=
  Eq.trans Tryz.func203 (congrArg some (by kernel_rfl)),
 f241:=
  Eq.trans Tryz.func204 (congrArg some (by kernel_rfl)),
 f263:=
  Eq.trans Tryz.func200 (congrArg some (by kernel_rfl)),
 f264:=
  Eq.trans Tryz.func201 (congrArg some (by kernel_rfl)),
 f276:=
  Eq.trans Tryz.func255 (congrArg some (by kernel_rfl)),
 f277:=
  Eq.trans Tryz.func256 (congrArg some (by kernel_rfl)),
 t0:=Tryz.underlying0,a0:=Tryz.isAgg0,z0:=Tryz.sizeOf0,
 v0:=Tryz.zeroValue0,t3:=Tryz.underlying3,a3:=Tryz.isAgg3,
 z3:=Tryz.sizeOf3,v3:=Tryz.zeroValue3,t4:=Tryz.underlying4,
 a4:=Tryz.isAgg4,z4:=Tryz.sizeOf4,v4:=Tryz.zeroValue4,
 t5:=Tryz.underlying5,a5:=Tryz.isAgg5,z5:=Tryz.sizeOf5,
 v5:=Tryz.zeroValue5,t9:=Tryz.underlying9,a9:=Tryz.isAgg9,
 z9:=Tryz.sizeOf9,v9:=Tryz.zeroValue9,t20:=Tryz.underlying20,
 a20:=Tryz.isAgg20,z20:=Tryz.sizeOf20,v20:=Tryz.zeroValue20,
 t37:=Tryz.underlying63,a37:=Tryz.isAgg63,z37:=Tryz.sizeOf63,
 v37:=Tryz.zeroValue63,t46:=Tryz.underlying230,a46:=Tryz.isAgg230,
 z46:=Tryz.sizeOf230,v46:=Tryz.zeroValue230,t51:=Tryz.underlying307,
 a51:=Tryz.isAgg307,z51:=Tryz.sizeOf307,v51:=Tryz.zeroValue307,
 t53:=Tryz.underlying310,a53:=Tryz.isAgg310,z53:=Tryz.sizeOf310,
 v53:=Tryz.zeroValue310,t70:=Tryz.underlying234,a70:=Tryz.isAgg234,
 z70:=Tryz.sizeOf234,v70:=Tryz.zeroValue234,t72:=Tryz.underlying236,
 a72:=Tryz.isAgg236,z72:=Tryz.sizeOf236,v72:=Tryz.zeroValue236,
 t75:=Tryz.underlying238,a75:=Tryz.isAgg238,z75:=Tryz.sizeOf238,
 v75:=Tryz.zeroValue238,t76:=Tryz.underlying239,a76:=Tryz.isAgg239,
 z76:=Tryz.sizeOf239,v76:=Tryz.zeroValue239,t109:=Tryz.underlying231,
 a109:=Tryz.isAgg231,z109:=Tryz.sizeOf231,v109:=Tryz.zeroValue231,
 t127:=Tryz.underlying313,a127:=Tryz.isAgg313,z127:=Tryz.sizeOf313,
 v127:=Tryz.zeroValue313,t146:=Tryz.underlying308,a146:=Tryz.isAgg308,
 z146:=Tryz.sizeOf308,v146:=Tryz.zeroValue308,t148:=Tryz.underlying311,
 a148:=Tryz.isAgg311,z148:=Tryz.sizeOf311,v148:=Tryz.zeroValue311,
 t164:=Tryz.underlying363,a164:=Tryz.isAgg363,z164:=Tryz.sizeOf363,
 v164:=Tryz.zeroValue363}
theorem yPm:Builder.Extra Tryz.prog ySd where
 sizeBuilder:=by kernel_rfl
 liesBuilder:=by kernel_rfl
 t5:=zWq.t5
 a5:=zWq.a5
 z5:=zWq.z5
 v5:=zWq.v5
 infoByte:=by kernel_rfl
 cellsByte:=by kernel_rfl
 sizeByte:=by kernel_rfl
 neB5:=by decide
theorem yAz {w:World} {b o:Nat} {v:Value} (h:w.cell? ⟨b,o,none⟩=some v):b<w.heap.size:=by
 refine Classical.byContradiction fun hn=>?_
 have:w.heap[b]?=none:=Array.getElem?_eq_none (by omega);simp [World.cell?,this] at h
def rep (s:ByteArray) (c:Nat):ByteArray:=⟨(Lib.repeatL s.data.toList c).toArray⟩
theorem zPy (s:ByteArray) (c:Nat) (hc:c<=1000) (hs:s.size<=1000):zAk Tryz.prog 69 [.str s,.int .i64 c] (.str (rep s c)):=by
 refine ⟨⟨Tryz.f69,Tryz.func69,rfl,by kernel_rfl⟩,fun w M vs hA hd=>?_⟩
 have hv:vs=#[.string s,.int .i64 c]:=by
  obtain ⟨l⟩:=vs
  match l,hd with
  | [],hd=>exact absurd hd.1 (by simp)
  | [_],hd=>exact absurd hd.1 (by simp)
  | [u1,u2],hd=>
   have q1:=hd.2 0 _ u1 rfl rfl;have q2:=hd.2 1 _ u2 rfl rfl
   cases q1
   cases q2
   rfl
  |_::_::_::_,hd=>exact absurd hd.1 (by simp)
 subst hv
 refine (Any.strings_Repeat zWq yPm s c w (by omega) (Nat.le_trans (Nat.mul_le_mul hs hc) (by decide))).mono fun e w' ⟨he,hb⟩=>?_
 exact ⟨_,M,he,hb,Sub.refl M,fun b o v h=>(hb.cell (p:=⟨b,o,none⟩) (yAz (hA b o v h))).trans (hA b o v h),fun b o v h=>.inl h,.str _⟩
end Go.Lk
namespace Go.Lk
open Go Go.Proofs Go.RowKit
theorem yHl (ns:List Int):∀ s:ByteArray,(ns.foldl (fun r n=>r.push (UInt8.ofNat n.toNat)) s).data.toList=s.data.toList++ns.map fun n=>UInt8.ofNat n.toNat:=by
 induction ns with
 |nil=>intro s;simp
 |cons n r ih=>intro s;rw [List.foldl_cons,ih];simp [ByteArray.push]
theorem zOk (ns:List Int):(bstr ns).data.toList=ns.map fun n=>UInt8.ofNat n.toNat:=by
 rw [bstr,yHl];exact List.nil_append _
theorem z6n (s:ByteArray):s.size=s.data.toList.length:=(Array.length_toList).symm
theorem zGh (ns:List Int):(bstr ns).size=ns.length:=by rw [z6n,zOk,List.length_map]
theorem zMk (n:Nat):(zDj n).size=4:=zGh _
def yAq:ByteArray:=⟨#[0]⟩
def nulB (n:Nat):ByteArray:=rep yAq n
theorem zDh (n:Nat):(nulB n).data.toList=List.replicate n 0:=by
 show (Lib.repeatL [0] n)=_;have:=Lib.repeatL_replicate 0 1 n
 simpa using this
theorem zCr (n:Nat):(nulB n).size=n:=by rw [z6n,zDh,List.length_replicate]
def zJc (x:Pg):ByteArray:=zDj x.1.toNat++zDj x.2.1.toNat++zDj x.2.2.size
def zIo (x:Pg):ByteArray:=x.2.2++nulB (16-x.2.2.size)
def putB (x:Pg):ByteArray:=zJc x++zDj (crcB (zJc x++zIo x)).toNat++zIo x
theorem zRf (x:Pg):(zJc x).size=12:=by
 simp only [zJc,ByteArray.size_append,zMk]
theorem zSc {x:Pg} (h:x.2.2.size<=16):(zIo x).size=16:=by
 simp only [zIo,ByteArray.size_append,zCr];omega
theorem zEc {x:Pg} (h:x.2.2.size<=16):(putB x).size=32:=by
 simp only [putB,ByteArray.size_append,zRf,zSc h,zMk]
theorem put_ok (x:Pg):zAk Tryz.prog 242 [.agg (encP x)] (if pgR x=true then .tup [.str (putB x),.int .i64 0] else .tup [.str ByteArray.empty,.int .i64 1]):=by
 refine zAf Tryz.func242 1 rfl (by kernel_rfl) (aW ?_);refine zAa (pageRight_ok x) (aW ?_)
 refine zAe (fun h1=>?_) (fun h1=>?_)<;>conv=>whnf
 ·refine aA ?_;rw [if_neg (by simpa using h1)];exact ret_of rfl rfl
 have hR:pgR x=true:=by simpa using h1
 have hv:=pgR_out.1 hR;rw [if_pos hR];refine aA ?_;obtain ⟨a,ha⟩:∃ a:Nat,x.1=a:=⟨x.1.toNat,by omega⟩;obtain ⟨b,hb⟩:∃ b:Nat,x.2.1=b:=⟨x.2.1.toNat,by omega⟩;rw [ha,hb];refine zAa (z0t a (by omega)) (aW ?_);refine zAa (z0t b (by omega)) (aW ?_);have hz:=zMk;refine zAh (by rw [hz,hz];decide) (aW ?_);refine zAa (z0t x.2.2.size (by omega)) (aW ?_);refine zAh (by rw [ByteArray.size_append,hz,hz,hz];decide) (aW ?_);rw [show (16:Int)-(x.2.2.size:Int)=((16-x.2.2.size:Nat):Int) by omega];refine zAa (zPy yAq (16-x.2.2.size) (by omega) (by decide)) (aW ?_);refine zAh (by rw [show (rep yAq (16-x.2.2.size)).size=_ from zCr _];omega) (aW ?_)
 have hh1:zDj a++zDj b++zDj x.2.2.size=zJc x:=by rw [zJc,ha,hb];rfl
 have ht1:x.2.2++rep yAq (16-x.2.2.size)=zIo x:=rfl;rw [hh1,ht1];refine zAl yQk (aW ?_);have h12:=zRf x;have h16:=zSc hv.2.2.2.2;refine zAh (by rw [h12,h16];decide) (aW ?_);refine zAa (sum_ok (zJc x++zIo x) (by rw [ByteArray.size_append,h12,h16];decide)) (aW ?_);obtain ⟨c,hc⟩:∃ c,(crcB (zJc x++zIo x)).toNat=c:=⟨_,rfl⟩
 have hc2:c<4294967296:=by rw [<-hc];exact (crcB (zJc x++zIo x)).isLt
 rw [hc];refine zAa (z0t c hc2) (aW ?_);refine zAh (by rw [h12,hz];decide) (aW ?_);refine zAh (by rw [ByteArray.size_append,h12,hz,h16];decide) (aW ?_)
 have e:zJc x++zDj c++zIo x=putB x:=by rw [putB,hc]
 rw [e];exact ret_of rfl rfl
def zP:Pg:=(0,0,ByteArray.empty)
def gotP (s:ByteArray):Pg:=(((numB s 0:Nat):Int),((numB s 4:Nat):Int),s.extract 16 (16+numB s 8))
noncomputable def zFo (s:ByteArray):Pg×Int:=
 if s.size≠32 then (zP,2) else if s=nulB 32 then (zP,3) else if 16<numB s 8 then (zP,9) else
 if pgR (gotP s)=true/\putB (gotP s)=s then (gotP s,0) else (zP,9)
theorem yWo (s:ByteArray):zAk Tryz.prog 187 [.str s] (.tup [.agg (encP (zFo s).1),.int .i64 (zFo s).2]):=by
 refine zAf Tryz.func187 1 rfl (by kernel_rfl) (aW ?_)
 refine bcase_n (fun h1=>?_) (fun h1=>?_)<;>conv=>whnf
 ·refine aA ?_;have e:zFo s=(zP,2):=if_pos (by omega);rw [e];exact ret_of rfl rfl
 have hs:s.size=32:=by omega
 have e0:zFo s=if s=nulB 32 then (zP,3) else if 16<numB s 8 then (zP,9) else if pgR (gotP s)=true/\putB (gotP s)=s then (gotP s,0) else (zP,9):=if_neg (by omega)
 rw [e0];refine aA ?_;refine zAa (zPy yAq 32 (by decide) (by decide)) (aW ?_)
 refine bcase_p (fun h2=>?_) (fun h2=>?_)<;>conv=>whnf
 ·refine aA ?_;rw [if_pos (show s=nulB 32 from h2)];exact ret_of rfl rfl
 rw [if_neg (show ¬s=nulB 32 from h2)];refine aA ?_;refine zAa (zWe s 8 (by omega) (by omega)) (aW ?_)
 refine bcase_p (fun h3=>?_) (fun h3=>?_)<;>conv=>whnf
 ·refine aA ?_;rw [if_pos (by omega)];exact ret_of rfl rfl
 rw [if_neg (by omega)];refine aA ?_;refine zAa (zWe s 0 (by omega) (by omega)) (aW ?_);refine zAa (zWe s 4 (by omega) (by omega)) (aW ?_);obtain ⟨n,hn⟩:∃ n,numB s 8=n:=⟨_,rfl⟩;rw [hn] at h3;rw [hn];refine aA ?_;rw [show (16:Int)+(n:Int)=((16+n:Nat):Int) by omega];refine zX (l:=16) (by omega) (by omega) (aW ?_)
 have eg:gotP s=(((numB s 0:Nat):Int),((numB s 4:Nat):Int),s.extract 16 (16+n)):=by rw [gotP,hn]
 rw [eg];have hput:=put_ok (((numB s 0:Nat):Int),((numB s 4:Nat):Int),s.extract 16 (16+n))
 by_cases hR:pgR (((numB s 0:Nat):Int),((numB s 4:Nat):Int),s.extract 16 (16+n))=true
 ·rw [if_pos hR] at hput;refine zAa hput (aW ?_)
  refine bcase_n (fun h4=>?_) (fun h4=>?_)<;>conv=>whnf
  ·refine aA ?_;rw [if_neg (fun q=>h4 q.2)];exact ret_of rfl rfl
  ·refine aA ?_;rw [if_pos ⟨hR,h4⟩];exact ret_of rfl rfl
 ·rw [if_neg hR] at hput;refine zAa hput (aW ?_);rw [if_neg (fun q=>hR q.1)];exact ret_of rfl rfl
def bl (s:ByteArray):List UInt8:=s.data.toList
theorem bl_ext {s t:ByteArray} (h:bl s=bl t):s=t:=by
 cases s;cases t
 simp only [bl] at h
 congr 1
 exact Array.toList_inj.1 h
theorem zIa (s t:ByteArray):bl (s++t)=bl s++bl t:=by simp [bl,ByteArray.toList_data_append]
theorem zSi (s:ByteArray):(bl s).length=s.size:=Array.length_toList
theorem zFa (s:ByteArray) (a b:Nat):bl (s.extract a b)=((bl s).drop a).take (b-a):=by
 simp only [bl,ByteArray.data_extract,Array.toList_extract,List.extract]
theorem z0c (n:Nat):bl (zDj n)=[UInt8.ofNat (n%256),UInt8.ofNat (n/256%256),UInt8.ofNat (n/65536%256),UInt8.ofNat (n/16777216%256)]:=by
 show (bstr _).data.toList=_
 rw [zOk];rfl
theorem getD_bl (s:ByteArray) (j:Nat):s.data.getD j 0=(bl s)[j]?.getD 0:=by
 rw [Array.getD_eq_getD_getElem?,bl,Array.getElem?_toList]
theorem z1l {s:ByteArray} {A B:List UInt8} {n i:Nat} (h:bl s=A++(bl (zDj n)++B)) (hi:A.length=i) (hn:n<4294967296):numB s i=n:=by
 have get:∀ j,j<4->(s.data.getD (i+j) 0)=(bl (zDj n))[j]?.getD 0:=fun j hj=>by
  rw [getD_bl,h,List.getElem?_append_right (by omega),show i+j-A.length=j by omega,List.getElem?_append_left (by rw [z0c];exact hj)]
 have g0:=get 0 (by decide);rw [Nat.add_zero] at g0;rw [numB,g0,get 1 (by decide),get 2 (by decide),get 3 (by decide),z0c];simp only [List.getElem?_cons_zero,List.getElem?_cons_succ,Option.getD_some,UInt8.toNat_ofNat'];omega
theorem yOi {x:Pg} (h:pgR x=true):gotP (putB x)=x:=by
 have hv:=pgR_out.1 h
 have e:∀ a b c d:ByteArray,∀ t:ByteArray,bl (a++b++c++d++t)=bl a++(bl b++(bl c++(bl d++bl t))):=fun a b c d t=>by simp only [zIa,List.append_assoc]
 have e0:bl (putB x)=bl (zDj x.1.toNat)++(bl (zDj x.2.1.toNat)++(bl (zDj x.2.2.size)++(bl (zDj (crcB (zJc x++zIo x)).toNat)++bl (zIo x)))):=e _ _ _ _ _
 have l4:∀ n,(bl (zDj n)).length=4:=fun n=>by rw [z0c];rfl
 have n0:numB (putB x) 0=x.1.toNat:=z1l (A:=[]) (by rw [e0];rfl) rfl (by omega);have n4:numB (putB x) 4=x.2.1.toNat:=z1l (A:=bl (zDj x.1.toNat)) e0 (l4 _) (by omega);have n8:numB (putB x) 8=x.2.2.size:=z1l (A:=bl (zDj x.1.toNat)++bl (zDj x.2.1.toNat)) (by rw [e0,List.append_assoc]) (by rw [List.length_append,l4,l4]) (by omega);rw [gotP,n0,n4,n8];refine Prod.ext ?_ (Prod.ext ?_ ?_)
 ·show ((x.1.toNat:Nat):Int)=x.1;omega
 ·show ((x.2.1.toNat:Nat):Int)=x.2.1;omega
 ·show (putB x).extract 16 (16+x.2.2.size)=x.2.2;apply bl_ext;rw [zFa,e0,show 16+x.2.2.size-16=x.2.2.size by omega];rw [show bl (zDj x.1.toNat)++(bl (zDj x.2.1.toNat)++(bl (zDj x.2.2.size)++(bl (zDj (crcB (zJc x++zIo x)).toNat)++bl (zIo x))))=(bl (zDj x.1.toNat)++bl (zDj x.2.1.toNat)++bl (zDj x.2.2.size)++bl (zDj (crcB (zJc x++zIo x)).toNat))++bl (zIo x) by simp only [List.append_assoc]];rw [List.drop_append_of_le_length (by simp only [List.length_append,l4];omega),List.drop_of_length_le (by simp only [List.length_append,l4];omega),List.nil_append,zIo,zIa,<-zSi,List.take_left]
theorem yQl {x:Pg} (h:pgR x=true):zFo (putB x)=(x,0):=by
 have hv:=pgR_out.1 h;have g:=yOi h
 have n8:numB (putB x) 8=x.2.2.size:=by
  have:=congrArg (fun y:Pg=>y.2.2.size) g
  have l4:∀ n,(bl (zDj n)).length=4:=fun n=>by rw [z0c];rfl
  have e:∀ a b c d:ByteArray,∀ t:ByteArray,bl (a++b++c++d++t)=bl a++(bl b++(bl c++(bl d++bl t))):=fun a b c d t=>by simp only [zIa,List.append_assoc]
  exact z1l (A:=bl (zDj x.1.toNat)++bl (zDj x.2.1.toNat)) (by rw [List.append_assoc];exact e _ _ _ _ _) (by rw [List.length_append,l4,l4]) (by omega)
 have hz:¬putB x=nulB 32:=fun q=>by
  have n0:numB (putB x) 0=x.1.toNat:=by
   have:=congrArg (fun y:Pg=>y.1) g;simp only [gotP] at this;omega
  rw [q,numB] at n0
  have z:∀ j,(nulB 32).data.getD j 0=0:=fun j=>by
   rw [getD_bl,show bl (nulB 32)=_ from zDh 32,List.getElem?_replicate]
   split<;>rfl
  rw [z,z,z,z] at n0;have:(0:UInt8).toNat=0:=rfl;omega
 rw [zFo,if_neg (by rw [zEc hv.2.2.2.2];decide),if_neg hz,if_neg (by rw [n8];omega),g,if_pos ⟨h,rfl⟩]
theorem yDz:zFo (nulB 32)=(zP,3):=by
 rw [zFo,if_neg (by rw [zCr];decide),if_pos rfl]
theorem quo32 (x:W32):IntKind.u32.wrap ((x.toNat:Int).tdiv 2)=((x>>>1).toNat:Int):=by
 rw [Int.tdiv_eq_ediv_of_nonneg (by omega),BitVec.toNat_ushiftRight,Nat.shiftRight_eq_div_pow,ySk];have:=x.isLt;omega
theorem yVx (s:ByteArray) (hs:s.size<=1000):zAk Tryz.prog 186 [.str s] (.int .i64 (crcB s).toNat):=by
 refine zAf Tryz.func186 1 rfl (by kernel_rfl) (w0 ?_);refine zAr (ι:=Nat) (fun k=>[(0,.d (.str s)),(3,.d (.int .u32 (crcK s k).toNat)),(4,.d (.int .i64 k))]) (fun _=>[])
  (fun k=>k<=s.size) (fun k=>s.size-k) 0 (by omega) (le0 (zAb ⟨rfl,by kernel_rfl,rfl,trivial⟩ trivial ⟨rfl,rfl,rfl,rfl⟩)) ?_
 intro k hk;obtain ⟨x,hx⟩:∃ x,crcK s k=x:=⟨_,rfl⟩;simp only [hx]
 conv=>whnf
 refine bcase_p (fun h5=>?_) (fun h5=>?_)<;>conv=>whnf
 ·have hk2:k<s.size:=by omega
  refine aA ?_;refine zAd (by omega) (w0 ?_);obtain ⟨c,hc⟩:∃ c:UInt8,s.data.getD k 0=c:=⟨_,rfl⟩;have hc2:=c.toNat_lt;rw [hc];refine zCk (z2u (by omega) (by omega)) (w0 ?_)
  have e1:zIg .xor .u32 (x.toNat:Int) (c.toNat:Int)=((x^^^BitVec.ofNat 32 c.toNat).toNat:Int):=by
   have:=bx32 x (BitVec.ofNat 32 c.toNat);rw [BitVec.toNat_ofNat,Nat.mod_eq_of_lt (by omega)] at this;exact this
  rw [e1];refine aA ?_;refine zAr (ι:=Nat) (fun j=>[(0,.d (.str s)),(3,.d (.int .u32 (stpN j (x^^^BitVec.ofNat 32 c.toNat)).toNat)),(4,.d (.int .i64 k)),(5,.d (.int .i64 j))]) (fun _=>[])
   (fun j=>j<=8) (fun j=>8-j) 0 (by omega) (le0 (zAb ⟨rfl,rfl,rfl,rfl,trivial⟩ trivial ⟨rfl,rfl,rfl,rfl⟩)) ?_
  intro j hj;obtain ⟨y,hy⟩:∃ y,stpN j (x^^^BitVec.ofNat 32 c.toNat)=y:=⟨_,rfl⟩;simp only [hy]
  conv=>whnf
  refine bcase_p (fun h6=>?_) (fun h6=>?_)<;>conv=>whnf
  ·refine aA ?_;refine zBv (by decide) (by omega) (w0 ?_);rw [odd32' y]
   refine zAe (fun h=>?_) (fun h=>?_)<;>conv=>whnf
   ·refine zOs (by decide) (w0 ?_)
    have e1:stpN (j+1) (x^^^BitVec.ofNat 32 c.toNat)=(y>>>1)^^^zQj:=by rw [stpN,hy,stp_t h]
    have e2:zIg .xor .u32 (IntKind.u32.wrap ((y.toNat:Int).tdiv 2)) 3988292384=(((y>>>1)^^^zQj).toNat:Int):=by
     rw [quo32];exact bx32 _ zQj
    rw [show (if true=true then IntKind.u32.wrap ((y.toNat:Int).tdiv 2) else (y.toNat:Int).tmod 2)=IntKind.u32.wrap ((y.toNat:Int).tdiv 2) from rfl,e2,<-e1];refine aA ?_;exact ⟨j+1,by omega,by omega,(le0 (zAb ⟨rfl,rfl,rfl,rfl,trivial⟩ trivial ⟨rfl,rfl,rfl,rfl⟩))⟩
   ·refine zOs (by decide) (w0 ?_)
    have e1:stpN (j+1) (x^^^BitVec.ofNat 32 c.toNat)=y>>>1:=by rw [stpN,hy,stp_f h]
    rw [show (if true=true then IntKind.u32.wrap ((y.toNat:Int).tdiv 2) else (y.toNat:Int).tmod 2)=IntKind.u32.wrap ((y.toNat:Int).tdiv 2) from rfl,quo32,<-e1];refine aA ?_;exact ⟨j+1,by omega,by omega,(le0 (zAb ⟨rfl,rfl,rfl,rfl,trivial⟩ trivial ⟨rfl,rfl,rfl,rfl⟩))⟩
  ·refine aA ?_
   have ej:j=8:=by omega
   subst ej
   have e2:crcK s (k+1)=y:=by rw [z4b hk2,hx,hc,<-hy,stpN_8];rfl
   rw [<-e2];exact ⟨k+1,by omega,by omega,(le0 (zAb ⟨rfl,rfl,rfl,trivial⟩ trivial ⟨rfl,rfl,rfl,rfl⟩))⟩
 ·refine aA ?_;rw [show (if IntKind.u32.signed=true then (-1:Int) else IntKind.u32.max)=4294967295 from rfl,not32];refine zCk (w64 (by omega) (by have:=lt32 (~~~ x);omega)) (aW ?_)
  have e: ~~~ x=crcB s:=by rw [<-hx];exact yBc (by omega)
  rw [e];exact ret_of rfl rfl
theorem zTx (n:Nat) (hn:n<4294967296):zAk Tryz.prog 185 [.int .i64 n] (.str (zDj n)):=by
 refine zAf Tryz.func185 1 rfl (by kernel_rfl) (w0 ?_)
 have q:∀ k:Int,0<k->k<=16777216->(if true=true then IntKind.i64.wrap ((n:Int).tdiv k) else (n:Int).tmod k)=(n:Int)/k:=fun k hk hk2=>by
  rw [if_pos rfl,Int.tdiv_eq_ediv_of_nonneg (by omega)];have h1:0<= (n:Int)/k:=Int.ediv_nonneg (by omega) (by omega);have h2:(n:Int)/k<=n:=Int.ediv_le_self _ (by omega);exact w64 (by omega) (by omega)
 refine zBv (by decide) (by omega) (w0 ?_);refine zFq (w0 ?_);refine zOs (by decide) (w0 ?_);rw [q 256 (by decide) (by decide)];refine zBv (by decide) (by omega) (w0 ?_);refine zFq (w0 ?_);refine zOs (by decide) (w0 ?_);rw [q 65536 (by decide) (by decide)];refine zBv (by decide) (by omega) (w0 ?_);refine zFq (w0 ?_);refine zOs (by decide) (w0 ?_);rw [q 16777216 (by decide) (by decide)];refine zFq (aW ?_);refine ret_of rfl (congrArg D.str ?_);show bstr [IntKind.u8.wrap ((n:Int)%256),IntKind.u8.wrap ((n:Int)/256%256),IntKind.u8.wrap ((n:Int)/65536%256),IntKind.u8.wrap ((n:Int)/16777216)]=zDj n;rw [zDj];simp only [yQz]
 congr 1
 simp only [List.cons.injEq,and_true];omega
theorem z1k (n:Nat):nulB n++bstr [0]=nulB (n+1):=by
 apply bl_ext;rw [zIa,show bl (nulB n)=_ from zDh n,show bl (nulB (n+1))=_ from zDh (n+1),List.replicate_succ'];rfl
theorem yPb:nulB 0=ByteArray.empty:=bl_ext rfl
theorem z9w (x:Pg) (hR:pgR x=true):zAk Tryz.prog 109 [.agg (encP x)] (.str (putB x)):=by
 have hv:=pgR_out.1 hR;refine zAf Tryz.func109 1 rfl (by kernel_rfl) (aW ?_);obtain ⟨a,ha⟩:∃ a:Nat,x.1=a:=⟨x.1.toNat,by omega⟩;obtain ⟨b,hb⟩:∃ b:Nat,x.2.1=b:=⟨x.2.1.toNat,by omega⟩
 have hh1:zDj a++zDj b++zDj x.2.2.size=zJc x:=by rw [zJc,ha,hb];rfl
 rw [ha,hb];have hz:=zMk;have h12:=zRf x;have h16:=zSc hv.2.2.2.2;refine zAa (zTx a (by omega)) (aW ?_);refine zAa (zTx b (by omega)) (aW ?_);refine zAh (by rw [hz,hz];decide) (aW ?_);refine zAa (zTx x.2.2.size (by omega)) (aW ?_);refine zAh (by rw [ByteArray.size_append,hz,hz,hz];decide) (aW ?_);rw [hh1];refine zAr (ι:=Nat) (fun k=>[(3,.d (.str (zJc x))),(4,.d (.str (x.2.2++nulB k)))]) (fun _=>[])
  (fun k=>x.2.2.size+k<=16) (fun k=>16-k) 0 (by omega) (le0 (zAb ⟨rfl,?_,trivial⟩ trivial ⟨rfl,rfl,rfl,rfl⟩)) ?_
 ·show AV.d (.str x.2.2)=_;rw [yPb]
  congr 2
  apply bl_ext;rw [zIa];exact (List.append_nil _).symm
 intro k hk
 have hsz:(x.2.2++nulB k).size=x.2.2.size+k:=by rw [ByteArray.size_append,zCr]
 conv=>whnf
 refine bcase_p (fun h5=>?_) (fun h5=>?_)<;>conv=>whnf
 ·have hk2:x.2.2.size+k<16:=by omega
  refine aA ?_;refine zAh (by rw [hsz,zGh];simp;omega) (aW ?_)
  have e:x.2.2++nulB k++bstr [0]=x.2.2++nulB (k+1):=by
   rw [<-z1k];apply bl_ext;simp only [zIa,List.append_assoc]
  rw [e];exact ⟨k+1,by omega,by omega,(le0 (zAb ⟨rfl,rfl,trivial⟩ trivial ⟨rfl,rfl,rfl,rfl⟩))⟩
 ·refine aA ?_
  have ek:k=16-x.2.2.size:=by omega
  subst ek;rw [show x.2.2++nulB (16-x.2.2.size)=zIo x from rfl];refine zAa (yVx (zJc x++zIo x) (by rw [ByteArray.size_append,h12,h16];decide)) (aW ?_);obtain ⟨c,hc⟩:∃ c,(crcB (zJc x++zIo x)).toNat=c:=⟨_,rfl⟩
  have hc2:c<4294967296:=by rw [<-hc];exact (crcB (zJc x++zIo x)).isLt
  rw [hc];refine zAa (zTx c hc2) (aW ?_);refine zAh (by rw [h12,hz];decide) (aW ?_);refine zAh (by rw [ByteArray.size_append,h12,hz,h16];decide) (aW ?_)
  have e:zJc x++zDj c++zIo x=putB x:=by rw [putB,hc]
  rw [e];exact ret_of rfl rfl
theorem zKd (x:Pg):zAk Tryz.prog 108 [.agg (encP x)] (.bool (pgR x)):=by
 refine zAf Tryz.func108 1 rfl (by kernel_rfl) (aW ?_)
 refine bcase_p (fun h1=>?_) (fun h1=>?_)<;>conv=>whnf
 rotate_left
 ·refine aA ?_;exact ret_of rfl (congrArg D.bool (by symm;rw [<-Bool.not_eq_true,pgR_out];omega))
 refine aA ?_
 refine bcase_p (fun h2=>?_) (fun h2=>?_)<;>conv=>whnf
 rotate_left
 ·refine aA ?_;exact ret_of rfl (congrArg D.bool (by symm;rw [<-Bool.not_eq_true,pgR_out];omega))
 refine aA ?_
 refine bcase_p (fun h3=>?_) (fun h3=>?_)<;>conv=>whnf
 rotate_left
 ·refine aA ?_;exact ret_of rfl (congrArg D.bool (by symm;rw [<-Bool.not_eq_true,pgR_out];omega))
 refine aA ?_
 refine bcase_p (fun h4=>?_) (fun h4=>?_)<;>conv=>whnf
 rotate_left
 ·refine aA ?_;exact ret_of rfl (congrArg D.bool (by symm;rw [<-Bool.not_eq_true,pgR_out];omega))
 refine aA ?_;refine ret_of rfl (congrArg D.bool ?_)
 by_cases h5:(x.2.2.size:Int)<17
 ·rw [decide_eq_true h5];symm;rw [pgR_out];omega
 ·rw [decide_eq_false h5];symm;rw [<-Bool.not_eq_true,pgR_out];omega
abbrev Wt:=Int×ByteArray
def encB (s:ByteArray):List D:=[.str s]
def encW (w:Wt):List D:=[.int .i64 w.1,.str w.2]
structure DS where
 sec:List ByteArray
 ca:List Wt
def DS.cells (d:DS):List D:=[.lst (d.sec.map encB),.lst (d.ca.map encW)]
def zCt (d:DS):D:=.agg [.lst (d.sec.map encB),.lst (d.ca.map encW)]
def okW (n:Nat) (w:Wt):Bool:=decide (0<=w.1)&&(decide (w.1<n)&&decide (w.2.size=16))
theorem zDt {n:Nat} {w:Wt}:okW n w=true↔0<=w.1/\w.1<n/\w.2.size=16:=by simp [okW]
structure DR (d:DS):Prop where
 s1:1<=d.sec.length
 s2:d.sec.length<=64
 c1:d.ca.length<=200
 s:∀ i,(h:i<d.sec.length)->d.sec[i].size=16
 c:∀ i,(h:i<d.ca.length)->okW d.sec.length d.ca[i]=true
open Classical in
noncomputable def drB (d:DS):Bool:=decide (DR d)
theorem zQz {d:DS}:drB d=true↔DR d:=by simp [drB]
theorem zJt {d:DS}:drB d=false↔¬DR d:=by simp [drB]
theorem z8a:∀ (l:List ByteArray),okRows 1 (l.map encB)=true
 | []=>rfl
 |_::r=>z8a r
theorem z8e:∀ (l:List Wt),okRows 2 (l.map encW)=true
 | []=>rfl
 |_::r=>z8e r
theorem yBs (d:DS) (w:Wt):zAk Tryz.prog 128 [zCt d,.agg (encW w)] (.bool (okW d.sec.length w)):=by
 refine zAf Tryz.func128 2 rfl (by kernel_rfl) (w0 ?_)
 have hm:(d.sec.map encB).length=d.sec.length:=List.length_map ..
 refine aA ?_
 refine bcase_p (fun h1=>?_) (fun h1=>?_)<;>conv=>whnf
 rotate_left
 ·refine aA ?_;exact ret_of rfl (congrArg D.bool (by symm;rw [<-Bool.not_eq_true,zDt];omega))
 refine aA ?_
 refine bcase_p (fun h2=>?_) (fun h2=>?_)<;>conv=>whnf
 rotate_left
 ·refine aA ?_;exact ret_of rfl (congrArg D.bool (by symm;rw [<-Bool.not_eq_true,zDt];omega))
 refine aA ?_;refine ret_of rfl (congrArg D.bool ?_)
 by_cases h3:(w.2.size:Int)=16
 ·rw [decide_eq_true h3];symm;rw [zDt];omega
 ·rw [decide_eq_false h3];symm;rw [<-Bool.not_eq_true,zDt];omega
theorem zIt (d:DS):zAk Tryz.prog 56 [zCt d] (.bool (drB d)):=by
 refine zAf Tryz.func56 1 rfl (by kernel_rfl) (w0 ?_)
 have hm:(d.sec.map encB).length=d.sec.length:=List.length_map ..
 have hc:(d.ca.map encW).length=d.ca.length:=List.length_map ..
 refine aA ?_
 refine bcase_p (fun h1=>?_) (fun h1=>?_)<;>conv=>whnf
 ·refine aA ?_;exact ret_of rfl (congrArg D.bool (zJt.2 fun h=>by have:=h.s1;omega).symm)
 refine aA ?_
 refine bcase_p (fun h2=>?_) (fun h2=>?_)<;>conv=>whnf
 ·refine aA ?_;exact ret_of rfl (congrArg D.bool (zJt.2 fun h=>by have:=h.s2;omega).symm)
 refine aA ?_
 refine bcase_p (fun h3=>?_) (fun h3=>?_)<;>conv=>whnf
 ·refine aA ?_;exact ret_of rfl (congrArg D.bool (zJt.2 fun h=>by have:=h.c1;omega).symm)
 refine aA ?_;refine zAr (ι:=Nat) (fun k=>[(1,.ptr 1 0 0),(24,.d (.lst (d.sec.map encB))),(25,.d (.int .i64 (d.sec.map encB).length)),(26,.d (.int .i64 k))]) (fun _=>[(1,.box [.d (.lst (d.sec.map encB)),.d (.lst (d.ca.map encW))] false)])
  (fun k=>k<=d.sec.length/\ ∀ i,i<k->(h:i<d.sec.length)->d.sec[i].size=16) (fun k=>d.sec.length-k) 0 ⟨by omega,by omega⟩ (le0 (zAb ⟨rfl,rfl,rfl,rfl,trivial⟩ ⟨rfl,trivial⟩ ⟨rfl,rfl,rfl,rfl⟩)) ?_
 rintro k ⟨hk,hR⟩
 conv=>whnf
 refine bcase_p (fun h5=>?_) (fun h5=>?_)<;>conv=>whnf
 ·have hk2:k<d.sec.length:=by omega
  refine zAd (by omega) (w0 ?_);refine zAc (x:=encB d.sec[k]) (by simp [hk2]) (aW ?_)
  refine bcase_n (fun h6=>?_) (fun h6=>?_)<;>conv=>whnf
  ·refine aA ?_;exact ret_of rfl (congrArg D.bool (zJt.2 fun h=>by have:=h.s k hk2;omega).symm)
  refine aA ?_
  exact ⟨k+1,⟨by omega,fun i hi h=>by
   by_cases e:i=k
   ·subst e;omega
   ·exact hR i (by omega) h⟩,by omega,(le0 (zAb ⟨rfl,rfl,rfl,rfl,trivial⟩ ⟨rfl,trivial⟩ ⟨rfl,rfl,rfl,rfl⟩))⟩
 ·refine aA ?_;refine zAr (ι:=Nat) (fun k=>[(1,.ptr 1 0 0),(35,.d (.lst (d.ca.map encW))),(36,.d (.int .i64 (d.ca.map encW).length)),(37,.d (.int .i64 k))]) (fun _=>[(1,.box [.d (.lst (d.sec.map encB)),.d (.lst (d.ca.map encW))] false)])
   (fun k=>k<=d.ca.length/\ ∀ i,i<k->(h:i<d.ca.length)->okW d.sec.length d.ca[i]=true) (fun k=>d.ca.length-k) 0 ⟨by omega,by omega⟩ (le0 (zAb ⟨rfl,rfl,rfl,rfl,trivial⟩ ⟨rfl,trivial⟩ ⟨rfl,rfl,rfl,rfl⟩)) ?_
  rintro j ⟨hj,hS⟩
  conv=>whnf
  refine bcase_p (fun h7=>?_) (fun h7=>?_)<;>conv=>whnf
  ·have hj2:j<d.ca.length:=by omega
   refine zAd (by omega) (w0 ?_);refine zAc (x:=encW d.ca[j]) (by simp [hj2]) (aW ?_);refine zAa (yBs d d.ca[j]) (aW ?_)
   refine zAe (fun h8=>?_) (fun h8=>?_)<;>conv=>whnf
   ·refine aA ?_;exact ret_of rfl (congrArg D.bool (zJt.2 fun h=>by rw [h.c j hj2] at h8;exact absurd h8 (by decide)).symm)
   refine aA ?_
   exact ⟨j+1,⟨by omega,fun i hi h=>by
    by_cases e:i=j
    ·subst e;simpa using h8
    ·exact hS i (by omega) h⟩,by omega,(le0 (zAb ⟨rfl,rfl,rfl,rfl,trivial⟩ ⟨rfl,trivial⟩ ⟨rfl,rfl,rfl,rfl⟩))⟩
  ·refine aA ?_;exact ret_of rfl (congrArg D.bool (zQz.2 ⟨by omega,by omega,by omega,fun i h=>hR i (by omega) h,fun i h=>hS i (by omega) h⟩).symm)
theorem zRw (d:DS):zAk Tryz.prog 110 [zCt d] (.bool (drB d)):=by
 refine zAf Tryz.func110 1 rfl (by kernel_rfl) (w0 ?_)
 have hm:(d.sec.map encB).length=d.sec.length:=List.length_map ..
 have hc:(d.ca.map encW).length=d.ca.length:=List.length_map ..
 refine aA ?_
 refine bcase_p (fun h1=>?_) (fun h1=>?_)<;>conv=>whnf
 ·refine aA ?_;exact ret_of rfl (congrArg D.bool (zJt.2 fun h=>by have:=h.s1;omega).symm)
 refine aA ?_
 refine bcase_p (fun h2=>?_) (fun h2=>?_)<;>conv=>whnf
 ·refine aA ?_;exact ret_of rfl (congrArg D.bool (zJt.2 fun h=>by have:=h.s2;omega).symm)
 refine aA ?_
 refine bcase_p (fun h3=>?_) (fun h3=>?_)<;>conv=>whnf
 ·refine aA ?_;exact ret_of rfl (congrArg D.bool (zJt.2 fun h=>by have:=h.c1;omega).symm)
 refine aA ?_;refine zAr (ι:=Nat) (fun k=>[(1,.ptr 1 0 0),(3,.d (.int .i64 k))]) (fun _=>[(1,.box [.d (.lst (d.sec.map encB)),.d (.lst (d.ca.map encW))] false)])
  (fun k=>k<=d.sec.length/\ ∀ i,i<k->(h:i<d.sec.length)->d.sec[i].size=16) (fun k=>d.sec.length-k) 0 ⟨by omega,by omega⟩ (le0 (zAb ⟨rfl,rfl,trivial⟩ ⟨rfl,trivial⟩ ⟨rfl,rfl,rfl,rfl⟩)) ?_
 rintro k ⟨hk,hR⟩
 conv=>whnf
 refine aA ?_
 refine bcase_p (fun h5=>?_) (fun h5=>?_)<;>conv=>whnf
 ·have hk2:k<d.sec.length:=by omega
  refine aA ?_;refine zAd (by omega) (w0 ?_);refine zAc (x:=encB d.sec[k]) (by simp [hk2]) (aW ?_)
  refine bcase_n (fun h6=>?_) (fun h6=>?_)<;>conv=>whnf
  ·refine aA ?_;exact ret_of rfl (congrArg D.bool (zJt.2 fun h=>by have:=h.s k hk2;omega).symm)
  refine aA ?_
  exact ⟨k+1,⟨by omega,fun i hi h=>by
   by_cases e:i=k
   ·subst e;omega
   ·exact hR i (by omega) h⟩,by omega,(le0 (zAb ⟨rfl,rfl,trivial⟩ ⟨rfl,trivial⟩ ⟨rfl,rfl,rfl,rfl⟩))⟩
 ·refine aA ?_;refine zAr (ι:=Nat) (fun k=>[(1,.ptr 1 0 0),(4,.d (.int .i64 k))]) (fun _=>[(1,.box [.d (.lst (d.sec.map encB)),.d (.lst (d.ca.map encW))] false)])
   (fun k=>k<=d.ca.length/\ ∀ i,i<k->(h:i<d.ca.length)->okW d.sec.length d.ca[i]=true) (fun k=>d.ca.length-k) 0 ⟨by omega,by omega⟩ (le0 (zAb ⟨rfl,rfl,trivial⟩ ⟨rfl,trivial⟩ ⟨rfl,rfl,rfl,rfl⟩)) ?_
  rintro j ⟨hj,hS⟩
  conv=>whnf
  refine aA ?_
  refine bcase_p (fun h7=>?_) (fun h7=>?_)<;>conv=>whnf
  ·have hj2:j<d.ca.length:=by omega
   refine aA ?_;refine zAd (by omega) (w0 ?_);refine zAc (x:=encW d.ca[j]) (by simp [hj2]) (aW ?_)
   refine bcase_p (fun h8=>?_) (fun h8=>?_)<;>conv=>whnf
   ·refine aA ?_;exact ret_of rfl (congrArg D.bool (zJt.2 fun h=>by have:=zDt.1 (h.c j hj2);omega).symm)
   refine aA ?_
   refine bcase_p (fun h9=>?_) (fun h9=>?_)<;>conv=>whnf
   ·refine aA ?_;exact ret_of rfl (congrArg D.bool (zJt.2 fun h=>by have:=zDt.1 (h.c j hj2);omega).symm)
   refine aA ?_
   refine bcase_n (fun h10=>?_) (fun h10=>?_)<;>conv=>whnf
   ·refine aA ?_;exact ret_of rfl (congrArg D.bool (zJt.2 fun h=>by have:=zDt.1 (h.c j hj2);omega).symm)
   refine aA ?_
   exact ⟨j+1,⟨by omega,fun i hi h=>by
    by_cases e:i=j
    ·subst e;rw [zDt];omega
    ·exact hS i (by omega) h⟩,by omega,(le0 (zAb ⟨rfl,rfl,trivial⟩ ⟨rfl,trivial⟩ ⟨rfl,rfl,rfl,rfl⟩))⟩
  ·refine aA ?_;exact ret_of rfl (congrArg D.bool (zQz.2 ⟨by omega,by omega,by omega,fun i h=>hR i (by omega) h,fun i h=>hS i (by omega) h⟩).symm)
def wrS (s:List ByteArray) (l:List Wt):List ByteArray:=l.foldl (fun s w=>s.set w.1.toNat w.2) s
theorem zIp:∀ (l:List Wt) (s:List ByteArray),(wrS s l).length=s.length
 | [],s=>rfl
 |w::r,s=>by
  show (wrS (s.set w.1.toNat w.2) r).length=_;rw [zIp r,List.length_set]
theorem yQy (s:List ByteArray) (l:List Wt) (w:Wt):wrS s (l++[w])=(wrS s l).set w.1.toNat w.2:=by simp [wrS]
def pick (n:Int) (l:List Wt) (b:ByteArray):ByteArray:=l.foldl (fun b w=>if w.1=n then w.2 else b) b
def rdS (d:DS) (n:Int):ByteArray:=pick n d.ca (d.sec[n.toNat]?.getD ByteArray.empty)
theorem zPt {n:Int}:∀ {l:List Wt} {b:ByteArray},(∀ w∈l,w.1≠n)->pick n l b=b
 | [],b,_=>rfl
 |w::r,b,h=>by
  show pick n r (if w.1=n then w.2 else b)=b;rw [if_neg (h w (List.mem_cons_self ..)),zPt fun x hx=>h x (List.mem_cons_of_mem _ hx)]
theorem yPj (n:Int) (l r:List Wt) (b:ByteArray):pick n (l++r) b=pick n r (pick n l b):=by simp [pick]
theorem yLa {n:Int} {l:List Wt} {k:Nat} (hk:k<l.length) (h:l[k].1=n) (hR:∀ j,k<j->(hj:j<l.length)->l[j].1≠n) (b:ByteArray):pick n l b=l[k].2:=by
 have e:l=l.take k++l[k]::l.drop (k+1):=by rw [<-List.drop_eq_getElem_cons hk,List.take_append_drop]
 have h2:pick n l b=pick n (l.take k++l[k]::l.drop (k+1)) b:=congrArg (fun x=>pick n x b) e;rw [h2,yPj];show pick n (l.drop (k+1)) (if l[k].1=n then l[k].2 else pick n (l.take k) b)=_;rw [if_pos h,zPt];intro w hw;obtain ⟨i,hi,rfl⟩:=List.mem_iff_getElem.1 hw;rw [List.getElem_drop];rw [List.length_drop] at hi;exact hR _ (by omega) (by omega)
theorem yMr:∀ (l:List Wt) (s:List ByteArray) (i:Nat),i<s.length->(∀ w∈l,0<=w.1)->(wrS s l)[i]?.getD ByteArray.empty=pick i l (s[i]?.getD ByteArray.empty)
 | [],s,i,_,_=>rfl
 |w::r,s,i,hi,h=>by
  show (wrS (s.set w.1.toNat w.2) r)[i]?.getD _=pick i r (if w.1=i then w.2 else s[i]?.getD _);rw [yMr r _ i (by rw [List.length_set];exact hi) fun x hx=>h x (List.mem_cons_of_mem _ hx)];have h0:=h w (List.mem_cons_self ..)
  congr 1
  by_cases e:w.1=i
  ·rw [if_pos e,show w.1.toNat=i by omega,List.getElem?_set_self hi];rfl
  ·rw [if_neg e,List.getElem?_set_ne (by omega)]
theorem z3t (l:List ByteArray) (hl:l.length<=1000000):zDy Tryz.prog 62 [.lst (l.map encB)] (l.map encB) 1:=by
 refine zBn Tryz.func62 1 rfl (by kernel_rfl) (w0 ?_);refine zDs (w0 ?_);intro r hr
 conv=>whnf
 refine zAe (fun h=>?_) (fun h=>?_)<;>conv=>whnf
 ·have:=hr h;exact ⟨2,rfl,.inr ⟨rfl,this⟩⟩
 ·refine aA ?_;refine zAh (z8a l) (w0 ?_);refine zAj 1000100 100 (by show 0+List.length _<=1000100;simp;omega) (by decide) (by decide) (by decide) (w0 ?_);exact ⟨2,rfl,.inl ⟨5,rfl,rfl⟩⟩
theorem z3w (l:List Wt) (hl:l.length<=1000000):zDy Tryz.prog 63 [.lst (l.map encW)] (l.map encW) 2:=by
 refine zBn Tryz.func63 1 rfl (by kernel_rfl) (w0 ?_);refine zDs (w0 ?_);intro r hr
 conv=>whnf
 refine zAe (fun h=>?_) (fun h=>?_)<;>conv=>whnf
 ·have:=hr h;exact ⟨2,rfl,.inr ⟨rfl,this⟩⟩
 ·refine aA ?_;refine zAh (z8e l) (w0 ?_);refine zAj 1000100 100 (by show 0+List.length _<=1000100;simp;omega) (by decide) (by decide) (by decide) (w0 ?_);exact ⟨2,rfl,.inl ⟨5,rfl,rfl⟩⟩
theorem zZv (d:DS) (l:List Wt) (hd:d.sec.length<=1000) (hl:l.length<=1000) (h:∀ i,(hi:i<l.length)->okW d.sec.length l[i]=true):
  zAk Tryz.prog 57 [zCt d,.lst (l.map encW)] (zCt ⟨wrS d.sec l,[]⟩):=by
 refine zAf Tryz.func57 2 rfl (by kernel_rfl) (w0 ?_)
 have hm:(l.map encW).length=l.length:=List.length_map ..
 refine aA ?_;refine zAl (z3t d.sec (by omega)) (aW ?_);refine zAr (ι:=Nat) (fun k=>[(4,.ptr 4 0 0),(5,.own 10),(11,.d (.lst (l.map encW))),(12,.d (.int .i64 (l.map encW).length)),(13,.d (.int .i64 k))]) (fun k=>[(4,.box [.nil,.nil] false),(10,.row ((wrS d.sec (l.take k)).map encB) 1 false)])
  (fun k=>k<=l.length) (fun k=>l.length-k) 0 (by omega) (le0 (zAb ⟨rfl,rfl,rfl,rfl,rfl,trivial⟩ ⟨rfl,rfl,trivial⟩ ⟨rfl,rfl,rfl,rfl⟩)) ?_
 intro k hk
 conv=>whnf
 refine bcase_p (fun h5=>?_) (fun h5=>?_)<;>conv=>whnf
 ·have hk2:k<l.length:=by omega
  have hw:=zDt.1 (h k hk2);have hln:=zIp (l.take k) d.sec
  have hlm:((wrS d.sec (l.take k)).map encB).length=(wrS d.sec (l.take k)).length:=List.length_map ..
  refine zAd (by omega) (w0 ?_);refine zAc (x:=encW l[k]) (by simp [hk2]) (aW ?_);refine zBu (by omega) (by omega) (w0 ?_)
  have hn:l[k].1.toNat<(wrS d.sec (l.take k)).length:=by omega
  refine zAc (x:=encB ((wrS d.sec (l.take k))[l[k].1.toNat])) (by simp [hn]) (aW ?_);refine ⟨k+1,by omega,by omega,le0 (zAb ⟨rfl,rfl,rfl,rfl,rfl,trivial⟩ ⟨rfl,?_,trivial⟩ ⟨rfl,rfl,rfl,rfl⟩)⟩;rw [zAs hk2,yQy,List.map_set];rfl
 ·refine aA ?_;have ek:l.take k=l:=List.take_of_length_le (by omega);rw [ek];exact ret_of rfl rfl
open Classical in
noncomputable def zXg (d:DS):DS:=if DR d then ⟨wrS d.sec d.ca,[]⟩ else d
open Classical in
noncomputable def putM (d:DS) (w:Wt):DS×Int:=if DR d/\okW d.sec.length w=true then (if 200<=d.ca.length then (d,7) else (⟨d.sec,d.ca++[w]⟩,0)) else (d,1)
theorem yWm (d:DS):zAk Tryz.prog 126 [zCt d] (zCt (zXg d)):=by
 refine zAf Tryz.func126 1 rfl (by kernel_rfl) (aW ?_);refine zAa (zIt d) (aW ?_)
 refine zAe (fun h1=>?_) (fun h1=>?_)<;>conv=>whnf
 ·refine aA ?_;have hn:¬DR d:=zJt.1 (by simpa using h1);rw [zXg,if_neg hn];exact ret_of rfl rfl
 have hR:DR d:=zQz.1 (by simpa using h1);rw [zXg,if_pos hR]
 have a1:=hR.s2;have a2:=hR.c1
 refine aA ?_;refine zAa (zZv d d.ca (by omega) (by omega) hR.c) (aW ?_);exact ret_of rfl rfl
theorem yTo (d:DS) (w:Wt):zAk Tryz.prog 127 [zCt d,.agg (encW w)] (.tup [zCt (putM d w).1,.int .i64 (putM d w).2]):=by
 refine zAf Tryz.func127 2 rfl (by kernel_rfl) (aW ?_);refine zAa (zIt d) (aW ?_)
 refine zAe (fun h1=>?_) (fun h1=>?_)<;>conv=>whnf
 ·refine aA ?_;have hn:¬DR d:=zJt.1 (by simpa using h1);rw [putM,if_neg (fun q=>hn q.1)];exact ret_of rfl rfl
 have hR:DR d:=zQz.1 (by simpa using h1)
 have a1:=hR.s2;have a2:=hR.c1
 have hm:(d.ca.map encW).length=d.ca.length:=List.length_map ..
 refine aA ?_;refine zAa (yBs d w) (aW ?_)
 refine zAe (fun h2=>?_) (fun h2=>?_)<;>conv=>whnf
 ·refine aA ?_;rw [putM,if_neg (fun q=>by rw [q.2] at h2;exact absurd h2 (by decide))];exact ret_of rfl rfl
 have hW:okW d.sec.length w=true:=by simpa using h2
 rw [putM,if_pos ⟨hR,hW⟩];refine aA ?_
 refine bcase_p (fun h3=>?_) (fun h3=>?_)<;>conv=>whnf
 ·refine aA ?_;rw [if_pos (by omega)];exact ret_of rfl rfl
 rw [if_neg (by omega)];refine aA ?_;refine zAl (z3w d.ca (by omega)) (aW ?_);refine zAj 1000100 1000 (by show List.length _+1<=1000100;omega) (by decide) (by decide) (by decide) (aW ?_);refine ret_of rfl ?_;rw [zCt,List.map_append];rfl
def zDp:ByteArray:=nulB 16
def zGt (k:Nat):List (List D):=(List.range 35).map fun j=>encB (if j<k then zDp else ByteArray.empty)
theorem yTx:List.replicate 35 (encB ByteArray.empty)=zGt 0:=by
 apply List.ext_getElem
 ·simp [zGt]
 ·intro j h1 h2;rw [List.getElem_replicate];simp only [zGt,List.getElem_map,List.getElem_range];rw [if_neg (by omega)]
theorem yIz {i:Nat} (hi:i<35):(zGt i).set i (encB zDp)=zGt (i+1):=by
 apply List.ext_getElem
 ·simp [zGt]
 ·intro j h1 h2;rw [List.getElem_set];simp only [zGt,List.getElem_map,List.getElem_range]
  by_cases e:i=j
  ·subst e;rw [if_pos rfl,if_pos (by omega)]
  ·rw [if_neg e]
   by_cases h:j<i
   ·rw [if_pos h,if_pos (by omega)]
   ·rw [if_neg h,if_neg (by omega)]
theorem yOf:zGt 35=(List.replicate 35 zDp).map encB:=by
 apply List.ext_getElem
 ·simp [zGt]
 ·intro j h1 h2
  have:j<35:=by simpa [zGt] using h1
  simp only [zGt,List.getElem_map,List.getElem_range,List.getElem_replicate];rw [if_pos this]
def zNu:DS:=⟨List.replicate 35 zDp,[]⟩
theorem zQy:zAk Tryz.prog 27 [.int .i64 35] (.tup [zCt zNu,.int .i64 0]):=by
 refine zAf Tryz.func27 1 rfl (by kernel_rfl) (aW ?_);refine zAj 1000 1000 (by decide) (by decide) (by decide) (by decide) (aW ?_);rw [show List.replicate (35:Int).toNat (T 9).zero=zGt 0 from yTx];refine zAr (ι:=Nat) (fun k=>[(2,.ptr 2 0 0),(4,.own 14),(16,.d (.int .i64 35)),(17,.d (.int .i64 k))]) (fun k=>[(2,.box [.nil,.nil] false),(14,.row (zGt k) 1 false)])
  (fun k=>k<=35) (fun k=>35-k) 0 (by omega) (le0 (zAb ⟨rfl,rfl,by kernel_rfl,rfl,trivial⟩ ⟨rfl,rfl,trivial⟩ ⟨rfl,rfl,rfl,rfl⟩)) ?_
 intro k hk
 have hfl:(zGt k).length=35:=by simp [zGt]
 conv=>whnf
 refine bcase_p (fun h5=>?_) (fun h5=>?_)<;>conv=>whnf
 ·have hk2:k<35:=by omega
  refine aA ?_;refine zAa (zPy yAq 16 (by decide) (by decide)) (aW ?_);refine zAd (by omega) (w0 ?_);refine zAc (x:=encB (if k<k then zDp else ByteArray.empty)) (by simp [zGt,hk2]) (aW ?_);refine ⟨k+1,by omega,by omega,le0 (zAb ⟨rfl,rfl,rfl,rfl,trivial⟩ ⟨rfl,?_,trivial⟩ ⟨rfl,rfl,rfl,rfl⟩)⟩;rw [<-yIz hk2];rfl
 ·refine aA ?_
  have ek:k=35:=by omega
  subst ek;rw [yOf];exact ret_of rfl rfl
theorem z2j (d:DS) (n:Int) (hc:d.ca.length<=1000) (h0:0<=n) (h1:n<d.sec.length):zAk Tryz.prog 130 [zCt d,.int .i64 n] (.str (rdS d n)):=by
 refine zAf Tryz.func130 2 rfl (by kernel_rfl) (w0 ?_)
 have hm:(d.ca.map encW).length=d.ca.length:=List.length_map ..
 have hs:(d.sec.map encB).length=d.sec.length:=List.length_map ..
 refine aA ?_;refine zAr (ι:=Nat) (fun k=>[(1,.d (.int .i64 n)),(2,.ptr 2 0 0),(5,.d (.int .i64 ((k:Int)-1)))]) (fun _=>[(2,.box [.d (.lst (d.sec.map encB)),.d (.lst (d.ca.map encW))] false)])
  (fun k=>k<=d.ca.length/\ ∀ j,k<=j->(h:j<d.ca.length)->d.ca[j].1≠n) (fun k=>k) d.ca.length ⟨by omega,by omega⟩ (le0 (zAb ⟨rfl,rfl,by rw [<-hm];rfl,trivial⟩ ⟨rfl,trivial⟩ ⟨rfl,rfl,rfl,rfl⟩)) ?_
 rintro k ⟨hk,hR⟩
 conv=>whnf
 refine bcase_p (fun h5=>?_) (fun h5=>?_)<;>conv=>whnf
 ·obtain ⟨j,rfl⟩:∃ j,k=j+1:=⟨k-1,by omega⟩
  have hj:j<d.ca.length:=by omega
  rw [show ((j+1:Nat):Int)-1=(j:Int) by omega];refine aA ?_;refine zAd (by omega) (w0 ?_);refine zAc (x:=encW d.ca[j]) (by simp [hj]) (aW ?_)
  refine bcase_p (fun h6=>?_) (fun h6=>?_)<;>conv=>whnf
  ·refine aA ?_;refine zAd (by omega) (w0 ?_);refine zAc (x:=encW d.ca[j]) (by simp [hj]) (aW ?_);refine ret_of rfl (congrArg D.str ?_);rw [rdS,yLa hj h6 (fun i hi hi2=>hR i (by omega) hi2)]
  ·refine aA ?_
   refine ⟨j,⟨by omega,fun i hi hi2=>by
    by_cases e:i=j
    ·subst e;exact h6
    ·exact hR i (by omega) hi2⟩,by omega,le0 (zAb ⟨rfl,rfl,rfl,trivial⟩ ⟨rfl,trivial⟩ ⟨rfl,rfl,rfl,rfl⟩)⟩
 ·refine aA ?_
  have hk0:k=0:=by omega
  subst hk0;refine zBu (by omega) (by omega) (w0 ?_)
  have hn:n.toNat<d.sec.length:=by omega
  refine zAc (x:=encB d.sec[n.toNat]) (by simp [hn]) (aW ?_);refine ret_of rfl (congrArg D.str ?_);rw [rdS,zPt,List.getElem?_eq_getElem hn]
  ·rfl
  ·intro w hw;obtain ⟨i,hi,rfl⟩:=List.mem_iff_getElem.1 hw;exact hR i (by omega) hi
theorem wrS_eq {d:DS} (hR:DR d):wrS d.sec d.ca=(List.range d.sec.length).map fun i:Nat=>rdS d i:=by
 apply List.ext_getElem
 ·rw [zIp];simp
 ·intro i h1 h2
  have hi:i<d.sec.length:=by rwa [zIp] at h1
  have:=yMr d.ca d.sec i hi (fun w hw=>by
   obtain ⟨j,hj,rfl⟩:=List.mem_iff_getElem.1 hw
   exact (zDt.1 (hR.c j hj)).1)
  rw [List.getElem?_eq_getElem h1,Option.getD_some] at this;rw [this,List.getElem_map,List.getElem_range,rdS];simp
theorem yPp (d:DS) (hR:DR d):zAk Tryz.prog 111 [zCt d] (zCt ⟨wrS d.sec d.ca,[]⟩):=by
 have a1:=hR.s2;have a2:=hR.c1
 obtain ⟨f,hf⟩:∃ f:Nat->ByteArray,(fun i:Nat=>rdS d i)=f:=⟨_,rfl⟩
 have hfi:∀ i:Nat,rdS d i=f i:=fun i=>congrFun hf i
 rw [wrS_eq hR,hf];refine zAf Tryz.func111 1 rfl (by kernel_rfl) (w0 ?_)
 have hs:(d.sec.map encB).length=d.sec.length:=List.length_map ..
 refine zAr (ι:=Nat) (fun k=>[(1,.ptr 1 0 0),(2,.ptr 2 0 0),(3,.ptr 3 0 0),(4,.d (.int .i64 k))]) (fun k=>[(1,.box [.d (.lst (d.sec.map encB)),.d (.lst (d.ca.map encW))] false),(2,.box [.nil,.nil] false),(3,.box [.own 18,.nil] false),(18,.row (((List.range k).map f).map encB) 1 false)])
  (fun k=>k<=d.sec.length) (fun k=>d.sec.length-k) 0 (by omega) (le1 (.cell 3 0 18 1) ⟨⟨rfl,rfl⟩,rfl,rfl⟩ (zAb ⟨rfl,rfl,rfl,rfl,trivial⟩ ⟨rfl,rfl,rfl,rfl,trivial⟩ ⟨rfl,rfl,rfl,rfl⟩)) ?_
 intro k hk
 conv=>whnf
 refine aA ?_
 refine bcase_p (fun h5=>?_) (fun h5=>?_)<;>conv=>whnf
 ·have hk2:k<d.sec.length:=by omega
  refine aA ?_;refine zAa (z2j d k (by omega) (by omega) (by omega)) (aW ?_);rw [hfi];refine zAj 1000100 1000 (by show List.length _+1<=1000100;rw [List.length_map,List.length_map,List.length_range];omega) (by decide) (by decide) (by decide) (aW ?_)
  have er:((List.range k).map f).map encB++[encB (f k)]=((List.range (k+1)).map f).map encB:=by rw [List.range_succ,List.map_append,List.map_append];rfl
  refine ⟨k+1,by omega,by omega,le0 (zAb ⟨?_,?_,?_,?_,trivial⟩ ⟨?_,?_,?_,?_,trivial⟩ ⟨?_,?_,?_,?_⟩)⟩
  rotate_left 7
  rw [<-er]
  all_goals kernel_rfl
 ·refine aA ?_
  have ek:k=d.sec.length:=by omega
  subst ek;exact ret_of rfl rfl
end Go.Lk
