/-
  What is proved here: what functions of the program compute, and what follows; no condition beyond each theorem's own.
-/
import Derived.Below
import Derived.Calls
import Derived.WalkKit
set_option linter.unusedSimpArgs false
set_option linter.unusedVariables false
set_option linter.unnecessarySimpa false
set_option linter.unusedSectionVars false
namespace Go.Lk
open Go
inductive D where
 |int (k:IntKind) (n:Int)
 |bool (b:Bool)
 |str (s:ByteArray)
 |lst (l:List (List D))
 |dp (c:List D) (j:Nat)
 |fn (f:FuncId) (cap:List D)
 |nilp
 |agg (c:List D)
 |tup (c:List D)
 |unk
theorem orR {a b c:Prop} (h:a\/b) (f:b->c):a\/c:=h.elim .inl fun q=>.inr (f q)
abbrev Mem:=Nat->Nat->Option Value
inductive DenD (M:Mem):D->Value->Prop
 |int (k:IntKind) (n:Int):DenD M (.int k n) (.int k n)
 |bool (b:Bool):DenD M (.bool b) (.bool b)
 |str (s:ByteArray):DenD M (.str s) (.string s)
 |emp (a:Option Addr) (cap:Nat):DenD M (.lst []) (.slice a 0 cap)
 |lst (l:List (List D)) (b off cap sz:Nat) (val:Nat->Nat->Value) (hl:l.length<=cap)
   (hs:∀ (i:Nat) (e:List D),l[i]?=some e->e.length=sz)
   (hm:∀ (i j:Nat) (e:List D) (d:D),l[i]?=some e->e[j]?=some d->M b (off+i*sz+j)=some (val i j))
   (hd:∀ (i j:Nat) (e:List D) (d:D),l[i]?=some e->e[j]?=some d->DenD M d (val i j)):
   DenD M (.lst l) (.slice (some ⟨b,off,none⟩) l.length cap)
 |dp (c:List D) (j b off:Nat) (val:Nat->Value)
   (hm:∀ (i:Nat) (d:D),c[i]?=some d->M b (off+i)=some (val i))
   (hd:∀ (i:Nat) (d:D),c[i]?=some d->DenD M d (val i)):DenD M (.dp c j) (.pointer (some ⟨b,off+j,none⟩))
 |fn (f:FuncId) (cap:List D) (vs:Array Value) (hl:vs.size=cap.length)
   (hd:∀ (i:Nat) (d:D) (v:Value),cap[i]?=some d->vs[i]?=some v->DenD M d v):DenD M (.fn f cap) (.func (.func f) #[] vs)
 |nilp:DenD M .nilp (.pointer none)
 |agg (c:List D) (vs:Array Value) (hl:vs.size=c.length)
   (hd:∀ (i:Nat) (d:D) (v:Value),c[i]?=some d->vs[i]?=some v->DenD M d v):DenD M (.agg c) (.agg vs)
 |tup (c:List D) (vs:Array Value) (hl:vs.size=c.length)
   (hd:∀ (i:Nat) (d:D) (v:Value),c[i]?=some d->vs[i]?=some v->DenD M d v):DenD M (.tup c) (.tuple vs)
 |unk (v:Value):DenD M .unk v
def Sub (M M':Mem):Prop:=∀ (b o:Nat) (v:Value),M b o=some v->M' b o=some v
theorem DenD.mono {M M':Mem} (h:Sub M M') {d:D} {v:Value} (hd:DenD M d v):DenD M' d v:=by
 induction hd with
 |int k n=>exact .int k n
 |bool b=>exact .bool b
 |str s=>exact .str s
 |emp a c=>exact .emp a c
 |lst l b off cap sz val hl hs hm _ ih=>exact .lst l b off cap sz val hl hs (fun i j e d h1 h2=>h _ _ _ (hm i j e d h1 h2)) ih
 |dp c j b off val hm _ ih=>exact .dp c j b off val (fun i d h1=>h _ _ _ (hm i d h1)) ih
 |fn f cap vs hl _ ih=>exact .fn f cap vs hl ih
 |nilp=>exact .nilp
 |agg c vs hl _ ih=>exact .agg c vs hl ih
 |tup c vs hl _ ih=>exact .tup c vs hl ih
 |unk v=>exact .unk v
inductive AV where
 |d (x:D)
 |tt
 |ff
 |agg (c:List AV)
 |tup (c:List AV)
 |own (b:Nat)
 |ptr (b i j:Nat)
 |win (b lo n:Nat) (c:Option Nat)
 |nil
 |fn (f:FuncId) (cap:List AV)
 |dead
structure Loc where
 blk:Nat
 sz:Nat
 size:Nat
 len:Nat
abbrev Inj:=Nat->Option (Option Loc)
inductive Blk where
 |row (l:List (List D)) (sz:Nat) (fr:Bool)
 |box (c:List AV) (fr:Bool)
def Fm (k b:Nat):Bool:=bif Nat.ble 2000000 k&&Nat.beq (k%8) 0 then Nat.beq (b/8) (k/8) else Nat.beq b k
theorem Fm_self (k:Nat):Fm k k=true:=by
 unfold Fm
 cases Nat.ble 2000000 k&&Nat.beq (k%8) 0<;>simp
theorem Fm_lt {k:Nat} (h:k<2000000) (b:Nat):Fm k b=Nat.beq b k:=by
 unfold Fm
 cases hb:Nat.ble 2000000 k with
 |true=>have:=Nat.le_of_ble_eq_true hb;omega
 |false=>rfl
structure Solo (k:Nat):Prop where
 out:∀ b,Fm k b=Nat.beq b k
theorem yYr {k:Nat} (h:(Nat.ble k 1999999||!Nat.beq (k%8) 0)=true):Solo k:=by
 rcases Bool.or_eq_true_iff.1 h with h|h
 ·exact ⟨Fm_lt (by have:=Nat.le_of_ble_eq_true h;omega)⟩
 ·have h:Nat.beq (k%8) 0=false:=by simpa using h
  exact ⟨fun b=>by unfold Fm;rw [h,Bool.and_false];rfl⟩
theorem yIi {k b:Nat} (h:Fm k b=false):b≠k:=by
 rintro rfl
 rw [Fm_self] at h;cases h
inductive DenA (M:Mem) (ι:Inj):AV->Value->Prop
 |d (x:D) (v:Value) (h:DenD M x v):DenA M ι (.d x) v
 |tt:DenA M ι .tt (.bool true)
 |ff:DenA M ι .ff (.bool false)
 |agg (c:List AV) (vs:Array Value) (hl:vs.size=c.length)
   (hd:∀ (i:Nat) (x:AV) (v:Value),c[i]?=some x->vs[i]?=some v->DenA M ι x v):DenA M ι (.agg c) (.agg vs)
 |tup (c:List AV) (vs:Array Value) (hl:vs.size=c.length)
   (hd:∀ (i:Nat) (x:AV) (v:Value),c[i]?=some x->vs[i]?=some v->DenA M ι x v):DenA M ι (.tup c) (.tuple vs)
 |own (b:Nat) (L:Loc) (cap:Nat) (h:ι b=some (some L)) (hn:L.len<=cap) (hc:cap*L.sz<=L.size):
   DenA M ι (.own b) (.slice (some ⟨L.blk,0,none⟩) L.len cap)
 |ownE (b:Nat) (a:Option Addr) (h:ι b=some none):DenA M ι (.own b) (.slice a 0 0)
 |ownL (b:Nat) (v:Value) (h:ι b=none):DenA M ι (.own b) v
 |ptr (b i j:Nat) (L:Loc) (h:ι b=some (some L)):DenA M ι (.ptr b i j) (.pointer (some ⟨L.blk,i*L.sz+j,none⟩))
 |ptrL (b i j:Nat) (v:Value) (h:ι b=none):DenA M ι (.ptr b i j) v
 |win (b lo n:Nat) (c:Option Nat) (L:Loc) (k base:Nat) (h:ι b=some (some L)) (hn:n<=k) (hc:∀ m,c=some m->k=m) (hk:(lo+k)*L.sz<=L.size)
   (hb:base=lo*L.sz\/ (k=0/\0<lo)):DenA M ι (.win b lo n c) (.slice (some ⟨L.blk,base,none⟩) n k)
 |winL (b lo n:Nat) (c:Option Nat) (v:Value) (h:ι b=none):DenA M ι (.win b lo n c) v
 |nil (a:Option Addr):DenA M ι .nil (.slice a 0 0)
 |fn (f:FuncId) (cap:List AV) (vs:Array Value) (hl:vs.size=cap.length)
   (hd:∀ (i:Nat) (x:AV) (v:Value),cap[i]?=some x->vs[i]?=some v->DenA M ι x v):DenA M ι (.fn f cap) (.func (.func f) #[] vs)
 |dead (v:Value):DenA M ι .dead v
inductive Free (b:Nat):AV->Prop
 |d (x:D):Free b (.d x)
 |tt:Free b .tt
 |ff:Free b .ff
 |agg (c:List AV) (h:∀ x∈c,Free b x):Free b (.agg c)
 |tup (c:List AV) (h:∀ x∈c,Free b x):Free b (.tup c)
 |own (b':Nat) (h:b'≠b):Free b (.own b')
 |ptr (b' i j:Nat) (h:b'≠b):Free b (.ptr b' i j)
 |win (b' lo n:Nat) (c:Option Nat) (h:b'≠b):Free b (.win b' lo n c)
 |nil:Free b .nil
 |fn (f:FuncId) (c:List AV) (h:∀ x∈c,Free b x):Free b (.fn f c)
 |dead:Free b .dead
theorem DenA.mono {M M':Mem} {ι:Inj} (h:Sub M M') {x:AV} {v:Value} (hd:DenA M ι x v):DenA M' ι x v:=by
 induction hd with
 |d x v hx=>exact .d x v (hx.mono h)
 |tt=>exact .tt
 |ff=>exact .ff
 |agg c vs hl _ ih=>exact .agg c vs hl ih
 |tup c vs hl _ ih=>exact .tup c vs hl ih
 |own b L cap h hn hc=>exact .own b L cap h hn hc
 |ownE b a h=>exact .ownE b a h
 |ownL b v h=>exact .ownL b v h
 |ptr b i j L h=>exact .ptr b i j L h
 |ptrL b i j v h=>exact .ptrL b i j v h
 |win b lo n c L k base h hn hc hk hb=>exact .win b lo n c L k base h hn hc hk hb
 |winL b lo n c v h=>exact .winL b lo n c v h
 |nil a=>exact .nil a
 |fn f cap vs hl _ ih=>exact .fn f cap vs hl ih
 |dead v=>exact .dead v
theorem DenA.turnS {M:Mem} {ι ι':Inj} {S:Nat->Prop} (hι:∀ b,S b->ι' b=ι b) {x:AV} {v:Value} (hd:DenA M ι x v) (hf:∀ b,¬S b->Free b x):DenA M ι' x v:=by
 have hS:∀ {b:Nat} {x:AV},(∀ b,¬S b->Free b x)->(¬Free b x)->ι' b=ι b:=fun {b x} h h1=>Classical.byContradiction fun hn=>h1 (h b fun hs=>hn (hι b hs))
 induction hd with
 |d x v hx=>exact .d x v hx
 |tt=>exact .tt
 |ff=>exact .ff
 |agg c vs hl _ ih=>exact .agg c vs hl fun i x v h1 h2=>ih i x v h1 h2 fun b hb=>by cases hf b hb with|agg _ hf=>exact hf x (List.mem_of_getElem? h1)
 |tup c vs hl _ ih=>exact .tup c vs hl fun i x v h1 h2=>ih i x v h1 h2 fun b hb=>by cases hf b hb with|tup _ hf=>exact hf x (List.mem_of_getElem? h1)
 |own b' L cap h hn hc=>exact .own b' L cap (by rw [hS hf fun hb=>by cases hb with|own _ hb=>exact hb rfl];exact h) hn hc
 |ownE b' a h=>exact .ownE b' a (by rw [hS hf fun hb=>by cases hb with|own _ hb=>exact hb rfl];exact h)
 |ownL b' v h=>exact .ownL b' v (by rw [hS hf fun hb=>by cases hb with|own _ hb=>exact hb rfl];exact h)
 |ptr b' i j L h=>exact .ptr b' i j L (by rw [hS hf fun hb=>by cases hb with|ptr _ _ _ hb=>exact hb rfl];exact h)
 |ptrL b' i j v h=>exact .ptrL b' i j v (by rw [hS hf fun hb=>by cases hb with|ptr _ _ _ hb=>exact hb rfl];exact h)
 |win b' lo n c L k base h hn hc hk hb2=>exact .win b' lo n c L k base (by rw [hS hf fun hb=>by cases hb with|win _ _ _ _ hb=>exact hb rfl];exact h) hn hc hk hb2
 |winL b' lo n c v h=>exact .winL b' lo n c v (by rw [hS hf fun hb=>by cases hb with|win _ _ _ _ hb=>exact hb rfl];exact h)
 |nil a=>exact .nil a
 |fn f cap vs hl _ ih=>exact .fn f cap vs hl fun i x v h1 h2=>ih i x v h1 h2 fun b hb=>by cases hf b hb with|fn _ _ hf=>exact hf x (List.mem_of_getElem? h1)
 |dead v=>exact .dead v
def z3w (b:Nat) (x:AV):Prop:=∀ b',Fm b b'=true->Free b' x
theorem DenA.turn {M:Mem} {ι ι':Inj} {b:Nat} (hι:∀ b',Fm b b'=false->ι' b'=ι b') {x:AV} {v:Value} (hd:DenA M ι x v) (hf:z3w b x):DenA M ι' x v:=
 hd.turnS (S:=fun b'=>Fm b b'=false) hι fun b' hb=>hf b' (by simpa using hb)
def killV (b:Nat):AV->AV
 | .own b'=>bif Fm b b' then .dead else .own b'
 | .ptr b' i j=>bif Fm b b' then .dead else .ptr b' i j
 | .win b' lo n c=>bif Fm b b' then .dead else .win b' lo n c
 | .d x=>.d x
 | .tt=>.tt
 | .ff=>.ff
 | .nil=>.nil
 | .agg c=>bif names b c then .dead else .agg c
 | .tup c=>bif parts b c then .dead else .tup c
 | .fn f c=>bif names b c then .dead else .fn f c
 | .dead=>.dead
 where
 names (b:Nat):List AV->Bool
  | []=>false
  |x::r=>bif one b x then true else names b r
 one (b:Nat):AV->Bool
  | .own b'=>Fm b b'
  | .ptr b' _ _=>Fm b b'
  | .win b' _ _ _=>Fm b b'
  | .d _=>false
  | .tt=>false
  | .ff=>false
  | .nil=>false
  | .dead=>false
  | .agg _=>true
  | .tup _=>true
  | .fn _ _=>true
 part (b:Nat):AV->Bool
  | .agg c=>names b c
  |x=>one b x
 parts (b:Nat):List AV->Bool
  | []=>false
  |x::r=>bif part b x then true else parts b r
theorem zVl {b:Nat} {x:AV} (h:killV.one b x=false):z3w b x:=by
 intro b0 h0
 cases x with
 |own b'=>exact .own b' (by rintro rfl;simp [killV.one,h0] at h)
 |ptr b' i j=>exact .ptr b' i j (by rintro rfl;simp [killV.one,h0] at h)
 |win b' lo n c=>exact .win b' lo n c (by rintro rfl;simp [killV.one,h0] at h)
 |d x=>exact .d x
 |tt=>exact .tt
 |ff=>exact .ff
 |nil=>exact .nil
 |dead=>exact .dead
 |agg c=>simp [killV.one] at h
 |tup c=>simp [killV.one] at h
 |fn f c=>simp [killV.one] at h
theorem zGy {b:Nat}:∀ {c:List AV},killV.names b c=false->∀ x∈c,z3w b x
 | [],_,_,h=>by cases h
 |y::r,h,x,hx=>by
  simp only [killV.names] at h
  cases h1:killV.one b y with
  |true=>simp [h1] at h
  |false=>
   simp only [h1,cond_false] at h
   cases hx with
   |head=>exact zVl h1
   |tail _ hx=>exact zGy h x hx
theorem zKe {b:Nat}:∀ {c:List AV},killV.parts b c=false->∀ x∈c,z3w b x
 | [],_,_,h=>by cases h
 |y::r,h,x,hx=>by
  simp only [killV.parts] at h
  cases h1:killV.part b y with
  |true=>simp [h1] at h
  |false=>
   simp only [h1,cond_false] at h
   cases hx with
   |head=>
    cases y with
    |agg c=>exact fun b' hb=>.agg c fun x hx=>zGy h1 x hx b' hb
    |_=>exact zVl h1
   |tail _ hx=>exact zKe h x hx
theorem zRu (b:Nat) (x:AV):z3w b (killV b x):=by
 intro b0 h0
 cases x with
 |own b'=>
  simp only [killV]
  cases h:Fm b b' with
  |true=>exact .dead
  |false=>exact .own b' (by rintro rfl;simp [h0] at h)
 |ptr b' i j=>
  simp only [killV]
  cases h:Fm b b' with
  |true=>exact .dead
  |false=>exact .ptr b' i j (by rintro rfl;simp [h0] at h)
 |win b' lo n c=>
  simp only [killV]
  cases h:Fm b b' with
  |true=>exact .dead
  |false=>exact .win b' lo n c (by rintro rfl;simp [h0] at h)
 |d x=>exact .d x
 |tt=>exact .tt
 |ff=>exact .ff
 |nil=>exact .nil
 |dead=>exact .dead
 |agg c=>
  simp only [killV]
  cases h:killV.names b c with
  |true=>exact .dead
  |false=>exact .agg c fun x hx=>zGy h x hx b0 h0
 |tup c=>
  simp only [killV]
  cases h:killV.parts b c with
  |true=>exact .dead
  |false=>exact .tup c fun x hx=>zKe h x hx b0 h0
 |fn f c=>
  simp only [killV]
  cases h:killV.names b c with
  |true=>exact .dead
  |false=>exact .fn f c fun x hx=>zGy h x hx b0 h0
theorem DenA.killV {M:Mem} {ι:Inj} {x:AV} {v:Value} (b:Nat) (h:DenA M ι x v):DenA M ι (killV b x) v:=by
 cases x with
 |own b'=>
  simp only [Lk.killV]
  cases Fm b b' with
  |true=>exact .dead v
  |false=>exact h
 |ptr b' i j=>
  simp only [Lk.killV]
  cases Fm b b' with
  |true=>exact .dead v
  |false=>exact h
 |win b' lo n c=>
  simp only [Lk.killV]
  cases Fm b b' with
  |true=>exact .dead v
  |false=>exact h
 |d x=>exact h
 |tt=>exact h
 |ff=>exact h
 |nil=>exact h
 |dead=>exact h
 |agg c=>
  simp only [Lk.killV]
  cases killV.names b c with
  |true=>exact .dead v
  |false=>exact h
 |tup c=>
  simp only [Lk.killV]
  cases killV.parts b c with
  |true=>exact .dead v
  |false=>exact h
 |fn f c=>
  simp only [Lk.killV]
  cases killV.names b c with
  |true=>exact .dead v
  |false=>exact h
inductive TK where
 |int (k:IntKind)|bool|str|slice (e:TypeId)|arr (n:Nat) (e:TypeId)|struct (fs:List (Nat×TypeId))|ptr (e:TypeId)|other
structure TyI where
 k:TK
 size:Nat
 bytes:Nat
 zero:List D
abbrev Tab:=TypeId->TyI
def TK.known:TK->Bool
 | .other=>false
 |_=>true
def TK.agg:TK->Bool
 | .arr _ _=>true
 | .struct _=>true
 |_=>false
structure zAo where
 tm:Nat->AV
 hp:Nat->Option Blk
def upd {α:Type} (f:Nat->α) (t:Nat) (v:α):Nat->α:=fun s=>bif Nat.beq s t then v else f s
structure Eff where
 av:AV
 wr:List (Nat×Blk)
 kl:Option Nat
def force (v:AV) (K:AV->Prop):Prop:=
 match v with
 | .d x=>K (.d x)
 | .tt=>K .tt
 | .ff=>K .ff
 | .agg c=>K (.agg c)
 | .tup c=>K (.tup c)
 | .own b=>K (.own b)
 | .ptr b i j=>K (.ptr b i j)
 | .win b lo n c=>K (.win b lo n c)
 | .nil=>K .nil
 | .fn f c=>K (.fn f c)
 | .dead=>False
def forceL (c:List AV) (K:List AV->Prop):Prop:=
 match c with
 | []=>K []
 |x::r=>force x fun x=>forceL r fun r=>K (x::r)
def zHq:Value->AV
 | .int k n=>.d (.int k n)
 | .bool true=>.tt
 | .bool false=>.ff
 | .string s=>.d (.str s)
 | .slice none 0 0=>.nil
 | .pointer none=>.d .nilp
 | .agg cs=>.agg (cells cs.toList)
 |_=>.dead
 where
 one:Value->AV
  | .int k n=>.d (.int k n)
  | .bool true=>.tt
  | .bool false=>.ff
  | .string s=>.d (.str s)
  | .slice none 0 0=>.nil
  | .pointer none=>.d .nilp
  |_=>.dead
 cells:List Value->List AV
  | []=>[]
  |v::r=>one v::cells r
def evT (tm:Nat->AV):Operand->AV
 | .tmp t=>tm t
 | .const v=>zHq v
 | .global _=>.dead
 | .func f=>.d (.fn f [])
structure zJy (b:Bool) (A B:Prop):Prop where
 out:match b with|true=>A|false=>B
theorem zAf {b:Bool} {A B:Prop} (h1:b=true->A) (h2:b=false->B):zJy b A B:=by
 cases b with
 |true=>exact ⟨h1 rfl⟩
 |false=>exact ⟨h2 rfl⟩
theorem zBw {b:Bool} {A B:Prop} (h:b=true) (h1:A):zJy b A B:=by subst h;exact ⟨h1⟩
theorem zDa {b:Bool} {A B:Prop} (h:b=false) (h1:B):zJy b A B:=by subst h;exact ⟨h1⟩
theorem bcase_p {p:Prop} [Decidable p] {A B:Prop} (h1:p->A) (h2:¬p->B):zJy (decide p) A B:=zAf (fun h=>h1 (of_decide_eq_true h)) (fun h=>h2 (of_decide_eq_false h))
theorem bcase_n {p:Prop} [Decidable p] {A B:Prop} (h1:¬p->A) (h2:p->B):zJy (!decide p) A B:=
 zAf (fun h=>h1 (by simpa using h)) (fun h=>h2 (by simpa using h))
structure zZa (l:List (List D)) (i:Nat) (K:List D->Prop):Prop where
 out:∃ e,l[i]?=some e/\K e
theorem zAc {l:List (List D)} {i:Nat} {K:List D->Prop} {x:List D} (h:l[i]?=some x) (k:K x):zZa l i K:=⟨⟨x,h,k⟩⟩
structure z3u (k:IntKind) (n:Int) (K:Int->Prop):Prop where
 out:K (k.wrap n)
theorem zCg {k:IntKind} {n:Int} {K:Int->Prop} (h:k.wrap n=n) (hk:K n):z3u k n K:=⟨by rw [h];exact hk⟩
theorem zFn {k:IntKind} {n:Int} {K:Int->Prop} (hk:K (k.wrap n)):z3u k n K:=⟨hk⟩
structure idxK (i:Int) (n:Nat) (K:Nat->Prop):Prop where
 out:0<=i/\i<n/\K i.toNat
theorem zAd {i n:Nat} {K:Nat->Prop} (h:i<n) (hk:K i):idxK (i:Int) n K:=⟨⟨by omega,by omega,by simpa using hk⟩⟩
theorem zBq {i:Int} {n:Nat} {K:Nat->Prop} (h0:0<=i) (h:i<n) (hk:K i.toNat):idxK i n K:=⟨⟨h0,h,hk⟩⟩
structure zTb (lo hi:Option Int) (n:Nat) (K:Nat->Nat->Prop):Prop where
 out:0<=lo.getD 0/\lo.getD 0<=hi.getD n/\hi.getD n<=n/\K (lo.getD 0).toNat (hi.getD n).toNat
theorem zCv {h n:Nat} {K:Nat->Nat->Prop} (hh:h<=n) (k:K 0 h):zTb none (some (h:Int)) n K:=⟨⟨by simp,by simp,by simpa using hh,by simpa using k⟩⟩
theorem zDg {l n:Nat} {K:Nat->Nat->Prop} (hh:l<=n) (k:K l n):zTb (some (l:Int)) none n K:=⟨⟨by simp,by simpa using hh,by simp,by simpa using k⟩⟩
theorem zXh {l h n:Nat} {K:Nat->Nat->Prop} (hl:l<=h) (hh:h<=n) (k:K l h):zTb (some (l:Int)) (some (h:Int)) n K:=⟨⟨by simp,by simpa using hl,by simpa using hh,by simpa using k⟩⟩
structure divK (q:Bool) (k:IntKind) (a b:Int) (K:Int->Prop):Prop where
 out:b≠0/\K (if q then k.wrap (a.tdiv b) else a.tmod b)
theorem zCs {k:IntKind} {a b:Int} {K:Int->Prop} (hb:b≠0) (ha:0<=a) (h:K (a%b)):divK false k a b K:=⟨⟨hb,by simpa [Int.tmod_eq_emod_of_nonneg ha] using h⟩⟩
theorem zOz {k:IntKind} {q:Bool} {a b:Int} {K:Int->Prop} (hb:b≠0) (h:K (if q then k.wrap (a.tdiv b) else a.tmod b)):divK q k a b K:=⟨⟨hb,h⟩⟩
structure zTi (n bytes:Nat) (K:Prop):Prop where
 out:n*bytes<=35184372088832/\n<=35184372088832/\K
theorem zKj {n bytes:Nat} {K:Prop} (h:n*bytes<=35184372088832) (h1:n<=35184372088832) (k:K):zTi n bytes K:=⟨⟨h,h1,k⟩⟩
structure zEr (c:Prop) (K:Prop):Prop where
 out:c/\K
theorem zAh {c K:Prop} (h:c) (k:K):zEr c K:=⟨⟨h,k⟩⟩
structure winK (lo hi:Option Int) (n c:Nat) (K:Nat->Nat->Prop):Prop where
 out:0<=lo.getD 0/\lo.getD 0<=hi.getD n/\hi.getD n<=c/\K (lo.getD 0).toNat (hi.getD n).toNat
theorem zHw {h n c:Nat} {K:Nat->Nat->Prop} (hh:h<=c) (k:K 0 h):winK none (some (h:Int)) n c K:=⟨⟨by simp,by simp,by simpa using hh,by simpa using k⟩⟩
theorem zCz {l n c:Nat} {K:Nat->Nat->Prop} (hh:l<=n) (hc:n<=c) (k:K l n):winK (some (l:Int)) none n c K:=⟨⟨by simp,by simpa using hh,by simpa using hc,by simpa using k⟩⟩
theorem z7n {l h n c:Nat} {K:Nat->Nat->Prop} (hl:l<=h) (hh:h<=c) (k:K l h):winK (some (l:Int)) (some (h:Int)) n c K:=⟨⟨by simp,by simpa using hl,by simpa using hh,by simpa using k⟩⟩
def subO (c:Option Nat) (l:Nat):Option Nat:=
 match c with
 |some c=>some (c-l)
 |none=>none
structure appW (p A B:Prop):Prop where
 yes:p->A
 no:¬p->B
def zFw:IntKind->Nat
 | .i8=>0| .i16=>1| .i32=>2| .i64=>3| .u8=>4| .u16=>5| .u32=>6| .u64=>7
def zIh (op:BinOp) (k:IntKind) (a b:Int):Int:=
 k.wrap ((match op with
  | .and=>BitVec.ofInt k.bits a&&& BitVec.ofInt k.bits b
  | .or=>BitVec.ofInt k.bits a|||BitVec.ofInt k.bits b
  | .xor=>BitVec.ofInt k.bits a^^^BitVec.ofInt k.bits b
  |_=>BitVec.ofInt k.bits a&&& ~~~ BitVec.ofInt k.bits b).toNat:Int)
def intA (op:BinOp) (k:IntKind) (a b:Int) (K:AV->Prop):Prop:=
 match op with
 | .add=>z3u k (a+b) fun n=>K (.d (.int k n))
 | .sub=>z3u k (a-b) fun n=>K (.d (.int k n))
 | .mul=>z3u k (a*b) fun n=>K (.d (.int k n))
 | .quo=>divK true k a b fun n=>K (.d (.int k n))
 | .rem=>divK false k a b fun n=>K (.d (.int k n))
 | .and=>K (.d (.int k (zIh .and k a b)))
 | .or=>K (.d (.int k (zIh .or k a b)))
 | .xor=>K (.d (.int k (zIh .xor k a b)))
 | .andNot=>K (.d (.int k (zIh .andNot k a b)))
 | .eql=>K (.d (.bool (decide (a=b))))
 | .neq=>K (.d (.bool (!decide (a=b))))
 | .lss=>K (.d (.bool (decide (a<b))))
 | .leq=>K (.d (.bool (decide (a<=b))))
 | .gtr=>K (.d (.bool (decide (b<a))))
 | .geq=>K (.d (.bool (decide (b<=a))))
 |_=>False
def yNy (op:BinOp) (k:IntKind) (a b:Int) (K:AV->Prop):Prop:=
 match op with
 | .shl=>zEr (0<=b) (z3u k (a*2^(min b.toNat k.bits)) fun n=>K (.d (.int k n)))
 | .shr=>zEr (0<=b) (K (.d (.int k (a.fdiv (2^(min b.toNat k.bits))))))
 |_=>False
def yJe (op:BinOp) (a b:Bool) (K:AV->Prop):Prop:=
 match op with
 | .eql=>K (.d (.bool (a==b)))
 | .neq=>K (.d (.bool (!(a==b))))
 |_=>False
def strA (op:BinOp) (a b:ByteArray) (K:AV->Prop):Prop:=
 match op with
 | .add=>zEr (a.size+b.size<=9223372036854775807) (K (.d (.str (a++b))))
 | .eql=>K (.d (.bool (decide (a=b))))
 | .neq=>K (.d (.bool (!decide (a=b))))
 |_=>False
def zUo (v:AV) (K:Bool->Prop):Prop:=
 match v with
 | .d (.bool b)=>K b
 | .tt=>K true
 | .ff=>K false
 |_=>False
def eqA (T:Tab) (n:Nat) (t:TypeId) (x y:List AV) (K:Bool->Prop):Prop:=
 match n with
 |0=>False
 |n+1=>match (T t).k with
  | .int _=>match x with
   | [.d (.int k a)]=>match y with
    | [.d (.int k' b)]=>bif Nat.beq (zFw k) (zFw k') then K (decide (a=b)) else False
    |_=>False
   |_=>False
  | .str=>match x with
   | [.d (.str a)]=>match y with
    | [.d (.str b)]=>K (decide (a=b))
    |_=>False
   |_=>False
  | .bool=>match x with
   | [u]=>match y with
    | [v]=>zUo u fun a=>zUo v fun b=>K (a==b)
    |_=>False
   |_=>False
  | .struct fs=>fields (fun t x y K=>eqA T n t x y K) fs x y K
  |_=>False
 where
 fields (rec:TypeId->List AV->List AV->(Bool->Prop)->Prop) (fs:List (Nat×TypeId)) (x y:List AV) (K:Bool->Prop):Prop:=
  match fs with
  | []=>K true
  |(o,t)::r=>bif Nat.ble (o+(T t).size) x.length&&Nat.ble (o+(T t).size) y.length then
    rec t ((x.drop o).take (T t).size) ((y.drop o).take (T t).size) fun b=>fields rec r x y fun c=>K (b&&c) else False
def yLq:BinOp->Bool
 | .shl=>true
 | .shr=>true
 |_=>false
def binA (T:Tab) (t:TypeId) (op:BinOp) (x y:AV) (K:AV->Prop):Prop:=
 match x with
 | .d (.int k a)=>match y with
  | .d (.int k' b)=>bif yLq op then yNy op k a b K else bif Nat.beq (zFw k) (zFw k') then intA op k a b K else False
  |_=>False
 | .d (.str a)=>match y with
  | .d (.str b)=>strA op a b K
  |_=>False
 | .d (.bool a)=>match (T t).k with
  | .bool=>zUo y fun b=>yJe op a b K
  |_=>False
 | .tt=>match (T t).k with
  | .bool=>zUo y fun b=>yJe op true b K
  |_=>False
 | .ff=>match (T t).k with
  | .bool=>zUo y fun b=>yJe op false b K
  |_=>False
 | .agg c=>match y with
  | .agg c'=>match op with
   | .eql=>bif (T t).k.agg then eqA T 9999 t c c' fun b=>K (.d (.bool b)) else False
   | .neq=>bif (T t).k.agg then eqA T 9999 t c c' fun b=>K (.d (.bool (!b))) else False
   |_=>False
  |_=>False
 |_=>False
def getC (c:List AV) (j:Nat) (K:AV->Prop):Prop:=match c[j]? with|some x=>force x K|none=>False
def getD (c:List D) (j:Nat) (K:D->Prop):Prop:=match c[j]? with|some x=>K x|none=>False
def z6o (agg:Bool) (size:Nat) (c:List AV) (j:Nat) (K:AV->Prop):Prop:=
 bif agg then (bif Nat.ble (j+size) c.length then forceL ((c.drop j).take size) fun c=>K (.agg c) else False) else getC c j K
def yRk (agg:Bool) (size:Nat) (c:List D) (j:Nat) (K:AV->Prop):Prop:=
 bif agg then (bif Nat.ble (j+size) c.length then forceL (((c.drop j).take size).map .d) fun c=>K (.agg c) else False) else getD c j fun x=>K (.d x)
def yXa (T:Tab) (t:TypeId) (v:AV) (hp:Nat->Option Blk) (K:AV->Prop):Prop:=
 match v with
 | .ptr b i j=>match hp b with
  |some (.box c _)=>zEr (i=0) (z6o (T t).k.agg (T t).size c j K)
  |some (.row l _ _)=>zZa l i fun e=>yRk (T t).k.agg (T t).size e j K
  |none=>False
 | .d (.dp e j)=>yRk (T t).k.agg (T t).size e j K
 |_=>False
def yLz (T:Tab) (t:TypeId) (v:AV) (hp:Nat->Option Blk) (K:AV->Prop):Prop:=
 bif (T t).k.known then yXa T t v hp K else False
def zPd (T:Tab) (s:TypeId) (f:Nat) (K:Nat->TypeId->Prop):Prop:=
 match (T s).k with
 | .struct fs=>match fs[f]? with
  |some (o,t)=>K o t
  |none=>False
 |_=>False
def zRp (T:Tab) (t:TypeId) (x i:AV) (hp:Nat->Option Blk) (K:AV->Prop):Prop:=
 match i with
 | .d (.int _ i)=>match (T t).k with
  | .slice el=>match x with
   | .d (.lst l)=>idxK i l.length fun n=>zZa l n fun e=>bif Nat.beq e.length (T el).size then K (.d (.dp e 0)) else False
   | .own b=>match hp b with
    |some (.row l sz _)=>bif Nat.beq sz (T el).size then idxK i l.length fun n=>K (.ptr b n 0) else False
    |_=>False
   | .win b lo n _=>match hp b with
    |some (.row _ sz _)=>bif Nat.beq sz (T el).size then idxK i n fun m=>K (.ptr b (lo+m) 0) else False
    |_=>False
   |_=>False
  | .arr n e=>match x with
   | .ptr b i0 j=>match hp b with
    |some _=>idxK i n fun n=>K (.ptr b i0 (j+n*(T e).size))
    |none=>False
   | .d (.dp c j)=>idxK i n fun n=>K (.d (.dp c (j+n*(T e).size)))
   |_=>False
  |_=>False
 |_=>False
def yLj (T:Tab) (t:TypeId) (x i:AV) (K:AV->Prop):Prop:=
 match i with
 | .d (.int _ i)=>match x with
  | .d (.str s)=>match (T t).k with
   | .str=>idxK i s.size fun n=>K (.d (.int .u8 (s.data.getD n 0).toNat))
   |_=>False
  | .agg c=>match (T t).k with
   | .arr n e=>idxK i n fun n=>z6o (T e).k.agg (T e).size c (n*(T e).size) K
   |_=>False
  |_=>False
 |_=>False
def conv (hp:Nat->Option Blk):AV->Option D
 | .d x=>some x
 | .tt=>some (.bool true)
 | .ff=>some (.bool false)
 | .nil=>some (.lst [])
 | .own b=>match hp b with
  |some (.row l _ _)=>some (.lst l)
  |_=>none
 | .agg c=>(cells hp c).map .agg
 | .fn f c=>(caps hp c).map (.fn f)
 |_=>none
 where
 one (hp:Nat->Option Blk):AV->Option D
  | .d x=>some x
  | .tt=>some (.bool true)
  | .ff=>some (.bool false)
  | .nil=>some (.lst [])
  | .own b=>match hp b with
   |some (.row l _ _)=>some (.lst l)
   |_=>none
  |_=>none
 cells (hp:Nat->Option Blk):List AV->Option (List D)
  | []=>some []
  |x::r=>(one hp x).bind fun d=>(cells hp r).map fun ds=>d::ds
 pure1:AV->Option D
  | .d x=>some x
  | .tt=>some (.bool true)
  | .ff=>some (.bool false)
  | .nil=>some (.lst [])
  |_=>none
 pures:List AV->Option (List D)
  | []=>some []
  |x::r=>(pure1 x).bind fun d=>(pures r).map fun ds=>d::ds
 cap1 (hp:Nat->Option Blk):AV->Option D
  | .d x=>some x
  | .tt=>some (.bool true)
  | .ff=>some (.bool false)
  | .ptr b i j=>match hp b with
   |some (.box c true)=>bif Nat.beq i 0 then (pures c).map fun c=>.dp c j else none
   |_=>none
  |_=>none
 caps (hp:Nat->Option Blk):List AV->Option (List D)
  | []=>some []
  |x::r=>(cap1 hp x).bind fun d=>(caps hp r).map fun ds=>d::ds
def zAp (hp:Nat->Option Blk):AV->List Nat
 | .own b=>one hp (.own b)
 | .agg c=>cells hp c
 |_=>[]
 where
 one (hp:Nat->Option Blk):AV->List Nat
  | .own b=>match hp b with
   |some (.row _ _ false)=>[b]
   |_=>[]
  |_=>[]
 cells (hp:Nat->Option Blk):List AV->List Nat
  | []=>[]
  |x::r=>one hp x++cells hp r
def frz (hp:Nat->Option Blk):List Nat->List (Nat×Blk)
 | []=>[]
 |b::r=>match hp b with
  |some (.row l sz _)=>(b,.row l sz true)::frz hp r
  |_=>frz hp r
def zNj (hp:Nat->Option Blk) (ρ:Operand->AV) (a:List Operand) (K:List D->List Nat->Prop):Prop:=
 match a with
 | []=>K [] []
 |x::r=>match conv hp (ρ x) with
  |some d=>zNj hp ρ r fun ds ns=>K (d::ds) (zAp hp (ρ x)++ns)
  |none=>False
def ofD:D->AV
 | .agg c=>.agg (c.map .d)
 | .tup c=>.tup (c.map one)
 | .lst l=>.d (.lst l)
 | .int k n=>.d (.int k n)
 | .bool b=>.d (.bool b)
 | .str s=>.d (.str s)
 | .dp c j=>.d (.dp c j)
 | .fn f c=>.d (.fn f c)
 | .nilp=>.d .nilp
 | .unk=>.d .unk
 where
 one:D->AV
  | .agg c=>.agg (c.map .d)
  |x=>.d x
def scalar:D->Bool
 | .int _ _=>true
 | .bool _=>true
 | .str _=>true
 | .tup c=>all c
 | .agg c=>all c
 |_=>false
 where
 one:D->Bool
  | .int _ _=>true
  | .bool _=>true
  | .str _=>true
  |_=>false
 all:List D->Bool
  | []=>true
  |x::r=>bif one x then all r else false
def lenA (T:Tab) (t:TypeId) (v:AV) (hp:Nat->Option Blk) (K:AV->Prop):Prop:=
 match (T t).k with
 | .str=>match v with
  | .d (.str s)=>K (.d (.int .i64 s.size))
  |_=>False
 | .slice _=>match v with
  | .d (.lst l)=>K (.d (.int .i64 l.length))
  | .nil=>K (.d (.int .i64 0))
  | .win b _ n _=>match hp b with
   |some _=>K (.d (.int .i64 n))
   |none=>False
  | .own b=>match hp b with
   |some (.row l _ _)=>K (.d (.int .i64 l.length))
   |_=>False
  |_=>False
 |_=>False
def zMe (ρ:Operand->AV) (o:Option Operand) (K:Option Int->Prop):Prop:=
 match o with
 |none=>K none
 |some x=>match ρ x with
  | .d (.int _ n)=>K (some n)
  |_=>False
def yNz (T : Tab) (t : TypeId) (v : AV) (hp : Nat → Option Blk) (lo hi mx : Option Int) (K : Eff → Prop) : Prop :=
  match mx with
  | none => match v with
    | .d (.str s) => match (T t).k with
      | .str => zTb lo hi s.size fun l h => K ⟨.d (.str (s.extract l h)), [], none⟩
      | _ => False
    | .d (.lst r) => match (T t).k with
      | .slice el => zEr (∀ e ∈ r, e.length = (T el).size) (zTb lo hi r.length fun l h => K ⟨.d (.lst ((r.take h).drop l)), [], none⟩)
      | _ => False
    | .own b => match hp b with
      | some (.row r sz _) => match (T t).k with
        | .slice el => bif Nat.beq sz (T el).size then zTb lo hi r.length fun l h => K ⟨.d (.lst ((r.take h).drop l)), [(b, .row r sz true)], none⟩ else False
        | _ => False
      | _ => False
    | .nil => match (T t).k with
      | .slice _ => zTb lo hi 0 fun _ _ => K ⟨.nil, [], none⟩
      | _ => False
    | .win b lo0 n c => match hp b with
      | some (.row _ sz false) => match (T t).k with
        | .slice el => bif Nat.beq sz (T el).size then winK lo hi n (c.getD n) fun l h => K ⟨.win b (lo0 + l) (h - l) (subO c l), [], none⟩ else False
        | _ => False
      | _ => False
    | _ => False
  | some m => match v with
   | .win b lo0 n c => match hp b with
      | some (.row _ sz false) => match (T t).k with
        | .slice el => bif Nat.beq sz (T el).size then zEr (hi ≠ none ∧ 0 ≤ m ∧ m ≤ (c.getD n : Int)) (winK lo hi n m.toNat fun l h => K ⟨.win b (lo0 + l) (h - l) (some (m.toNat - l)), [], none⟩) else False
        | _ => False
      | _ => False
   | v => match (T t).k with
    | .slice _ => zEr (m = 0 ∧ hi = some 0 ∧ lo = none) (match v with
      | .d (.lst _) => K ⟨.nil, [], none⟩
      | .nil => K ⟨.nil, [], none⟩
      | _ => False)
    | _ => False
def zAy {α:Type} (c:List α) (j:Nat):List α->List α
 | []=>c
 |x::r=>zAy (c.set j x) (j+1) r
def spliceF {α:Type} (c:List α) (j:Nat) (l:List α):List α:=c.take j++(l++c.drop (j+l.length))
def cellsOf:AV->List AV
 | .agg c=>c
 |v=>[v]
def memN (b:Nat):List Nat->Bool
 | []=>false
 |x::r=>bif Nat.beq b x then true else memN b r
def zA:D->AV
 | .lst []=>.nil
 |x=>.d x
def zGo (hp:Nat->Option Blk):AV->Bool
 | .d x=>one x
 | .tt=>true
 | .ff=>true
 | .own b=>match hp b with
  |some _=>true
  |none=>false
 | .ptr b _ _=>match hp b with
  |some _=>true
  |none=>false
 | .nil=>true
 | .fn _ _=>true
 |_=>false
 where
 one:D->Bool
  | .int _ _=>true
  | .bool _=>true
  | .str _=>true
  | .lst _=>true
  | .dp _ _=>true
  | .fn _ _=>true
  | .nilp=>true
  | .agg _=>false
  | .tup _=>false
  | .unk=>false
def zEj (hp:Nat->Option Blk):List AV->Bool
 | []=>true
 |x::r=>bif zGo hp x then zEj hp r else false
def yHj (sz:Nat) (e:List D):Bool:=Nat.beq e.length sz&&e.all zGo.one
def okRows (sz:Nat) (l:List (List D)):Bool:=l.all (yHj sz)
def zZy (sz:Nat) (v:AV) (hp:Nat->Option Blk) (K:List (List D)->Prop):Prop:=
 match v with
 | .d (.lst l)=>zEr (okRows sz l=true) (K l)
 | .nil=>K []
 | .own b=>match hp b with
  |some (.row l sz' _)=>bif Nat.beq sz' sz then zEr (okRows sz l=true) (K l) else False
  |_=>False
 | .win b lo n _=>match hp b with
  |some (.row l sz' _)=>bif Nat.beq sz' sz then zEr (lo+n<=l.length/\okRows sz ((l.drop lo).take n)=true) (K ((l.drop lo).take n)) else False
  |_=>False
 |_=>False
def yOe (sz:Nat) (v:AV) (hp:Nat->Option Blk) (K:List (List D)->Prop):Prop:=
 match v with
 | .d (.lst l)=>K l
 | .nil=>K []
 | .own b=>match hp b with
  |some (.row l sz' _)=>bif Nat.beq sz' sz then K l else False
  |_=>False
 | .win b lo n _=>match hp b with
  |some (.row l sz' _)=>bif Nat.beq sz' sz then zEr (lo+n<=l.length) (K ((l.drop lo).take n)) else False
  |_=>False
 |_=>False
def yVw (T:Tab) (e:TypeId) (x y:AV) (hp:Nat->Option Blk) (K:Eff->Prop):Prop:=
 match x with
 | .win b lo n _=>match hp b with
  |some (.row r sz false)=>bif Nat.beq sz (T e).size then yOe (T e).size y hp fun src=>zEr (lo+n<=r.length/\okRows (T e).size (src.take (Nat.min src.length n))=true)
    (K ⟨.d (.int .i64 (Nat.min src.length n)),[(b,.row (r.take lo++(src.take (Nat.min src.length n)++r.drop (lo+Nat.min src.length n))) sz false)],none⟩) else False
  |_=>False
 |_=>False
def yJp (T:Tab) (e:TypeId) (x:AV) (hp:Nat->Option Blk) (K:Eff->Prop):Prop:=
 match x with
 | .win b lo n _=>match hp b with
  |some (.row r sz false)=>bif Nat.beq sz (T e).size then zEr (lo+n<=r.length/\yHj (T e).size (T e).zero=true)
    (K ⟨.tup [],[(b,.row (r.take lo++(List.replicate n (T e).zero++r.drop (lo+n))) sz false)],none⟩) else False
  |_=>False
 |_=>False
def z0k (T:Tab) (e:TypeId) (b lo n c:Nat) (src:List (List D)) (hp:Nat->Option Blk) (dst:Option Tmp) (K:Eff->Prop):Prop:=
 match hp b with
 |some (.row r sz false)=>bif Nat.beq sz (T e).size then appW (n+src.length<=c)
   (zEr (lo+n+src.length<=r.length) (K ⟨.win b lo (n+src.length) (some c),[(b,.row (r.take (lo+n)++(src++r.drop (lo+n+src.length))) sz false)],none⟩))
   (match dst with
    |some d=>zEr (lo+n<=r.length) (zTi (n+src.length) (T e).bytes (K ⟨.win d 0 (n+src.length) none,[(d,.row ((r.drop lo).take n++src) sz false)],some d⟩))
    |none=>False) else False
 |_=>False
def z8a (T:Tab) (e:TypeId) (b lo n c:Nat) (k:Int) (hp:Nat->Option Blk) (dst:Option Tmp) (K:Eff->Prop):Prop:=
 match hp b with
 |some (.row r sz false)=>bif Nat.beq sz (T e).size then zEr (0<=k/\c<n+k.toNat/\lo+n<=r.length)
   (match dst with
    |some d=>zTi (n+k.toNat) (T e).bytes (K ⟨.win d 0 (n+k.toNat) none,[(d,.row ((r.drop lo).take n++List.replicate k.toNat (T e).zero) sz false)],some d⟩)
    |none=>False) else False
 |_=>False
def z7y (T:Tab) (e:TypeId) (k:Int) (dst:Option Tmp) (K:Eff->Prop):Prop:=
 zEr (0<k) (match dst with
  |some d=>zTi k.toNat (T e).bytes (K ⟨.win d 0 k.toNat none,[(d,.row (List.replicate k.toNat (T e).zero) (T e).size false)],some d⟩)
  |none=>False)
def zPy (hp:Nat->Option Blk) (ρ:Operand->AV) (off:Nat->Option (Nat×Nat)) (c:List AV) (ps:List (Nat×Operand)) (K:List AV->Prop):Prop:=
 match ps with
 | []=>K c
 |(i,x)::r=>match off i with
  |some (o,s)=>force (ρ x) fun v=>bif Nat.beq (cellsOf v).length s&&Nat.ble (o+s) c.length then (bif zEj hp (cellsOf v) then zPy hp ρ off (spliceF c o (cellsOf v)) r K else False) else False
  |none=>False
def yIc (T:Tab) (e:TypeId) (n:Nat):List AV:=(List.range (n*(T e).size)).map fun k=>zA ((T e).zero.getD (k%(T e).size) .nilp)
def yRg (T:Tab) (fs:List (Nat×TypeId)) (i:Nat):Option (Nat×Nat):=match fs[i]? with|some (o,t)=>some (o,(T t).size)|none=>none
end Go.Lk
namespace Go.Lk
open Go Go.RowKit
def zBj (M:Mem) (w:World):Prop:=∀ (b o:Nat) (v:Value),M b o=some v->w.cell? ⟨b,o,none⟩=some v
def zTf (w:World) (M M':Mem):Prop:=∀ (b o:Nat) (v:Value),M' b o=some v->M b o=some v\/w.heap.size<=b
def zUj (M:Mem) (ds:List D) (vs:Array Value):Prop:=vs.size=ds.length/\ ∀ (i:Nat) (d:D) (v:Value),ds[i]?=some d->vs[i]?=some v->DenD M d v
def yPg (M:Mem) (ι:Inj) (xs:List AV) (vs:Array Value):Prop:=vs.size=xs.length/\ ∀ (i:Nat) (d:AV) (v:Value),xs[i]?=some d->vs[i]?=some v->DenA M ι d v
structure zGv (M:Mem) (cs:Array Value) (l:List (List D)) (sz:Nat):Prop where
 len:∀ (i:Nat) (e:List D),l[i]?=some e->e.length=sz
 den:∀ (i j:Nat) (e:List D) (d:D),l[i]?=some e->e[j]?=some d->∃ v,cs[i*sz+j]?=some v/\DenD M d v
structure zQu (M:Mem) (ι:Inj) (cs:Array Value) (c:List AV):Prop where
 size:cs.size=c.length
 den:∀ (j:Nat) (x:AV),c[j]?=some x->∃ v,cs[j]?=some v/\DenA M ι x v
def Frz (M:Mem) (blk:Nat) (cs:Array Value) (n:Nat) (fr:Bool):Prop:=
 (fr=true->∀ (o:Nat) (v:Value),o<n->cs[o]?=some v->M blk o=some v) /\ (fr=false->∀ o:Nat,M blk o=none)
def zEp (M:Mem) (ι:Inj) (w:World) (B:Blk) (L:Loc):Prop:=
 ∃ (cs:Array Value) (T:TypeId),w.heap[L.blk]?=some (.cells cs T (0,0)) /\cs.size=L.size/\
  match B with
  | .row l sz fr=>sz=L.sz/\l.length=L.len/\l.length*sz<=L.size/\zGv M cs l sz/\Frz M L.blk cs (l.length*sz) fr
  | .box c fr=>L.sz=c.length/\L.size=c.length/\zQu M ι cs c/\Frz M L.blk cs c.length fr
structure HRel (own:Nat->Prop) (M:Mem) (ι:Inj) (hp:Nat->Option Blk) (w:World):Prop where
 dom:∀ b,hp b=none↔ι b=none
 virt:∀ b,ι b=some none->∃ sz fr,hp b=some (.row [] sz fr)
 at_:∀ (b:Nat) (B:Blk) (L:Loc),hp b=some B->ι b=some (some L)->own L.blk/\zEp M ι w B L
 inj:∀ (b b':Nat) (L L':Loc),ι b=some (some L)->ι b'=some (some L')->L.blk=L'.blk->b=b'
structure zBu (own:Nat->Prop) (w0 w:World):Prop where
 os:w.os=w0.os
 tape:w.tape=w0.tape
 output:w.output=w0.output
 size:w0.heap.size<=w.heap.size
 block:∀ c,¬own c->w.heap[c]?=w0.heap[c]?
def zCq (own:Nat->Prop) (M M':Mem):Prop:=∀ (b o:Nat) (v:Value),M' b o=some v->M b o=some v\/own b
def FnOk (P:Program) (f:FuncId):Prop:=∃ fn,P.funcs[f]?=some fn/\fn.body.isSome=true/\ (fn.name== "runtime.NumGoroutine")=false
def zAj (P:Program) (f:FuncId) (ds:List D) (d:D):Prop:=
 FnOk P f/\ ∀ (w:World) (M:Mem) (vs:Array Value),zBj M w->zUj M ds vs->Calls P f vs w fun e w'=>
  ∃ (v:Value) (M':Mem),e=.returned v/\Below w.heap.size w w'/\Sub M M'/\zBj M' w'/\zTf w M M'/\DenD M' d v
def zDt (P:Program) (f:FuncId) (ds:List D) (l:List (List D)) (sz:Nat):Prop:=
 FnOk P f/\ ∀ (w:World) (M:Mem) (vs:Array Value),zBj M w->zUj M ds vs->Calls P f vs w fun e w'=>
  ∃ (v:Value) (M':Mem),e=.returned v/\Below w.heap.size w w'/\Sub M M'/\zBj M' w'/\zTf w M M'/\
   ((l=[] /\ ∃ a,v=.slice a 0 0) \/ ∃ (c cap:Nat) (cs:Array Value) (T:TypeId),w.heap.size<=c/\v=.slice (some ⟨c,0,none⟩) l.length cap/\l.length<=cap/\
    cap*sz<=cs.size/\w'.heap[c]?=some (.cells cs T (0,0)) /\zGv M' cs l sz/\ ∀ o,M' c o=none)
inductive SC where
 |d (x:D)
 |row (l:List (List D)) (sz:Nat)
def z3x (w w':World) (M':Mem) (l:List (List D)) (sz:Nat) (L:Option Loc) (v:Value):Prop:=
 match L with
 |none=>l=[] /\ ∃ a,v=.slice a 0 0
 |some L=>w.heap.size<=L.blk/\ ∃ (cap:Nat) (cs:Array Value) (T:TypeId),v=.slice (some ⟨L.blk,0,none⟩) l.length cap/\L.len=l.length/\L.sz=sz/\L.size=cs.size/\l.length<=cap/\
  cap*sz<=cs.size/\w'.heap[L.blk]?=some (.cells cs T (0,0)) /\zGv M' cs l sz/\ ∀ o,M' L.blk o=none
def yIm (P:Program) (f:FuncId) (ds:List D) (cs:List SC):Prop:=
 FnOk P f/\ ∀ (w:World) (M:Mem) (vs:Array Value),zBj M w->zUj M ds vs->Calls P f vs w fun e w'=>
  ∃ (us:Array Value) (M':Mem) (bl:Nat->Option Loc),e=.returned (.agg us) /\Below w.heap.size w w'/\Sub M M'/\zBj M' w'/\zTf w M M'/\us.size=cs.length/\
   (∀ (i:Nat) (c:SC),cs[i]?=some c->∃ u,us[i]?=some u/\match c with
    | .d x=>DenD M' x u
    | .row l sz=>z3x w w' M' l sz (bl i) u) /\
   ∀ (i j:Nat) (L L':Loc),bl i=some L->bl j=some L'->L.blk=L'.blk->i=j
def yGb (P:Program) (f:FuncId) (ds:List D) (cs:List SC) (rs:List D):Prop:=
 FnOk P f/\ ∀ (w:World) (M:Mem) (vs:Array Value),zBj M w->zUj M ds vs->Calls P f vs w fun e w'=>
  ∃ (c:Nat) (us rv:Array Value) (Ty:TypeId) (M':Mem) (bl:Nat->Option Loc),e=.returned (.tuple (#[.pointer (some ⟨c,0,none⟩)]++rv)) /\w.heap.size<=c/\w'.heap[c]?=some (.cells us Ty (0,0)) /\ (∀ o,M' c o=none) /\
   Below w.heap.size w w'/\Sub M M'/\zBj M' w'/\zTf w M M'/\us.size=cs.length/\zUj M' rs rv/\
   (∀ (i:Nat) (c:SC),cs[i]?=some c->∃ u,us[i]?=some u/\match c with
    | .d x=>DenD M' x u
    | .row l sz=>z3x w w' M' l sz (bl i) u) /\
   (∀ (i j:Nat) (L L':Loc),bl i=some L->bl j=some L'->L.blk=L'.blk->i=j) /\ ∀ (i:Nat) (L:Loc),bl i=some L->L.blk≠c
def sAv (k:Nat):List SC->List AV
 | []=>[]
 | .d x::r=>.d x::sAv k r
 | .row _ _::r=>.own k::sAv (k+1) r
def sWr (k:Nat):List SC->List (Nat×Blk)
 | []=>[]
 | .d _::r=>sWr k r
 | .row l sz::r=>(k,.row l sz false)::sWr (k+1) r
def zRt (k:Option Nat) (tm:Nat->AV):Nat->AV:=
 match k with
 |none=>tm
 |some b=>fun t=>killV b (tm t)
def zBl (b:Nat):Blk->Blk
 | .row l sz fr=>.row l sz fr
 | .box c fr=>.box (cells b c) fr
 where
 cells (b:Nat):List AV->List AV
  | []=>[]
  |x::r=>killV b x::cells b r
def zD (k:Option Nat) (hp:Nat->Option Blk):Nat->Option Blk:=
 match k with
 |none=>hp
 |some b=>fun t=>match hp t with
  |some B=>some (zBl b B)
  |none=>none
def zBa (hp:Nat->Option Blk):List (Nat×Blk)->Nat->Option Blk
 | []=>hp
 |(b,B)::r=>zBa (upd hp b (some B)) r
def Eff.hp (e:Eff) (hp:Nat->Option Blk):Nat->Option Blk:=zBa (zD e.kl hp) e.wr
def Kp (kl:Option Nat) (b:Nat):Prop:=
 match kl with
 |none=>True
 |some k=>Fm k b=false
theorem zTg {k b:Nat} (h:Kp (some k) b):b≠k:=yIi h
def zOj (P:Program) (f:FuncId) (xs:List AV) (hp:Nat->Option Blk) (e:Eff):Prop:=
 FnOk P f/\ ∀ (own:Nat->Prop) (M:Mem) (ι:Inj) (w:World) (vs:Array Value),(∀ c,w.heap.size<=c->own c)->zBj M w->HRel own M ι hp w->yPg M ι xs vs->
  Calls P f vs w fun en w'=>∃ (v:Value) (M':Mem) (ι':Inj),en=.returned v/\zBu own w w'/\Sub M M'/\zBj M' w'/\zCq own M M'/\
   HRel own M' ι' (e.hp hp) w'/\ (∀ b,Kp e.kl b->ι' b=ι b) /\DenA M' ι' e.av v
structure zR (P:Program) (f:FuncId) (st:Bool) (xs:List AV) (hp:Nat->Option Blk) (dst:Option Tmp) (ds:List D) (ns:List Nat) (K:Eff->Prop):Prop where
 out:(∃ d,zAj P f ds d/\bif scalar d then K ⟨ofD d,[],none⟩ else K ⟨ofD d,frz hp ns,none⟩) \/
 (∃ l sz t,zDt P f ds l sz/\dst=some t/\K ⟨.own t,frz hp ns++[(t,.row l sz false)],some t⟩) \/
 (st=true/\ ∃ e,zOj P f xs hp e/\K e) \/
 (∃ cs t,yIm P f ds cs/\dst=some t/\ (sWr 0 cs).length<=8/\K ⟨.agg (sAv (2000000+8*t) cs),frz hp ns++sWr (2000000+8*t) cs,some (2000000+8*t)⟩) \/
 (∃ cs rs t,yGb P f ds cs rs/\dst=some t/\ (sWr 0 cs).length<=7/\K ⟨.tup (.ptr (2000000+8*t) 0 0::rs.map ofD.one),frz hp ns++(sWr (2000000+8*t+1) cs++[(2000000+8*t,.box (sAv (2000000+8*t+1) cs) false)]),some (2000000+8*t)⟩)
theorem zAa {P:Program} {f:FuncId} {st:Bool} {xs:List AV} {hp:Nat->Option Blk} {dst:Option Tmp} {ds:List D} {ns:List Nat} {K:Eff->Prop} {d:D}
  (h:zAj P f ds d) (k:bif scalar d then K ⟨ofD d,[],none⟩ else K ⟨ofD d,frz hp ns,none⟩):zR P f st xs hp dst ds ns K:=⟨.inl ⟨d,h,k⟩⟩
theorem zAn {P:Program} {f:FuncId} {st:Bool} {xs:List AV} {hp:Nat->Option Blk} {t:Tmp} {ds:List D} {ns:List Nat} {K:Eff->Prop} {l:List (List D)} {sz:Nat}
  (h:zDt P f ds l sz) (k:K ⟨.own t,frz hp ns++[(t,.row l sz false)],some t⟩):zR P f st xs hp (some t) ds ns K:=⟨.inr (.inl ⟨l,sz,t,h,rfl,k⟩)⟩
theorem zIw {P:Program} {f:FuncId} {xs:List AV} {hp:Nat->Option Blk} {dst:Option Tmp} {ds:List D} {ns:List Nat} {K:Eff->Prop} {e:Eff}
  (h:zOj P f xs hp e) (k:K e):zR P f true xs hp dst ds ns K:=⟨.inr (.inr (.inl ⟨rfl,e,h,k⟩))⟩
theorem zLd {P:Program} {f:FuncId} {st:Bool} {xs:List AV} {hp:Nat->Option Blk} {t:Tmp} {ds:List D} {ns:List Nat} {K:Eff->Prop} {cs:List SC}
  (h:yIm P f ds cs) (hn:(sWr 0 cs).length<=8) (k:K ⟨.agg (sAv (2000000+8*t) cs),frz hp ns++sWr (2000000+8*t) cs,some (2000000+8*t)⟩):zR P f st xs hp (some t) ds ns K:=⟨.inr (.inr (.inr (.inl ⟨cs,t,h,rfl,hn,k⟩)))⟩
theorem zF {P:Program} {f:FuncId} {st:Bool} {xs:List AV} {hp:Nat->Option Blk} {t:Tmp} {ds:List D} {ns:List Nat} {K:Eff->Prop} {cs:List SC} {rs:List D}
  (h:yGb P f ds cs rs) (hn:(sWr 0 cs).length<=7) (k:K ⟨.tup (.ptr (2000000+8*t) 0 0::rs.map ofD.one),frz hp ns++(sWr (2000000+8*t+1) cs++[(2000000+8*t,.box (sAv (2000000+8*t+1) cs) false)]),some (2000000+8*t)⟩):
  zR P f st xs hp (some t) ds ns K:=⟨.inr (.inr (.inr (.inr ⟨cs,rs,t,h,rfl,hn,k⟩)))⟩
def yVc (P:Program) (f:FuncId) (xs:List AV) (hp:Nat->Option Blk) (b:Bool):Prop:=
 (∃ fn,P.funcs[f]?=some fn/\fn.body.isSome=false) /\ ∀ (own:Nat->Prop) (M:Mem) (ι:Inj) (w:World) (vs:Array Value),zBj M w->HRel own M ι hp w->yPg M ι xs vs->(callFunc f vs).run P w=.ok (.value (.bool b)) w
structure yGi (P:Program) (f:FuncId) (xs:List AV) (hp:Nat->Option Blk) (K:Eff->Prop):Prop where
 out:(∃ e,zOj P f xs hp e/\K e) \/ ∃ b,yVc P f xs hp b/\K ⟨.d (.bool b),[],none⟩
theorem yBy {P:Program} {f:FuncId} {xs:List AV} {hp:Nat->Option Blk} {K:Eff->Prop} {e:Eff} (h:zOj P f xs hp e) (k:K e):yGi P f xs hp K:=⟨.inl ⟨e,h,k⟩⟩
theorem z4f {P:Program} {f:FuncId} {xs:List AV} {hp:Nat->Option Blk} {K:Eff->Prop} {b:Bool} (h:yVc P f xs hp b) (k:K ⟨.d (.bool b),[],none⟩):yGi P f xs hp K:=⟨.inr ⟨b,h,k⟩⟩
def yJj:AV->Option (FuncId×List D)
 | .d (.fn f c)=>some (f,c)
 |_=>none
def isPtr:AV->Bool
 | .ptr _ _ _=>true
 | .win _ _ _ _=>true
 |_=>false
def evs (ρ:Operand->AV):List Operand->List AV
 | []=>[]
 |x::r=>ρ x::evs ρ r
def yIs:List AV->Bool
 | []=>false
 |x::r=>bif isPtr x then true else yIs r
def val (K:Eff->Prop) (v:AV):Prop:=K ⟨v,[],none⟩
def yVp (T : Tab) (P : Program) (o : Oper) (c : Call) (ρ : Operand → AV) (hp : Nat → Option Blk) (K : Eff → Prop) : Prop :=
  match c.callee with
  | .builtin b => match b with
    | .len => match c.args.toList with
      | [x] => match c.argTypes.toList with
        | [t] => lenA T t (ρ x) hp (val K)
        | _ => False
      | _ => False
    | .min => match c.args.toList with
      | [x, y] => match ρ x with
        | .d (.int k a) => match ρ y with
          | .d (.int k' b) => bif Nat.beq (zFw k) (zFw k') then K ⟨.d (.int k (min a b)), [], none⟩ else False
          | _ => False
        | _ => False
      | _ => False
    | .max => match c.args.toList with
      | [x, y] => match ρ x with
        | .d (.int k a) => match ρ y with
          | .d (.int k' b) => bif Nat.beq (zFw k) (zFw k') then K ⟨.d (.int k (max a b)), [], none⟩ else False
          | _ => False
        | _ => False
      | _ => False
    | .append => match c.args.toList with
      | [x, y] => match c.argTypes.toList with
        | [t, t2] => match (T t2).k with
         | .slice _ => match (T t).k with
          | .slice e => zZy (T e).size (ρ y) hp fun src => match ρ x with
            | .nil => match o.dst with
              | some d => zTi src.length (T e).bytes (K ⟨.own d, [(d, .row src (T e).size false)], some d⟩)
              | none => False
            | .own b => match hp b with
              | some (.row l sz false) => bif Nat.beq sz (T e).size then zTi (l.length + src.length) (T e).bytes (K ⟨.own b, [(b, .row (l ++ src) sz false)], some b⟩) else False
              | _ => False
            | .win b lo n (some c) => z0k T e b lo n c src hp o.dst K
            | _ => False
          | _ => False
         | .int _ => match (T t).k with
          | .slice e => match ρ x with
            | .win b lo n (some c) => match ρ y with
              | .d (.int _ k) => z8a T e b lo n c k hp o.dst K
              | _ => False
            | .nil => match ρ y with
              | .d (.int _ k) => z7y T e k o.dst K
              | _ => False
            | _ => False
          | _ => False
         | _ => False
        | _ => False
      | _ => False
    | .cap => match c.args.toList with
      | [x] => match c.argTypes.toList with
        | [t] => match (T t).k with
          | .slice _ => match ρ x with
            | .win b _ _ (some c) => match hp b with
              | some _ => K ⟨.d (.int .i64 c), [], none⟩
              | none => False
            | .nil => K ⟨.d (.int .i64 0), [], none⟩
            | _ => False
          | _ => False
        | _ => False
      | _ => False
    | .copy => match c.args.toList with
      | [x, y] => match c.argTypes.toList with
        | [t, t2] => match (T t).k with
          | .slice e => yVw T e (ρ x) (ρ y) hp K
          | _ => False
        | _ => False
      | _ => False
    | .clear => match c.args.toList with
      | [x] => match c.argTypes.toList with
        | [t] => match (T t).k with
          | .slice e => yJp T e (ρ x) hp K
          | _ => False
        | _ => False
      | _ => False
    | _ => False
  | .value f => match f with
    | .func f => bif yIs (evs ρ c.args.toList) then yGi P f (evs ρ c.args.toList) hp K else zNj hp ρ c.args.toList fun ds ns => zR P f true (evs ρ c.args.toList) hp o.dst ds ns K
    | .tmp t => match yJj (ρ (.tmp t)) with
      | some (f, cs) => zNj hp ρ c.args.toList fun ds ns => zR P f false [] hp o.dst (ds ++ cs) ns K
      | none => False
    | _ => False
  | _ => False
def zMg (c:List AV) (j:Nat) (v:AV) (K:List AV->Prop):Prop:=
 match v with
 | .agg l=>bif Nat.beq l.length c.length then forceL l K else K (spliceF c j l)
 |v=>K (zAy c j [v])
def zYl:List (List D)->Option (List Int)
 | []=>some []
 |e::r=>match e with
  | [.int k n]=>bif Nat.beq (zFw k) 4 then (match zYl r with
   |some ns=>some (n::ns)
   |none=>none) else none
  |_=>none
def bstr (ns:List Int):ByteArray:=ns.foldl (fun r n=>r.push (UInt8.ofNat n.toNat)) ByteArray.empty
def z6g (bo:BinOp) (K:Eff->Prop) (r:Bool):Prop:=
 match bo with
 | .eql=>K ⟨.d (.bool r),[],none⟩
 | .neq=>K ⟨.d (.bool (!r)),[],none⟩
 |_=>False
def yNh (bo:BinOp) (x y:AV) (hp:Nat->Option Blk) (K:Eff->Prop):Prop:=
 match y with
 | .d .nilp=>match x with
  | .ptr b _ _=>match hp b with
   |some _=>z6g bo K false
   |none=>False
  | .d .nilp=>z6g bo K true
  |_=>False
 |_=>False
def opG (T:Tab) (P:Program) (o:Oper) (ρ:Operand->AV) (hp:Nat->Option Blk) (K:Eff->Prop):Prop:=
 match o.op with
 | .move x=>force (ρ x) (val K)
 | .assign x=>force (ρ x) (val K)
 | .pick c a b=>match ρ c with
  | .tt=>force (ρ a) (val K)
  | .ff=>force (ρ b) (val K)
  | .d (.bool c)=>zJy c (force (ρ a) (val K)) (force (ρ b) (val K))
  |_=>False
 | .load t a=>yLz T t (ρ a) hp (val K)
 | .nilCheck x=>match ρ x with
  | .ptr b i j=>match hp b with
   |some _=>K ⟨.ptr b i j,[],none⟩
   |none=>False
  | .d (.dp c j)=>K ⟨.d (.dp c j),[],none⟩
  |_=>False
 | .binOp op t x y _=>match (T t).k with
  | .ptr _=>yNh op (ρ x) (ρ y) hp K
  |_=>binA T t op (ρ x) (ρ y) (val K)
 | .unOp op _ x=>match op with
  | .not=>match ρ x with
   | .d (.bool b)=>K ⟨.d (.bool (!b)),[],none⟩
   | .tt=>K ⟨.ff,[],none⟩
   | .ff=>K ⟨.tt,[],none⟩
   |_=>False
  | .xor=>match ρ x with
   | .d (.int k n)=>K ⟨.d (.int k (zIh .xor k (if k.signed then-1 else k.max) n)),[],none⟩
   |_=>False
  |_=>False
 | .convert src dst x=>match (T dst).k with
  | .int k=>match (T src).k with
   | .int _=>match ρ x with
    | .d (.int _ n)=>z3u k n fun n=>K ⟨.d (.int k n),[],none⟩
    |_=>False
   |_=>False
  | .str=>match (T src).k with
   | .slice e=>match (T e).k with
    | .int ik=>bif Nat.beq (zFw ik) 4 then zZy 1 (ρ x) hp fun l=>(match zYl l with
     |some ns=>K ⟨.d (.str (bstr ns)),[],none⟩
     |none=>False) else False
    |_=>False
   |_=>False
  |_=>False
 | .slice t x lo hi mx=>zMe ρ lo fun lo=>zMe ρ hi fun hi=>zMe ρ mx fun mx=>yNz T t (ρ x) hp lo hi mx K
 | .fieldAddr s x f=>match ρ x with
  | .ptr b i j=>match hp b with
   |some _=>zPd T s f fun o _=>K ⟨.ptr b i (j+o),[],none⟩
   |none=>False
  | .d (.dp c j)=>zPd T s f fun o _=>K ⟨.d (.dp c (j+o)),[],none⟩
  |_=>False
 | .field s x f=>match ρ x with
  | .agg c=>zPd T s f fun o t=>z6o (T t).k.agg (T t).size c o (val K)
  |_=>False
 | .indexAddr t x i=>zRp T t (ρ x) (ρ i) hp (val K)
 | .index t x i=>yLj T t (ρ x) (ρ i) (val K)
 | .extract x i=>match ρ x with
  | .tup c=>getC c i (val K)
  |_=>False
 | .build t ps=>match (T t).k with
  | .struct fs=>zPy hp ρ (yRg T fs) ((T t).zero.map zA) ps.toList fun c=>forceL c fun c=>K ⟨.agg c,[],none⟩
  | .arr _ e=>zPy hp ρ (fun i=>some (i*(T e).size,(T e).size)) ((T t).zero.map zA) ps.toList fun c=>K ⟨.agg c,[],none⟩
  |_=>False
 | .alloc t=>match o.dst with
  |some d=>bif (T t).k.known then forceL ((T t).zero.map zA) fun c=>K ⟨.ptr d 0 0,[(d,.box c false)],some d⟩ else False
  |none=>False
 | .box _ x=>match o.dst with
  |some d=>force (ρ x) fun v=>bif zEj hp (cellsOf v) then forceL (zBl.cells d (cellsOf v)) fun c=>K ⟨.ptr d 0 0,[(d,.box c false)],some d⟩ else False
  |none=>False
 | .store t a x=>match ρ a with
  | .ptr b i j=>match hp b with
   |some (.box c false)=>force (ρ x) fun v=>zEr (i=0) (bif (T t).k.known&&Nat.beq (cellsOf v).length (T t).size then (bif zEj hp (cellsOf v) then (bif Nat.ble (j+(T t).size) c.length then zMg c j v fun c=>K ⟨.dead,[(b,.box c false)],none⟩ else False) else False) else False)
   |some (.row l sz false)=>force (ρ x) fun v=>match conv.cells hp (cellsOf v) with
    |some xs=>bif (T t).k.known&&Nat.beq (cellsOf v).length (T t).size&&!memN b (zAp.cells hp (cellsOf v)) then (bif zEj hp (cellsOf v) then zZa l i fun e=>bif Nat.ble (j+(T t).size) e.length then K ⟨.dead,frz hp (zAp.cells hp (cellsOf v))++[(b,.row (l.set i (zAy e j xs)) sz false)],none⟩ else False else False) else False
    |none=>False
   |_=>False
  |_=>False
 | .makeSlice t n c=>match o.dst with
  |some d=>match (T t).k with
   | .slice e=>match ρ n with
    | .d (.int _ n)=>match ρ c with
     | .d (.int _ c)=>zEr (0<=n/\n<=c) (zTi c.toNat (T e).bytes (K ⟨.own d,[(d,.row (List.replicate n.toNat (T e).zero) (T e).size false)],some d⟩))
     |_=>False
    |_=>False
   |_=>False
  |none=>False
 | .buildSlice t n ps=>match o.dst with
  |some d=>match (T t).k with
   | .slice e=>zPy hp ρ (fun i=>some (i*(T e).size,(T e).size)) (yIc T e n) ps.toList fun c=>zEr (n*(T e).size<=16777216) (match conv.cells hp c with
    |some xs=>K ⟨.own d,frz hp (zAp.cells hp c)++[(d,.row (chunk (T e).size n xs) (T e).size false)],some d⟩
    |none=>False)
   |_=>False
  |none=>False
 | .makeFunc fn first cap=>match fn with
  | .func f=>bif Nat.beq first.size 0 then (match capsF hp (evs ρ cap.toList) with
   |some (cs,ws)=>K ⟨.d (.fn f cs),ws,none⟩
   |none=>False) else False
  |_=>False
 | .call c=>yVp T P o c ρ hp K
 |_=>False
 where
 chunk (sz:Nat):Nat->List D->List (List D)
  |0,_=>[]
  |n+1,xs=>xs.take sz::chunk sz n (xs.drop sz)
 capsF (hp:Nat->Option Blk):List AV->Option (List D×List (Nat×Blk))
  | []=>some ([],[])
  | .ptr b i j::r=>match hp b with
   |some (.box c _)=>bif Nat.beq i 0 then (match conv.pures c with
    |some ds=>(match capsF hp r with
     |some (cs,ws)=>some (.dp ds j::cs,(b,.box c true)::ws)
     |none=>none)
    |none=>none) else none
   |_=>none
  |x::r=>match conv.pure1 x with
   |some d=>(match capsF hp r with
    |some (cs,ws)=>some (d::cs,ws)
    |none=>none)
   |none=>none
structure nilK (l:List (List D)) (K:Bool->Prop):Prop where
 out:∀ r:Bool,(r=true->l=[])->K r
theorem zDn {l:List (List D)} {K:Bool->Prop} (h:∀ r:Bool,(r=true->l=[])->K r):nilK l K:=⟨h⟩
def yDg:Operand->Bool
 | .const (.slice none 0 0)=>true
 |_=>false
def yMm (x:AV) (hp:Nat->Option Blk) (K:Bool->Prop):Prop:=
 match x with
 | .d (.lst l)=>nilK l K
 | .nil=>nilK [] K
 | .own b=>match hp b with
  |some (.row l _ _)=>nilK l K
  |_=>False
 |_=>False
def opN (T:Tab) (P:Program) (o:Oper) (ρ:Operand->AV) (hp:Nat->Option Blk) (K:Eff->Prop):Prop:=
 match o.op with
 | .binOp bo t x y z=>match (T t).k with
  | .slice _=>bif yDg y then yMm (ρ x) hp (z6g bo K) else False
  |_=>opG T P o ρ hp K
 |_=>opG T P o ρ hp K
def step (tm:Nat->AV) (hp:Nat->Option Blk) (dst:Option Tmp) (e:Eff) (K:zAo->Prop):Prop:=
 match e with
 |⟨av,wr,kl⟩=>match kl with
  |none=>match wr with
   | []=>match dst with
    |none=>K ⟨tm,hp⟩
    |some t=>K ⟨upd tm t av,hp⟩
   |(b,B)::r=>match dst with
    |none=>K ⟨tm,zBa (upd hp b (some B)) r⟩
    |some t=>K ⟨upd tm t av,zBa (upd hp b (some B)) r⟩
  |some k=>bif Nat.ble 1000000 k&&Nat.ble k 1000003 then False else match dst with
   |none=>K ⟨zRt (some k) tm,zBa (zD (some k) hp) wr⟩
   |some t=>K ⟨upd (zRt (some k) tm) t av,zBa (zD (some k) hp) wr⟩
def putT (tm:Nat->AV) (dst:Option Tmp) (av:AV):Nat->AV:=
 match dst with
 |none=>tm
 |some t=>upd tm t av
theorem zQl {tm:Nat->AV} {hp:Nat->Option Blk} {dst:Option Tmp} {e:Eff} {K:zAo->Prop} (h:step tm hp dst e K):
  (∀ k,e.kl=some k->¬(1000000<=k/\k<1000004)) /\K ⟨putT (zRt e.kl tm) dst e.av,e.hp hp⟩:=by
 obtain ⟨av,wr,kl⟩:=e
 cases kl with
 |none=>
  refine ⟨fun k h=>(by cases h),?_⟩
  cases dst<;>cases wr<;>exact h
 |some k=>
  cases hk:(Nat.ble 1000000 k&&Nat.ble k 1000003) with
  |true=>simp [step,hk] at h
  |false=>
   simp only [step,hk,cond_false] at h;refine ⟨fun k' e=>?_,?_⟩
   ·have:k=k':=by simpa using e
    subst this;rintro ⟨h1,h2⟩;rw [Nat.ble_eq_true_of_le h1,Nat.ble_eq_true_of_le (show k<=1000003 by omega)] at hk
    cases hk
   ·cases dst<;>exact h
def yYu (T:Tab) (P:Program) (all:Array Oper) (o:Oper) (ih:zAo->(zAo->Prop)->Prop) (st:zAo) (K:zAo->Prop):Prop:=
 match st with
  |⟨tm,hp⟩=>match o.guard with
   |none=>opN T P o (evT tm) hp fun e=>step tm hp o.dst e fun st=>ih st K
   |some (g,want)=>match (all[g]?).bind (·.dst) with
    |none=>False
    |some t=>match tm t with
     | .tt=>bif want then opN T P o (evT tm) hp fun e=>step tm hp o.dst e fun st=>ih st K else step tm hp o.dst ⟨.tup [],[],none⟩ fun st=>ih st K
     | .ff=>bif want then step tm hp o.dst ⟨.tup [],[],none⟩ fun st=>ih st K else opN T P o (evT tm) hp fun e=>step tm hp o.dst e fun st=>ih st K
     | .d (.bool b)=>zJy b
      (bif want then opN T P o (evT (upd tm t .tt)) hp fun e=>step (upd tm t .tt) hp o.dst e fun st=>ih st K else step (upd tm t .tt) hp o.dst ⟨.tup [],[],none⟩ fun st=>ih st K)
      (bif want then step (upd tm t .ff) hp o.dst ⟨.tup [],[],none⟩ fun st=>ih st K else opN T P o (evT (upd tm t .ff)) hp fun e=>step (upd tm t .ff) hp o.dst e fun st=>ih st K)
     | .tup []=>step tm hp o.dst ⟨.tup [],[],none⟩ fun st=>ih st K
     |_=>False
noncomputable def AOps (T:Tab) (P:Program) (all:Array Oper) (l:List Oper):zAo->(zAo->Prop)->Prop:=
 List.rec (motive:=fun _=>zAo->(zAo->Prop)->Prop) (fun st K=>K st) (fun o _ ih=>yYu T P all o ih) l
theorem yPc {T:Tab} {P:Program} {all:Array Oper} {st:zAo} {K:zAo->Prop}:AOps T P all [] st K=K st:=rfl
theorem yIe {T:Tab} {P:Program} {all:Array Oper} {o:Oper} {r:List Oper} {st:zAo} {K:zAo->Prop}:AOps T P all (o::r) st K=yYu T P all o (AOps T P all r) st K:=rfl
def readsL (op:Op):List Operand:=
 match op with
 | .move x=>[x]
 | .assign x=>[x]
 | .pick c a b=>[c,a,b]
 | .load _ a=>[a]
 | .nilCheck x=>[x]
 | .binOp _ _ x y _=>[x,y]
 | .unOp _ _ x=>[x]
 | .convert _ _ x=>[x]
 | .slice _ x lo hi mx=>x::(opt lo++(opt hi++opt mx))
 | .fieldAddr _ x _=>[x]
 | .field _ x _=>[x]
 | .indexAddr _ x i=>[x,i]
 | .index _ x i=>[x,i]
 | .extract x _=>[x]
 | .build _ ps=>snd ps.toList
 | .box _ x=>[x]
 | .store _ a x=>[a,x]
 | .makeSlice _ n c=>[n,c]
 | .buildSlice _ _ ps=>snd ps.toList
 | .makeFunc _ _ cap=>cap.toList
 | .call c=>match c.callee with
  | .value f=>f::c.args.toList
  |_=>c.args.toList
 |_=>[]
 where
 opt:Option Operand->List Operand
  |none=>[]
  |some x=>[x]
 snd:List (Nat×Operand)->List Operand
  | []=>[]
  |(_,x)::r=>x::snd r
def z3l:List Operand->List Nat
 | []=>[]
 | .tmp t::r=>t::z3l r
 |_::r=>z3l r
def zHs (rd:List Nat) (tm:Nat->AV) (t:Nat):AV:=bif memN t rd then tm t else .dead
def zHr (F:List Nat) (hp:Nat->Option Blk) (b:Nat):Option Blk:=bif memN b F then hp b else none
def zAv:AV->Option (List Nat)
 | .agg c=>cells c
 | .tup c=>parts c
 | .fn _ c=>cells c
 |x=>one x
 where
 one:AV->Option (List Nat)
  | .d _=>some []
  | .tt=>some []
  | .ff=>some []
  | .nil=>some []
  | .own b=>some [b]
  | .ptr b _ _=>some [b]
  | .win b _ _ _=>some [b]
  |_=>none
 cells:List AV->Option (List Nat)
  | []=>some []
  |x::r=>match one x with
   |some a=>match cells r with
    |some b=>some (a++b)
    |none=>none
   |none=>none
 part:AV->Option (List Nat)
  | .agg c=>cells c
  |x=>one x
 parts:List AV->Option (List Nat)
  | []=>some []
  |x::r=>match part x with
   |some a=>match parts r with
    |some b=>some (a++b)
    |none=>none
   |none=>none
def zFg:Blk->Option (List Nat)
 | .row _ _ _=>some []
 | .box c _=>zAv.cells c
def subN:List Nat->List Nat->Bool
 | [],_=>true
 |x::r,F=>bif memN x F then subN r F else false
def disN:List Nat->List Nat->Bool
 | [],_=>true
 |x::r,F=>bif memN x F then false else disN r F
def inO (o:Option (List Nat)) (F:List Nat):Bool:=
 match o with
 |some ns=>subN ns F
 |none=>false
def yMi (tm:Nat->AV):List Nat->Option (List Nat)
 | []=>some []
 |t::r=>match zAv (tm t) with
  |some a=>match yMi tm r with
   |some b=>some (a++b)
   |none=>none
  |none=>none
def z4o (hp:Nat->Option Blk):Nat->List Nat->List Nat->List Nat
 |0,_,seen=>seen
 |n+1,todo,seen=>match todo with
  | []=>seen
  |b::r=>bif memN b seen then z4o hp n r seen else match hp b with
   |some B=>match zFg B with
    |some ns=>z4o hp n (ns++r) (b::seen)
    |none=>[]
   |none=>z4o hp n r (b::seen)
def zLo (l:List Nat) (K:List Nat->Prop):Prop:=
 match l with
 | []=>K []
 |x::r=>zLo r fun r=>K (x::r)
def yGr (tm:Nat->AV) (rd F:List Nat):Bool:=
 match rd with
 | []=>true
 |t::r=>bif inO (zAv (tm t)) F then yGr tm r F else false
def z9e (hp:Nat->Option Blk) (F G:List Nat):Bool:=
 match G with
 | []=>true
 |b::r=>match hp b with
  |some B=>bif inO (zFg B) F then z9e hp F r else false
  |none=>z9e hp F r
def zEt:List (Nat×Blk)->List Nat
 | []=>[]
 |(b,_)::r=>b::zEt r
def effW (e:Eff):List Nat:=
 match e.kl with
 |some k=>k::zEt e.wr
 |none=>zEt e.wr
def wrOk (F:List Nat):List (Nat×Blk)->Bool
 | []=>true
 |(b,B)::r=>bif memN b F&&inO (zFg B) F then wrOk F r else false
def avOk (F:List Nat) (dst:Option Tmp) (av:AV):Bool:=
 match dst with
 |none=>true
 |some _=>match av with
  | .dead=>true
  |v=>inO (zAv v) F
def yQ (F:List Nat) (dst:Option Tmp) (e:Eff):Bool:=
 match e.kl with
 |none=>wrOk F e.wr&&avOk F dst e.av
 |some k=>(Nat.ble k 1999999||!Nat.beq (k%8) 0)&&memN k (zEt e.wr)&&wrOk (k::F) e.wr&&avOk (k::F) dst e.av
structure Summ where
 dst:Option Tmp
 rd:List Nat
 F:List Nat
 W:List Nat
 bl:Bool
 k:List Nat
 wd:Bool
def zNs:Op->Bool
 | .move _=>true
 | .assign _=>true
 | .pick _ _ _=>true
 |_=>false
def klOf (e:Eff):List Nat:=
 match e.kl with
 |some k=>[k]
 |none=>[]
def isG (all:Array Oper) (dst:Option Tmp):List Oper->Bool
 | []=>false
 |o::r=>match o.guard with
  |some (g,_)=>match (all[g]?).bind (·.dst) with
   |some t=>match dst with
    |some d=>bif Nat.beq t d then true else isG all dst r
    |none=>false
   |none=>isG all dst r
  |none=>isG all dst r
def zXj (g:Bool) (e:Eff) (K:Eff->Prop):Prop:=
 match g with
 |false=>K e
 |true=>match e with
  |⟨av,wr,kl⟩=>match av with
   | .d (.bool b)=>zJy b (K ⟨.tt,wr,kl⟩) (K ⟨.ff,wr,kl⟩)
   |av=>K ⟨av,wr,kl⟩
def zWw (op:Op) (tm:Nat->AV):List Operand:=
 match op with
 | .pick c a b=>match evT tm c with
  | .tt=>[c,a]
  | .ff=>[c,b]
  |_=>[c,a,b]
 |op=>readsL op
def yWh (bl:Bool) (tm:Nat->AV) (hp:Nat->Option Blk) (rd:List Nat) (K:List Nat->Prop) (K2:Prop):Prop:=
 match yMi tm rd with
 |some ns=>zLo (bif bl then ns else z4o hp 200 ns []) fun F=>bif yGr tm rd F&&(bif bl then true else z9e hp F F) then K F else K2
 |none=>K2
def opD (T:Tab) (P:Program) (o:Oper) (g:Bool) (gs:List Nat) (tm:Nat->AV) (hp:Nat->Option Blk) (K:Eff->Summ->Prop):Prop:=
 zLo (z3l (zWw o.op tm)) fun rd=>yWh (zNs o.op) tm hp rd (fun F=>opG T P o (evT (zHs rd tm)) (zHr F hp) fun e=>
  bif yQ F o.dst e then zLo (effW e) fun W=>zLo (gs++rd) fun rg=>zXj g e fun e=>K e ⟨o.dst,rg,F,W,zNs o.op,klOf e,false⟩ else False)
  (opG T P o (evT (zHs rd tm)) hp fun e=>zLo (effW e) fun W=>zLo (gs++rd) fun rg=>zXj g e fun e=>K e ⟨o.dst,rg,[],W,false,klOf e,true⟩)
def yRc (d:Option Tmp) (l:List Nat):Bool:=
 match d with
 |some d=>!memN d l
 |none=>true
def notEq (d e:Option Tmp):Bool:=
 match d with
 |some d=>match e with
  |some e=>!Nat.beq d e
  |none=>true
 |none=>true
def yGu (x y:Summ):Bool:=!x.wd&&!y.wd&&(yRc x.dst y.rd&&notEq x.dst y.dst&&yRc y.dst x.rd&&disN x.W y.W&&disN (bif y.bl then x.k else x.W) y.F&&disN (bif x.bl then y.k else y.W) x.F)
def zOq (e:Edge):Bool:=
 match e.ground with
 | .textOnly _=>false
 | .gcOnly _=>false
 |_=>true
def zIp (pm:List Nat):List Edge->Nat
 | []=>0
 |e::r=>bif zOq e then Nat.lor (Nat.lor (2^e.on) (pm.getD e.on 0)) (zIp pm r) else zIp pm r
def zYj (i:Nat):List Edge->Bool
 | []=>true
 |e::r=>bif zOq e then (bif Nat.blt e.on i then zYj i r else false) else zYj i r
def z2b (s:Summ) (p:Nat):Nat->List Summ->Bool
 |_,[]=>true
 |m,x::r=>bif Nat.testBit p m||yGu x s then z2b s p (m+1) r else false
def zJa:List Oper->List Summ->Nat->List Summ->List Nat->Bool
 | [],[],_,_,_=>true
 |o::r,s::q,i,done,pm=>zYj i o.after.toList&&z2b s (zIp pm o.after.toList) 0 done&&zJa r q (i+1) (done++[s]) (pm++[zIp pm o.after.toList])
 |_,_,_,_,_=>false
def stD (ih:(Nat->AV)->(Nat->Option Blk)->List Summ->(zAo->Prop)->Prop) (st:zAo) (acc:List Summ) (K:zAo->Prop):Prop:=
 match st with
 |⟨tm,hp⟩=>ih tm hp acc K
def yYv (T:Tab) (P:Program) (all:Array Oper) (o:Oper) (ih:(Nat->AV)->(Nat->Option Blk)->List Summ->(zAo->Prop)->Prop) (tm:Nat->AV) (hp:Nat->Option Blk) (acc:List Summ) (K:zAo->Prop):Prop:=
 match o.guard with
  |none=>opD T P o (isG all o.dst all.toList) [] tm hp fun e s=>step tm hp o.dst e fun st=>stD ih st (acc++[s]) K
  |some (g,want)=>match (all[g]?).bind (·.dst) with
   |none=>False
   |some t=>match tm t with
    | .tt=>bif want then opD T P o (isG all o.dst all.toList) [t] tm hp fun e s=>step tm hp o.dst e fun st=>stD ih st (acc++[s]) K else step tm hp o.dst ⟨.tup [],[],none⟩ fun st=>stD ih st (acc++[⟨o.dst,[t],[],[],false,[],false⟩]) K
    | .ff=>bif want then step tm hp o.dst ⟨.tup [],[],none⟩ fun st=>stD ih st (acc++[⟨o.dst,[t],[],[],false,[],false⟩]) K else opD T P o (isG all o.dst all.toList) [t] tm hp fun e s=>step tm hp o.dst e fun st=>stD ih st (acc++[s]) K
    | .d (.bool b)=>zJy b
     (bif want then opD T P o (isG all o.dst all.toList) [t] tm hp fun e s=>step tm hp o.dst e fun st=>stD ih st (acc++[s]) K else step tm hp o.dst ⟨.tup [],[],none⟩ fun st=>stD ih st (acc++[⟨o.dst,[t],[],[],false,[],false⟩]) K)
     (bif want then step tm hp o.dst ⟨.tup [],[],none⟩ fun st=>stD ih st (acc++[⟨o.dst,[t],[],[],false,[],false⟩]) K else opD T P o (isG all o.dst all.toList) [t] tm hp fun e s=>step tm hp o.dst e fun st=>stD ih st (acc++[s]) K)
    | .tup []=>step tm hp o.dst ⟨.tup [],[],none⟩ fun st=>stD ih st (acc++[⟨o.dst,[t],[],[],false,[],false⟩]) K
    |_=>False
noncomputable def zUi (T:Tab) (P:Program) (all:Array Oper) (l:List Oper):(Nat->AV)->(Nat->Option Blk)->List Summ->(zAo->Prop)->Prop:=
 List.rec (motive:=fun _=>(Nat->AV)->(Nat->Option Blk)->List Summ->(zAo->Prop)->Prop) (fun tm hp acc K=>zEr (zJa all.toList acc 0 [] []=true) (K ⟨tm,hp⟩))
  (fun o _ ih=>yYv T P all o ih) l
theorem yG {T:Tab} {P:Program} {all:Array Oper} {o:Oper} {r:List Oper} {tm:Nat->AV} {hp:Nat->Option Blk} {acc:List Summ} {K:zAo->Prop}:zUi T P all (o::r) tm hp acc K=yYv T P all o (zUi T P all r) tm hp acc K:=rfl
theorem stD_eq {ih:(Nat->AV)->(Nat->Option Blk)->List Summ->(zAo->Prop)->Prop} {st:zAo} {acc:List Summ} {K:zAo->Prop}:stD ih st acc K=ih st.tm st.hp acc K:=rfl
inductive zHy where
 |normal|exit (id:Nat)|ret
def K4 (s st:Nat->Option Blk):Prop:=s 1000000=st 1000000/\s 1000001=st 1000001/\s 1000002=st 1000002/\s 1000003=st 1000003
def Le (s st:zAo):Prop:=(∀ t,s.tm t=.dead\/s.tm t=st.tm t) /\ (∀ b,s.hp b=none\/s.hp b=st.hp b) /\K4 s.hp st.hp
def stL (l:List (Nat×AV)) (h:List (Nat×Blk)):zAo:=⟨tmL l,hpL h⟩
 where
 tmL (l:List (Nat×AV)) (s:Nat):AV:=
  match l with
  | []=>.dead
  |(t,v)::r=>bif Nat.beq s t then v else tmL r s
 hpL (l:List (Nat×Blk)) (s:Nat):Option Blk:=
  match l with
  | []=>none
  |(t,v)::r=>bif Nat.beq s t then some v else hpL r s
def covT (tm:Nat->AV):List (Nat×AV)->Prop
 | []=>True
 |(t,v)::r=>tm t=v/\covT tm r
def covH (hp:Nat->Option Blk):List (Nat×Blk)->Prop
 | []=>True
 |(t,v)::r=>hp t=some v/\covH hp r
theorem le_tm {tm:Nat->AV} {l:List (Nat×AV)} (hT:covT tm l) (t:Nat):stL.tmL l t=.dead\/stL.tmL l t=tm t:=by
 induction l with
 |nil=>exact .inl rfl
 |cons p r ih=>
  obtain ⟨s,v⟩:=p;simp only [stL.tmL]
  cases hb:Nat.beq t s with
  |true=>
   have:t=s:=Nat.eq_of_beq_eq_true hb;subst this;exact .inr hT.1.symm
  |false=>exact ih hT.2
theorem le_hp {hp:Nat->Option Blk} {h:List (Nat×Blk)} (hH:covH hp h) (b:Nat):stL.hpL h b=none\/stL.hpL h b=hp b:=by
 induction h with
 |nil=>exact .inl rfl
 |cons p r ih=>
  obtain ⟨s,v⟩:=p;simp only [stL.hpL]
  cases hb:Nat.beq b s with
  |true=>
   have:b=s:=Nat.eq_of_beq_eq_true hb;subst this;exact .inr hH.1.symm
  |false=>exact ih hH.2
theorem zAb {l:List (Nat×AV)} {h:List (Nat×Blk)} {st:zAo} (hT:covT st.tm l) (hH:covH st.hp h) (hK:K4 (stL.hpL h) st.hp):Le (stL l h) st:=by
 refine ⟨fun t=>?_,fun b=>?_,hK⟩
 case refine_1=>clear hK;exact le_tm hT t
 case refine_2=>clear hK hT;exact le_hp hH b
inductive NilK where
 |row (t b sz:Nat)
 |lst (t:Nat)
 |cell (bx j b sz:Nat)
 |wk (t:Nat) (y:AV)
 |wkc (bx j:Nat) (y:AV)
 |frz (b:Nat) (l:List (List D)) (sz:Nat)
 |sd (t b:Nat) (l:List (List D)) (sz:Nat)
 |cd (bx j b:Nat) (l:List (List D)) (sz:Nat)
structure WkA (x y:AV):Prop where
 out:∀ (M:Mem) (ι:Inj) (v:Value),DenA M ι x v->DenA M ι y v
theorem wk_refl (x:AV):WkA x x:=⟨fun _ _ _ h=>h⟩
theorem yZr:WkA .tt (.d (.bool true)):=⟨fun _ _ _ h=>by cases h;exact .d _ _ (.bool true)⟩
theorem wk_ff:WkA .ff (.d (.bool false)):=⟨fun _ _ _ h=>by cases h;exact .d _ _ (.bool false)⟩
theorem wk_nil:WkA .nil (.d (.lst [])):=⟨fun _ _ _ h=>by cases h;exact .d _ _ (.emp _ _)⟩
def nil1 (k:NilK) (st:zAo):zAo:=
 match k with
 | .row t b sz=>⟨upd (zRt (some b) st.tm) t (.own b),upd (zD (some b) st.hp) b (some (.row [] sz false))⟩
 | .lst t=>⟨upd st.tm t (.d (.lst [])),st.hp⟩
 | .cell bx j b sz=>match st.hp bx with
  |some (.box c _)=>⟨zRt (some b) st.tm,upd (upd (zD (some b) st.hp) b (some (.row [] sz false))) bx (some (.box ((zBl.cells b c).set j (.own b)) false))⟩
  |_=>st
 | .wk t y=>⟨upd st.tm t y,st.hp⟩
 | .wkc bx j y=>match st.hp bx with
  |some (.box c _)=>⟨st.tm,upd st.hp bx (some (.box (c.set j y) false))⟩
  |_=>st
 | .frz b l sz=>⟨st.tm,upd st.hp b (some (.row l sz true))⟩
 | .sd t _ l _=>⟨upd st.tm t (.d (.lst l)),st.hp⟩
 | .cd bx j _ l _=>match st.hp bx with
  |some (.box c _)=>⟨st.tm,upd st.hp bx (some (.box (c.set j (.d (.lst l))) false))⟩
  |_=>st
def z6f (k:NilK) (st:zAo):Prop:=
 match k with
 | .row t b _=>st.tm t=.nil/\ (Nat.ble 1000000 b&&Nat.ble b 1000003)=false
 | .lst t=>st.tm t=.nil
 | .cell bx j b _=>(match st.hp bx with
  |some (.box c fr)=>c[j]?=some .nil/\fr=false
  |_=>False) /\Nat.beq bx b=false/\ (Nat.ble 1000000 b&&Nat.ble b 1000003)=false
 | .wk t y=>WkA (st.tm t) y
 | .wkc bx j y=>match st.hp bx with
  |some (.box c fr)=>(∃ x,c[j]?=some x/\WkA x y) /\fr=false
  |_=>False
 | .frz b l sz=>∃ fr,st.hp b=some (.row l sz fr)
 | .sd t b l sz=>st.tm t=.own b/\st.hp b=some (.row l sz true)
 | .cd bx j b l sz=>st.hp b=some (.row l sz true) /\match st.hp bx with
  |some (.box c fr)=>c[j]?=some (.own b) /\fr=false
  |_=>False
def nils:List NilK->zAo->zAo
 | [],st=>st
 |k::r,st=>nils r (nil1 k st)
def yDv:List NilK->zAo->Prop
 | [],_=>True
 |k::r,st=>z6f k st/\yDv r (nil1 k st)
structure LeN (s st:zAo):Prop where
 out:∃ ns,yDv ns st/\Le s (nils ns st)
theorem le0 {s st:zAo} (h:Le s st):LeN s st:=⟨⟨[],trivial,h⟩⟩
theorem le1 {s st:zAo} (k:NilK) (hk:z6f k st) (h:Le s (nil1 k st)):LeN s st:=⟨⟨[k],⟨hk,trivial⟩,h⟩⟩
theorem len {s st:zAo} (ns:List NilK) (hk:yDv ns st) (h:Le s (nils ns st)):LeN s st:=⟨⟨ns,hk,h⟩⟩
structure yVa (body:zAo->(zHy->zAo->Prop)->Prop) (st:zAo) (Q:zHy->zAo->Prop):Prop where
 out:∃ (ι:Type) (S:ι->zAo) (R:ι->Prop) (μ:ι->Nat),(∃ i,R i/\LeN (S i) st) /\
  ∀ i,R i->body (S i) fun e st'=>match e with
   | .normal=>∃ j,R j/\μ j<μ i/\LeN (S j) st'
   |e=>Q e st'
theorem zAq {body:zAo->(zHy->zAo->Prop)->Prop} {st:zAo} {Q:zHy->zAo->Prop} {ι:Type} (l:ι->List (Nat×AV)) (h:ι->List (Nat×Blk)) (R:ι->Prop) (μ:ι->Nat) (i:ι)
  (hi:R i) (h0:LeN (stL (l i) (h i)) st)
  (hr:∀ i,R i->body (stL (l i) (h i)) fun e st'=>match e with
   | .normal=>∃ j,R j/\μ j<μ i/\LeN (stL (l j) (h j)) st'
   |e=>Q e st'):yVa body st Q:=⟨⟨ι,fun i=>stL (l i) (h i),R,μ,⟨i,hi,h0⟩,hr⟩⟩
def seqQ (B:zAo->(zHy->zAo->Prop)->Prop) (Q:zHy->zAo->Prop) (e:zHy) (st:zAo):Prop:=
 match e with
 | .normal=>B st Q
 | .exit i=>Q (.exit i) st
 | .ret=>Q .ret st
def yTj (id:Nat) (Q:zHy->zAo->Prop) (e:zHy) (st:zAo):Prop:=
 match e with
 | .exit i=>bif Nat.beq i id then Q .normal st else Q (.exit i) st
 | .normal=>Q .normal st
 | .ret=>Q .ret st
def yVv (c:Operand) (A B:zAo->(zHy->zAo->Prop)->Prop) (st:zAo) (Q:zHy->zAo->Prop):Prop:=
 match st with
 |⟨tm,hp⟩=>match evT tm c with
  | .tt=>A ⟨tm,hp⟩ Q
  | .ff=>B ⟨tm,hp⟩ Q
  | .d (.bool x)=>zJy x (A ⟨tm,hp⟩ Q) (B ⟨tm,hp⟩ Q)
  |_=>False
noncomputable def yAn (T:Tab) (P:Program) (ops:Array Oper) (draw:Bool) (st:zAo) (Q:zHy->zAo->Prop):Prop:=
 bif draw then (match st with
  |⟨tm,hp⟩=>zUi T P ops ops.toList tm hp [] (Q .normal)) else AOps T P ops ops.toList st (Q .normal)
noncomputable def AW (T:Tab) (P:Program) (c:Code):zAo->(zHy->zAo->Prop)->Prop:=
 Code.rec (motive:=fun _=>zAo->(zHy->zAo->Prop)->Prop)
  (skip:=fun st Q=>Q .normal st)
  (region:=fun _ ops draw st Q=>yAn T P ops draw st Q)
  (seq:=fun _ _ A B st Q=>A st (seqQ B Q))
  (cond:=fun c _ _ A B st Q=>yVv c A B st Q)
  (block:=fun id _ A st Q=>A st (yTj id Q))
  (loop:=fun _ A st Q=>yVa A st Q)
  (rangeFunc:=fun _ _ _ _ _ _ _ _=>False)
  (exit:=fun id st Q=>Q (.exit id) st)
  (scope:=fun _ A st Q=>A st Q)
  (label:=fun _ st Q=>Q .normal st)
  (goto:=fun _ _ _=>False)
  (ret:=fun st Q=>Q .ret st)
  (refuse:=fun _ _ _=>False) c
theorem yIf {T:Tab} {P:Program} {id:Nat} {ops:Array Oper} {draw:Bool} {st:zAo} {Q:zHy->zAo->Prop}:AW T P (.region id ops draw) st Q=yAn T P ops draw st Q:=rfl
theorem AW_seq {T:Tab} {P:Program} {a b:Code} {st:zAo} {Q:zHy->zAo->Prop}:AW T P (.seq a b) st Q=AW T P a st (seqQ (AW T P b) Q):=rfl
theorem yVb {T:Tab} {P:Program} {c:Operand} {a b:Code} {st:zAo} {Q:zHy->zAo->Prop}:AW T P (.cond c a b) st Q=yVv c (AW T P a) (AW T P b) st Q:=rfl
theorem yPd {T:Tab} {P:Program} {id:Nat} {a:Code} {st:zAo} {Q:zHy->zAo->Prop}:AW T P (.block id a) st Q=AW T P a st (yTj id Q):=rfl
theorem yPe {T:Tab} {P:Program} {a:Code} {st:zAo} {Q:zHy->zAo->Prop}:AW T P (.scope a) st Q=AW T P a st Q:=rfl
theorem AW_loop {T:Tab} {P:Program} {a:Code} {st:zAo} {Q:zHy->zAo->Prop}:AW T P (.loop a) st Q=yVa (AW T P a) st Q:=rfl
def zSt (args:List D):Nat->AV:=go 0 args
 where
 go (n:Nat):List D->Nat->AV
  | []=>fun _=>.dead
  |d::r=>upd (go (n+1) r) n (ofD d)
def resV (T:Tab) (tm:Nat->AV) (hp:Nat->Option Blk):ResultVar->AV
 | .tmp t=>tm t
 | .cell a t=>match tm a with
  | .ptr b i j=>match hp b with
   |some (.box c _)=>bif (T t).k.known&&Nat.beq i 0 then (bif (T t).k.agg then (bif Nat.ble (j+(T t).size) c.length then .agg ((c.drop j).take (T t).size) else .dead) else (match c[j]? with|some x=>x|none=>.dead)) else .dead
   |_=>.dead
  |_=>.dead
def resD (T:Tab) (tm:Nat->AV) (hp:Nat->Option Blk):List ResultVar->Option (List D)
 | []=>some []
 |r::q=>match conv hp (resV T tm hp r) with
  |some d=>match resD T tm hp q with
   |some ds=>some (d::ds)
   |none=>none
  |none=>none
def oneD:List D->D
 | [d]=>d
 |ds=>.tup ds
def AFn (T:Tab) (P:Program) (fn:Func) (args:List D) (d:D):Prop:=
 match fn.body with
 |some c=>AW T P c ⟨zSt args,fun _=>none⟩ fun e st=>match e with
  | .exit _=>False
  |_=>(resD T st.tm st.hp fn.results.toList).map oneD=some d
 |none=>False
def AFnO (T:Tab) (P:Program) (fn:Func) (args:List D) (l:List (List D)) (sz:Nat):Prop:=
 match fn.body with
 |some c=>AW T P c ⟨zSt args,fun _=>none⟩ fun e st=>match e with
  | .exit _=>False
  |_=>∃ t,fn.results.toList=[.tmp t] /\ ((∃ b,st.tm t=.own b/\st.hp b=some (.row l sz false)) \/ (st.tm t=.nil/\l=[]))
 |none=>False
def zGi (hp:Nat->Option Blk) (seen:List Nat):List AV->List SC->Prop
 | [],[]=>True
 |x::c,.d d::s=>conv.pure1 x=some d/\zGi hp seen c s
 |x::c,.row l sz::s=>(∃ b,x=.own b/\hp b=some (.row l sz false) /\memN b seen=false/\zGi hp (b::seen) c s) \/ (x=.nil/\l=[] /\zGi hp seen c s)
 |_,_=>False
def AFnS (T:Tab) (P:Program) (fn:Func) (args:List D) (cs:List SC):Prop:=
 match fn.body with
 |some c=>AW T P c ⟨zSt args,fun _=>none⟩ fun e st=>match e with
  | .exit _=>False
  |_=>∃ r c,fn.results.toList=[r] /\resV T st.tm st.hp r=.agg c/\zGi st.hp [] c cs
 |none=>False
def yMx:List AV->List Nat
 | []=>[]
 | .own b::r=>b::yMx r
 |_::r=>yMx r
def z6k (T:Tab) (tm:Nat->AV) (hp:Nat->Option Blk):List ResultVar->List Nat
 | []=>[]
 |r::q=>zAp hp (resV T tm hp r)++z6k T tm hp q
def AFnP (T:Tab) (P:Program) (fn:Func) (args:List D) (cs:List SC) (rs:List D):Prop:=
 match fn.body with
 |some c=>AW T P c ⟨zSt args,fun _=>none⟩ fun e st=>match e with
  | .exit _=>False
  |_=>∃ t r q b c,fn.results.toList=.tmp t::r::q/\st.tm t=.ptr b 0 0/\st.hp b=some (.box c false) /\zGi st.hp [] c cs/\resD T st.tm st.hp (r::q)=some rs/\disN (yMx c) (z6k T st.tm st.hp (r::q))=true
 |none=>False
def kindChk:TypeDesc->TK->Bool
 | .int k,.int k'=>Nat.beq (zFw k) (zFw k')
 | .bool,.bool=>true
 | .string,.str=>true
 | .slice e,.slice e'=>Nat.beq e e'
 | .array n e,.arr n' e'=>Nat.beq n n'&&Nat.beq e e'
 | .struct F,.struct fs=>F.toList.map (fun f=>(f.offset,f.type))==fs&&F.toList.all (fun f=>f.name != "_")
 | .pointer e,.ptr e'=>Nat.beq e e'
 |_,_=>false
def vD:Value->Option D
 | .int k n=>some (.int k n)
 | .bool b=>some (.bool b)
 | .string s=>bif Nat.beq s.size 0 then some (.str .empty) else none
 | .slice none 0 0=>some (.lst [])
 | .pointer none=>some .nilp
 |_=>none
def dEq:D->D->Bool
 | .int k n,.int k' n'=>Nat.beq (zFw k) (zFw k')&&n==n'
 | .bool b,.bool b'=>b==b'
 | .str _,.str s=>Nat.beq s.size 0
 | .lst [],.lst []=>true
 | .nilp,.nilp=>true
 |_,_=>false
def zEu:List Value->List D->Bool
 | [],[]=>true
 |v::vs,d::ds=>(match vD v with|some d'=>dEq d' d|none=>false)&&zEu vs ds
 |_,_=>false
def zJc (T:Tab):TK->Bool
 | .slice e=>(T e).k.known
 | .arr _ e=>(T e).k.known
 | .struct fs=>fs.all fun p=>(T p.2).k.known
 |_=>true
def yZf (P:Program) (T:Tab) (t:TypeId) (I:TyI):Bool:=
 match P.underlying t,P.info? t with
 |some d,some i=>kindChk d I.k&&Nat.beq i.size I.size&&Nat.beq i.bytes I.bytes&&(match i.zero with|some z=>zEu z.cells.toList I.zero|none=>false)&&zJc T I.k&&Nat.ble I.bytes 1048576&&Nat.beq I.zero.length I.size&&!(P.stoodInHeld t)&&!(P.eqGuardType P.depth t)&&(I.k.agg||Nat.beq I.size 1)&&Nat.blt 0 I.size
 |_,_=>false
inductive TT where
 |leaf
 |node (t:TypeId) (I:TyI) (l r:TT)
def TT.get (t:TypeId):TT->TyI
 | .leaf=>⟨.other,0,0,[]⟩
 | .node t' I l r=>bif Nat.beq t t' then I else bif Nat.blt t t' then l.get t else r.get t
def TT.all (p:TypeId->TyI->Bool):TT->Bool
 | .leaf=>true
 | .node t I l r=>p t I&&(l.all p&&r.all p)
theorem TT.get_all {p:TypeId->TyI->Bool} {t:TypeId}:∀ {x:TT},x.all p=true->(TT.get t x).k.known=true->p t (TT.get t x)=true
 | .leaf,_,h=>by simp [TT.get,TK.known] at h
 | .node t' I l r,h,hk=>by
  simp only [TT.all,Bool.and_eq_true] at h;simp only [TT.get] at hk⊢
  cases hb:Nat.beq t t' with
  |true=>
   have:t=t':=Nat.eq_of_beq_eq_true hb;subst this
   simpa [hb] using h.1
  |false=>
   simp only [hb,cond_false] at hk⊢
   cases hl:Nat.blt t t' with
   |true=>simp only [hl,cond_true] at hk⊢;exact TT.get_all h.2.1 hk
   |false=>simp only [hl,cond_false] at hk⊢;exact TT.get_all h.2.2 hk
def zFo (P:Program) (T:Tab):Prop:=∀ t,(T t).k.known=true->yZf P T t (T t)=true
theorem ySm {P:Program} {x:TT} (h:(x.all (yZf P fun t=>x.get t))=true):zFo P fun t=>x.get t:=
 fun _ hk=>TT.get_all h hk
theorem zLt {k k':IntKind} (h:Nat.beq (zFw k) (zFw k')=true):k=k':=by
 have:=Nat.eq_of_beq_eq_true h
 cases k<;>cases k'<;>first|rfl|simp [zFw] at this
structure TyFact (P:Program) (T:Tab) (t:TypeId):Prop where
 desc:∃ d i,P.underlying t=some d/\P.info? t=some i/\kindChk d (T t).k=true/\i.size=(T t).size/\i.bytes=(T t).bytes/\
  (∃ z,i.zero=some z/\zEu z.cells.toList (T t).zero=true) /\zJc T (T t).k=true/\ (T t).bytes<=1048576/\ (T t).zero.length=(T t).size/\P.stoodInHeld t=false/\P.eqGuardType P.depth t=false/\ ((T t).k.agg=false->(T t).size=1) /\0<(T t).size
theorem zEe {P:Program} {T:Tab} (hT:zFo P T) {t:TypeId} (hk:(T t).k.known=true):TyFact P T t:=by
 have h:=hT t hk;unfold yZf at h
 cases hu:P.underlying t with
 |none=>simp [hu] at h
 |some d=>
  cases hi:P.info? t with
  |none=>simp [hu,hi] at h
  |some i=>
   simp only [hu,hi,Bool.and_eq_true] at h;obtain ⟨⟨⟨⟨⟨⟨⟨⟨⟨⟨h1,h2⟩,h3⟩,h4⟩,h5⟩,h6⟩,h7⟩,h8⟩,h9⟩,h10⟩,h11⟩:=h;refine ⟨d,i,by first|rfl|assumption,by first|rfl|assumption,h1,Nat.eq_of_beq_eq_true h2,Nat.eq_of_beq_eq_true h3,?_,h5,Nat.le_of_ble_eq_true h6,Nat.eq_of_beq_eq_true h7,by simpa using h8,by simpa using h9,fun hg=>by simpa [hg] using h10,by have h12:=h11;simp [Nat.blt] at h12;exact h12⟩
   cases hz:i.zero with
   |none=>simp [hz] at h4
   |some z=>exact ⟨z,rfl,by simpa [hz] using h4⟩
section
variable {P:Program} {T:Tab} (hT:zFo P T) {t:TypeId} (w:World)
include hT
theorem zBi {e:TypeId} (h:(T t).k=.slice e):P.underlying t=some (.slice e) /\ (T e).k.known=true:=by
 obtain ⟨d,i,hu,_,hk,_,_,_,he,_⟩:=(zEe hT (t:=t) (by rw [h];rfl)).desc;rw [h] at hk he
 cases d<;>simp [kindChk] at hk
 subst hk;exact ⟨hu,by simpa [zJc] using he⟩
theorem zXq {n:Nat} {e:TypeId} (h:(T t).k=.arr n e):P.underlying t=some (.array n e) /\ (T e).k.known=true:=by
 obtain ⟨d,i,hu,_,hk,_,_,_,he,_⟩:=(zEe hT (t:=t) (by rw [h];rfl)).desc;rw [h] at hk he
 cases d<;>simp [kindChk] at hk
 obtain ⟨rfl,rfl⟩:=hk;exact ⟨hu,by simpa [zJc] using he⟩
theorem zJv {fs:List (Nat×TypeId)} (h:(T t).k=.struct fs):
  ∃ F,P.underlying t=some (.struct F) /\F.toList.map (fun f=>(f.offset,f.type))=fs/\ (∀ p∈fs,(T p.2).k.known=true) /\ ∀ f∈F.toList,f.name≠ "_":=by
 obtain ⟨d,i,hu,_,hk,_,_,_,he,_⟩:=(zEe hT (t:=t) (by rw [h];rfl)).desc;rw [h] at hk he
 cases d<;>simp [kindChk] at hk
 rename_i F;refine ⟨F,hu,hk.1,?_,?_⟩
 ·simp only [zJc,List.all_eq_true] at he;exact he
 ·intro f hf;obtain ⟨i,hi,rfl⟩:=List.getElem_of_mem hf
  simpa using hk.2 i (by simpa using hi)
theorem zOg {k:IntKind} (h:(T t).k=.int k):P.underlying t=some (.int k):=by
 obtain ⟨d,i,hu,_,hk,_⟩:=(zEe hT (t:=t) (by rw [h];rfl)).desc;rw [h] at hk
 cases d<;>simp [kindChk] at hk
 rename_i k';rw [hu,zLt (k:=k') (k':=k) (by simpa using hk)]
theorem zUg (h:(T t).k=.bool):P.underlying t=some .bool:=by
 obtain ⟨d,i,hu,_,hk,_⟩:=(zEe hT (t:=t) (by rw [h];rfl)).desc;rw [h] at hk
 cases d<;>simp [kindChk] at hk
 exact hu
theorem size_one (h:(T t).k.known=true) (ha:(T t).k.agg=false):(T t).size=1:=by
 obtain ⟨d,i,_,_,_,_,_,_,_,_,_,_,_,h1,_⟩:=(zEe hT h).desc;exact h1 ha
theorem zFj (h:(T t).k.known=true):0<(T t).size:=by
 obtain ⟨d,i,_,_,_,_,_,_,_,_,_,_,_,_,h1⟩:=(zEe hT h).desc;exact h1
theorem zQs (h:(T t).k.known=true):(T t).zero.length=(T t).size:=by
 obtain ⟨d,i,_,_,_,_,_,_,_,_,h1,_⟩:=(zEe hT h).desc;exact h1
theorem zOh (h:(T t).k=.str):P.underlying t=some .string:=by
 obtain ⟨d,i,hu,_,hk,_⟩:=(zEe hT (t:=t) (by rw [h];rfl)).desc;rw [h] at hk
 cases d<;>simp [kindChk] at hk
 exact hu
theorem zMz (h:(T t).k.known=true):(isAgg t).run P w=.ok (T t).k.agg w:=by
 obtain ⟨d,i,hu,_,hk,_⟩:=(zEe hT h).desc;simp only [isAgg,Sem.run_bind,run_underlying hu,Result.andThen_ok];generalize (T t).k=k at hk
 cases d<;>cases k<;>simp_all [kindChk,TK.agg]
theorem zBd (h:(T t).k.known=true):(sizeOf t).run P w=.ok (T t).size w:=by
 obtain ⟨d,i,_,hi,_,hs,_⟩:=(zEe hT h).desc;simp [sizeOf,typeInfo,hi,hs]
theorem zXc (h:(T t).k.known=true):∃ z,(zeroValue t).run P w=.ok z w/\zEu z.cells.toList (T t).zero=true:=by
 obtain ⟨d,i,_,hi,_,_,_,⟨z,hz,hc⟩,_⟩:=(zEe hT h).desc;exact ⟨z,by simp [zeroValue,typeInfo,hi,hz],hc⟩
end
end Go.Lk
