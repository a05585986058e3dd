/-
  What is proved here: what functions of the program compute, and what follows; no condition beyond each theorem's own.
-/
import Derived.Below
import Derived.Calls
import Derived.WalkKit
set_option linter.unusedSimpArgs false
set_option linter.unusedVariables false
set_option linter.unnecessarySimpa false
set_option linter.unusedSectionVars false
namespace Go.Lk
open Go
inductive D where
 |int (k:IntKind) (n:Int)
 |bool (b:Bool)
 |str (s:ByteArray)
 |lst (l:List (List D))
 |dp (c:List D) (j:Nat)
 |fn (f:FuncId) (cap:List D)
 |nilp
 |agg (c:List D)
 |tup (c:List D)
 |unk
theorem orR {a b c:Prop} (h:a\/b) (f:b->c):a\/c:=h.elim .inl fun q=>.inr (f q)
abbrev Mem:=Nat->Nat->Option Value
inductive DenD (M:Mem):D->Value->Prop
 |int (k:IntKind) (n:Int):DenD M (.int k n) (.int k n)
 |bool (b:Bool):DenD M (.bool b) (.bool b)
 |str (s:ByteArray):DenD M (.str s) (.string s)
 |emp (a:Option Addr) (cap:Nat):DenD M (.lst []) (.slice a 0 cap)
 |lst (l:List (List D)) (b off cap sz:Nat) (val:Nat->Nat->Value) (hl:l.length<=cap)
   (hs:∀ (i:Nat) (e:List D),l[i]?=some e->e.length=sz)
   (hm:∀ (i j:Nat) (e:List D) (d:D),l[i]?=some e->e[j]?=some d->M b (off+i*sz+j)=some (val i j))
   (hd:∀ (i j:Nat) (e:List D) (d:D),l[i]?=some e->e[j]?=some d->DenD M d (val i j)):
   DenD M (.lst l) (.slice (some ⟨b,off,none⟩) l.length cap)
 |dp (c:List D) (j b off:Nat) (val:Nat->Value)
   (hm:∀ (i:Nat) (d:D),c[i]?=some d->M b (off+i)=some (val i))
   (hd:∀ (i:Nat) (d:D),c[i]?=some d->DenD M d (val i)):DenD M (.dp c j) (.pointer (some ⟨b,off+j,none⟩))
 |fn (f:FuncId) (cap:List D) (vs:Array Value) (hl:vs.size=cap.length)
   (hd:∀ (i:Nat) (d:D) (v:Value),cap[i]?=some d->vs[i]?=some v->DenD M d v):DenD M (.fn f cap) (.func (.func f) #[] vs)
 |nilp:DenD M .nilp (.pointer none)
 |agg (c:List D) (vs:Array Value) (hl:vs.size=c.length)
   (hd:∀ (i:Nat) (d:D) (v:Value),c[i]?=some d->vs[i]?=some v->DenD M d v):DenD M (.agg c) (.agg vs)
 |tup (c:List D) (vs:Array Value) (hl:vs.size=c.length)
   (hd:∀ (i:Nat) (d:D) (v:Value),c[i]?=some d->vs[i]?=some v->DenD M d v):DenD M (.tup c) (.tuple vs)
 |unk (v:Value):DenD M .unk v
def Sub (M M':Mem):Prop:=∀ (b o:Nat) (v:Value),M b o=some v->M' b o=some v
theorem DenD.mono {M M':Mem} (h:Sub M M') {d:D} {v:Value} (hd:DenD M d v):DenD M' d v:=by
 induction hd with
 |int k n=>exact .int k n
 |bool b=>exact .bool b
 |str s=>exact .str s
 |emp a c=>exact .emp a c
 |lst l b off cap sz val hl hs hm _ ih=>exact .lst l b off cap sz val hl hs (fun i j e d h1 h2=>h _ _ _ (hm i j e d h1 h2)) ih
 |dp c j b off val hm _ ih=>exact .dp c j b off val (fun i d h1=>h _ _ _ (hm i d h1)) ih
 |fn f cap vs hl _ ih=>exact .fn f cap vs hl ih
 |nilp=>exact .nilp
 |agg c vs hl _ ih=>exact .agg c vs hl ih
 |tup c vs hl _ ih=>exact .tup c vs hl ih
 |unk v=>exact .unk v
inductive AV where
 |d (x:D)
 |tt
 |ff
 |agg (c:List AV)
 |tup (c:List AV)
 |own (b:Nat)
 |ptr (b i j:Nat)
 |win (b lo n:Nat) (c:Option Nat)
 |nil
 |fn (f:FuncId) (cap:List AV)
 |dead
structure Loc where
 blk:Nat
 sz:Nat
 size:Nat
 len:Nat
abbrev Inj:=Nat->Option (Option Loc)
inductive Blk where
 |row (l:List (List D)) (sz:Nat) (fr:Bool)
 |box (c:List AV) (fr:Bool)
def Fm (k b:Nat):Bool:=bif Nat.ble 2000000 k&&Nat.beq (k%8) 0 then Nat.beq (b/8) (k/8) else Nat.beq b k
theorem Fm_self (k:Nat):Fm k k=true:=by
 unfold Fm
 cases Nat.ble 2000000 k&&Nat.beq (k%8) 0<;>simp
theorem Fm_lt {k:Nat} (h:k<2000000) (b:Nat):Fm k b=Nat.beq b k:=by
 unfold Fm
 cases hb:Nat.ble 2000000 k with
 |true=>have:=Nat.le_of_ble_eq_true hb;omega
 |false=>rfl
structure Solo (k:Nat):Prop where
 out:∀ b,Fm k b=Nat.beq b k
theorem solo_of {k:Nat} (h:(Nat.ble k 1999999||!Nat.beq (k%8) 0)=true):Solo k:=by
 rcases Bool.or_eq_true_iff.1 h with h|h
 ·exact ⟨Fm_lt (by have:=Nat.le_of_ble_eq_true h;omega)⟩
 ·have h:Nat.beq (k%8) 0=false:=by simpa using h
  exact ⟨fun b=>by unfold Fm;rw [h,Bool.and_false];rfl⟩
theorem Fm_ne {k b:Nat} (h:Fm k b=false):b≠k:=by
 rintro rfl
 rw [Fm_self] at h;cases h
inductive DenA (M:Mem) (ι:Inj):AV->Value->Prop
 |d (x:D) (v:Value) (h:DenD M x v):DenA M ι (.d x) v
 |tt:DenA M ι .tt (.bool true)
 |ff:DenA M ι .ff (.bool false)
 |agg (c:List AV) (vs:Array Value) (hl:vs.size=c.length)
   (hd:∀ (i:Nat) (x:AV) (v:Value),c[i]?=some x->vs[i]?=some v->DenA M ι x v):DenA M ι (.agg c) (.agg vs)
 |tup (c:List AV) (vs:Array Value) (hl:vs.size=c.length)
   (hd:∀ (i:Nat) (x:AV) (v:Value),c[i]?=some x->vs[i]?=some v->DenA M ι x v):DenA M ι (.tup c) (.tuple vs)
 |own (b:Nat) (L:Loc) (cap:Nat) (h:ι b=some (some L)) (hn:L.len<=cap) (hc:cap*L.sz<=L.size):
   DenA M ι (.own b) (.slice (some ⟨L.blk,0,none⟩) L.len cap)
 |ownE (b:Nat) (a:Option Addr) (h:ι b=some none):DenA M ι (.own b) (.slice a 0 0)
 |ownL (b:Nat) (v:Value) (h:ι b=none):DenA M ι (.own b) v
 |ptr (b i j:Nat) (L:Loc) (h:ι b=some (some L)):DenA M ι (.ptr b i j) (.pointer (some ⟨L.blk,i*L.sz+j,none⟩))
 |ptrL (b i j:Nat) (v:Value) (h:ι b=none):DenA M ι (.ptr b i j) v
 |win (b lo n:Nat) (c:Option Nat) (L:Loc) (k base:Nat) (h:ι b=some (some L)) (hn:n<=k) (hc:∀ m,c=some m->k=m) (hk:(lo+k)*L.sz<=L.size)
   (hb:base=lo*L.sz\/ (k=0/\0<lo)):DenA M ι (.win b lo n c) (.slice (some ⟨L.blk,base,none⟩) n k)
 |winL (b lo n:Nat) (c:Option Nat) (v:Value) (h:ι b=none):DenA M ι (.win b lo n c) v
 |nil (a:Option Addr):DenA M ι .nil (.slice a 0 0)
 |fn (f:FuncId) (cap:List AV) (vs:Array Value) (hl:vs.size=cap.length)
   (hd:∀ (i:Nat) (x:AV) (v:Value),cap[i]?=some x->vs[i]?=some v->DenA M ι x v):DenA M ι (.fn f cap) (.func (.func f) #[] vs)
 |dead (v:Value):DenA M ι .dead v
inductive Free (b:Nat):AV->Prop
 |d (x:D):Free b (.d x)
 |tt:Free b .tt
 |ff:Free b .ff
 |agg (c:List AV) (h:∀ x∈c,Free b x):Free b (.agg c)
 |tup (c:List AV) (h:∀ x∈c,Free b x):Free b (.tup c)
 |own (b':Nat) (h:b'≠b):Free b (.own b')
 |ptr (b' i j:Nat) (h:b'≠b):Free b (.ptr b' i j)
 |win (b' lo n:Nat) (c:Option Nat) (h:b'≠b):Free b (.win b' lo n c)
 |nil:Free b .nil
 |fn (f:FuncId) (c:List AV) (h:∀ x∈c,Free b x):Free b (.fn f c)
 |dead:Free b .dead
theorem DenA.mono {M M':Mem} {ι:Inj} (h:Sub M M') {x:AV} {v:Value} (hd:DenA M ι x v):DenA M' ι x v:=by
 induction hd with
 |d x v hx=>exact .d x v (hx.mono h)
 |tt=>exact .tt
 |ff=>exact .ff
 |agg c vs hl _ ih=>exact .agg c vs hl ih
 |tup c vs hl _ ih=>exact .tup c vs hl ih
 |own b L cap h hn hc=>exact .own b L cap h hn hc
 |ownE b a h=>exact .ownE b a h
 |ownL b v h=>exact .ownL b v h
 |ptr b i j L h=>exact .ptr b i j L h
 |ptrL b i j v h=>exact .ptrL b i j v h
 |win b lo n c L k base h hn hc hk hb=>exact .win b lo n c L k base h hn hc hk hb
 |winL b lo n c v h=>exact .winL b lo n c v h
 |nil a=>exact .nil a
 |fn f cap vs hl _ ih=>exact .fn f cap vs hl ih
 |dead v=>exact .dead v
theorem DenA.turnS {M:Mem} {ι ι':Inj} {S:Nat->Prop} (hι:∀ b,S b->ι' b=ι b) {x:AV} {v:Value} (hd:DenA M ι x v) (hf:∀ b,¬S b->Free b x):DenA M ι' x v:=by
 have hS:∀ {b:Nat} {x:AV},(∀ b,¬S b->Free b x)->(¬Free b x)->ι' b=ι b:=fun {b x} h h1=>Classical.byContradiction fun hn=>h1 (h b fun hs=>hn (hι b hs))
 induction hd with
 |d x v hx=>exact .d x v hx
 |tt=>exact .tt
 |ff=>exact .ff
 |agg c vs hl _ ih=>exact .agg c vs hl fun i x v h1 h2=>ih i x v h1 h2 fun b hb=>by cases hf b hb with|agg _ hf=>exact hf x (List.mem_of_getElem? h1)
 |tup c vs hl _ ih=>exact .tup c vs hl fun i x v h1 h2=>ih i x v h1 h2 fun b hb=>by cases hf b hb with|tup _ hf=>exact hf x (List.mem_of_getElem? h1)
 |own b' L cap h hn hc=>exact .own b' L cap (by rw [hS hf fun hb=>by cases hb with|own _ hb=>exact hb rfl];exact h) hn hc
 |ownE b' a h=>exact .ownE b' a (by rw [hS hf fun hb=>by cases hb with|own _ hb=>exact hb rfl];exact h)
 |ownL b' v h=>exact .ownL b' v (by rw [hS hf fun hb=>by cases hb with|own _ hb=>exact hb rfl];exact h)
 |ptr b' i j L h=>exact .ptr b' i j L (by rw [hS hf fun hb=>by cases hb with|ptr _ _ _ hb=>exact hb rfl];exact h)
 |ptrL b' i j v h=>exact .ptrL b' i j v (by rw [hS hf fun hb=>by cases hb with|ptr _ _ _ hb=>exact hb rfl];exact h)
 |win b' lo n c L k base h hn hc hk hb2=>exact .win b' lo n c L k base (by rw [hS hf fun hb=>by cases hb with|win _ _ _ _ hb=>exact hb rfl];exact h) hn hc hk hb2
 |winL b' lo n c v h=>exact .winL b' lo n c v (by rw [hS hf fun hb=>by cases hb with|win _ _ _ _ hb=>exact hb rfl];exact h)
 |nil a=>exact .nil a
 |fn f cap vs hl _ ih=>exact .fn f cap vs hl fun i x v h1 h2=>ih i x v h1 h2 fun b hb=>by cases hf b hb with|fn _ _ hf=>exact hf x (List.mem_of_getElem? h1)
 |dead v=>exact .dead v
def FreeF (b:Nat) (x:AV):Prop:=∀ b',Fm b b'=true->Free b' x
theorem DenA.turn {M:Mem} {ι ι':Inj} {b:Nat} (hι:∀ b',Fm b b'=false->ι' b'=ι b') {x:AV} {v:Value} (hd:DenA M ι x v) (hf:FreeF b x):DenA M ι' x v:=
 hd.turnS (S:=fun b'=>Fm b b'=false) hι fun b' hb=>hf b' (by simpa using hb)
def killV (b:Nat):AV->AV
 | .own b'=>bif Fm b b' then .dead else .own b'
 | .ptr b' i j=>bif Fm b b' then .dead else .ptr b' i j
 | .win b' lo n c=>bif Fm b b' then .dead else .win b' lo n c
 | .d x=>.d x
 | .tt=>.tt
 | .ff=>.ff
 | .nil=>.nil
 | .agg c=>bif names b c then .dead else .agg c
 | .tup c=>bif parts b c then .dead else .tup c
 | .fn f c=>bif names b c then .dead else .fn f c
 | .dead=>.dead
 where
 names (b:Nat):List AV->Bool
  | []=>false
  |x::r=>bif one b x then true else names b r
 one (b:Nat):AV->Bool
  | .own b'=>Fm b b'
  | .ptr b' _ _=>Fm b b'
  | .win b' _ _ _=>Fm b b'
  | .d _=>false
  | .tt=>false
  | .ff=>false
  | .nil=>false
  | .dead=>false
  | .agg _=>true
  | .tup _=>true
  | .fn _ _=>true
 part (b:Nat):AV->Bool
  | .agg c=>names b c
  |x=>one b x
 parts (b:Nat):List AV->Bool
  | []=>false
  |x::r=>bif part b x then true else parts b r
theorem free_of_one {b:Nat} {x:AV} (h:killV.one b x=false):FreeF b x:=by
 intro b0 h0
 cases x with
 |own b'=>exact .own b' (by rintro rfl;simp [killV.one,h0] at h)
 |ptr b' i j=>exact .ptr b' i j (by rintro rfl;simp [killV.one,h0] at h)
 |win b' lo n c=>exact .win b' lo n c (by rintro rfl;simp [killV.one,h0] at h)
 |d x=>exact .d x
 |tt=>exact .tt
 |ff=>exact .ff
 |nil=>exact .nil
 |dead=>exact .dead
 |agg c=>simp [killV.one] at h
 |tup c=>simp [killV.one] at h
 |fn f c=>simp [killV.one] at h
theorem free_of_names {b:Nat}:∀ {c:List AV},killV.names b c=false->∀ x∈c,FreeF b x
 | [],_,_,h=>by cases h
 |y::r,h,x,hx=>by
  simp only [killV.names] at h
  cases h1:killV.one b y with
  |true=>simp [h1] at h
  |false=>
   simp only [h1,cond_false] at h
   cases hx with
   |head=>exact free_of_one h1
   |tail _ hx=>exact free_of_names h x hx
theorem free_of_parts {b:Nat}:∀ {c:List AV},killV.parts b c=false->∀ x∈c,FreeF b x
 | [],_,_,h=>by cases h
 |y::r,h,x,hx=>by
  simp only [killV.parts] at h
  cases h1:killV.part b y with
  |true=>simp [h1] at h
  |false=>
   simp only [h1,cond_false] at h
   cases hx with
   |head=>
    cases y with
    |agg c=>exact fun b' hb=>.agg c fun x hx=>free_of_names h1 x hx b' hb
    |_=>exact free_of_one h1
   |tail _ hx=>exact free_of_parts h x hx
theorem killV_free (b:Nat) (x:AV):FreeF b (killV b x):=by
 intro b0 h0
 cases x with
 |own b'=>
  simp only [killV]
  cases h:Fm b b' with
  |true=>exact .dead
  |false=>exact .own b' (by rintro rfl;simp [h0] at h)
 |ptr b' i j=>
  simp only [killV]
  cases h:Fm b b' with
  |true=>exact .dead
  |false=>exact .ptr b' i j (by rintro rfl;simp [h0] at h)
 |win b' lo n c=>
  simp only [killV]
  cases h:Fm b b' with
  |true=>exact .dead
  |false=>exact .win b' lo n c (by rintro rfl;simp [h0] at h)
 |d x=>exact .d x
 |tt=>exact .tt
 |ff=>exact .ff
 |nil=>exact .nil
 |dead=>exact .dead
 |agg c=>
  simp only [killV]
  cases h:killV.names b c with
  |true=>exact .dead
  |false=>exact .agg c fun x hx=>free_of_names h x hx b0 h0
 |tup c=>
  simp only [killV]
  cases h:killV.parts b c with
  |true=>exact .dead
  |false=>exact .tup c fun x hx=>free_of_parts h x hx b0 h0
 |fn f c=>
  simp only [killV]
  cases h:killV.names b c with
  |true=>exact .dead
  |false=>exact .fn f c fun x hx=>free_of_names h x hx b0 h0
theorem DenA.killV {M:Mem} {ι:Inj} {x:AV} {v:Value} (b:Nat) (h:DenA M ι x v):DenA M ι (killV b x) v:=by
 cases x with
 |own b'=>
  simp only [Lk.killV]
  cases Fm b b' with
  |true=>exact .dead v
  |false=>exact h
 |ptr b' i j=>
  simp only [Lk.killV]
  cases Fm b b' with
  |true=>exact .dead v
  |false=>exact h
 |win b' lo n c=>
  simp only [Lk.killV]
  cases Fm b b' with
  |true=>exact .dead v
  |false=>exact h
 |d x=>exact h
 |tt=>exact h
 |ff=>exact h
 |nil=>exact h
 |dead=>exact h
 |agg c=>
  simp only [Lk.killV]
  cases killV.names b c with
  |true=>exact .dead v
  |false=>exact h
 |tup c=>
  simp only [Lk.killV]
  cases killV.parts b c with
  |true=>exact .dead v
  |false=>exact h
 |fn f c=>
  simp only [Lk.killV]
  cases killV.names b c with
  |true=>exact .dead v
  |false=>exact h
inductive TK where
 |int (k:IntKind)|bool|str|slice (e:TypeId)|arr (n:Nat) (e:TypeId)|struct (fs:List (Nat×TypeId))|ptr (e:TypeId)|other
structure TyI where
 k:TK
 size:Nat
 bytes:Nat
 zero:List D
abbrev Tab:=TypeId->TyI
def TK.known:TK->Bool
 | .other=>false
 |_=>true
def TK.agg:TK->Bool
 | .arr _ _=>true
 | .struct _=>true
 |_=>false
structure AState where
 tm:Nat->AV
 hp:Nat->Option Blk
def upd {α:Type} (f:Nat->α) (t:Nat) (v:α):Nat->α:=fun s=>bif Nat.beq s t then v else f s
structure Eff where
 av:AV
 wr:List (Nat×Blk)
 kl:Option Nat
def force (v:AV) (K:AV->Prop):Prop:=
 match v with
 | .d x=>K (.d x)
 | .tt=>K .tt
 | .ff=>K .ff
 | .agg c=>K (.agg c)
 | .tup c=>K (.tup c)
 | .own b=>K (.own b)
 | .ptr b i j=>K (.ptr b i j)
 | .win b lo n c=>K (.win b lo n c)
 | .nil=>K .nil
 | .fn f c=>K (.fn f c)
 | .dead=>False
def forceL (c:List AV) (K:List AV->Prop):Prop:=
 match c with
 | []=>K []
 |x::r=>force x fun x=>forceL r fun r=>K (x::r)
def ofConst:Value->AV
 | .int k n=>.d (.int k n)
 | .bool true=>.tt
 | .bool false=>.ff
 | .string s=>.d (.str s)
 | .slice none 0 0=>.nil
 | .pointer none=>.d .nilp
 | .agg cs=>.agg (cells cs.toList)
 |_=>.dead
 where
 one:Value->AV
  | .int k n=>.d (.int k n)
  | .bool true=>.tt
  | .bool false=>.ff
  | .string s=>.d (.str s)
  | .slice none 0 0=>.nil
  | .pointer none=>.d .nilp
  |_=>.dead
 cells:List Value->List AV
  | []=>[]
  |v::r=>one v::cells r
def evT (tm:Nat->AV):Operand->AV
 | .tmp t=>tm t
 | .const v=>ofConst v
 | .global _=>.dead
 | .func f=>.d (.fn f [])
structure bcase (b:Bool) (A B:Prop):Prop where
 out:match b with|true=>A|false=>B
theorem bcase_intro {b:Bool} {A B:Prop} (h1:b=true->A) (h2:b=false->B):bcase b A B:=by
 cases b with
 |true=>exact ⟨h1 rfl⟩
 |false=>exact ⟨h2 rfl⟩
theorem bcase_t {b:Bool} {A B:Prop} (h:b=true) (h1:A):bcase b A B:=by subst h;exact ⟨h1⟩
theorem bcase_f {b:Bool} {A B:Prop} (h:b=false) (h1:B):bcase b A B:=by subst h;exact ⟨h1⟩
theorem bcase_p {p:Prop} [Decidable p] {A B:Prop} (h1:p->A) (h2:¬p->B):bcase (decide p) A B:=bcase_intro (fun h=>h1 (of_decide_eq_true h)) (fun h=>h2 (of_decide_eq_false h))
theorem bcase_n {p:Prop} [Decidable p] {A B:Prop} (h1:¬p->A) (h2:p->B):bcase (!decide p) A B:=
 bcase_intro (fun h=>h1 (by simpa using h)) (fun h=>h2 (by simpa using h))
structure getRow (l:List (List D)) (i:Nat) (K:List D->Prop):Prop where
 out:∃ e,l[i]?=some e/\K e
theorem getRow_of {l:List (List D)} {i:Nat} {K:List D->Prop} {x:List D} (h:l[i]?=some x) (k:K x):getRow l i K:=⟨⟨x,h,k⟩⟩
structure wrapK (k:IntKind) (n:Int) (K:Int->Prop):Prop where
 out:K (k.wrap n)
theorem wrapK_in {k:IntKind} {n:Int} {K:Int->Prop} (h:k.wrap n=n) (hk:K n):wrapK k n K:=⟨by rw [h];exact hk⟩
theorem wrapK_raw {k:IntKind} {n:Int} {K:Int->Prop} (hk:K (k.wrap n)):wrapK k n K:=⟨hk⟩
structure idxK (i:Int) (n:Nat) (K:Nat->Prop):Prop where
 out:0<=i/\i<n/\K i.toNat
theorem idxK_nat {i n:Nat} {K:Nat->Prop} (h:i<n) (hk:K i):idxK (i:Int) n K:=⟨⟨by omega,by omega,by simpa using hk⟩⟩
theorem idxK_int {i:Int} {n:Nat} {K:Nat->Prop} (h0:0<=i) (h:i<n) (hk:K i.toNat):idxK i n K:=⟨⟨h0,h,hk⟩⟩
structure sliceK (lo hi:Option Int) (n:Nat) (K:Nat->Nat->Prop):Prop where
 out:0<=lo.getD 0/\lo.getD 0<=hi.getD n/\hi.getD n<=n/\K (lo.getD 0).toNat (hi.getD n).toNat
theorem sliceK_hi {h n:Nat} {K:Nat->Nat->Prop} (hh:h<=n) (k:K 0 h):sliceK none (some (h:Int)) n K:=⟨⟨by simp,by simp,by simpa using hh,by simpa using k⟩⟩
theorem sliceK_lo {l n:Nat} {K:Nat->Nat->Prop} (hh:l<=n) (k:K l n):sliceK (some (l:Int)) none n K:=⟨⟨by simp,by simpa using hh,by simp,by simpa using k⟩⟩
theorem sliceK_lohi {l h n:Nat} {K:Nat->Nat->Prop} (hl:l<=h) (hh:h<=n) (k:K l h):sliceK (some (l:Int)) (some (h:Int)) n K:=⟨⟨by simp,by simpa using hl,by simpa using hh,by simpa using k⟩⟩
structure divK (q:Bool) (k:IntKind) (a b:Int) (K:Int->Prop):Prop where
 out:b≠0/\K (if q then k.wrap (a.tdiv b) else a.tmod b)
theorem divK_rem {k:IntKind} {a b:Int} {K:Int->Prop} (hb:b≠0) (ha:0<=a) (h:K (a%b)):divK false k a b K:=⟨⟨hb,by simpa [Int.tmod_eq_emod_of_nonneg ha] using h⟩⟩
theorem divK_raw {k:IntKind} {q:Bool} {a b:Int} {K:Int->Prop} (hb:b≠0) (h:K (if q then k.wrap (a.tdiv b) else a.tmod b)):divK q k a b K:=⟨⟨hb,h⟩⟩
structure roomK (n bytes:Nat) (K:Prop):Prop where
 out:n*bytes<=35184372088832/\n<=35184372088832/\K
theorem roomK_of {n bytes:Nat} {K:Prop} (h:n*bytes<=35184372088832) (h1:n<=35184372088832) (k:K):roomK n bytes K:=⟨⟨h,h1,k⟩⟩
structure condK (c:Prop) (K:Prop):Prop where
 out:c/\K
theorem condK_of {c K:Prop} (h:c) (k:K):condK c K:=⟨⟨h,k⟩⟩
structure winK (lo hi:Option Int) (n c:Nat) (K:Nat->Nat->Prop):Prop where
 out:0<=lo.getD 0/\lo.getD 0<=hi.getD n/\hi.getD n<=c/\K (lo.getD 0).toNat (hi.getD n).toNat
theorem winK_hi {h n c:Nat} {K:Nat->Nat->Prop} (hh:h<=c) (k:K 0 h):winK none (some (h:Int)) n c K:=⟨⟨by simp,by simp,by simpa using hh,by simpa using k⟩⟩
theorem winK_lo {l n c:Nat} {K:Nat->Nat->Prop} (hh:l<=n) (hc:n<=c) (k:K l n):winK (some (l:Int)) none n c K:=⟨⟨by simp,by simpa using hh,by simpa using hc,by simpa using k⟩⟩
theorem winK_lohi {l h n c:Nat} {K:Nat->Nat->Prop} (hl:l<=h) (hh:h<=c) (k:K l h):winK (some (l:Int)) (some (h:Int)) n c K:=⟨⟨by simp,by simpa using hl,by simpa using hh,by simpa using k⟩⟩
def subO (c:Option Nat) (l:Nat):Option Nat:=
 match c with
 |some c=>some (c-l)
 |none=>none
structure appW (p A B:Prop):Prop where
 yes:p->A
 no:¬p->B
def kcode:IntKind->Nat
 | .i8=>0| .i16=>1| .i32=>2| .i64=>3| .u8=>4| .u16=>5| .u32=>6| .u64=>7
def bitsV (op:BinOp) (k:IntKind) (a b:Int):Int:=
 k.wrap ((match op with
  | .and=>BitVec.ofInt k.bits a&&& BitVec.ofInt k.bits b
  | .or=>BitVec.ofInt k.bits a|||BitVec.ofInt k.bits b
  | .xor=>BitVec.ofInt k.bits a^^^BitVec.ofInt k.bits b
  |_=>BitVec.ofInt k.bits a&&& ~~~ BitVec.ofInt k.bits b).toNat:Int)
def intA (op:BinOp) (k:IntKind) (a b:Int) (K:AV->Prop):Prop:=
 match op with
 | .add=>wrapK k (a+b) fun n=>K (.d (.int k n))
 | .sub=>wrapK k (a-b) fun n=>K (.d (.int k n))
 | .mul=>wrapK k (a*b) fun n=>K (.d (.int k n))
 | .quo=>divK true k a b fun n=>K (.d (.int k n))
 | .rem=>divK false k a b fun n=>K (.d (.int k n))
 | .and=>K (.d (.int k (bitsV .and k a b)))
 | .or=>K (.d (.int k (bitsV .or k a b)))
 | .xor=>K (.d (.int k (bitsV .xor k a b)))
 | .andNot=>K (.d (.int k (bitsV .andNot k a b)))
 | .eql=>K (.d (.bool (decide (a=b))))
 | .neq=>K (.d (.bool (!decide (a=b))))
 | .lss=>K (.d (.bool (decide (a<b))))
 | .leq=>K (.d (.bool (decide (a<=b))))
 | .gtr=>K (.d (.bool (decide (b<a))))
 | .geq=>K (.d (.bool (decide (b<=a))))
 |_=>False
def shiftA (op:BinOp) (k:IntKind) (a b:Int) (K:AV->Prop):Prop:=
 match op with
 | .shl=>condK (0<=b) (wrapK k (a*2^(min b.toNat k.bits)) fun n=>K (.d (.int k n)))
 | .shr=>condK (0<=b) (K (.d (.int k (a.fdiv (2^(min b.toNat k.bits))))))
 |_=>False
def boolA (op:BinOp) (a b:Bool) (K:AV->Prop):Prop:=
 match op with
 | .eql=>K (.d (.bool (a==b)))
 | .neq=>K (.d (.bool (!(a==b))))
 |_=>False
def strA (op:BinOp) (a b:ByteArray) (K:AV->Prop):Prop:=
 match op with
 | .add=>condK (a.size+b.size<=9223372036854775807) (K (.d (.str (a++b))))
 | .eql=>K (.d (.bool (decide (a=b))))
 | .neq=>K (.d (.bool (!decide (a=b))))
 |_=>False
def boolOf (v:AV) (K:Bool->Prop):Prop:=
 match v with
 | .d (.bool b)=>K b
 | .tt=>K true
 | .ff=>K false
 |_=>False
def eqA (T:Tab) (n:Nat) (t:TypeId) (x y:List AV) (K:Bool->Prop):Prop:=
 match n with
 |0=>False
 |n+1=>match (T t).k with
  | .int _=>match x with
   | [.d (.int k a)]=>match y with
    | [.d (.int k' b)]=>bif Nat.beq (kcode k) (kcode k') then K (decide (a=b)) else False
    |_=>False
   |_=>False
  | .str=>match x with
   | [.d (.str a)]=>match y with
    | [.d (.str b)]=>K (decide (a=b))
    |_=>False
   |_=>False
  | .bool=>match x with
   | [u]=>match y with
    | [v]=>boolOf u fun a=>boolOf v fun b=>K (a==b)
    |_=>False
   |_=>False
  | .struct fs=>fields (fun t x y K=>eqA T n t x y K) fs x y K
  |_=>False
 where
 fields (rec:TypeId->List AV->List AV->(Bool->Prop)->Prop) (fs:List (Nat×TypeId)) (x y:List AV) (K:Bool->Prop):Prop:=
  match fs with
  | []=>K true
  |(o,t)::r=>bif Nat.ble (o+(T t).size) x.length&&Nat.ble (o+(T t).size) y.length then
    rec t ((x.drop o).take (T t).size) ((y.drop o).take (T t).size) fun b=>fields rec r x y fun c=>K (b&&c) else False
def isShift:BinOp->Bool
 | .shl=>true
 | .shr=>true
 |_=>false
def binA (T:Tab) (t:TypeId) (op:BinOp) (x y:AV) (K:AV->Prop):Prop:=
 match x with
 | .d (.int k a)=>match y with
  | .d (.int k' b)=>bif isShift op then shiftA op k a b K else bif Nat.beq (kcode k) (kcode k') then intA op k a b K else False
  |_=>False
 | .d (.str a)=>match y with
  | .d (.str b)=>strA op a b K
  |_=>False
 | .d (.bool a)=>match (T t).k with
  | .bool=>boolOf y fun b=>boolA op a b K
  |_=>False
 | .tt=>match (T t).k with
  | .bool=>boolOf y fun b=>boolA op true b K
  |_=>False
 | .ff=>match (T t).k with
  | .bool=>boolOf y fun b=>boolA op false b K
  |_=>False
 | .agg c=>match y with
  | .agg c'=>match op with
   | .eql=>bif (T t).k.agg then eqA T 9999 t c c' fun b=>K (.d (.bool b)) else False
   | .neq=>bif (T t).k.agg then eqA T 9999 t c c' fun b=>K (.d (.bool (!b))) else False
   |_=>False
  |_=>False
 |_=>False
def getC (c:List AV) (j:Nat) (K:AV->Prop):Prop:=match c[j]? with|some x=>force x K|none=>False
def getD (c:List D) (j:Nat) (K:D->Prop):Prop:=match c[j]? with|some x=>K x|none=>False
def partA (agg:Bool) (size:Nat) (c:List AV) (j:Nat) (K:AV->Prop):Prop:=
 bif agg then (bif Nat.ble (j+size) c.length then forceL ((c.drop j).take size) fun c=>K (.agg c) else False) else getC c j K
def partD (agg:Bool) (size:Nat) (c:List D) (j:Nat) (K:AV->Prop):Prop:=
 bif agg then (bif Nat.ble (j+size) c.length then forceL (((c.drop j).take size).map .d) fun c=>K (.agg c) else False) else getD c j fun x=>K (.d x)
def loadB (T:Tab) (t:TypeId) (v:AV) (hp:Nat->Option Blk) (K:AV->Prop):Prop:=
 match v with
 | .ptr b i j=>match hp b with
  |some (.box c _)=>condK (i=0) (partA (T t).k.agg (T t).size c j K)
  |some (.row l _ _)=>getRow l i fun e=>partD (T t).k.agg (T t).size e j K
  |none=>False
 | .d (.dp e j)=>partD (T t).k.agg (T t).size e j K
 |_=>False
def loadA (T:Tab) (t:TypeId) (v:AV) (hp:Nat->Option Blk) (K:AV->Prop):Prop:=
 bif (T t).k.known then loadB T t v hp K else False
def fieldOff (T:Tab) (s:TypeId) (f:Nat) (K:Nat->TypeId->Prop):Prop:=
 match (T s).k with
 | .struct fs=>match fs[f]? with
  |some (o,t)=>K o t
  |none=>False
 |_=>False
def indexAddrA (T:Tab) (t:TypeId) (x i:AV) (hp:Nat->Option Blk) (K:AV->Prop):Prop:=
 match i with
 | .d (.int _ i)=>match (T t).k with
  | .slice el=>match x with
   | .d (.lst l)=>idxK i l.length fun n=>getRow l n fun e=>bif Nat.beq e.length (T el).size then K (.d (.dp e 0)) else False
   | .own b=>match hp b with
    |some (.row l sz _)=>bif Nat.beq sz (T el).size then idxK i l.length fun n=>K (.ptr b n 0) else False
    |_=>False
   | .win b lo n _=>match hp b with
    |some (.row _ sz _)=>bif Nat.beq sz (T el).size then idxK i n fun m=>K (.ptr b (lo+m) 0) else False
    |_=>False
   |_=>False
  | .arr n e=>match x with
   | .ptr b i0 j=>match hp b with
    |some _=>idxK i n fun n=>K (.ptr b i0 (j+n*(T e).size))
    |none=>False
   | .d (.dp c j)=>idxK i n fun n=>K (.d (.dp c (j+n*(T e).size)))
   |_=>False
  |_=>False
 |_=>False
def indexA (T:Tab) (t:TypeId) (x i:AV) (K:AV->Prop):Prop:=
 match i with
 | .d (.int _ i)=>match x with
  | .d (.str s)=>match (T t).k with
   | .str=>idxK i s.size fun n=>K (.d (.int .u8 (s.data.getD n 0).toNat))
   |_=>False
  | .agg c=>match (T t).k with
   | .arr n e=>idxK i n fun n=>partA (T e).k.agg (T e).size c (n*(T e).size) K
   |_=>False
  |_=>False
 |_=>False
def conv (hp:Nat->Option Blk):AV->Option D
 | .d x=>some x
 | .tt=>some (.bool true)
 | .ff=>some (.bool false)
 | .nil=>some (.lst [])
 | .own b=>match hp b with
  |some (.row l _ _)=>some (.lst l)
  |_=>none
 | .agg c=>(cells hp c).map .agg
 | .fn f c=>(caps hp c).map (.fn f)
 |_=>none
 where
 one (hp:Nat->Option Blk):AV->Option D
  | .d x=>some x
  | .tt=>some (.bool true)
  | .ff=>some (.bool false)
  | .nil=>some (.lst [])
  | .own b=>match hp b with
   |some (.row l _ _)=>some (.lst l)
   |_=>none
  |_=>none
 cells (hp:Nat->Option Blk):List AV->Option (List D)
  | []=>some []
  |x::r=>(one hp x).bind fun d=>(cells hp r).map fun ds=>d::ds
 pure1:AV->Option D
  | .d x=>some x
  | .tt=>some (.bool true)
  | .ff=>some (.bool false)
  | .nil=>some (.lst [])
  |_=>none
 pures:List AV->Option (List D)
  | []=>some []
  |x::r=>(pure1 x).bind fun d=>(pures r).map fun ds=>d::ds
 cap1 (hp:Nat->Option Blk):AV->Option D
  | .d x=>some x
  | .tt=>some (.bool true)
  | .ff=>some (.bool false)
  | .ptr b i j=>match hp b with
   |some (.box c true)=>bif Nat.beq i 0 then (pures c).map fun c=>.dp c j else none
   |_=>none
  |_=>none
 caps (hp:Nat->Option Blk):List AV->Option (List D)
  | []=>some []
  |x::r=>(cap1 hp x).bind fun d=>(caps hp r).map fun ds=>d::ds
def openNames (hp:Nat->Option Blk):AV->List Nat
 | .own b=>one hp (.own b)
 | .agg c=>cells hp c
 |_=>[]
 where
 one (hp:Nat->Option Blk):AV->List Nat
  | .own b=>match hp b with
   |some (.row _ _ false)=>[b]
   |_=>[]
  |_=>[]
 cells (hp:Nat->Option Blk):List AV->List Nat
  | []=>[]
  |x::r=>one hp x++cells hp r
def frz (hp:Nat->Option Blk):List Nat->List (Nat×Blk)
 | []=>[]
 |b::r=>match hp b with
  |some (.row l sz _)=>(b,.row l sz true)::frz hp r
  |_=>frz hp r
def convsK (hp:Nat->Option Blk) (ρ:Operand->AV) (a:List Operand) (K:List D->List Nat->Prop):Prop:=
 match a with
 | []=>K [] []
 |x::r=>match conv hp (ρ x) with
  |some d=>convsK hp ρ r fun ds ns=>K (d::ds) (openNames hp (ρ x)++ns)
  |none=>False
def ofD:D->AV
 | .agg c=>.agg (c.map .d)
 | .tup c=>.tup (c.map one)
 | .lst l=>.d (.lst l)
 | .int k n=>.d (.int k n)
 | .bool b=>.d (.bool b)
 | .str s=>.d (.str s)
 | .dp c j=>.d (.dp c j)
 | .fn f c=>.d (.fn f c)
 | .nilp=>.d .nilp
 | .unk=>.d .unk
 where
 one:D->AV
  | .agg c=>.agg (c.map .d)
  |x=>.d x
def scalar:D->Bool
 | .int _ _=>true
 | .bool _=>true
 | .str _=>true
 | .tup c=>all c
 | .agg c=>all c
 |_=>false
 where
 one:D->Bool
  | .int _ _=>true
  | .bool _=>true
  | .str _=>true
  |_=>false
 all:List D->Bool
  | []=>true
  |x::r=>bif one x then all r else false
def lenA (T:Tab) (t:TypeId) (v:AV) (hp:Nat->Option Blk) (K:AV->Prop):Prop:=
 match (T t).k with
 | .str=>match v with
  | .d (.str s)=>K (.d (.int .i64 s.size))
  |_=>False
 | .slice _=>match v with
  | .d (.lst l)=>K (.d (.int .i64 l.length))
  | .nil=>K (.d (.int .i64 0))
  | .win b _ n _=>match hp b with
   |some _=>K (.d (.int .i64 n))
   |none=>False
  | .own b=>match hp b with
   |some (.row l _ _)=>K (.d (.int .i64 l.length))
   |_=>False
  |_=>False
 |_=>False
def sliceBd (ρ:Operand->AV) (o:Option Operand) (K:Option Int->Prop):Prop:=
 match o with
 |none=>K none
 |some x=>match ρ x with
  | .d (.int _ n)=>K (some n)
  |_=>False
def sliceA (T : Tab) (t : TypeId) (v : AV) (hp : Nat → Option Blk) (lo hi mx : Option Int) (K : Eff → Prop) : Prop :=
  match mx with
  | none => match v with
    | .d (.str s) => match (T t).k with
      | .str => sliceK lo hi s.size fun l h => K ⟨.d (.str (s.extract l h)), [], none⟩
      | _ => False
    | .d (.lst r) => match (T t).k with
      | .slice el => condK (∀ e ∈ r, e.length = (T el).size) (sliceK lo hi r.length fun l h => K ⟨.d (.lst ((r.take h).drop l)), [], none⟩)
      | _ => False
    | .own b => match hp b with
      | some (.row r sz _) => match (T t).k with
        | .slice el => bif Nat.beq sz (T el).size then sliceK lo hi r.length fun l h => K ⟨.d (.lst ((r.take h).drop l)), [(b, .row r sz true)], none⟩ else False
        | _ => False
      | _ => False
    | .nil => match (T t).k with
      | .slice _ => sliceK lo hi 0 fun _ _ => K ⟨.nil, [], none⟩
      | _ => False
    | .win b lo0 n c => match hp b with
      | some (.row _ sz false) => match (T t).k with
        | .slice el => bif Nat.beq sz (T el).size then winK lo hi n (c.getD n) fun l h => K ⟨.win b (lo0 + l) (h - l) (subO c l), [], none⟩ else False
        | _ => False
      | _ => False
    | _ => False
  | some m => match v with
   | .win b lo0 n c => match hp b with
      | some (.row _ sz false) => match (T t).k with
        | .slice el => bif Nat.beq sz (T el).size then condK (hi ≠ none ∧ 0 ≤ m ∧ m ≤ (c.getD n : Int)) (winK lo hi n m.toNat fun l h => K ⟨.win b (lo0 + l) (h - l) (some (m.toNat - l)), [], none⟩) else False
        | _ => False
      | _ => False
   | v => match (T t).k with
    | .slice _ => condK (m = 0 ∧ hi = some 0 ∧ lo = none) (match v with
      | .d (.lst _) => K ⟨.nil, [], none⟩
      | .nil => K ⟨.nil, [], none⟩
      | _ => False)
    | _ => False
def splice {α:Type} (c:List α) (j:Nat):List α->List α
 | []=>c
 |x::r=>splice (c.set j x) (j+1) r
def spliceF {α:Type} (c:List α) (j:Nat) (l:List α):List α:=c.take j++(l++c.drop (j+l.length))
def cellsOf:AV->List AV
 | .agg c=>c
 |v=>[v]
def memN (b:Nat):List Nat->Bool
 | []=>false
 |x::r=>bif Nat.beq b x then true else memN b r
def zA:D->AV
 | .lst []=>.nil
 |x=>.d x
def cell1 (hp:Nat->Option Blk):AV->Bool
 | .d x=>one x
 | .tt=>true
 | .ff=>true
 | .own b=>match hp b with
  |some _=>true
  |none=>false
 | .ptr b _ _=>match hp b with
  |some _=>true
  |none=>false
 | .nil=>true
 | .fn _ _=>true
 |_=>false
 where
 one:D->Bool
  | .int _ _=>true
  | .bool _=>true
  | .str _=>true
  | .lst _=>true
  | .dp _ _=>true
  | .fn _ _=>true
  | .nilp=>true
  | .agg _=>false
  | .tup _=>false
  | .unk=>false
def cells1 (hp:Nat->Option Blk):List AV->Bool
 | []=>true
 |x::r=>bif cell1 hp x then cells1 hp r else false
def okRow (sz:Nat) (e:List D):Bool:=Nat.beq e.length sz&&e.all cell1.one
def okRows (sz:Nat) (l:List (List D)):Bool:=l.all (okRow sz)
theorem okRows_map {α:Type} {f:α->List D} {sz:Nat} (h:∀ x,okRow sz (f x)=true) (l:List α):okRows sz (l.map f)=true:=by
 simp [okRows,h]
def srcRow (sz:Nat) (v:AV) (hp:Nat->Option Blk) (K:List (List D)->Prop):Prop:=
 match v with
 | .d (.lst l)=>condK (okRows sz l=true) (K l)
 | .nil=>K []
 | .own b=>match hp b with
  |some (.row l sz' _)=>bif Nat.beq sz' sz then condK (okRows sz l=true) (K l) else False
  |_=>False
 | .win b lo n _=>match hp b with
  |some (.row l sz' _)=>bif Nat.beq sz' sz then condK (lo+n<=l.length/\okRows sz ((l.drop lo).take n)=true) (K ((l.drop lo).take n)) else False
  |_=>False
 |_=>False
def srcAny (sz:Nat) (v:AV) (hp:Nat->Option Blk) (K:List (List D)->Prop):Prop:=
 match v with
 | .d (.lst l)=>K l
 | .nil=>K []
 | .own b=>match hp b with
  |some (.row l sz' _)=>bif Nat.beq sz' sz then K l else False
  |_=>False
 | .win b lo n _=>match hp b with
  |some (.row l sz' _)=>bif Nat.beq sz' sz then condK (lo+n<=l.length) (K ((l.drop lo).take n)) else False
  |_=>False
 |_=>False
def copyW (T:Tab) (e:TypeId) (x y:AV) (hp:Nat->Option Blk) (K:Eff->Prop):Prop:=
 match x with
 | .win b lo n _=>match hp b with
  |some (.row r sz false)=>bif Nat.beq sz (T e).size then srcAny (T e).size y hp fun src=>condK (lo+n<=r.length/\okRows (T e).size (src.take (Nat.min src.length n))=true)
    (K ⟨.d (.int .i64 (Nat.min src.length n)),[(b,.row (r.take lo++(src.take (Nat.min src.length n)++r.drop (lo+Nat.min src.length n))) sz false)],none⟩) else False
  |_=>False
 |_=>False
def clearW (T:Tab) (e:TypeId) (x:AV) (hp:Nat->Option Blk) (K:Eff->Prop):Prop:=
 match x with
 | .win b lo n _=>match hp b with
  |some (.row r sz false)=>bif Nat.beq sz (T e).size then condK (lo+n<=r.length/\okRow (T e).size (T e).zero=true)
    (K ⟨.tup [],[(b,.row (r.take lo++(List.replicate n (T e).zero++r.drop (lo+n))) sz false)],none⟩) else False
  |_=>False
 |_=>False
def appendW (T:Tab) (e:TypeId) (b lo n c:Nat) (src:List (List D)) (hp:Nat->Option Blk) (dst:Option Tmp) (K:Eff->Prop):Prop:=
 match hp b with
 |some (.row r sz false)=>bif Nat.beq sz (T e).size then appW (n+src.length<=c)
   (condK (lo+n+src.length<=r.length) (K ⟨.win b lo (n+src.length) (some c),[(b,.row (r.take (lo+n)++(src++r.drop (lo+n+src.length))) sz false)],none⟩))
   (match dst with
    |some d=>condK (lo+n<=r.length) (roomK (n+src.length) (T e).bytes (K ⟨.win d 0 (n+src.length) none,[(d,.row ((r.drop lo).take n++src) sz false)],some d⟩))
    |none=>False) else False
 |_=>False
def appendZ (T:Tab) (e:TypeId) (b lo n c:Nat) (k:Int) (hp:Nat->Option Blk) (dst:Option Tmp) (K:Eff->Prop):Prop:=
 match hp b with
 |some (.row r sz false)=>bif Nat.beq sz (T e).size then condK (0<=k/\c<n+k.toNat/\lo+n<=r.length)
   (match dst with
    |some d=>roomK (n+k.toNat) (T e).bytes (K ⟨.win d 0 (n+k.toNat) none,[(d,.row ((r.drop lo).take n++List.replicate k.toNat (T e).zero) sz false)],some d⟩)
    |none=>False) else False
 |_=>False
def appendN (T:Tab) (e:TypeId) (k:Int) (dst:Option Tmp) (K:Eff->Prop):Prop:=
 condK (0<k) (match dst with
  |some d=>roomK k.toNat (T e).bytes (K ⟨.win d 0 k.toNat none,[(d,.row (List.replicate k.toNat (T e).zero) (T e).size false)],some d⟩)
  |none=>False)
def partsA (hp:Nat->Option Blk) (ρ:Operand->AV) (off:Nat->Option (Nat×Nat)) (c:List AV) (ps:List (Nat×Operand)) (K:List AV->Prop):Prop:=
 match ps with
 | []=>K c
 |(i,x)::r=>match off i with
  |some (o,s)=>force (ρ x) fun v=>bif Nat.beq (cellsOf v).length s&&Nat.ble (o+s) c.length then (bif cells1 hp (cellsOf v) then partsA hp ρ off (spliceF c o (cellsOf v)) r K else False) else False
  |none=>False
def zeros (T:Tab) (e:TypeId) (n:Nat):List AV:=(List.range (n*(T e).size)).map fun k=>zA ((T e).zero.getD (k%(T e).size) .nilp)
def offIn (T:Tab) (fs:List (Nat×TypeId)) (i:Nat):Option (Nat×Nat):=match fs[i]? with|some (o,t)=>some (o,(T t).size)|none=>none
end Go.Lk
